/- The plain functions of layer 16: the table of operations, Check, the bytes. -/
import Derived.Below
namespace Go.Proofs.YtagmeijpelffcaaDoor
open Go.RowKit
def wordL : List (List UInt8) := [[104, 97, 108, 116], [109, 111, 118, 101], [115, 101, 116], [104, 105, 103, 104], [97, 100, 100], [115, 117, 98], [109, 117, 108], [100, 105, 118], [109, 111, 100], [97, 110, 100], [111, 114], [120, 111, 114], [115, 104, 108], [115, 104, 114], [108, 101, 115, 115], [101, 113, 117, 97, 108], [97, 100, 100, 105], [108, 111, 97, 100], [115, 116, 111, 114, 101], [108, 111, 97, 100, 98], [115, 116, 111, 114, 101, 98], [106, 117, 109, 112], [106, 117, 109, 112, 122], [106, 117, 109, 112, 110, 122], [99, 97, 108, 108], [98, 97, 99, 107], [116, 114, 97, 112]]
def formL : List Int := [0, 2, 4, 4, 3, 3, 3, 3, 3, 3, 3, 3, 3, 3, 3, 3, 5, 5, 5, 5, 5, 6, 4, 4, 4, 1, 6]
def lowL : List Int := [0, 0, -32768, 0, 0, 0, 0, 0, 0, 0, 0, 0, 0, 0, 0, 0, -32768, -32768, -32768, -32768, -32768, 0, 0, 0, 0, 0, 0]
def highL : List Int := [0, 0, 32767, 65535, 0, 0, 0, 0, 0, 0, 0, 0, 0, 0, 0, 0, 32767, 32767, 32767, 32767, 32767, 4095, 4095, 4095, 4095, 0, 255]
def usesL : List Bool := [false, false, false, true, false, false, false, false, false, false, false, false, false, false, false, false, false, false, true, false, true, false, true, true, false, true, false]
def setsL : List Bool := [false, true, true, true, true, true, true, true, true, true, true, true, true, true, true, true, true, true, false, true, false, false, false, false, true, false, false]
def wordB (k : Nat) : ByteArray := ⟨(wordL.getD k []).toArray⟩
def formI (k : Nat) : Int := formL.getD k 0
def lowI (k : Nat) : Int := lowL.getD k 0
def highI (k : Nat) : Int := highL.getD k 0
def usesB (k : Nat) : Bool := usesL.getD k false
def setsB (k : Nat) : Bool := setsL.getD k false
/-- The table lies in block 0. -/
def OpsAt (w : World) : Prop := 0 < w.heap.size ∧ ∀ k, k < 27 → w.cell? ⟨0, k * 6, none⟩ = some (.string (wordB k)) ∧ w.cell? ⟨0, k * 6 + 1, none⟩ = some (.int .i64 (formI k)) ∧ w.cell? ⟨0, k * 6 + 2, none⟩ = some (.int .i64 (lowI k)) ∧ w.cell? ⟨0, k * 6 + 3, none⟩ = some (.int .i64 (highI k)) ∧ w.cell? ⟨0, k * 6 + 4, none⟩ = some (.bool (usesB k)) ∧ w.cell? ⟨0, k * 6 + 5, none⟩ = some (.bool (setsB k))
theorem OpsAt.below {B : Nat} {w w' : World} (h : OpsAt w) (hb : Below B w w') (hB : 0 < B) : OpsAt w' := by
  have e : ∀ o, w'.cell? ⟨0, o, none⟩ = w.cell? ⟨0, o, none⟩ := fun o => hb.cell (p := ⟨0, o, none⟩) hB
  refine ⟨Nat.lt_of_lt_of_le h.1 hb.size, fun k hk => ?_⟩
  simp only [e]
  exact h.2 k hk
theorem OpsAt.next {w w' : World} (h : OpsAt w) (hb : Below w.heap.size w w') : OpsAt w' := h.below hb h.1
/-- The error of an instruction whose form is f and whose number lies from lo to hi. -/
def chkF (f lo hi a b c : Int) : Int :=
  if (¬ (1 ≤ f ∧ f ≤ 5) ∧ a ≠ 0) ∨ (¬ (f = 2 ∨ f = 3 ∨ f = 5) ∧ b ≠ 0) ∨ (¬ 3 ≤ f ∧ c ≠ 0) then 1
  else if a < 0 ∨ 7 < a ∨ b < 0 ∨ 7 < b then 2
  else if (f = 3 ∧ (c < 0 ∨ 7 < c)) ∨ (4 ≤ f ∧ (c < lo ∨ hi < c)) then 2 else 0
def chk (op a b c : Int) : Int := if 0 ≤ op ∧ op < 27 then chkF (formI op.toNat) (lowI op.toNat) (highI op.toNat) a b c else 11
theorem chk_in {op : Int} (a b c : Int) (h0 : 0 ≤ op) (h1 : op < 27) : chk op a b c = chkF (formI op.toNat) (lowI op.toNat) (highI op.toNat) a b c := if_pos ⟨h0, h1⟩
theorem chk_out {op : Int} (a b c : Int) (h : op < 0 ∨ 27 ≤ op) : chk op a b c = 11 := if_neg (by omega)
theorem form_cases (k : Nat) (h : k < 27) : formI k = 0 ∨ formI k = 1 ∨ formI k = 2 ∨ formI k = 3 ∨ formI k = 4 ∨ formI k = 5 ∨ formI k = 6 := by
  have : ∀ k : Fin 27, formI k = 0 ∨ formI k = 1 ∨ formI k = 2 ∨ formI k = 3 ∨ formI k = 4 ∨ formI k = 5 ∨ formI k = 6 := by decide
  exact this ⟨k, h⟩
end Go.Proofs.YtagmeijpelffcaaDoor
