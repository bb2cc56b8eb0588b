/- Walks of layer 47: the example of the document. -/
import Derived.Test.YtmjkcanjfjfkfaaT5
namespace Go.Proofs.Ytmjkcanjfjfkfaa
open Go.RowKit
set_option linter.unusedSimpArgs false
set_option linter.unusedVariables false
attribute [local go_sem ↓] Go.wp_at_zero Go.wp_at_succ
def cx47 : Ch := ⟨prtN 1, [120], false⟩
def cy47 : Ch := ⟨prtN 2, [121], false⟩
def cz47 : Ch := ⟨prtN 3, [], true⟩
def a047 : Ac := ⟨⟨1, 0, 0, []⟩, [], [cx47]⟩
def a147 : Ac := ⟨⟨2, 0, 0, []⟩, [cx47], [cy47]⟩
def a247 : Ac := ⟨⟨3, 0, 0, []⟩, [cy47, cz47], []⟩
def chn47 : List Ac := [a047, a147, a247]
theorem rdch_new (w : World) (l : List Ch) (n : Nat) (hn : l.length = n) (cs : Array Value) (hcs : cs = (l.flatMap chC).toArray) (hl : n ≤ 1000) : RdCh (w.alloc (.cells cs 87)) (.slice (some ⟨w.heap.size, 0, none⟩) n n) l := by
  subst hn hcs
  exact ⟨_, l.length, rfl, Nat.le_refl _, by unfold maxLen; omega, .inr ⟨_, 0, _, (0, 0), rfl, heap_alloc_new w _, fun j u hu => by simpa using hu⟩⟩
theorem rdac_new (w : World) (l : List Ac) (us : List (Value × Value)) (hr : RowW NAc w l us) (n : Nat) (hn : l.length = n) (cs : Array Value) (hcs : cs = (rowC acC l us).toArray) (hl : n ≤ 1000) (b : Nat) (hb : w.heap.size = b) : RdAc (w.alloc (.cells cs 59)) (.slice (some ⟨b, 0, none⟩) n n) l := by
  subst hn hcs hb
  refine ⟨us, hr.imp fun _ _ h => NAc.next ((Below.refl _ _).alloc (Nat.le_refl _) _) h, ⟨_, l.length, rfl, Nat.le_refl _, by unfold maxLen; omega, .inr ⟨_, 0, _, (0, 0), rfl, heap_alloc_new w _, fun j u hu => by simpa using hu⟩⟩⟩
set_option maxRecDepth 100000 in
set_option maxHeartbeats 1000000 in
theorem chain47_is (w : World) : Calls Try.prog 40 #[] w fun e w' => ∃ v, e = .returned v ∧ RdAc w' v chn47 ∧ Below w.heap.size w w' := by
  go_enter Try.func40, Try.ntmps40
  go_wp2_with fail
  go_at_call 16
  refine (port_is 0 (by decide) (by decide) _).mono ?_
  rintro e w1 ⟨rfl, hb⟩
  have HB1 := Lib.hid ((Below.refl w.heap.size w).trans (hb.mono (Below.refl w.heap.size w).size))
  clear hb
  rw [show nmV (prtN (1 + 0)) = .agg #[.int .i64 16, .string ⟨#[]⟩, .int .i64 1, .int .i64 0, .string ⟨#[]⟩] from rfl]
  have ha := (Below.refl w1.heap.size w1).alloc (Nat.le_refl _) (.cells #[.int .i64 16, .string ⟨#[]⟩, .int .i64 1, .int .i64 0, .string ⟨#[]⟩, .string ⟨#[120]⟩, .bool false] 87)
  have R1 := Lib.hid (rdch_new w1 [cx47] 1 rfl #[.int .i64 16, .string ⟨#[]⟩, .int .i64 1, .int .i64 0, .string ⟨#[]⟩, .string ⟨#[120]⟩, .bool false] rfl (by decide))
  have HCR1 := Lib.hid (HB1.out.trans (ha.mono HB1.out.size))
  clear ha
  go_wp2_with fail
  go_at_call 16
  refine (port_is 0 (by decide) (by decide) _).mono ?_
  rintro e w2 ⟨rfl, hb⟩
  have HB2 := Lib.hid (HCR1.out.trans (hb.mono HCR1.out.size))
  replace R1 := Lib.hid (RdP.next R1.out hb)
  clear hb
  rw [show nmV (prtN (1 + 0)) = .agg #[.int .i64 16, .string ⟨#[]⟩, .int .i64 1, .int .i64 0, .string ⟨#[]⟩] from rfl]
  have ha := (Below.refl w2.heap.size w2).alloc (Nat.le_refl _) (.cells #[.int .i64 16, .string ⟨#[]⟩, .int .i64 1, .int .i64 0, .string ⟨#[]⟩, .string ⟨#[120]⟩, .bool false] 87)
  replace R1 := Lib.hid (RdP.next R1.out ha)
  have R2 := Lib.hid (rdch_new w2 [cx47] 1 rfl #[.int .i64 16, .string ⟨#[]⟩, .int .i64 1, .int .i64 0, .string ⟨#[]⟩, .string ⟨#[120]⟩, .bool false] rfl (by decide))
  have HCR2 := Lib.hid (HB2.out.trans (ha.mono HB2.out.size))
  clear ha
  go_wp2_with fail
  go_at_call 16
  refine (port_is 1 (by decide) (by decide) _).mono ?_
  rintro e w3 ⟨rfl, hb⟩
  have HB3 := Lib.hid (HCR2.out.trans (hb.mono HCR2.out.size))
  replace R1 := Lib.hid (RdP.next R1.out hb)
  replace R2 := Lib.hid (RdP.next R2.out hb)
  clear hb
  rw [show nmV (prtN (1 + 1)) = .agg #[.int .i64 16, .string ⟨#[]⟩, .int .i64 2, .int .i64 0, .string ⟨#[]⟩] from rfl]
  have ha := (Below.refl w3.heap.size w3).alloc (Nat.le_refl _) (.cells #[.int .i64 16, .string ⟨#[]⟩, .int .i64 2, .int .i64 0, .string ⟨#[]⟩, .string ⟨#[121]⟩, .bool false] 87)
  replace R1 := Lib.hid (RdP.next R1.out ha)
  replace R2 := Lib.hid (RdP.next R2.out ha)
  have R3 := Lib.hid (rdch_new w3 [cy47] 1 rfl #[.int .i64 16, .string ⟨#[]⟩, .int .i64 2, .int .i64 0, .string ⟨#[]⟩, .string ⟨#[121]⟩, .bool false] rfl (by decide))
  have HCR3 := Lib.hid (HB3.out.trans (ha.mono HB3.out.size))
  clear ha
  go_wp2_with fail
  go_at_call 16
  refine (port_is 1 (by decide) (by decide) _).mono ?_
  rintro e w4 ⟨rfl, hb⟩
  have HB4 := Lib.hid (HCR3.out.trans (hb.mono HCR3.out.size))
  replace R1 := Lib.hid (RdP.next R1.out hb)
  replace R2 := Lib.hid (RdP.next R2.out hb)
  replace R3 := Lib.hid (RdP.next R3.out hb)
  clear hb
  rw [show nmV (prtN (1 + 1)) = .agg #[.int .i64 16, .string ⟨#[]⟩, .int .i64 2, .int .i64 0, .string ⟨#[]⟩] from rfl]
  go_wp2_with fail
  go_at_call 16
  refine (port_is 2 (by decide) (by decide) _).mono ?_
  rintro e w5 ⟨rfl, hb⟩
  have HB5 := Lib.hid (HB4.out.trans (hb.mono HB4.out.size))
  replace R1 := Lib.hid (RdP.next R1.out hb)
  replace R2 := Lib.hid (RdP.next R2.out hb)
  replace R3 := Lib.hid (RdP.next R3.out hb)
  clear hb
  rw [show nmV (prtN (1 + 2)) = .agg #[.int .i64 16, .string ⟨#[]⟩, .int .i64 3, .int .i64 0, .string ⟨#[]⟩] from rfl]
  have ha := (Below.refl w5.heap.size w5).alloc (Nat.le_refl _) (.cells #[.int .i64 16, .string ⟨#[]⟩, .int .i64 2, .int .i64 0, .string ⟨#[]⟩, .string ⟨#[121]⟩, .bool false, .int .i64 16, .string ⟨#[]⟩, .int .i64 3, .int .i64 0, .string ⟨#[]⟩, .string ⟨#[]⟩, .bool true] 87)
  replace R1 := Lib.hid (RdP.next R1.out ha)
  replace R2 := Lib.hid (RdP.next R2.out ha)
  replace R3 := Lib.hid (RdP.next R3.out ha)
  have R4 := Lib.hid (rdch_new w5 [cy47, cz47] 2 rfl #[.int .i64 16, .string ⟨#[]⟩, .int .i64 2, .int .i64 0, .string ⟨#[]⟩, .string ⟨#[121]⟩, .bool false, .int .i64 16, .string ⟨#[]⟩, .int .i64 3, .int .i64 0, .string ⟨#[]⟩, .string ⟨#[]⟩, .bool true] rfl (by decide))
  have HCR4 := Lib.hid (HB5.out.trans (ha.mono HB5.out.size))
  clear ha
  have hrow : RowW NAc (w5.alloc (.cells #[.int .i64 16, .string ⟨#[]⟩, .int .i64 2, .int .i64 0, .string ⟨#[]⟩, .string ⟨#[121]⟩, .bool false, .int .i64 16, .string ⟨#[]⟩, .int .i64 3, .int .i64 0, .string ⟨#[]⟩, .string ⟨#[]⟩, .bool true] 87)) chn47 [(.slice none 0 0, .slice (some ⟨w1.heap.size, 0, none⟩) 1 1), (.slice (some ⟨w2.heap.size, 0, none⟩) 1 1, .slice (some ⟨w3.heap.size, 0, none⟩) 1 1), (.slice (some ⟨w5.heap.size, 0, none⟩) 2 2, .slice none 0 0)] := by
    refine ⟨rfl, fun i x v h1 h2 => ?_⟩
    match i, h1, h2 with
    | 0, h1, h2 => simp only [chn47, List.getElem?_cons_zero, Option.some.injEq] at h1 h2; subst h1 h2; exact ⟨RdP.nil, R1.out⟩
    | 1, h1, h2 => simp only [chn47, List.getElem?_cons_zero, List.getElem?_cons_succ, Option.some.injEq] at h1 h2; subst h1 h2; exact ⟨R2.out, R3.out⟩
    | 2, h1, h2 => simp only [chn47, List.getElem?_cons_zero, List.getElem?_cons_succ, Option.some.injEq] at h1 h2; subst h1 h2; exact ⟨R4.out, RdP.nil⟩
    | n + 3, h1, h2 => simp [chn47] at h1
  have hfin := rdac_new (w5.alloc (.cells #[.int .i64 16, .string ⟨#[]⟩, .int .i64 2, .int .i64 0, .string ⟨#[]⟩, .string ⟨#[121]⟩, .bool false, .int .i64 16, .string ⟨#[]⟩, .int .i64 3, .int .i64 0, .string ⟨#[]⟩, .string ⟨#[]⟩, .bool true] 87)) chn47 _ hrow 3 rfl #[.int .i64 1, .int .i64 0, .int .i64 0, .string ⟨#[]⟩, .slice none 0 0, .slice (some ⟨w1.heap.size, 0, none⟩) 1 1, .int .i64 2, .int .i64 0, .int .i64 0, .string ⟨#[]⟩, .slice (some ⟨w2.heap.size, 0, none⟩) 1 1, .slice (some ⟨w3.heap.size, 0, none⟩) 1 1, .int .i64 3, .int .i64 0, .int .i64 0, .string ⟨#[]⟩, .slice (some ⟨w5.heap.size, 0, none⟩) 2 2, .slice none 0 0] rfl (by decide) (w5.heap.size + 1) (World.size_alloc _ _)
  have HF := Lib.hid hfin
  have hba := HCR4.out.alloc HCR4.out.size (.cells #[.int .i64 1, .int .i64 0, .int .i64 0, .string ⟨#[]⟩, .slice none 0 0, .slice (some ⟨w1.heap.size, 0, none⟩) 1 1, .int .i64 2, .int .i64 0, .int .i64 0, .string ⟨#[]⟩, .slice (some ⟨w2.heap.size, 0, none⟩) 1 1, .slice (some ⟨w3.heap.size, 0, none⟩) 1 1, .int .i64 3, .int .i64 0, .int .i64 0, .string ⟨#[]⟩, .slice (some ⟨w5.heap.size, 0, none⟩) 2 2, .slice none 0 0] 59)
  have HBA := Lib.hid hba
  clear hrow hfin hba R1 R2 R3 R4
  go_wp2_with fail
  go_ret
  exact ⟨_, rfl, HF.out, HBA.out⟩
end Go.Proofs.Ytmjkcanjfjfkfaa
