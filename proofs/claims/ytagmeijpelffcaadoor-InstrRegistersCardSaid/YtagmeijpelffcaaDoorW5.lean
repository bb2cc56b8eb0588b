/- Walks of layer 16: Encode of the program and of the reference. -/
import Derived.Test.YtagmeijpelffcaaDoorW2
namespace Go.Proofs.YtagmeijpelffcaaDoor
open Go.RowKit
set_option linter.unusedSimpArgs false
set_option linter.unusedVariables false
theorem bcell {W w1 : World} (hb : Below W.heap.size W w1) : (∀ b o, b < W.heap.size → w1.cell? ⟨b, o, none⟩ = W.cell? ⟨b, o, none⟩) ∧ (∀ b o, b < W.heap.size → w1.frozen? ⟨b, o, none⟩ = W.frozen? ⟨b, o, none⟩) :=
  ⟨fun b o h => hb.cell (p := ⟨b, o, none⟩) h, fun b o h => hb.frozen (p := ⟨b, o, none⟩) h⟩
theorem OpsAt.alloc {w : World} (h : OpsAt w) (o : Obj) : OpsAt (w.alloc o) := h.next ((Below.refl _ _).alloc (Nat.le_refl _) o)
theorem tab_bd (k : Nat) (h : k < 27) : -32768 ≤ lowI k ∧ highI k ≤ 65535 ∧ lowI k ≤ 0 ∧ (lowI k < 0 → 4 ≤ formI k ∧ highI k = 32767 ∧ lowI k = -32768) := by
  have : ∀ k : Fin 27, -32768 ≤ lowI k ∧ highI k ≤ 65535 ∧ lowI k ≤ 0 ∧ (lowI k < 0 → 4 ≤ formI k ∧ highI k = 32767 ∧ lowI k = -32768) := by decide
  exact this ⟨k, h⟩
theorem chk_zero {op a b c : Int} (h : chk op a b c = 0) : 0 ≤ op ∧ op < 27 ∧ 0 ≤ a ∧ a ≤ 7 ∧ 0 ≤ b ∧ b ≤ 7 ∧ -32768 ≤ c ∧ c ≤ 65535 := by
  by_cases h' : 0 ≤ op ∧ op < 27
  · rw [chk_in a b c h'.1 h'.2] at h
    have ht := tab_bd op.toNat (by omega)
    unfold chkF at h
    split at h
    · omega
    split at h
    · omega
    split at h
    · omega
    rename_i h1 h2 h3
    by_cases h4 : 4 ≤ formI op.toNat
    · omega
    · by_cases h5 : formI op.toNat = 3
      · omega
      · omega
  · rw [chk_out a b c (by omega)] at h
    omega
theorem check_is (op a b c r : Int) (w : World) (ho : OpsAt w) (h : chk op a b c = r) :
    Calls Tryd.prog 15 #[.agg #[.int .i64 op, .int .i64 a, .int .i64 b, .int .i64 c]] w fun e w' => e = .returned (.int .i64 r) ∧ Below w.heap.size w w' := by
  subst h; exact check_any op a b c w ho
theorem refCheck_is (op a b c r : Int) (w : World) (h : chk op a b c = r) :
    Calls Tryd.prog 16 #[.agg #[.int .i64 op, .int .i64 a, .int .i64 b, .int .i64 c]] w fun e w' => e = .returned (.int .i64 r) ∧ Below w.heap.size w w' := by
  subst h; exact refCheck_any op a b c w
theorem below1 {w w1 : World} {o : Obj} (h : Below (w.alloc o).heap.size (w.alloc o) w1) : Below w.heap.size w w1 :=
  ((Below.refl _ _).alloc (Nat.le_refl _) _).trans (h.mono (by simp))
theorem below2 {w w1 : World} {o o' : Obj} (h : Below ((w.alloc o).alloc o').heap.size ((w.alloc o).alloc o') w1) : Below w.heap.size w w1 := below1 (below1 h)
theorem below3 {w w1 : World} {o o' o2 : Obj} (h : Below (((w.alloc o).alloc o').alloc o2).heap.size (((w.alloc o).alloc o').alloc o2) w1) : Below w.heap.size w w1 := below1 (below2 h)
/-- The bytes of an instruction. -/
def encB (op a b c : Int) : Value := .agg #[.int .u8 op, .int .u8 (16 * a + b), .int .u8 (c % 256), .int .u8 (c / 256 % 256)]
def zeroB : Value := .agg #[.int .u8 0, .int .u8 0, .int .u8 0, .int .u8 0]
theorem encode_ok (op a b c : Int) (w : World) (ho : OpsAt w) (h : chk op a b c = 0) :
    Calls Tryd.prog 23 #[.agg #[.int .i64 op, .int .i64 a, .int .i64 b, .int .i64 c]] w fun e w' => e = .returned (.tuple #[encB op a b c, .int .i64 0]) ∧ Below w.heap.size w w' := by
  obtain ⟨h0, h1, h2, h3, h4, h5, h6, h7⟩ := chk_zero h
  have H := Lib.hid h
  clear h
  go_enter Tryd.func23, Tryd.ntmps23
  go_wp2_with fail
  refine (check_is _ _ _ _ 0 _ ((ho.alloc _).alloc _) H.out).mono ?_
  rintro e w1 ⟨rfl, hb1⟩
  obtain ⟨hc, hf⟩ := bcell hb1
  have hz : w.heap.size + 1 < w1.heap.size := by have := hb1.size; simp at this; omega
  go_wp2
  refine bodyPost_ret (v := .tuple #[encB op a b c, .int .i64 0]) (by simp [results, Tryd.results23, go_sem, hc, hz, encB]) rfl ⟨rfl, ?_⟩
  repeat (refine Below.setCell ?_ (by simp) _)
  exact below2 hb1
theorem encode_no (op a b c : Int) (w : World) (ho : OpsAt w) (h : chk op a b c ≠ 0) :
    Calls Tryd.prog 23 #[.agg #[.int .i64 op, .int .i64 a, .int .i64 b, .int .i64 c]] w fun e w' => e = .returned (.tuple #[zeroB, .int .i64 (chk op a b c)]) ∧ Below w.heap.size w w' := by
  have hne : (chk op a b c != 0) = true := by simpa using h
  go_enter Tryd.func23, Tryd.ntmps23
  go_wp2_with fail
  refine (check_is _ _ _ _ _ _ ((ho.alloc _).alloc _) rfl).mono ?_
  rintro e w1 ⟨rfl, hb1⟩
  obtain ⟨hc, hf⟩ := bcell hb1
  have hz : w.heap.size + 1 < w1.heap.size := by have := hb1.size; simp at this; omega
  go_wp2
  refine bodyPost_ret (v := .tuple #[zeroB, .int .i64 (chk op a b c)]) (by simp [results, Tryd.results23, go_sem, hc, hz, zeroB]) rfl ⟨rfl, ?_⟩
  repeat (refine Below.setCell ?_ (by simp) _)
  exact below2 hb1
theorem refEncode_ok (op a b c : Int) (w : World) (h : chk op a b c = 0) :
    Calls Tryd.prog 24 #[.agg #[.int .i64 op, .int .i64 a, .int .i64 b, .int .i64 c]] w fun e w' => e = .returned (.tuple #[encB op a b c, .int .i64 0]) ∧ Below w.heap.size w w' := by
  obtain ⟨h0, h1, h2, h3, h4, h5, h6, h7⟩ := chk_zero h
  have H := Lib.hid h
  clear h
  go_enter Tryd.func24, Tryd.ntmps24
  go_wp2_with fail
  refine (refCheck_is _ _ _ _ 0 _ H.out).mono ?_
  rintro e w1 ⟨rfl, hb1⟩
  obtain ⟨hc, hf⟩ := bcell hb1
  have hz : w.heap.size + 1 < w1.heap.size := by have := hb1.size; simp at this; omega
  go_wp2
  all_goals
    refine bodyPost_ret (v := .tuple #[encB op a b c, .int .i64 0]) (by simp [results, Tryd.results24, go_sem, hc, hz, encB]; omega) rfl ⟨rfl, ?_⟩
    repeat (refine Below.setCell ?_ (by simp) _)
    exact below2 hb1
theorem refEncode_no (op a b c : Int) (w : World) (h : chk op a b c ≠ 0) :
    Calls Tryd.prog 24 #[.agg #[.int .i64 op, .int .i64 a, .int .i64 b, .int .i64 c]] w fun e w' => e = .returned (.tuple #[zeroB, .int .i64 (chk op a b c)]) ∧ Below w.heap.size w w' := by
  have hne : (chk op a b c != 0) = true := by simpa using h
  go_enter Tryd.func24, Tryd.ntmps24
  go_wp2_with fail
  refine (refCheck_is _ _ _ _ _ _ rfl).mono ?_
  rintro e w1 ⟨rfl, hb1⟩
  obtain ⟨hc, hf⟩ := bcell hb1
  have hz : w.heap.size + 1 < w1.heap.size := by have := hb1.size; simp at this; omega
  go_wp2
  refine bodyPost_ret (v := .tuple #[zeroB, .int .i64 (chk op a b c)]) (by simp [results, Tryd.results24, go_sem, hc, hz, zeroB]) rfl ⟨rfl, ?_⟩
  repeat (refine Below.setCell ?_ (by simp) _)
  exact below2 hb1
end Go.Proofs.YtagmeijpelffcaaDoor
