/- Walks of layer 47: no graph, too many actions. -/
import Derived.Test.YtmjkcanjfjfkfaaT7
namespace Go.Proofs.Ytmjkcanjfjfkfaa
open Go.RowKit
set_option linter.unusedSimpArgs false
set_option linter.unusedVariables false
attribute [local go_sem ↓] Go.wp_at_zero Go.wp_at_succ
set_option maxRecDepth 100000 in
theorem gcheck_nil (v : Value) (w : World) : Calls Try.prog 37 #[.pointer none, v] w fun e w' => e = .returned (.int .i64 1) ∧ w = w' := by
  go_enter Try.func37, Try.ntmps37
  go_wp2_with fail
  go_ret
  exact ⟨rfl, rfl⟩
set_option maxRecDepth 100000 in
theorem sources_nil (k : Int) (w : World) : Calls Try.prog 27 #[.pointer none, .int .i64 k] w fun e w' => e = .returned (.tuple #[.slice none 0 0, .int .i64 1]) ∧ Below w.heap.size w w' := by
  have ha := (Below.refl w.heap.size w).alloc (Nat.le_refl _) (.cells #[.int .i64 k] 3)
  have z := (Blk.new w 3 #[.int .i64 k]).cell 0
  simp only [List.getElem?_toArray, List.getElem?_cons_zero] at z
  go_enter Try.func27, Try.ntmps27
  go_wp2_with (go_at_call 37; refine (gcheck_nil _ _).mono ?_; rintro e w1 ⟨rfl, rfl⟩)
  go_ret2
  exact ⟨rfl, ha⟩
set_option maxRecDepth 100000 in
theorem uses_nil (k : Int) (w : World) : Calls Try.prog 28 #[.pointer none, .int .i64 k] w fun e w' => e = .returned (.tuple #[.slice none 0 0, .int .i64 1]) ∧ Below w.heap.size w w' := by
  have ha := (Below.refl w.heap.size w).alloc (Nat.le_refl _) (.cells #[.int .i64 k] 3)
  have z := (Blk.new w 3 #[.int .i64 k]).cell 0
  simp only [List.getElem?_toArray, List.getElem?_cons_zero] at z
  go_enter Try.func28, Try.ntmps28
  go_wp2_with (go_at_call 37; refine (gcheck_nil _ _).mono ?_; rintro e w1 ⟨rfl, rfl⟩)
  go_ret2
  exact ⟨rfl, ha⟩
set_option maxRecDepth 100000 in
theorem causes_nil (A : Option Addr) (n c : Nat) (w : World) : Calls Try.prog 21 #[.pointer none, .slice A n c] w fun e w' => e = .returned (.tuple #[.slice none 0 0, .int .i64 1]) ∧ Below w.heap.size w w' := by
  have ha := (Below.refl w.heap.size w).alloc (Nat.le_refl _) (.cells #[.pointer none] 28)
  have z := (Blk.new w 28 #[.pointer none]).cell 0
  simp only [List.getElem?_toArray, List.getElem?_cons_zero] at z
  go_enter Try.func21, Try.ntmps21
  go_wp2_with (go_at_call 37; refine (gcheck_nil _ _).mono ?_; rintro e w1 ⟨rfl, rfl⟩)
  go_ret2
  exact ⟨rfl, ha⟩
set_option maxRecDepth 100000 in
theorem effects_nil (A : Option Addr) (n c : Nat) (w : World) : Calls Try.prog 29 #[.pointer none, .slice A n c] w fun e w' => e = .returned (.tuple #[.slice none 0 0, .int .i64 1]) ∧ Below w.heap.size w w' := by
  have ha := (Below.refl w.heap.size w).alloc (Nat.le_refl _) (.cells #[.pointer none] 28)
  have z := (Blk.new w 28 #[.pointer none]).cell 0
  simp only [List.getElem?_toArray, List.getElem?_cons_zero] at z
  go_enter Try.func29, Try.ntmps29
  go_wp2_with (go_at_call 37; refine (gcheck_nil _ _).mono ?_; rintro e w1 ⟨rfl, rfl⟩)
  go_ret2
  exact ⟨rfl, ha⟩
set_option maxRecDepth 100000 in
theorem closed_nil (A : Option Addr) (n c : Nat) (w : World) : Calls Try.prog 30 #[.pointer none, .slice A n c] w fun e w' => e = .returned (.tuple #[.slice none 0 0, .int .i64 1]) ∧ Below w.heap.size w w' := by
  have ha := (Below.refl w.heap.size w).alloc (Nat.le_refl _) (.cells #[.pointer none] 28)
  have z := (Blk.new w 28 #[.pointer none]).cell 0
  simp only [List.getElem?_toArray, List.getElem?_cons_zero] at z
  go_enter Try.func30, Try.ntmps30
  go_wp2_with (go_at_call 37; refine (gcheck_nil _ _).mono ?_; rintro e w1 ⟨rfl, rfl⟩)
  go_ret2
  exact ⟨rfl, ha⟩
set_option maxRecDepth 100000 in
theorem chain_nil (a b : Int) (w : World) : Calls Try.prog 11 #[.pointer none, .int .i64 a, .int .i64 b] w fun e w' => e = .returned (.tuple #[.slice none 0 0, .bool false]) ∧ Below w.heap.size w w' := by
  have ha := (Below.refl w.heap.size w).alloc (Nat.le_refl _) (.cells #[.int .i64 a, .int .i64 b] 3)
  go_enter Try.func11, Try.ntmps11
  go_wp2_with (go_at_call 37; refine (gcheck_nil _ _).mono ?_; rintro e w1 ⟨rfl, rfl⟩)
  go_ret2
  exact ⟨rfl, ha⟩
theorem len_nil (w : World) : Calls Try.prog 25 #[.pointer none] w fun e w' => e = .returned (.int .i64 0) ∧ w = w' := by
  go_enter Try.func25, Try.ntmps25
  go_wp2_with fail
  go_ret
  exact ⟨rfl, rfl⟩
theorem links_nil (w : World) : Calls Try.prog 26 #[.pointer none] w fun e w' => e = .returned (.slice none 0 0) ∧ w = w' := by
  go_enter Try.func26, Try.ntmps26
  go_wp2_with fail
  go_ret
  exact ⟨rfl, rfl⟩
set_option maxRecDepth 100000 in
theorem writer_nil (n : Nm) (t : Int) (w : World) : Calls Try.prog 19 #[.pointer none, nmV n, .int .i64 t] w fun e w' => e = .returned (.int .i64 (-1)) ∧ Below w.heap.size w w' := by
  unfold nmV nmA
  go_enter Try.func19, Try.ntmps19
  go_wp2_with fail
  go_ret
  exact ⟨rfl, (Below.refl _ _).alloc (Nat.le_refl _) _⟩
set_option maxRecDepth 100000 in
theorem build_many (A : Option Addr) (c : Nat) (w : World) : Calls Try.prog 10 #[.slice A 65537 c] w fun e w' => e = .returned (.tuple #[.pointer none, .int .i64 9]) ∧ w = w' := by
  go_enter Try.func10, Try.ntmps10
  go_wp2_with fail
  go_ret2
  exact ⟨rfl, rfl⟩
theorem infoAc8 : (Try.prog.info? 59).map (fun i => (i.zero, i.size, i.bytes)) = some (some (.agg #[.int .i64 0, .int .i64 0, .int .i64 0, .string ⟨#[]⟩, .slice none 0 0, .slice none 0 0]), 6, 88) := by kernel_rfl
theorem make_many (w : World) : ∃ cs, (Instr.makeSlice 25 (.int .i64 65537) (.int .i64 65537)).run Try.prog w = .ok (.slice (some ⟨w.heap.size, 0, none⟩) 65537 65537) (w.alloc (.cells cs 59)) := by
  obtain ⟨i0, hi, hz0, hz1, hz2⟩ := info_parts infoAc8
  exact ⟨_, run_make (P := Try.prog) w 25 59 i0 _ Try.underlying25 hi hz0 .i64 .i64 65537 65537 (by decide) (by decide) (by rw [hz2]; decide) (by decide)⟩
end Go.Proofs.Ytmjkcanjfjfkfaa
