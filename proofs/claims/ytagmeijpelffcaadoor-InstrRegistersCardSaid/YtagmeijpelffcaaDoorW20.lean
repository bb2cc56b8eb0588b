/- Walks of layer 16: Writes of the reference. -/
import Derived.Test.YtagmeijpelffcaaDoorW19
namespace Go.Proofs.YtagmeijpelffcaaDoor
open Go.RowKit Go.Sort
set_option linter.unusedSimpArgs false
set_option linter.unusedVariables false
set_option maxRecDepth 100000 in
set_option maxHeartbeats 1000000 in
theorem refWrites_no (op a b c : Int) (w : World) (h : chk op a b c ≠ 0) :
    Calls Tryd.prog 45 #[.agg #[.int .i64 op, .int .i64 a, .int .i64 b, .int .i64 c]] w fun e w' => (∃ v, e = .returned v ∧ Reads w' w.heap.size v (regs (fun _ => false) 8)) ∧ Below w.heap.size w w' := by
  have hne : (chk op a b c == 0) = false := by simpa using h
  have A0 := (At4.new w (.int .i64 op) (.int .i64 a) (.int .i64 b) (.int .i64 c) 23).alloc (.cells #[.bool false, .bool false, .bool false, .bool false, .bool false, .bool false, .bool false, .bool false] 97)
  have R0 := RowB.new (w := w.alloc (.cells #[.int .i64 op, .int .i64 a, .int .i64 b, .int .i64 c] 23))
  rw [show (w.alloc (.cells #[.int .i64 op, .int .i64 a, .int .i64 b, .int .i64 c] 23)).heap.size = w.heap.size + 1 by simp] at R0
  go_enter Tryd.func45, Tryd.ntmps45
  go_wp2_with fail
  refine (refCheck_is _ _ _ _ _ _ rfl).mono ?_
  rintro e w1 ⟨rfl, k1⟩
  have R1 := R0.next k1
  have B1 := below2 k1
  clear A0 R0 k1
  obtain ⟨cs, hh, hs, hc⟩ := id R1
  have hcc := Lib.hid hc
  clear hc R1
  go_upto_region 4 with (fail)
  go_wp2_with (first | (refine wpList_load_row rfl 97 _ rfl (w.heap.size + 1) rfl 97 cs (0, 0) _ hh Tryd.underlying97 rfl (by rw [hs]; kernel_rfl) ?_) | (go_at_call 58; refine (registers_any cs _ _ hs hcc.out).mono ?_; rintro e w9 ⟨⟨v, rfl, hv⟩, k9⟩))
  go_ret
  exact ⟨⟨v, rfl, hv.mono (by have := B1.size; simpa using this)⟩, bnext B1 k9⟩
set_option maxRecDepth 100000 in
set_option maxHeartbeats 1000000 in
theorem refWrites_yes (op a b c : Int) (w : World) (h : chk op a b c = 0) (hs0 : (1 ≤ op ∧ op ≤ 17) ∨ op = 19 ∨ op = 24) :
    Calls Tryd.prog 45 #[.agg #[.int .i64 op, .int .i64 a, .int .i64 b, .int .i64 c]] w fun e w' => (∃ v, e = .returned v ∧ Reads w' w.heap.size v (regs (fun i => decide ((i : Int) = a)) 8)) ∧ Below w.heap.size w w' := by
  obtain ⟨h0, h1, a0, a1, b0, b1, _⟩ := chk_zero h
  have H := Lib.hid h
  clear h
  have A0 := (At4.new w (.int .i64 op) (.int .i64 a) (.int .i64 b) (.int .i64 c) 23).alloc (.cells #[.bool false, .bool false, .bool false, .bool false, .bool false, .bool false, .bool false, .bool false] 97)
  have R0 := RowB.new (w := w.alloc (.cells #[.int .i64 op, .int .i64 a, .int .i64 b, .int .i64 c] 23))
  rw [show (w.alloc (.cells #[.int .i64 op, .int .i64 a, .int .i64 b, .int .i64 c] 23)).heap.size = w.heap.size + 1 by simp] at R0
  rcases hs0 with ⟨s0, s1⟩ | s0 | s0
  · go_enter Tryd.func45, Tryd.ntmps45
    go_wp2_with fail
    refine (refCheck_is _ _ _ _ 0 _ H.out).mono ?_
    rintro e w1 ⟨rfl, k1⟩
    have A1 := A0.next k1
    have R1 := R0.next k1
    have B1 := below2 k1
    clear A0 R0 k1
    obtain ⟨z, q0, q1, q2, q3⟩ := id A1
    obtain ⟨t1, f1⟩ := R1.cell a.toNat (by omega)
    have R2 := R1.store a a0 a1
    have B2 : Below w.heap.size w (w1.setCell ⟨w.heap.size + 1, a.toNat, none⟩ (.bool true)) := B1.setCell (by simp) _
    obtain ⟨cs, hh, hs, hc⟩ := id R2
    have hcc := Lib.hid hc
    clear hc R2 A1 R1
    go_upto_region 4 with (fail)
    go_wp2_with (first | (refine wpList_load_row rfl 97 _ rfl (w.heap.size + 1) rfl 97 cs (0, 0) _ hh Tryd.underlying97 rfl (by rw [hs]; kernel_rfl) ?_) | (go_at_call 58; refine (registers_any cs _ _ hs hcc.out).mono ?_; rintro e w9 ⟨⟨v, rfl, hv⟩, k9⟩))
    go_ret
    refine ⟨⟨v, rfl, ?_⟩, bnext B2 k9⟩
    have e9 : regs _ 8 = regs (fun i => decide ((i : Int) = a)) 8 := regs_congr 8 (f := (fun i => (fun _ => false) i || decide ((i : Int) = a))) (fun i _ => by simp)
    rw [← e9]
    exact hv.mono (by have := B2.size; simpa using this)
  all_goals
    subst s0
    go_enter Tryd.func45, Tryd.ntmps45
    go_wp2_with fail
    refine (refCheck_is _ _ _ _ 0 _ H.out).mono ?_
    rintro e w1 ⟨rfl, k1⟩
    have A1 := A0.next k1
    have R1 := R0.next k1
    have B1 := below2 k1
    clear A0 R0 k1
    obtain ⟨z, q0, q1, q2, q3⟩ := id A1
    obtain ⟨t1, f1⟩ := R1.cell a.toNat (by omega)
    have R2 := R1.store a a0 a1
    have B2 : Below w.heap.size w (w1.setCell ⟨w.heap.size + 1, a.toNat, none⟩ (.bool true)) := B1.setCell (by simp) _
    obtain ⟨cs, hh, hs, hc⟩ := id R2
    have hcc := Lib.hid hc
    clear hc R2 A1 R1
    go_upto_region 4 with (fail)
    go_wp2_with (first | (refine wpList_load_row rfl 97 _ rfl (w.heap.size + 1) rfl 97 cs (0, 0) _ hh Tryd.underlying97 rfl (by rw [hs]; kernel_rfl) ?_) | (go_at_call 58; refine (registers_any cs _ _ hs hcc.out).mono ?_; rintro e w9 ⟨⟨v, rfl, hv⟩, k9⟩))
    go_ret
    refine ⟨⟨v, rfl, ?_⟩, bnext B2 k9⟩
    have e9 : regs _ 8 = regs (fun i => decide ((i : Int) = a)) 8 := regs_congr 8 (f := (fun i => (fun _ => false) i || decide ((i : Int) = a))) (fun i _ => by simp)
    rw [← e9]
    exact hv.mono (by have := B2.size; simpa using this)
set_option maxRecDepth 100000 in
set_option maxHeartbeats 1000000 in
theorem refWrites_not (op a b c : Int) (w : World) (h : chk op a b c = 0) (hs0 : ¬ ((1 ≤ op ∧ op ≤ 17) ∨ op = 19 ∨ op = 24)) :
    Calls Tryd.prog 45 #[.agg #[.int .i64 op, .int .i64 a, .int .i64 b, .int .i64 c]] w fun e w' => (∃ v, e = .returned v ∧ Reads w' w.heap.size v (regs (fun _ => false) 8)) ∧ Below w.heap.size w w' := by
  obtain ⟨h0, h1, a0, a1, b0, b1, _⟩ := chk_zero h
  have H := Lib.hid h
  clear h
  have n19 : (op == 19) = false := by simp; omega
  have n24 : (op == 24) = false := by simp; omega
  have A0 := (At4.new w (.int .i64 op) (.int .i64 a) (.int .i64 b) (.int .i64 c) 23).alloc (.cells #[.bool false, .bool false, .bool false, .bool false, .bool false, .bool false, .bool false, .bool false] 97)
  have R0 := RowB.new (w := w.alloc (.cells #[.int .i64 op, .int .i64 a, .int .i64 b, .int .i64 c] 23))
  rw [show (w.alloc (.cells #[.int .i64 op, .int .i64 a, .int .i64 b, .int .i64 c] 23)).heap.size = w.heap.size + 1 by simp] at R0
  have hlt : op < 1 ∨ 17 < op := by omega
  clear hs0
  rcases hlt with hlt | hlt
  · go_enter Tryd.func45, Tryd.ntmps45
    go_wp2_with fail
    refine (refCheck_is _ _ _ _ 0 _ H.out).mono ?_
    rintro e w1 ⟨rfl, k1⟩
    obtain ⟨z, q0, q1, q2, q3⟩ := A0.next k1
    have R1 := R0.next k1
    have B1 := below2 k1
    clear A0 R0 k1
    obtain ⟨cs, hh, hs, hc⟩ := id R1
    have hcc := Lib.hid hc
    clear hc R1
    go_upto_region 4 with (fail)
    go_wp2_with (first | (refine wpList_load_row rfl 97 _ rfl (w.heap.size + 1) rfl 97 cs (0, 0) _ hh Tryd.underlying97 rfl (by rw [hs]; kernel_rfl) ?_) | (go_at_call 58; refine (registers_any cs _ _ hs hcc.out).mono ?_; rintro e w9 ⟨⟨v, rfl, hv⟩, k9⟩))
    go_ret
    exact ⟨⟨v, rfl, hv.mono (by have := B1.size; simpa using this)⟩, bnext B1 k9⟩
  · have d17 : decide (op ≤ 17) = false := by simp; omega
    have p1 : 1 ≤ op := by omega
    go_enter Tryd.func45, Tryd.ntmps45
    go_wp2_with fail
    refine (refCheck_is _ _ _ _ 0 _ H.out).mono ?_
    rintro e w1 ⟨rfl, k1⟩
    obtain ⟨z, q0, q1, q2, q3⟩ := A0.next k1
    have R1 := R0.next k1
    have B1 := below2 k1
    clear A0 R0 k1
    obtain ⟨cs, hh, hs, hc⟩ := id R1
    have hcc := Lib.hid hc
    clear hc R1
    go_upto_region 4 with (fail)
    go_wp2_with (first | (refine wpList_load_row rfl 97 _ rfl (w.heap.size + 1) rfl 97 cs (0, 0) _ hh Tryd.underlying97 rfl (by rw [hs]; kernel_rfl) ?_) | (go_at_call 58; refine (registers_any cs _ _ hs hcc.out).mono ?_; rintro e w9 ⟨⟨v, rfl, hv⟩, k9⟩))
    go_ret
    exact ⟨⟨v, rfl, hv.mono (by have := B1.size; simpa using this)⟩, bnext B1 k9⟩
end Go.Proofs.YtagmeijpelffcaaDoor
