/- Walks of layer 16: Reads and Writes of the reference. -/
import Derived.Test.YtagmeijpelffcaaDoorW18
import Derived.Laws.Rows
namespace Go.Proofs.YtagmeijpelffcaaDoor
open Go.RowKit Go.Sort
set_option linter.unusedSimpArgs false
set_option linter.unusedVariables false
/-- A row of eight bits. -/
def RowB (w : World) (R : Nat) (bs : Nat → Bool) : Prop := ∃ cs, w.heap[R]? = some (.cells cs 97) ∧ cs.size = 8 ∧ ∀ i, i < 8 → cs[i]? = some (.bool (bs i))
theorem RowB.cell {w : World} {R : Nat} {bs : Nat → Bool} (h : RowB w R bs) (i : Nat) (hi : i < 8) : w.cell? ⟨R, i, none⟩ = some (.bool (bs i)) ∧ w.frozen? ⟨R, i, none⟩ = false := by
  obtain ⟨cs, hh, _, hc⟩ := h
  exact ⟨by simp [World.cell?, hh, hc i hi], by simp [World.frozen?, hh]⟩
theorem RowB.new {w : World} : RowB (w.alloc (.cells #[.bool false, .bool false, .bool false, .bool false, .bool false, .bool false, .bool false, .bool false] 97)) w.heap.size (fun _ => false) := by
  refine ⟨#[.bool false, .bool false, .bool false, .bool false, .bool false, .bool false, .bool false, .bool false], (show (w.heap.push _)[w.heap.size]? = _ by simp), rfl, fun i hi => ?_⟩
  have : i = 0 ∨ i = 1 ∨ i = 2 ∨ i = 3 ∨ i = 4 ∨ i = 5 ∨ i = 6 ∨ i = 7 := by omega
  rcases this with rfl | rfl | rfl | rfl | rfl | rfl | rfl | rfl <;> rfl
theorem RowB.lt {w : World} {R : Nat} {bs : Nat → Bool} (h : RowB w R bs) : R < w.heap.size := by
  obtain ⟨cs, hh, _⟩ := h
  exact (Array.getElem?_eq_some_iff.1 hh).1
theorem RowB.next {w w' : World} {R : Nat} {bs : Nat → Bool} (h : RowB w R bs) (hb : Below w.heap.size w w') : RowB w' R bs := by
  have hl := h.lt
  obtain ⟨cs, hh, r⟩ := h
  exact ⟨cs, by rw [hb.block R hl]; exact hh, r⟩
theorem RowB.store {w : World} {R : Nat} {bs : Nat → Bool} (h : RowB w R bs) (x : Int) (h0 : 0 ≤ x) (h1 : x ≤ 7) : RowB (w.setCell ⟨R, x.toNat, none⟩ (.bool true)) R (fun i => bs i || decide ((i : Int) = x)) := by
  obtain ⟨cs, hh, hs, hc⟩ := h
  refine ⟨cs.setIfInBounds x.toNat (.bool true), ?_, by simpa using hs, fun i hi => ?_⟩
  · simp [World.setCell, Array.getElem?_modify, hh]
  · rw [Array.getElem?_setIfInBounds]
    by_cases e : x.toNat = i
    · have : (i : Int) = x := by omega
      rw [if_pos e, if_pos (by omega)]
      simp [this]
    · have : ¬ (i : Int) = x := by omega
      rw [if_neg e, hc i hi]
      simp [this]
theorem regs_congr {f g : Nat → Bool} : ∀ n, (∀ i, i < n → f i = g i) → regs f n = regs g n
  | 0, _ => rfl
  | n + 1, h => by
    unfold regs
    rw [regs_congr n (fun i hi => h i (by omega)), h n (by omega)]
theorem At4.set {w : World} {b g i : Nat} {v0 v1 v2 v3 v : Value} (h : At4 w b v0 v1 v2 v3) (hg : b < g) : At4 (w.setCell ⟨g, i, none⟩ v) b v0 v1 v2 v3 := by
  have e : ∀ j, (w.setCell ⟨g, i, none⟩ v).cell? ⟨b, j, none⟩ = w.cell? ⟨b, j, none⟩ := fun j => World.cell?_of_block (w := w) (Below.heap_setCell w ⟨g, i, none⟩ v b (by simp; omega))
  obtain ⟨h0, h1, h2, h3, h4⟩ := h
  exact ⟨by simpa [World.setCell] using h0, by rw [e]; exact h1, by rw [e]; exact h2, by rw [e]; exact h3, by rw [e]; exact h4⟩
theorem refReads_no (op a b c : Int) (w : World) (h : chk op a b c ≠ 0) :
    Calls Tryd.prog 43 #[.agg #[.int .i64 op, .int .i64 a, .int .i64 b, .int .i64 c]] w fun e w' => (∃ v, e = .returned v ∧ Reads w' w.heap.size v []) ∧ Below w.heap.size w w' := by
  have hne : (chk op a b c != 0) = true := by simpa using h
  by_cases hop : 0 ≤ op ∧ op < 27
  · obtain ⟨h0, h1⟩ := hop
    go_enter Tryd.func43, Tryd.ntmps43
    go_wp2_with fail
    refine (refForm_any _ _ h0 h1).mono ?_
    rintro e w' ⟨rfl, rfl⟩
    go_wp2_with fail
    refine (refCheck_is _ _ _ _ _ _ rfl).mono ?_
    rintro e w1 ⟨rfl, k1⟩
    go_wp2
    go_ret
    exact ⟨⟨_, rfl, .inl ⟨rfl, rfl⟩⟩, below2 k1⟩
  · have H := Lib.hid (show op < 0 ∨ 27 ≤ op by omega)
    clear hop
    go_enter Tryd.func43, Tryd.ntmps43
    go_wp2_with fail
    refine (refForm_out _ _ H.out).mono ?_
    rintro e w' ⟨rfl, rfl⟩
    go_wp2_with fail
    refine (refCheck_is _ _ _ _ _ _ rfl).mono ?_
    rintro e w1 ⟨rfl, k1⟩
    go_wp2
    go_ret
    exact ⟨⟨_, rfl, .inl ⟨rfl, rfl⟩⟩, below2 k1⟩
set_option maxRecDepth 100000 in
set_option maxHeartbeats 1000000 in
theorem refReads_op3 (a b c : Int) (w : World) (h : chk 3 a b c = 0)  :
    Calls Tryd.prog 43 #[.agg #[.int .i64 3, .int .i64 a, .int .i64 b, .int .i64 c]] w fun e w' => (∃ v, e = .returned v ∧ Reads w' w.heap.size v (regs (fun i => decide ((i : Int) = a)) 8)) ∧ Below w.heap.size w w' := by
  obtain ⟨h0, h1, a0, a1, b0, b1, _⟩ := chk_zero h
  have H := Lib.hid h
  clear h
  have HF := Lib.hid (show formI (3 : Int).toNat = 4 by decide)
  have A0 := (At4.new w (.int .i64 3) (.int .i64 a) (.int .i64 b) (.int .i64 c) 23).alloc (.cells #[.bool false, .bool false, .bool false, .bool false, .bool false, .bool false, .bool false, .bool false] 97)
  have R0 := RowB.new (w := w.alloc (.cells #[.int .i64 3, .int .i64 a, .int .i64 b, .int .i64 c] 23))
  rw [show (w.alloc (.cells #[.int .i64 3, .int .i64 a, .int .i64 b, .int .i64 c] 23)).heap.size = w.heap.size + 1 by simp] at R0
  go_enter Tryd.func43, Tryd.ntmps43
  go_wp2_with fail
  refine (refForm_is _ 4 _ h0 h1 HF.out).mono ?_
  rintro e w' ⟨rfl, rfl⟩
  go_wp2_with fail
  refine (refCheck_is _ _ _ _ 0 _ H.out).mono ?_
  rintro e w1 ⟨rfl, k1⟩
  have A1 := A0.next k1
  have R1 := R0.next k1
  have B1 := below2 k1
  clear A0 R0 k1
  obtain ⟨z, q0, q1, q2, q3⟩ := id A1
  obtain ⟨t1, f1⟩ := R1.cell a.toNat (by omega)
  have R2 := R1.store a a0 a1
  have A2 : At4 (w1.setCell ⟨w.heap.size + 1, a.toNat, none⟩ (.bool true)) w.heap.size (.int .i64 3) (.int .i64 a) (.int .i64 b) (.int .i64 c) := A1.set (by omega)
  have B2 : Below w.heap.size w (w1.setCell ⟨w.heap.size + 1, a.toNat, none⟩ (.bool true)) := B1.setCell (by simp) _
  obtain ⟨cs, hh, hs, hc⟩ := id R2
  have hcc := Lib.hid hc
  clear hc
  clear A1 R1
  clear A2
  go_wp2_with (first | (refine wpList_load_row rfl 97 _ rfl (w.heap.size + 1) rfl 97 cs (0, 0) _ hh Tryd.underlying97 rfl (by rw [hs]; kernel_rfl) ?_) | (go_at_call 58; refine (registers_any cs _ _ hs hcc.out).mono ?_; rintro e w9 ⟨⟨v, rfl, hv⟩, k9⟩) | (go_at_call 52; go_in))
  go_ret
  refine ⟨⟨v, rfl, ?_⟩, bnext B2 k9⟩
  have e9 : regs _ 8 = regs (fun i => decide ((i : Int) = a)) 8 := regs_congr 8 (f := (fun i => (fun _ => false) i || decide ((i : Int) = a))) (fun i _ => by simp)
  rw [← e9]
  exact hv.mono (by have := B2.size; simpa using this)
set_option maxRecDepth 100000 in
set_option maxHeartbeats 1000000 in
theorem refReads_op18 (a b c : Int) (w : World) (h : chk 18 a b c = 0)  :
    Calls Tryd.prog 43 #[.agg #[.int .i64 18, .int .i64 a, .int .i64 b, .int .i64 c]] w fun e w' => (∃ v, e = .returned v ∧ Reads w' w.heap.size v (regs (fun i => decide ((i : Int) = a) || decide ((i : Int) = b)) 8)) ∧ Below w.heap.size w w' := by
  obtain ⟨h0, h1, a0, a1, b0, b1, _⟩ := chk_zero h
  have H := Lib.hid h
  clear h
  have HF := Lib.hid (show formI (18 : Int).toNat = 5 by decide)
  have A0 := (At4.new w (.int .i64 18) (.int .i64 a) (.int .i64 b) (.int .i64 c) 23).alloc (.cells #[.bool false, .bool false, .bool false, .bool false, .bool false, .bool false, .bool false, .bool false] 97)
  have R0 := RowB.new (w := w.alloc (.cells #[.int .i64 18, .int .i64 a, .int .i64 b, .int .i64 c] 23))
  rw [show (w.alloc (.cells #[.int .i64 18, .int .i64 a, .int .i64 b, .int .i64 c] 23)).heap.size = w.heap.size + 1 by simp] at R0
  go_enter Tryd.func43, Tryd.ntmps43
  go_wp2_with fail
  refine (refForm_is _ 5 _ h0 h1 HF.out).mono ?_
  rintro e w' ⟨rfl, rfl⟩
  go_wp2_with fail
  refine (refCheck_is _ _ _ _ 0 _ H.out).mono ?_
  rintro e w1 ⟨rfl, k1⟩
  have A1 := A0.next k1
  have R1 := R0.next k1
  have B1 := below2 k1
  clear A0 R0 k1
  obtain ⟨z, q0, q1, q2, q3⟩ := id A1
  obtain ⟨t1, f1⟩ := R1.cell a.toNat (by omega)
  have R2 := R1.store a a0 a1
  have A2 : At4 (w1.setCell ⟨w.heap.size + 1, a.toNat, none⟩ (.bool true)) w.heap.size (.int .i64 18) (.int .i64 a) (.int .i64 b) (.int .i64 c) := A1.set (by omega)
  have B2 : Below w.heap.size w (w1.setCell ⟨w.heap.size + 1, a.toNat, none⟩ (.bool true)) := B1.setCell (by simp) _
  obtain ⟨t2, f2⟩ := R2.cell b.toNat (by omega)
  have R3 := R2.store b b0 b1
  have A3 : At4 ((w1.setCell ⟨w.heap.size + 1, a.toNat, none⟩ (.bool true)).setCell ⟨w.heap.size + 1, b.toNat, none⟩ (.bool true)) w.heap.size (.int .i64 18) (.int .i64 a) (.int .i64 b) (.int .i64 c) := A2.set (by omega)
  have B3 : Below w.heap.size w ((w1.setCell ⟨w.heap.size + 1, a.toNat, none⟩ (.bool true)).setCell ⟨w.heap.size + 1, b.toNat, none⟩ (.bool true)) := B2.setCell (by simp) _
  obtain ⟨cs, hh, hs, hc⟩ := id R3
  have hcc := Lib.hid hc
  clear hc
  clear A1 R1
  clear A2 R2
  clear A3
  go_wp2_with (first | (refine wpList_load_row rfl 97 _ rfl (w.heap.size + 1) rfl 97 cs (0, 0) _ hh Tryd.underlying97 rfl (by rw [hs]; kernel_rfl) ?_) | (go_at_call 58; refine (registers_any cs _ _ hs hcc.out).mono ?_; rintro e w9 ⟨⟨v, rfl, hv⟩, k9⟩) | (go_at_call 52; go_in))
  go_ret
  refine ⟨⟨v, rfl, ?_⟩, bnext B3 k9⟩
  have e9 : regs _ 8 = regs (fun i => decide ((i : Int) = a) || decide ((i : Int) = b)) 8 := regs_congr 8 (f := (fun i => (fun i => (fun _ => false) i || decide ((i : Int) = a)) i || decide ((i : Int) = b))) (fun i _ => by simp)
  rw [← e9]
  exact hv.mono (by have := B3.size; simpa using this)
set_option maxRecDepth 100000 in
set_option maxHeartbeats 1000000 in
theorem refReads_op20 (a b c : Int) (w : World) (h : chk 20 a b c = 0)  :
    Calls Tryd.prog 43 #[.agg #[.int .i64 20, .int .i64 a, .int .i64 b, .int .i64 c]] w fun e w' => (∃ v, e = .returned v ∧ Reads w' w.heap.size v (regs (fun i => decide ((i : Int) = a) || decide ((i : Int) = b)) 8)) ∧ Below w.heap.size w w' := by
  obtain ⟨h0, h1, a0, a1, b0, b1, _⟩ := chk_zero h
  have H := Lib.hid h
  clear h
  have HF := Lib.hid (show formI (20 : Int).toNat = 5 by decide)
  have A0 := (At4.new w (.int .i64 20) (.int .i64 a) (.int .i64 b) (.int .i64 c) 23).alloc (.cells #[.bool false, .bool false, .bool false, .bool false, .bool false, .bool false, .bool false, .bool false] 97)
  have R0 := RowB.new (w := w.alloc (.cells #[.int .i64 20, .int .i64 a, .int .i64 b, .int .i64 c] 23))
  rw [show (w.alloc (.cells #[.int .i64 20, .int .i64 a, .int .i64 b, .int .i64 c] 23)).heap.size = w.heap.size + 1 by simp] at R0
  go_enter Tryd.func43, Tryd.ntmps43
  go_wp2_with fail
  refine (refForm_is _ 5 _ h0 h1 HF.out).mono ?_
  rintro e w' ⟨rfl, rfl⟩
  go_wp2_with fail
  refine (refCheck_is _ _ _ _ 0 _ H.out).mono ?_
  rintro e w1 ⟨rfl, k1⟩
  have A1 := A0.next k1
  have R1 := R0.next k1
  have B1 := below2 k1
  clear A0 R0 k1
  obtain ⟨z, q0, q1, q2, q3⟩ := id A1
  obtain ⟨t1, f1⟩ := R1.cell a.toNat (by omega)
  have R2 := R1.store a a0 a1
  have A2 : At4 (w1.setCell ⟨w.heap.size + 1, a.toNat, none⟩ (.bool true)) w.heap.size (.int .i64 20) (.int .i64 a) (.int .i64 b) (.int .i64 c) := A1.set (by omega)
  have B2 : Below w.heap.size w (w1.setCell ⟨w.heap.size + 1, a.toNat, none⟩ (.bool true)) := B1.setCell (by simp) _
  obtain ⟨t2, f2⟩ := R2.cell b.toNat (by omega)
  have R3 := R2.store b b0 b1
  have A3 : At4 ((w1.setCell ⟨w.heap.size + 1, a.toNat, none⟩ (.bool true)).setCell ⟨w.heap.size + 1, b.toNat, none⟩ (.bool true)) w.heap.size (.int .i64 20) (.int .i64 a) (.int .i64 b) (.int .i64 c) := A2.set (by omega)
  have B3 : Below w.heap.size w ((w1.setCell ⟨w.heap.size + 1, a.toNat, none⟩ (.bool true)).setCell ⟨w.heap.size + 1, b.toNat, none⟩ (.bool true)) := B2.setCell (by simp) _
  obtain ⟨cs, hh, hs, hc⟩ := id R3
  have hcc := Lib.hid hc
  clear hc
  clear A1 R1
  clear A2 R2
  clear A3
  go_wp2_with (first | (refine wpList_load_row rfl 97 _ rfl (w.heap.size + 1) rfl 97 cs (0, 0) _ hh Tryd.underlying97 rfl (by rw [hs]; kernel_rfl) ?_) | (go_at_call 58; refine (registers_any cs _ _ hs hcc.out).mono ?_; rintro e w9 ⟨⟨v, rfl, hv⟩, k9⟩) | (go_at_call 52; go_in))
  go_ret
  refine ⟨⟨v, rfl, ?_⟩, bnext B3 k9⟩
  have e9 : regs _ 8 = regs (fun i => decide ((i : Int) = a) || decide ((i : Int) = b)) 8 := regs_congr 8 (f := (fun i => (fun i => (fun _ => false) i || decide ((i : Int) = a)) i || decide ((i : Int) = b))) (fun i _ => by simp)
  rw [← e9]
  exact hv.mono (by have := B3.size; simpa using this)
set_option maxRecDepth 100000 in
set_option maxHeartbeats 1000000 in
theorem refReads_op22 (a b c : Int) (w : World) (h : chk 22 a b c = 0)  :
    Calls Tryd.prog 43 #[.agg #[.int .i64 22, .int .i64 a, .int .i64 b, .int .i64 c]] w fun e w' => (∃ v, e = .returned v ∧ Reads w' w.heap.size v (regs (fun i => decide ((i : Int) = a)) 8)) ∧ Below w.heap.size w w' := by
  obtain ⟨h0, h1, a0, a1, b0, b1, _⟩ := chk_zero h
  have H := Lib.hid h
  clear h
  have HF := Lib.hid (show formI (22 : Int).toNat = 4 by decide)
  have A0 := (At4.new w (.int .i64 22) (.int .i64 a) (.int .i64 b) (.int .i64 c) 23).alloc (.cells #[.bool false, .bool false, .bool false, .bool false, .bool false, .bool false, .bool false, .bool false] 97)
  have R0 := RowB.new (w := w.alloc (.cells #[.int .i64 22, .int .i64 a, .int .i64 b, .int .i64 c] 23))
  rw [show (w.alloc (.cells #[.int .i64 22, .int .i64 a, .int .i64 b, .int .i64 c] 23)).heap.size = w.heap.size + 1 by simp] at R0
  go_enter Tryd.func43, Tryd.ntmps43
  go_wp2_with fail
  refine (refForm_is _ 4 _ h0 h1 HF.out).mono ?_
  rintro e w' ⟨rfl, rfl⟩
  go_wp2_with fail
  refine (refCheck_is _ _ _ _ 0 _ H.out).mono ?_
  rintro e w1 ⟨rfl, k1⟩
  have A1 := A0.next k1
  have R1 := R0.next k1
  have B1 := below2 k1
  clear A0 R0 k1
  obtain ⟨z, q0, q1, q2, q3⟩ := id A1
  obtain ⟨t1, f1⟩ := R1.cell a.toNat (by omega)
  have R2 := R1.store a a0 a1
  have A2 : At4 (w1.setCell ⟨w.heap.size + 1, a.toNat, none⟩ (.bool true)) w.heap.size (.int .i64 22) (.int .i64 a) (.int .i64 b) (.int .i64 c) := A1.set (by omega)
  have B2 : Below w.heap.size w (w1.setCell ⟨w.heap.size + 1, a.toNat, none⟩ (.bool true)) := B1.setCell (by simp) _
  obtain ⟨cs, hh, hs, hc⟩ := id R2
  have hcc := Lib.hid hc
  clear hc
  clear A1 R1
  clear A2
  go_wp2_with (first | (refine wpList_load_row rfl 97 _ rfl (w.heap.size + 1) rfl 97 cs (0, 0) _ hh Tryd.underlying97 rfl (by rw [hs]; kernel_rfl) ?_) | (go_at_call 58; refine (registers_any cs _ _ hs hcc.out).mono ?_; rintro e w9 ⟨⟨v, rfl, hv⟩, k9⟩) | (go_at_call 52; go_in))
  go_ret
  refine ⟨⟨v, rfl, ?_⟩, bnext B2 k9⟩
  have e9 : regs _ 8 = regs (fun i => decide ((i : Int) = a)) 8 := regs_congr 8 (f := (fun i => (fun _ => false) i || decide ((i : Int) = a))) (fun i _ => by simp)
  rw [← e9]
  exact hv.mono (by have := B2.size; simpa using this)
set_option maxRecDepth 100000 in
set_option maxHeartbeats 1000000 in
theorem refReads_op23 (a b c : Int) (w : World) (h : chk 23 a b c = 0)  :
    Calls Tryd.prog 43 #[.agg #[.int .i64 23, .int .i64 a, .int .i64 b, .int .i64 c]] w fun e w' => (∃ v, e = .returned v ∧ Reads w' w.heap.size v (regs (fun i => decide ((i : Int) = a)) 8)) ∧ Below w.heap.size w w' := by
  obtain ⟨h0, h1, a0, a1, b0, b1, _⟩ := chk_zero h
  have H := Lib.hid h
  clear h
  have HF := Lib.hid (show formI (23 : Int).toNat = 4 by decide)
  have A0 := (At4.new w (.int .i64 23) (.int .i64 a) (.int .i64 b) (.int .i64 c) 23).alloc (.cells #[.bool false, .bool false, .bool false, .bool false, .bool false, .bool false, .bool false, .bool false] 97)
  have R0 := RowB.new (w := w.alloc (.cells #[.int .i64 23, .int .i64 a, .int .i64 b, .int .i64 c] 23))
  rw [show (w.alloc (.cells #[.int .i64 23, .int .i64 a, .int .i64 b, .int .i64 c] 23)).heap.size = w.heap.size + 1 by simp] at R0
  go_enter Tryd.func43, Tryd.ntmps43
  go_wp2_with fail
  refine (refForm_is _ 4 _ h0 h1 HF.out).mono ?_
  rintro e w' ⟨rfl, rfl⟩
  go_wp2_with fail
  refine (refCheck_is _ _ _ _ 0 _ H.out).mono ?_
  rintro e w1 ⟨rfl, k1⟩
  have A1 := A0.next k1
  have R1 := R0.next k1
  have B1 := below2 k1
  clear A0 R0 k1
  obtain ⟨z, q0, q1, q2, q3⟩ := id A1
  obtain ⟨t1, f1⟩ := R1.cell a.toNat (by omega)
  have R2 := R1.store a a0 a1
  have A2 : At4 (w1.setCell ⟨w.heap.size + 1, a.toNat, none⟩ (.bool true)) w.heap.size (.int .i64 23) (.int .i64 a) (.int .i64 b) (.int .i64 c) := A1.set (by omega)
  have B2 : Below w.heap.size w (w1.setCell ⟨w.heap.size + 1, a.toNat, none⟩ (.bool true)) := B1.setCell (by simp) _
  obtain ⟨cs, hh, hs, hc⟩ := id R2
  have hcc := Lib.hid hc
  clear hc
  clear A1 R1
  clear A2
  go_wp2_with (first | (refine wpList_load_row rfl 97 _ rfl (w.heap.size + 1) rfl 97 cs (0, 0) _ hh Tryd.underlying97 rfl (by rw [hs]; kernel_rfl) ?_) | (go_at_call 58; refine (registers_any cs _ _ hs hcc.out).mono ?_; rintro e w9 ⟨⟨v, rfl, hv⟩, k9⟩) | (go_at_call 52; go_in))
  go_ret
  refine ⟨⟨v, rfl, ?_⟩, bnext B2 k9⟩
  have e9 : regs _ 8 = regs (fun i => decide ((i : Int) = a)) 8 := regs_congr 8 (f := (fun i => (fun _ => false) i || decide ((i : Int) = a))) (fun i _ => by simp)
  rw [← e9]
  exact hv.mono (by have := B2.size; simpa using this)
set_option maxRecDepth 100000 in
set_option maxHeartbeats 1000000 in
theorem refReads_op25 (a b c : Int) (w : World) (h : chk 25 a b c = 0)  :
    Calls Tryd.prog 43 #[.agg #[.int .i64 25, .int .i64 a, .int .i64 b, .int .i64 c]] w fun e w' => (∃ v, e = .returned v ∧ Reads w' w.heap.size v (regs (fun i => decide ((i : Int) = a)) 8)) ∧ Below w.heap.size w w' := by
  obtain ⟨h0, h1, a0, a1, b0, b1, _⟩ := chk_zero h
  have H := Lib.hid h
  clear h
  have HF := Lib.hid (show formI (25 : Int).toNat = 1 by decide)
  have A0 := (At4.new w (.int .i64 25) (.int .i64 a) (.int .i64 b) (.int .i64 c) 23).alloc (.cells #[.bool false, .bool false, .bool false, .bool false, .bool false, .bool false, .bool false, .bool false] 97)
  have R0 := RowB.new (w := w.alloc (.cells #[.int .i64 25, .int .i64 a, .int .i64 b, .int .i64 c] 23))
  rw [show (w.alloc (.cells #[.int .i64 25, .int .i64 a, .int .i64 b, .int .i64 c] 23)).heap.size = w.heap.size + 1 by simp] at R0
  go_enter Tryd.func43, Tryd.ntmps43
  go_wp2_with fail
  refine (refForm_is _ 1 _ h0 h1 HF.out).mono ?_
  rintro e w' ⟨rfl, rfl⟩
  go_wp2_with fail
  refine (refCheck_is _ _ _ _ 0 _ H.out).mono ?_
  rintro e w1 ⟨rfl, k1⟩
  have A1 := A0.next k1
  have R1 := R0.next k1
  have B1 := below2 k1
  clear A0 R0 k1
  obtain ⟨z, q0, q1, q2, q3⟩ := id A1
  obtain ⟨t1, f1⟩ := R1.cell a.toNat (by omega)
  have R2 := R1.store a a0 a1
  have A2 : At4 (w1.setCell ⟨w.heap.size + 1, a.toNat, none⟩ (.bool true)) w.heap.size (.int .i64 25) (.int .i64 a) (.int .i64 b) (.int .i64 c) := A1.set (by omega)
  have B2 : Below w.heap.size w (w1.setCell ⟨w.heap.size + 1, a.toNat, none⟩ (.bool true)) := B1.setCell (by simp) _
  obtain ⟨cs, hh, hs, hc⟩ := id R2
  have hcc := Lib.hid hc
  clear hc
  clear A1 R1
  clear A2
  go_wp2_with (first | (refine wpList_load_row rfl 97 _ rfl (w.heap.size + 1) rfl 97 cs (0, 0) _ hh Tryd.underlying97 rfl (by rw [hs]; kernel_rfl) ?_) | (go_at_call 58; refine (registers_any cs _ _ hs hcc.out).mono ?_; rintro e w9 ⟨⟨v, rfl, hv⟩, k9⟩) | (go_at_call 52; go_in))
  go_ret
  refine ⟨⟨v, rfl, ?_⟩, bnext B2 k9⟩
  have e9 : regs _ 8 = regs (fun i => decide ((i : Int) = a)) 8 := regs_congr 8 (f := (fun i => (fun _ => false) i || decide ((i : Int) = a))) (fun i _ => by simp)
  rw [← e9]
  exact hv.mono (by have := B2.size; simpa using this)
set_option maxRecDepth 100000 in
set_option maxHeartbeats 1000000 in
theorem refReads_n0 (op a b c : Int) (w : World) (h : chk op a b c = 0) (hf : formI op.toNat = 0) (n3 : (op == 3) = false) (n18 : (op == 18) = false) (n20 : (op == 20) = false) (n22 : (op == 22) = false) (n23 : (op == 23) = false) (n25 : (op == 25) = false) :
    Calls Tryd.prog 43 #[.agg #[.int .i64 op, .int .i64 a, .int .i64 b, .int .i64 c]] w fun e w' => (∃ v, e = .returned v ∧ Reads w' w.heap.size v (regs (fun _ => false) 8)) ∧ Below w.heap.size w w' := by
  obtain ⟨h0, h1, a0, a1, b0, b1, _⟩ := chk_zero h
  have H := Lib.hid h
  clear h
  have HF := Lib.hid hf
  clear hf
  have A0 := (At4.new w (.int .i64 op) (.int .i64 a) (.int .i64 b) (.int .i64 c) 23).alloc (.cells #[.bool false, .bool false, .bool false, .bool false, .bool false, .bool false, .bool false, .bool false] 97)
  have R0 := RowB.new (w := w.alloc (.cells #[.int .i64 op, .int .i64 a, .int .i64 b, .int .i64 c] 23))
  rw [show (w.alloc (.cells #[.int .i64 op, .int .i64 a, .int .i64 b, .int .i64 c] 23)).heap.size = w.heap.size + 1 by simp] at R0
  go_enter Tryd.func43, Tryd.ntmps43
  go_wp2_with fail
  refine (refForm_is _ 0 _ h0 h1 HF.out).mono ?_
  rintro e w' ⟨rfl, rfl⟩
  go_wp2_with fail
  refine (refCheck_is _ _ _ _ 0 _ H.out).mono ?_
  rintro e w1 ⟨rfl, k1⟩
  have A1 := A0.next k1
  have R1 := R0.next k1
  have B1 := below2 k1
  clear A0 R0 k1
  obtain ⟨z, q0, q1, q2, q3⟩ := id A1
  obtain ⟨cs, hh, hs, hc⟩ := id R1
  have hcc := Lib.hid hc
  clear hc
  clear A1
  go_wp2_with (first | (refine wpList_load_row rfl 97 _ rfl (w.heap.size + 1) rfl 97 cs (0, 0) _ hh Tryd.underlying97 rfl (by rw [hs]; kernel_rfl) ?_) | (go_at_call 58; refine (registers_any cs _ _ hs hcc.out).mono ?_; rintro e w9 ⟨⟨v, rfl, hv⟩, k9⟩) | (go_at_call 52; go_in))
  go_ret
  refine ⟨⟨v, rfl, ?_⟩, bnext B1 k9⟩
  have e9 : regs _ 8 = regs (fun _ => false) 8 := regs_congr 8 (f := (fun _ => false)) (fun i _ => by simp)
  rw [← e9]
  exact hv.mono (by have := B1.size; simpa using this)
set_option maxRecDepth 100000 in
set_option maxHeartbeats 1000000 in
theorem refReads_n2 (op a b c : Int) (w : World) (h : chk op a b c = 0) (hf : formI op.toNat = 2) (n3 : (op == 3) = false) (n18 : (op == 18) = false) (n20 : (op == 20) = false) (n22 : (op == 22) = false) (n23 : (op == 23) = false) (n25 : (op == 25) = false) :
    Calls Tryd.prog 43 #[.agg #[.int .i64 op, .int .i64 a, .int .i64 b, .int .i64 c]] w fun e w' => (∃ v, e = .returned v ∧ Reads w' w.heap.size v (regs (fun i => decide ((i : Int) = b)) 8)) ∧ Below w.heap.size w w' := by
  obtain ⟨h0, h1, a0, a1, b0, b1, _⟩ := chk_zero h
  have H := Lib.hid h
  clear h
  have HF := Lib.hid hf
  clear hf
  have A0 := (At4.new w (.int .i64 op) (.int .i64 a) (.int .i64 b) (.int .i64 c) 23).alloc (.cells #[.bool false, .bool false, .bool false, .bool false, .bool false, .bool false, .bool false, .bool false] 97)
  have R0 := RowB.new (w := w.alloc (.cells #[.int .i64 op, .int .i64 a, .int .i64 b, .int .i64 c] 23))
  rw [show (w.alloc (.cells #[.int .i64 op, .int .i64 a, .int .i64 b, .int .i64 c] 23)).heap.size = w.heap.size + 1 by simp] at R0
  go_enter Tryd.func43, Tryd.ntmps43
  go_wp2_with fail
  refine (refForm_is _ 2 _ h0 h1 HF.out).mono ?_
  rintro e w' ⟨rfl, rfl⟩
  go_wp2_with fail
  refine (refCheck_is _ _ _ _ 0 _ H.out).mono ?_
  rintro e w1 ⟨rfl, k1⟩
  have A1 := A0.next k1
  have R1 := R0.next k1
  have B1 := below2 k1
  clear A0 R0 k1
  obtain ⟨z, q0, q1, q2, q3⟩ := id A1
  obtain ⟨t1, f1⟩ := R1.cell b.toNat (by omega)
  have R2 := R1.store b b0 b1
  have A2 : At4 (w1.setCell ⟨w.heap.size + 1, b.toNat, none⟩ (.bool true)) w.heap.size (.int .i64 op) (.int .i64 a) (.int .i64 b) (.int .i64 c) := A1.set (by omega)
  have B2 : Below w.heap.size w (w1.setCell ⟨w.heap.size + 1, b.toNat, none⟩ (.bool true)) := B1.setCell (by simp) _
  obtain ⟨cs, hh, hs, hc⟩ := id R2
  have hcc := Lib.hid hc
  clear hc
  clear A1 R1
  clear A2
  go_wp2_with (first | (refine wpList_load_row rfl 97 _ rfl (w.heap.size + 1) rfl 97 cs (0, 0) _ hh Tryd.underlying97 rfl (by rw [hs]; kernel_rfl) ?_) | (go_at_call 58; refine (registers_any cs _ _ hs hcc.out).mono ?_; rintro e w9 ⟨⟨v, rfl, hv⟩, k9⟩) | (go_at_call 52; go_in))
  go_ret
  refine ⟨⟨v, rfl, ?_⟩, bnext B2 k9⟩
  have e9 : regs _ 8 = regs (fun i => decide ((i : Int) = b)) 8 := regs_congr 8 (f := (fun i => (fun _ => false) i || decide ((i : Int) = b))) (fun i _ => by simp)
  rw [← e9]
  exact hv.mono (by have := B2.size; simpa using this)
set_option maxRecDepth 100000 in
set_option maxHeartbeats 1000000 in
theorem refReads_n4 (op a b c : Int) (w : World) (h : chk op a b c = 0) (hf : formI op.toNat = 4) (n3 : (op == 3) = false) (n18 : (op == 18) = false) (n20 : (op == 20) = false) (n22 : (op == 22) = false) (n23 : (op == 23) = false) (n25 : (op == 25) = false) :
    Calls Tryd.prog 43 #[.agg #[.int .i64 op, .int .i64 a, .int .i64 b, .int .i64 c]] w fun e w' => (∃ v, e = .returned v ∧ Reads w' w.heap.size v (regs (fun _ => false) 8)) ∧ Below w.heap.size w w' := by
  obtain ⟨h0, h1, a0, a1, b0, b1, _⟩ := chk_zero h
  have H := Lib.hid h
  clear h
  have HF := Lib.hid hf
  clear hf
  have A0 := (At4.new w (.int .i64 op) (.int .i64 a) (.int .i64 b) (.int .i64 c) 23).alloc (.cells #[.bool false, .bool false, .bool false, .bool false, .bool false, .bool false, .bool false, .bool false] 97)
  have R0 := RowB.new (w := w.alloc (.cells #[.int .i64 op, .int .i64 a, .int .i64 b, .int .i64 c] 23))
  rw [show (w.alloc (.cells #[.int .i64 op, .int .i64 a, .int .i64 b, .int .i64 c] 23)).heap.size = w.heap.size + 1 by simp] at R0
  go_enter Tryd.func43, Tryd.ntmps43
  go_wp2_with fail
  refine (refForm_is _ 4 _ h0 h1 HF.out).mono ?_
  rintro e w' ⟨rfl, rfl⟩
  go_wp2_with fail
  refine (refCheck_is _ _ _ _ 0 _ H.out).mono ?_
  rintro e w1 ⟨rfl, k1⟩
  have A1 := A0.next k1
  have R1 := R0.next k1
  have B1 := below2 k1
  clear A0 R0 k1
  obtain ⟨z, q0, q1, q2, q3⟩ := id A1
  obtain ⟨cs, hh, hs, hc⟩ := id R1
  have hcc := Lib.hid hc
  clear hc
  clear A1
  go_wp2_with (first | (refine wpList_load_row rfl 97 _ rfl (w.heap.size + 1) rfl 97 cs (0, 0) _ hh Tryd.underlying97 rfl (by rw [hs]; kernel_rfl) ?_) | (go_at_call 58; refine (registers_any cs _ _ hs hcc.out).mono ?_; rintro e w9 ⟨⟨v, rfl, hv⟩, k9⟩) | (go_at_call 52; go_in))
  go_ret
  refine ⟨⟨v, rfl, ?_⟩, bnext B1 k9⟩
  have e9 : regs _ 8 = regs (fun _ => false) 8 := regs_congr 8 (f := (fun _ => false)) (fun i _ => by simp)
  rw [← e9]
  exact hv.mono (by have := B1.size; simpa using this)
set_option maxRecDepth 100000 in
set_option maxHeartbeats 1000000 in
theorem refReads_n3 (op a b c : Int) (w : World) (h : chk op a b c = 0) (hf : formI op.toNat = 3) (n3 : (op == 3) = false) (n18 : (op == 18) = false) (n20 : (op == 20) = false) (n22 : (op == 22) = false) (n23 : (op == 23) = false) (n25 : (op == 25) = false) :
    Calls Tryd.prog 43 #[.agg #[.int .i64 op, .int .i64 a, .int .i64 b, .int .i64 c]] w fun e w' => (∃ v, e = .returned v ∧ Reads w' w.heap.size v (regs (fun i => decide ((i : Int) = b) || decide ((i : Int) = c)) 8)) ∧ Below w.heap.size w w' := by
  obtain ⟨h0, h1, a0, a1, b0, b1, _⟩ := chk_zero h
  obtain ⟨g0, g1⟩ := chk_c h hf
  have H := Lib.hid h
  clear h
  have HF := Lib.hid hf
  clear hf
  have A0 := (At4.new w (.int .i64 op) (.int .i64 a) (.int .i64 b) (.int .i64 c) 23).alloc (.cells #[.bool false, .bool false, .bool false, .bool false, .bool false, .bool false, .bool false, .bool false] 97)
  have R0 := RowB.new (w := w.alloc (.cells #[.int .i64 op, .int .i64 a, .int .i64 b, .int .i64 c] 23))
  rw [show (w.alloc (.cells #[.int .i64 op, .int .i64 a, .int .i64 b, .int .i64 c] 23)).heap.size = w.heap.size + 1 by simp] at R0
  go_enter Tryd.func43, Tryd.ntmps43
  go_wp2_with fail
  refine (refForm_is _ 3 _ h0 h1 HF.out).mono ?_
  rintro e w' ⟨rfl, rfl⟩
  go_wp2_with fail
  refine (refCheck_is _ _ _ _ 0 _ H.out).mono ?_
  rintro e w1 ⟨rfl, k1⟩
  have A1 := A0.next k1
  have R1 := R0.next k1
  have B1 := below2 k1
  clear A0 R0 k1
  obtain ⟨z, q0, q1, q2, q3⟩ := id A1
  obtain ⟨t1, f1⟩ := R1.cell b.toNat (by omega)
  have R2 := R1.store b b0 b1
  have A2 : At4 (w1.setCell ⟨w.heap.size + 1, b.toNat, none⟩ (.bool true)) w.heap.size (.int .i64 op) (.int .i64 a) (.int .i64 b) (.int .i64 c) := A1.set (by omega)
  have B2 : Below w.heap.size w (w1.setCell ⟨w.heap.size + 1, b.toNat, none⟩ (.bool true)) := B1.setCell (by simp) _
  obtain ⟨t2, f2⟩ := R2.cell c.toNat (by omega)
  have R3 := R2.store c g0 g1
  have A3 : At4 ((w1.setCell ⟨w.heap.size + 1, b.toNat, none⟩ (.bool true)).setCell ⟨w.heap.size + 1, c.toNat, none⟩ (.bool true)) w.heap.size (.int .i64 op) (.int .i64 a) (.int .i64 b) (.int .i64 c) := A2.set (by omega)
  have B3 : Below w.heap.size w ((w1.setCell ⟨w.heap.size + 1, b.toNat, none⟩ (.bool true)).setCell ⟨w.heap.size + 1, c.toNat, none⟩ (.bool true)) := B2.setCell (by simp) _
  obtain ⟨cs, hh, hs, hc⟩ := id R3
  have hcc := Lib.hid hc
  clear hc
  clear A1 R1
  clear A2 R2
  clear A3
  go_wp2_with (first | (refine wpList_load_row rfl 97 _ rfl (w.heap.size + 1) rfl 97 cs (0, 0) _ hh Tryd.underlying97 rfl (by rw [hs]; kernel_rfl) ?_) | (go_at_call 58; refine (registers_any cs _ _ hs hcc.out).mono ?_; rintro e w9 ⟨⟨v, rfl, hv⟩, k9⟩) | (go_at_call 52; go_in))
  go_ret
  refine ⟨⟨v, rfl, ?_⟩, bnext B3 k9⟩
  have e9 : regs _ 8 = regs (fun i => decide ((i : Int) = b) || decide ((i : Int) = c)) 8 := regs_congr 8 (f := (fun i => (fun i => (fun _ => false) i || decide ((i : Int) = b)) i || decide ((i : Int) = c))) (fun i _ => by simp)
  rw [← e9]
  exact hv.mono (by have := B3.size; simpa using this)
set_option maxRecDepth 100000 in
set_option maxHeartbeats 1000000 in
theorem refReads_n5 (op a b c : Int) (w : World) (h : chk op a b c = 0) (hf : formI op.toNat = 5) (n3 : (op == 3) = false) (n18 : (op == 18) = false) (n20 : (op == 20) = false) (n22 : (op == 22) = false) (n23 : (op == 23) = false) (n25 : (op == 25) = false) :
    Calls Tryd.prog 43 #[.agg #[.int .i64 op, .int .i64 a, .int .i64 b, .int .i64 c]] w fun e w' => (∃ v, e = .returned v ∧ Reads w' w.heap.size v (regs (fun i => decide ((i : Int) = b)) 8)) ∧ Below w.heap.size w w' := by
  obtain ⟨h0, h1, a0, a1, b0, b1, _⟩ := chk_zero h
  have H := Lib.hid h
  clear h
  have HF := Lib.hid hf
  clear hf
  have A0 := (At4.new w (.int .i64 op) (.int .i64 a) (.int .i64 b) (.int .i64 c) 23).alloc (.cells #[.bool false, .bool false, .bool false, .bool false, .bool false, .bool false, .bool false, .bool false] 97)
  have R0 := RowB.new (w := w.alloc (.cells #[.int .i64 op, .int .i64 a, .int .i64 b, .int .i64 c] 23))
  rw [show (w.alloc (.cells #[.int .i64 op, .int .i64 a, .int .i64 b, .int .i64 c] 23)).heap.size = w.heap.size + 1 by simp] at R0
  go_enter Tryd.func43, Tryd.ntmps43
  go_wp2_with fail
  refine (refForm_is _ 5 _ h0 h1 HF.out).mono ?_
  rintro e w' ⟨rfl, rfl⟩
  go_wp2_with fail
  refine (refCheck_is _ _ _ _ 0 _ H.out).mono ?_
  rintro e w1 ⟨rfl, k1⟩
  have A1 := A0.next k1
  have R1 := R0.next k1
  have B1 := below2 k1
  clear A0 R0 k1
  obtain ⟨z, q0, q1, q2, q3⟩ := id A1
  obtain ⟨t1, f1⟩ := R1.cell b.toNat (by omega)
  have R2 := R1.store b b0 b1
  have A2 : At4 (w1.setCell ⟨w.heap.size + 1, b.toNat, none⟩ (.bool true)) w.heap.size (.int .i64 op) (.int .i64 a) (.int .i64 b) (.int .i64 c) := A1.set (by omega)
  have B2 : Below w.heap.size w (w1.setCell ⟨w.heap.size + 1, b.toNat, none⟩ (.bool true)) := B1.setCell (by simp) _
  obtain ⟨cs, hh, hs, hc⟩ := id R2
  have hcc := Lib.hid hc
  clear hc
  clear A1 R1
  clear A2
  go_wp2_with (first | (refine wpList_load_row rfl 97 _ rfl (w.heap.size + 1) rfl 97 cs (0, 0) _ hh Tryd.underlying97 rfl (by rw [hs]; kernel_rfl) ?_) | (go_at_call 58; refine (registers_any cs _ _ hs hcc.out).mono ?_; rintro e w9 ⟨⟨v, rfl, hv⟩, k9⟩) | (go_at_call 52; go_in))
  go_ret
  refine ⟨⟨v, rfl, ?_⟩, bnext B2 k9⟩
  have e9 : regs _ 8 = regs (fun i => decide ((i : Int) = b)) 8 := regs_congr 8 (f := (fun i => (fun _ => false) i || decide ((i : Int) = b))) (fun i _ => by simp)
  rw [← e9]
  exact hv.mono (by have := B2.size; simpa using this)
set_option maxRecDepth 100000 in
set_option maxHeartbeats 1000000 in
theorem refReads_n6 (op a b c : Int) (w : World) (h : chk op a b c = 0) (hf : formI op.toNat = 6) (n3 : (op == 3) = false) (n18 : (op == 18) = false) (n20 : (op == 20) = false) (n22 : (op == 22) = false) (n23 : (op == 23) = false) (n25 : (op == 25) = false) :
    Calls Tryd.prog 43 #[.agg #[.int .i64 op, .int .i64 a, .int .i64 b, .int .i64 c]] w fun e w' => (∃ v, e = .returned v ∧ Reads w' w.heap.size v (regs (fun _ => false) 8)) ∧ Below w.heap.size w w' := by
  obtain ⟨h0, h1, a0, a1, b0, b1, _⟩ := chk_zero h
  have H := Lib.hid h
  clear h
  have HF := Lib.hid hf
  clear hf
  have A0 := (At4.new w (.int .i64 op) (.int .i64 a) (.int .i64 b) (.int .i64 c) 23).alloc (.cells #[.bool false, .bool false, .bool false, .bool false, .bool false, .bool false, .bool false, .bool false] 97)
  have R0 := RowB.new (w := w.alloc (.cells #[.int .i64 op, .int .i64 a, .int .i64 b, .int .i64 c] 23))
  rw [show (w.alloc (.cells #[.int .i64 op, .int .i64 a, .int .i64 b, .int .i64 c] 23)).heap.size = w.heap.size + 1 by simp] at R0
  go_enter Tryd.func43, Tryd.ntmps43
  go_wp2_with fail
  refine (refForm_is _ 6 _ h0 h1 HF.out).mono ?_
  rintro e w' ⟨rfl, rfl⟩
  go_wp2_with fail
  refine (refCheck_is _ _ _ _ 0 _ H.out).mono ?_
  rintro e w1 ⟨rfl, k1⟩
  have A1 := A0.next k1
  have R1 := R0.next k1
  have B1 := below2 k1
  clear A0 R0 k1
  obtain ⟨z, q0, q1, q2, q3⟩ := id A1
  obtain ⟨cs, hh, hs, hc⟩ := id R1
  have hcc := Lib.hid hc
  clear hc
  clear A1
  go_wp2_with (first | (refine wpList_load_row rfl 97 _ rfl (w.heap.size + 1) rfl 97 cs (0, 0) _ hh Tryd.underlying97 rfl (by rw [hs]; kernel_rfl) ?_) | (go_at_call 58; refine (registers_any cs _ _ hs hcc.out).mono ?_; rintro e w9 ⟨⟨v, rfl, hv⟩, k9⟩) | (go_at_call 52; go_in))
  go_ret
  refine ⟨⟨v, rfl, ?_⟩, bnext B1 k9⟩
  have e9 : regs _ 8 = regs (fun _ => false) 8 := regs_congr 8 (f := (fun _ => false)) (fun i _ => by simp)
  rw [← e9]
  exact hv.mono (by have := B1.size; simpa using this)
end Go.Proofs.YtagmeijpelffcaaDoor
