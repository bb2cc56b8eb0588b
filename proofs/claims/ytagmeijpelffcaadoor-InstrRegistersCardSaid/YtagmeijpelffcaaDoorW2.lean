/- Walks of layer 16: Check of the program (joined); Form, Limits, Check of the reference. -/
import Derived.Test.YtagmeijpelffcaaDoorW1
import Derived.Lib.Hide
namespace Go.Proofs.YtagmeijpelffcaaDoor
open Go.RowKit
set_option linter.unusedSimpArgs false
set_option linter.unusedVariables false
theorem check_any (op a b c : Int) (w : World) (ho : OpsAt w) :
    Calls Tryd.prog 15 #[.agg #[.int .i64 op, .int .i64 a, .int .i64 b, .int .i64 c]] w fun e w' => e = .returned (.int .i64 (chk op a b c)) ∧ Below w.heap.size w w' := by
  by_cases h : 0 ≤ op ∧ op < 27
  · obtain ⟨h0, h1⟩ := h
    rw [chk_in a b c h0 h1]
    obtain ⟨c0, c1, c2, c3, c4, c5⟩ := ho.2 op.toNat (by omega)
    rcases form_cases op.toNat (by omega) with e | e | e | e | e | e | e
    all_goals rw [e] at c1 ⊢
    · exact check_f0 op a b c _ _ _ _ _ w h0 h1 ho.1 c0 c1 c2 c3 c4 c5
    · exact check_f1 op a b c _ _ _ _ _ w h0 h1 ho.1 c0 c1 c2 c3 c4 c5
    · exact check_f2 op a b c _ _ _ _ _ w h0 h1 ho.1 c0 c1 c2 c3 c4 c5
    · exact check_f3 op a b c _ _ _ _ _ w h0 h1 ho.1 c0 c1 c2 c3 c4 c5
    · exact check_f4 op a b c _ _ _ _ _ w h0 h1 ho.1 c0 c1 c2 c3 c4 c5
    · exact check_f5 op a b c _ _ _ _ _ w h0 h1 ho.1 c0 c1 c2 c3 c4 c5
    · exact check_f6 op a b c _ _ _ _ _ w h0 h1 ho.1 c0 c1 c2 c3 c4 c5
  · rw [chk_out a b c (by omega)]
    exact check_out op a b c w (by omega)
theorem formI_of (op : Int) (h0 : 0 ≤ op) (h1 : op < 27) : formI op.toNat = if op = 0 then 0 else if op = 1 then 2 else if op = 2 ∨ op = 3 ∨ (22 ≤ op ∧ op ≤ 24) then 4 else if op ≤ 15 then 3 else if op ≤ 20 then 5 else if op = 25 then 1 else 6 := by
  obtain ⟨n, rfl⟩ := Int.eq_ofNat_of_zero_le h0
  have : ∀ k : Fin 27, formI k.val = if ((k.val : Nat) : Int) = 0 then 0 else if ((k.val : Nat) : Int) = 1 then 2 else if ((k.val : Nat) : Int) = 2 ∨ ((k.val : Nat) : Int) = 3 ∨ (22 ≤ ((k.val : Nat) : Int) ∧ ((k.val : Nat) : Int) ≤ 24) then 4 else if ((k.val : Nat) : Int) ≤ 15 then 3 else if ((k.val : Nat) : Int) ≤ 20 then 5 else if ((k.val : Nat) : Int) = 25 then 1 else 6 := by decide
  exact this ⟨n, by omega⟩
theorem limits_of (op : Int) (h0 : 0 ≤ op) (h1 : op < 27) (hf : 4 ≤ formI op.toNat) : lowI op.toNat = (if op = 3 ∨ 20 < op then 0 else -32768) ∧ highI op.toNat = if op = 3 then 65535 else if op = 26 then 255 else if 20 < op then 4095 else 32767 := by
  obtain ⟨n, rfl⟩ := Int.eq_ofNat_of_zero_le h0
  have : ∀ k : Fin 27, 4 ≤ formI k.val → lowI k.val = (if ((k.val : Nat) : Int) = 3 ∨ 20 < ((k.val : Nat) : Int) then 0 else -32768) ∧ highI k.val = if ((k.val : Nat) : Int) = 3 then 65535 else if ((k.val : Nat) : Int) = 26 then 255 else if 20 < ((k.val : Nat) : Int) then 4095 else 32767 := by decide
  exact this ⟨n, by omega⟩ hf
theorem refForm_any (op : Int) (w : World) (h0 : 0 ≤ op) (h1 : op < 27) :
    Calls Tryd.prog 31 #[.int .i64 op] w fun e w' => e = .returned (.tuple #[.int .i64 (formI op.toNat), .int .i64 0]) ∧ w = w' := by
  have hf := Lib.hid (formI_of op h0 h1)
  go_enter Tryd.func31, Tryd.ntmps31
  go_wp2
  all_goals
    go_ret2
    refine ⟨ret_int2 ?_ rfl, rfl⟩
    have h2 := hf.out
    clear hf
    (try simp only [Bool.not_eq_true', Bool.not_eq_false', decide_eq_false_iff_not, decide_eq_true_eq, bne_iff_ne, ne_eq, beq_iff_eq, beq_eq_false_iff_ne, bne_eq_false_iff_eq] at *)
    rw [h2]
    (repeat' split) <;> first | rfl | omega
theorem refForm_out (op : Int) (w : World) (h : op < 0 ∨ 27 ≤ op) :
    Calls Tryd.prog 31 #[.int .i64 op] w fun e w' => e = .returned (.tuple #[.int .i64 0, .int .i64 11]) ∧ w = w' := by
  rcases h with h | h
  · go_enter Tryd.func31, Tryd.ntmps31
    go_wp2
    go_ret2
    exact ⟨rfl, rfl⟩
  · have h0 : 0 ≤ op := by omega
    have h' : 26 < op := by omega
    go_enter Tryd.func31, Tryd.ntmps31
    go_wp2
    go_ret2
    exact ⟨rfl, rfl⟩
theorem ret_int3 {k j l : IntKind} {a b c d x y : Int} (h : a = b) (h' : c = d) (h2 : x = y) : Ending.returned (.tuple #[.int k a, .int j c, .int l x]) = .returned (.tuple #[.int k b, .int j d, .int l y]) := by rw [h, h', h2]
theorem refLimits_out (op : Int) (w : World) (h : op < 0 ∨ 27 ≤ op) :
    Calls Tryd.prog 33 #[.int .i64 op] w fun e w' => e = .returned (.tuple #[.int .i64 0, .int .i64 0, .int .i64 11]) ∧ w = w' := by
  go_enter Tryd.func33, Tryd.ntmps33
  go_wp2_with (go_at_call 31; refine (refForm_out _ _ h).mono ?_; rintro e w' ⟨rfl, rfl⟩)
  go_ret3
  exact ⟨rfl, rfl⟩
theorem refLimits_none (op : Int) (w : World) (h0 : 0 ≤ op) (h1 : op < 27) (hf : formI op.toNat < 4) :
    Calls Tryd.prog 33 #[.int .i64 op] w fun e w' => e = .returned (.tuple #[.int .i64 0, .int .i64 0, .int .i64 1]) ∧ w = w' := by
  go_enter Tryd.func33, Tryd.ntmps33
  go_wp2_with (go_at_call 31; refine (refForm_any _ _ h0 h1).mono ?_; rintro e w' ⟨rfl, rfl⟩)
  go_ret3
  exact ⟨rfl, rfl⟩
theorem refLimits_any (op : Int) (w : World) (h0 : 0 ≤ op) (h1 : op < 27) (hf : 4 ≤ formI op.toNat) :
    Calls Tryd.prog 33 #[.int .i64 op] w fun e w' => e = .returned (.tuple #[.int .i64 (lowI op.toNat), .int .i64 (highI op.toNat), .int .i64 0]) ∧ w = w' := by
  have hl := Lib.hid (limits_of op h0 h1 hf)
  go_enter Tryd.func33, Tryd.ntmps33
  go_wp2_with (go_at_call 31; refine (refForm_any _ _ h0 h1).mono ?_; rintro e w' ⟨rfl, rfl⟩)
  all_goals
    go_ret3
    obtain ⟨h2, h3⟩ := hl.out
    clear hl
    refine ⟨ret_int3 ?_ ?_ rfl, rfl⟩
    · (try simp only [Bool.not_eq_true', Bool.not_eq_false', decide_eq_false_iff_not, decide_eq_true_eq, bne_iff_ne, ne_eq, beq_iff_eq, beq_eq_false_iff_ne, bne_eq_false_iff_eq] at *)
      rw [h2]; (repeat' split) <;> first | rfl | omega
    · (try simp only [Bool.not_eq_true', Bool.not_eq_false', decide_eq_false_iff_not, decide_eq_true_eq, bne_iff_ne, ne_eq, beq_iff_eq, beq_eq_false_iff_ne, bne_eq_false_iff_eq] at *)
      rw [h3]; (repeat' split) <;> first | rfl | omega
theorem refForm_is (op f : Int) (w : World) (h0 : 0 ≤ op) (h1 : op < 27) (hf : formI op.toNat = f) :
    Calls Tryd.prog 31 #[.int .i64 op] w fun e w' => e = .returned (.tuple #[.int .i64 f, .int .i64 0]) ∧ w = w' := by
  subst hf
  exact refForm_any op w h0 h1
theorem refCheck_out (op a b c : Int) (w : World) (h : op < 0 ∨ 27 ≤ op) :
    Calls Tryd.prog 16 #[.agg #[.int .i64 op, .int .i64 a, .int .i64 b, .int .i64 c]] w fun e w' => e = .returned (.int .i64 11) ∧ Below w.heap.size w w' := by
  go_enter Tryd.func16, Tryd.ntmps16
  go_wp2_with (go_at_call 31; refine (refForm_out _ _ h).mono ?_; rintro e w' ⟨rfl, rfl⟩)
  go_ret
  exact ⟨rfl, (Below.refl _ _).alloc (Nat.le_refl _) _⟩
set_option maxHeartbeats 400000 in
theorem refCheck_f0 (op a b c : Int) (w : World) (h0 : 0 ≤ op) (h1 : op < 27) (e : formI op.toNat = 0) :
    Calls Tryd.prog 16 #[.agg #[.int .i64 op, .int .i64 a, .int .i64 b, .int .i64 c]] w fun e w' => e = .returned (.int .i64 (chkF 0 (lowI op.toNat) (highI op.toNat) a b c)) ∧ Below w.heap.size w w' := by
  have E := Lib.hid e
  clear e
  go_enter Tryd.func16, Tryd.ntmps16
  go_wp2_with (first | (go_at_call 31; refine (refForm_is _ _ _ h0 h1 E.out).mono ?_; rintro e w' ⟨rfl, rfl⟩) | go_in)
  all_goals
    go_ret
    refine ⟨ret_int ?_, (Below.refl _ _).alloc (Nat.le_refl _) _⟩
    (try simp only [Bool.not_eq_true', Bool.not_eq_false', decide_eq_false_iff_not, decide_eq_true_eq, bne_iff_ne, ne_eq, beq_iff_eq, beq_eq_false_iff_ne, bne_eq_false_iff_eq] at *)
    unfold chkF
    (repeat' split) <;> first | rfl | omega
set_option maxHeartbeats 400000 in
theorem refCheck_f1 (op a b c : Int) (w : World) (h0 : 0 ≤ op) (h1 : op < 27) (e : formI op.toNat = 1) :
    Calls Tryd.prog 16 #[.agg #[.int .i64 op, .int .i64 a, .int .i64 b, .int .i64 c]] w fun e w' => e = .returned (.int .i64 (chkF 1 (lowI op.toNat) (highI op.toNat) a b c)) ∧ Below w.heap.size w w' := by
  have E := Lib.hid e
  clear e
  go_enter Tryd.func16, Tryd.ntmps16
  go_wp2_with (first | (go_at_call 31; refine (refForm_is _ _ _ h0 h1 E.out).mono ?_; rintro e w' ⟨rfl, rfl⟩) | go_in)
  all_goals
    go_ret
    refine ⟨ret_int ?_, (Below.refl _ _).alloc (Nat.le_refl _) _⟩
    (try simp only [Bool.not_eq_true', Bool.not_eq_false', decide_eq_false_iff_not, decide_eq_true_eq, bne_iff_ne, ne_eq, beq_iff_eq, beq_eq_false_iff_ne, bne_eq_false_iff_eq] at *)
    unfold chkF
    (repeat' split) <;> first | rfl | omega
set_option maxHeartbeats 400000 in
theorem refCheck_f2 (op a b c : Int) (w : World) (h0 : 0 ≤ op) (h1 : op < 27) (e : formI op.toNat = 2) :
    Calls Tryd.prog 16 #[.agg #[.int .i64 op, .int .i64 a, .int .i64 b, .int .i64 c]] w fun e w' => e = .returned (.int .i64 (chkF 2 (lowI op.toNat) (highI op.toNat) a b c)) ∧ Below w.heap.size w w' := by
  have E := Lib.hid e
  clear e
  go_enter Tryd.func16, Tryd.ntmps16
  go_wp2_with (first | (go_at_call 31; refine (refForm_is _ _ _ h0 h1 E.out).mono ?_; rintro e w' ⟨rfl, rfl⟩) | go_in)
  all_goals
    go_ret
    refine ⟨ret_int ?_, (Below.refl _ _).alloc (Nat.le_refl _) _⟩
    (try simp only [Bool.not_eq_true', Bool.not_eq_false', decide_eq_false_iff_not, decide_eq_true_eq, bne_iff_ne, ne_eq, beq_iff_eq, beq_eq_false_iff_ne, bne_eq_false_iff_eq] at *)
    unfold chkF
    (repeat' split) <;> first | rfl | omega
set_option maxHeartbeats 400000 in
theorem refCheck_f3 (op a b c : Int) (w : World) (h0 : 0 ≤ op) (h1 : op < 27) (e : formI op.toNat = 3) :
    Calls Tryd.prog 16 #[.agg #[.int .i64 op, .int .i64 a, .int .i64 b, .int .i64 c]] w fun e w' => e = .returned (.int .i64 (chkF 3 (lowI op.toNat) (highI op.toNat) a b c)) ∧ Below w.heap.size w w' := by
  have E := Lib.hid e
  clear e
  go_enter Tryd.func16, Tryd.ntmps16
  go_wp2_with (first | (go_at_call 31; refine (refForm_is _ _ _ h0 h1 E.out).mono ?_; rintro e w' ⟨rfl, rfl⟩) | go_in)
  all_goals
    go_ret
    refine ⟨ret_int ?_, (Below.refl _ _).alloc (Nat.le_refl _) _⟩
    (try simp only [Bool.not_eq_true', Bool.not_eq_false', decide_eq_false_iff_not, decide_eq_true_eq, bne_iff_ne, ne_eq, beq_iff_eq, beq_eq_false_iff_ne, bne_eq_false_iff_eq] at *)
    unfold chkF
    (repeat' split) <;> first | rfl | omega
set_option maxHeartbeats 400000 in
theorem refCheck_f4 (op a b c : Int) (w : World) (h0 : 0 ≤ op) (h1 : op < 27) (e : formI op.toNat = 4) :
    Calls Tryd.prog 16 #[.agg #[.int .i64 op, .int .i64 a, .int .i64 b, .int .i64 c]] w fun e w' => e = .returned (.int .i64 (chkF 4 (lowI op.toNat) (highI op.toNat) a b c)) ∧ Below w.heap.size w w' := by
  have E := Lib.hid e
  have HF := Lib.hid (show 4 ≤ formI op.toNat by rw [e]; decide)
  clear e
  go_enter Tryd.func16, Tryd.ntmps16
  go_wp2_with (first | (go_at_call 31; refine (refForm_is _ _ _ h0 h1 E.out).mono ?_; rintro e w' ⟨rfl, rfl⟩) | (go_at_call 33; refine (refLimits_any _ _ h0 h1 HF.out).mono ?_; rintro e w' ⟨rfl, rfl⟩) | go_in)
  all_goals
    go_ret
    refine ⟨ret_int ?_, (Below.refl _ _).alloc (Nat.le_refl _) _⟩
    (try simp only [Bool.not_eq_true', Bool.not_eq_false', decide_eq_false_iff_not, decide_eq_true_eq, bne_iff_ne, ne_eq, beq_iff_eq, beq_eq_false_iff_ne, bne_eq_false_iff_eq] at *)
    unfold chkF
    (repeat' split) <;> first | rfl | omega
set_option maxHeartbeats 400000 in
theorem refCheck_f5 (op a b c : Int) (w : World) (h0 : 0 ≤ op) (h1 : op < 27) (e : formI op.toNat = 5) :
    Calls Tryd.prog 16 #[.agg #[.int .i64 op, .int .i64 a, .int .i64 b, .int .i64 c]] w fun e w' => e = .returned (.int .i64 (chkF 5 (lowI op.toNat) (highI op.toNat) a b c)) ∧ Below w.heap.size w w' := by
  have E := Lib.hid e
  have HF := Lib.hid (show 4 ≤ formI op.toNat by rw [e]; decide)
  clear e
  go_enter Tryd.func16, Tryd.ntmps16
  go_wp2_with (first | (go_at_call 31; refine (refForm_is _ _ _ h0 h1 E.out).mono ?_; rintro e w' ⟨rfl, rfl⟩) | (go_at_call 33; refine (refLimits_any _ _ h0 h1 HF.out).mono ?_; rintro e w' ⟨rfl, rfl⟩) | go_in)
  all_goals
    go_ret
    refine ⟨ret_int ?_, (Below.refl _ _).alloc (Nat.le_refl _) _⟩
    (try simp only [Bool.not_eq_true', Bool.not_eq_false', decide_eq_false_iff_not, decide_eq_true_eq, bne_iff_ne, ne_eq, beq_iff_eq, beq_eq_false_iff_ne, bne_eq_false_iff_eq] at *)
    unfold chkF
    (repeat' split) <;> first | rfl | omega
set_option maxHeartbeats 400000 in
theorem refCheck_f6 (op a b c : Int) (w : World) (h0 : 0 ≤ op) (h1 : op < 27) (e : formI op.toNat = 6) :
    Calls Tryd.prog 16 #[.agg #[.int .i64 op, .int .i64 a, .int .i64 b, .int .i64 c]] w fun e w' => e = .returned (.int .i64 (chkF 6 (lowI op.toNat) (highI op.toNat) a b c)) ∧ Below w.heap.size w w' := by
  have E := Lib.hid e
  have HF := Lib.hid (show 4 ≤ formI op.toNat by rw [e]; decide)
  clear e
  go_enter Tryd.func16, Tryd.ntmps16
  go_wp2_with (first | (go_at_call 31; refine (refForm_is _ _ _ h0 h1 E.out).mono ?_; rintro e w' ⟨rfl, rfl⟩) | (go_at_call 33; refine (refLimits_any _ _ h0 h1 HF.out).mono ?_; rintro e w' ⟨rfl, rfl⟩) | go_in)
  all_goals
    go_ret
    refine ⟨ret_int ?_, (Below.refl _ _).alloc (Nat.le_refl _) _⟩
    (try simp only [Bool.not_eq_true', Bool.not_eq_false', decide_eq_false_iff_not, decide_eq_true_eq, bne_iff_ne, ne_eq, beq_iff_eq, beq_eq_false_iff_ne, bne_eq_false_iff_eq] at *)
    unfold chkF
    (repeat' split) <;> first | rfl | omega
theorem refCheck_any (op a b c : Int) (w : World) :
    Calls Tryd.prog 16 #[.agg #[.int .i64 op, .int .i64 a, .int .i64 b, .int .i64 c]] w fun e w' => e = .returned (.int .i64 (chk op a b c)) ∧ Below w.heap.size w w' := by
  by_cases h : 0 ≤ op ∧ op < 27
  · rw [chk_in a b c h.1 h.2]
    rcases form_cases op.toNat (by omega) with e | e | e | e | e | e | e
    all_goals rw [e]
    · exact refCheck_f0 op a b c w h.1 h.2 e
    · exact refCheck_f1 op a b c w h.1 h.2 e
    · exact refCheck_f2 op a b c w h.1 h.2 e
    · exact refCheck_f3 op a b c w h.1 h.2 e
    · exact refCheck_f4 op a b c w h.1 h.2 e
    · exact refCheck_f5 op a b c w h.1 h.2 e
    · exact refCheck_f6 op a b c w h.1 h.2 e
  · rw [chk_out a b c (by omega)]
    exact refCheck_out op a b c w (by omega)
end Go.Proofs.YtagmeijpelffcaaDoor
