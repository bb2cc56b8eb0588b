/- Walks of layer 16: To, Check of the program; Form, Limits, Check of the reference: each returns what the plain function says. -/
import Derived.Test.YtagmeijpelffcaaDoorProg
import Derived.Test.YtagmeijpelffcaaDoorPlain
import Derived.WalkKit
import Derived.WalkLawsBesides
import Derived.WalkSpells
import Derived.Outline
namespace Go.Proofs.YtagmeijpelffcaaDoor
open Go.RowKit
set_option linter.unusedSimpArgs false
set_option linter.unusedVariables false
theorem ret_int {k : IntKind} {a b : Int} (h : a = b) : Ending.returned (.int k a) = .returned (.int k b) := by rw [h]
theorem ret_int2 {k j : IntKind} {a b c d : Int} (h : a = b) (h' : c = d) : Ending.returned (.tuple #[.int k a, .int j c]) = .returned (.tuple #[.int k b, .int j d]) := by rw [h, h']
theorem to_any (op a b c : Int) (w : World) :
    Calls Tryd.prog 14 #[.agg #[.int .i64 op, .int .i64 a, .int .i64 b, .int .i64 c]] w fun e w' => e = .returned (.agg #[.int .i64 op, .int .i64 a, .int .i64 b, .int .i64 c]) ∧ Below w.heap.size w w' := by
  go_enter Tryd.func14, Tryd.ntmps14
  go_wp2
  exact bodyPost_ret (v := .agg #[.int .i64 op, .int .i64 a, .int .i64 b, .int .i64 c]) (by simp [results, Tryd.results14, go_sem]) rfl ⟨rfl, ((Below.refl _ _).alloc (Nat.le_refl _) _).alloc (by simp) _⟩
theorem of_any (op a b c : Int) (w : World) :
    Calls Tryd.prog 26 #[.agg #[.int .i64 op, .int .i64 a, .int .i64 b, .int .i64 c]] w fun e w' => e = .returned (.agg #[.int .i64 op, .int .i64 a, .int .i64 b, .int .i64 c]) ∧ Below w.heap.size w w' := by
  go_enter Tryd.func26, Tryd.ntmps26
  go_wp2
  exact bodyPost_ret (v := .agg #[.int .i64 op, .int .i64 a, .int .i64 b, .int .i64 c]) (by simp [results, Tryd.results26, go_sem]) rfl ⟨rfl, ((Below.refl _ _).alloc (Nat.le_refl _) _).alloc (by simp) _⟩
theorem check_out (op a b c : Int) (w : World) (h : op < 0 ∨ 27 ≤ op) :
    Calls Tryd.prog 15 #[.agg #[.int .i64 op, .int .i64 a, .int .i64 b, .int .i64 c]] w fun e w' => e = .returned (.int .i64 11) ∧ Below w.heap.size w w' := by
  rcases h with h | h
  · go_enter Tryd.func15, Tryd.ntmps15
    go_wp2
    go_ret
    exact ⟨rfl, ((Below.refl _ _).alloc (Nat.le_refl _) _)⟩
  · have h' : decide (op < 27) = false := by simp; omega
    have h0 : 0 ≤ op := by omega
    go_enter Tryd.func15, Tryd.ntmps15
    go_wp2
    go_ret
    exact ⟨rfl, ((Below.refl _ _).alloc (Nat.le_refl _) _)⟩
theorem check_f0 (op a b c lo hi : Int) (s : ByteArray) (u v : Bool) (w : World) (h0 : 0 ≤ op) (h1 : op < 27) (hs : 0 < w.heap.size)
   (c0 : w.cell? ⟨0, op.toNat * 6, none⟩ = some (.string s))
   (c1 : w.cell? ⟨0, op.toNat * 6 + 1, none⟩ = some (.int .i64 0))
   (c2 : w.cell? ⟨0, op.toNat * 6 + 2, none⟩ = some (.int .i64 lo))
   (c3 : w.cell? ⟨0, op.toNat * 6 + 3, none⟩ = some (.int .i64 hi))
   (c4 : w.cell? ⟨0, op.toNat * 6 + 4, none⟩ = some (.bool u))
   (c5 : w.cell? ⟨0, op.toNat * 6 + 5, none⟩ = some (.bool v)) :
    Calls Tryd.prog 15 #[.agg #[.int .i64 op, .int .i64 a, .int .i64 b, .int .i64 c]] w fun e w' => e = .returned (.int .i64 (chkF 0 lo hi a b c)) ∧ Below w.heap.size w w' := by
  go_enter Tryd.func15, Tryd.ntmps15
  go_wp2
  all_goals
    go_ret
    refine ⟨ret_int ?_, ((Below.refl _ _).alloc (Nat.le_refl _) _).alloc (by simp) _⟩
    clear c0 c1 c2 c3 c4 c5 hs h0 h1
    (try simp only [Bool.not_eq_true', Bool.not_eq_false', decide_eq_false_iff_not, decide_eq_true_eq, bne_iff_ne, ne_eq, beq_iff_eq, beq_eq_false_iff_ne, bne_eq_false_iff_eq] at *)
    unfold chkF
    (repeat' split) <;> first | rfl | omega
theorem check_f1 (op a b c lo hi : Int) (s : ByteArray) (u v : Bool) (w : World) (h0 : 0 ≤ op) (h1 : op < 27) (hs : 0 < w.heap.size)
   (c0 : w.cell? ⟨0, op.toNat * 6, none⟩ = some (.string s))
   (c1 : w.cell? ⟨0, op.toNat * 6 + 1, none⟩ = some (.int .i64 1))
   (c2 : w.cell? ⟨0, op.toNat * 6 + 2, none⟩ = some (.int .i64 lo))
   (c3 : w.cell? ⟨0, op.toNat * 6 + 3, none⟩ = some (.int .i64 hi))
   (c4 : w.cell? ⟨0, op.toNat * 6 + 4, none⟩ = some (.bool u))
   (c5 : w.cell? ⟨0, op.toNat * 6 + 5, none⟩ = some (.bool v)) :
    Calls Tryd.prog 15 #[.agg #[.int .i64 op, .int .i64 a, .int .i64 b, .int .i64 c]] w fun e w' => e = .returned (.int .i64 (chkF 1 lo hi a b c)) ∧ Below w.heap.size w w' := by
  go_enter Tryd.func15, Tryd.ntmps15
  go_wp2
  all_goals
    go_ret
    refine ⟨ret_int ?_, ((Below.refl _ _).alloc (Nat.le_refl _) _).alloc (by simp) _⟩
    clear c0 c1 c2 c3 c4 c5 hs h0 h1
    (try simp only [Bool.not_eq_true', Bool.not_eq_false', decide_eq_false_iff_not, decide_eq_true_eq, bne_iff_ne, ne_eq, beq_iff_eq, beq_eq_false_iff_ne, bne_eq_false_iff_eq] at *)
    unfold chkF
    (repeat' split) <;> first | rfl | omega
theorem check_f2 (op a b c lo hi : Int) (s : ByteArray) (u v : Bool) (w : World) (h0 : 0 ≤ op) (h1 : op < 27) (hs : 0 < w.heap.size)
   (c0 : w.cell? ⟨0, op.toNat * 6, none⟩ = some (.string s))
   (c1 : w.cell? ⟨0, op.toNat * 6 + 1, none⟩ = some (.int .i64 2))
   (c2 : w.cell? ⟨0, op.toNat * 6 + 2, none⟩ = some (.int .i64 lo))
   (c3 : w.cell? ⟨0, op.toNat * 6 + 3, none⟩ = some (.int .i64 hi))
   (c4 : w.cell? ⟨0, op.toNat * 6 + 4, none⟩ = some (.bool u))
   (c5 : w.cell? ⟨0, op.toNat * 6 + 5, none⟩ = some (.bool v)) :
    Calls Tryd.prog 15 #[.agg #[.int .i64 op, .int .i64 a, .int .i64 b, .int .i64 c]] w fun e w' => e = .returned (.int .i64 (chkF 2 lo hi a b c)) ∧ Below w.heap.size w w' := by
  go_enter Tryd.func15, Tryd.ntmps15
  go_wp2
  all_goals
    go_ret
    refine ⟨ret_int ?_, ((Below.refl _ _).alloc (Nat.le_refl _) _).alloc (by simp) _⟩
    clear c0 c1 c2 c3 c4 c5 hs h0 h1
    (try simp only [Bool.not_eq_true', Bool.not_eq_false', decide_eq_false_iff_not, decide_eq_true_eq, bne_iff_ne, ne_eq, beq_iff_eq, beq_eq_false_iff_ne, bne_eq_false_iff_eq] at *)
    unfold chkF
    (repeat' split) <;> first | rfl | omega
theorem check_f3 (op a b c lo hi : Int) (s : ByteArray) (u v : Bool) (w : World) (h0 : 0 ≤ op) (h1 : op < 27) (hs : 0 < w.heap.size)
   (c0 : w.cell? ⟨0, op.toNat * 6, none⟩ = some (.string s))
   (c1 : w.cell? ⟨0, op.toNat * 6 + 1, none⟩ = some (.int .i64 3))
   (c2 : w.cell? ⟨0, op.toNat * 6 + 2, none⟩ = some (.int .i64 lo))
   (c3 : w.cell? ⟨0, op.toNat * 6 + 3, none⟩ = some (.int .i64 hi))
   (c4 : w.cell? ⟨0, op.toNat * 6 + 4, none⟩ = some (.bool u))
   (c5 : w.cell? ⟨0, op.toNat * 6 + 5, none⟩ = some (.bool v)) :
    Calls Tryd.prog 15 #[.agg #[.int .i64 op, .int .i64 a, .int .i64 b, .int .i64 c]] w fun e w' => e = .returned (.int .i64 (chkF 3 lo hi a b c)) ∧ Below w.heap.size w w' := by
  go_enter Tryd.func15, Tryd.ntmps15
  go_wp2
  all_goals
    go_ret
    refine ⟨ret_int ?_, ((Below.refl _ _).alloc (Nat.le_refl _) _).alloc (by simp) _⟩
    clear c0 c1 c2 c3 c4 c5 hs h0 h1
    (try simp only [Bool.not_eq_true', Bool.not_eq_false', decide_eq_false_iff_not, decide_eq_true_eq, bne_iff_ne, ne_eq, beq_iff_eq, beq_eq_false_iff_ne, bne_eq_false_iff_eq] at *)
    unfold chkF
    (repeat' split) <;> first | rfl | omega
theorem check_f4 (op a b c lo hi : Int) (s : ByteArray) (u v : Bool) (w : World) (h0 : 0 ≤ op) (h1 : op < 27) (hs : 0 < w.heap.size)
   (c0 : w.cell? ⟨0, op.toNat * 6, none⟩ = some (.string s))
   (c1 : w.cell? ⟨0, op.toNat * 6 + 1, none⟩ = some (.int .i64 4))
   (c2 : w.cell? ⟨0, op.toNat * 6 + 2, none⟩ = some (.int .i64 lo))
   (c3 : w.cell? ⟨0, op.toNat * 6 + 3, none⟩ = some (.int .i64 hi))
   (c4 : w.cell? ⟨0, op.toNat * 6 + 4, none⟩ = some (.bool u))
   (c5 : w.cell? ⟨0, op.toNat * 6 + 5, none⟩ = some (.bool v)) :
    Calls Tryd.prog 15 #[.agg #[.int .i64 op, .int .i64 a, .int .i64 b, .int .i64 c]] w fun e w' => e = .returned (.int .i64 (chkF 4 lo hi a b c)) ∧ Below w.heap.size w w' := by
  go_enter Tryd.func15, Tryd.ntmps15
  go_wp2
  all_goals
    go_ret
    refine ⟨ret_int ?_, ((Below.refl _ _).alloc (Nat.le_refl _) _).alloc (by simp) _⟩
    clear c0 c1 c2 c3 c4 c5 hs h0 h1
    (try simp only [Bool.not_eq_true', Bool.not_eq_false', decide_eq_false_iff_not, decide_eq_true_eq, bne_iff_ne, ne_eq, beq_iff_eq, beq_eq_false_iff_ne, bne_eq_false_iff_eq] at *)
    unfold chkF
    (repeat' split) <;> first | rfl | omega
theorem check_f5 (op a b c lo hi : Int) (s : ByteArray) (u v : Bool) (w : World) (h0 : 0 ≤ op) (h1 : op < 27) (hs : 0 < w.heap.size)
   (c0 : w.cell? ⟨0, op.toNat * 6, none⟩ = some (.string s))
   (c1 : w.cell? ⟨0, op.toNat * 6 + 1, none⟩ = some (.int .i64 5))
   (c2 : w.cell? ⟨0, op.toNat * 6 + 2, none⟩ = some (.int .i64 lo))
   (c3 : w.cell? ⟨0, op.toNat * 6 + 3, none⟩ = some (.int .i64 hi))
   (c4 : w.cell? ⟨0, op.toNat * 6 + 4, none⟩ = some (.bool u))
   (c5 : w.cell? ⟨0, op.toNat * 6 + 5, none⟩ = some (.bool v)) :
    Calls Tryd.prog 15 #[.agg #[.int .i64 op, .int .i64 a, .int .i64 b, .int .i64 c]] w fun e w' => e = .returned (.int .i64 (chkF 5 lo hi a b c)) ∧ Below w.heap.size w w' := by
  go_enter Tryd.func15, Tryd.ntmps15
  go_wp2
  all_goals
    go_ret
    refine ⟨ret_int ?_, ((Below.refl _ _).alloc (Nat.le_refl _) _).alloc (by simp) _⟩
    clear c0 c1 c2 c3 c4 c5 hs h0 h1
    (try simp only [Bool.not_eq_true', Bool.not_eq_false', decide_eq_false_iff_not, decide_eq_true_eq, bne_iff_ne, ne_eq, beq_iff_eq, beq_eq_false_iff_ne, bne_eq_false_iff_eq] at *)
    unfold chkF
    (repeat' split) <;> first | rfl | omega
theorem check_f6 (op a b c lo hi : Int) (s : ByteArray) (u v : Bool) (w : World) (h0 : 0 ≤ op) (h1 : op < 27) (hs : 0 < w.heap.size)
   (c0 : w.cell? ⟨0, op.toNat * 6, none⟩ = some (.string s))
   (c1 : w.cell? ⟨0, op.toNat * 6 + 1, none⟩ = some (.int .i64 6))
   (c2 : w.cell? ⟨0, op.toNat * 6 + 2, none⟩ = some (.int .i64 lo))
   (c3 : w.cell? ⟨0, op.toNat * 6 + 3, none⟩ = some (.int .i64 hi))
   (c4 : w.cell? ⟨0, op.toNat * 6 + 4, none⟩ = some (.bool u))
   (c5 : w.cell? ⟨0, op.toNat * 6 + 5, none⟩ = some (.bool v)) :
    Calls Tryd.prog 15 #[.agg #[.int .i64 op, .int .i64 a, .int .i64 b, .int .i64 c]] w fun e w' => e = .returned (.int .i64 (chkF 6 lo hi a b c)) ∧ Below w.heap.size w w' := by
  go_enter Tryd.func15, Tryd.ntmps15
  go_wp2
  all_goals
    go_ret
    refine ⟨ret_int ?_, ((Below.refl _ _).alloc (Nat.le_refl _) _).alloc (by simp) _⟩
    clear c0 c1 c2 c3 c4 c5 hs h0 h1
    (try simp only [Bool.not_eq_true', Bool.not_eq_false', decide_eq_false_iff_not, decide_eq_true_eq, bne_iff_ne, ne_eq, beq_iff_eq, beq_eq_false_iff_ne, bne_eq_false_iff_eq] at *)
    unfold chkF
    (repeat' split) <;> first | rfl | omega
end Go.Proofs.YtagmeijpelffcaaDoor
