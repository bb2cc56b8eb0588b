/- The law InstrRegisters, walked. -/
import Derived.Test.YtagmeijpelffcaaDoorW20
import Derived.Test.YtagmeijpelffcaaDoorL1
namespace Go.Proofs.YtagmeijpelffcaaDoor
open Go.RowKit Go.Sort
set_option linter.unusedSimpArgs false
set_option linter.unusedVariables false
def ReadsTo (F : FuncId) (op a b c : Int) (L : List Int) : Prop := ∀ w, OpsAt w → Calls Tryd.prog F #[.agg #[.int .i64 op, .int .i64 a, .int .i64 b, .int .i64 c]] w fun e w' => (∃ v, e = .returned v ∧ Reads w' w.heap.size v L) ∧ Below w.heap.size w w'
theorem reads_both (op a b c : Int) : ∃ L : List Int, L.length ≤ 8 ∧ ReadsTo 42 op a b c L ∧ ReadsTo 43 op a b c L := by
  by_cases h : chk op a b c = 0
  · obtain ⟨h0, h1, a0, a1, b0, b1, _⟩ := chk_zero h
    have hu := uses_of op h0 h1
    rcases uses_form op.toNat (by omega) with ⟨u, f | f | f⟩ | ⟨u, f | f | f | f | f | f⟩
    · refine ⟨incr [a], by rw [incr_one a a0 a1]; exact regs_len _ 8, fun w ho => reads_u4 op a b c w ho h u f, fun w ho => ?_⟩
      rw [u] at hu
      have hop := of_decide_eq_true hu.symm
      rw [incr_one a a0 a1]
      rcases hop with rfl | rfl | rfl | rfl | rfl | rfl
      · exact refReads_op3 a b c w h
      · exact absurd f (by decide)
      · exact absurd f (by decide)
      · exact refReads_op22 a b c w h
      · exact refReads_op23 a b c w h
      · exact absurd f (by decide)
    · refine ⟨incr [a, b], by rw [incr_two a b a0 a1 b0 b1]; exact regs_len _ 8, fun w ho => reads_u5 op a b c w ho h u f, fun w ho => ?_⟩
      rw [u] at hu
      have hop := of_decide_eq_true hu.symm
      rw [incr_two a b a0 a1 b0 b1]
      rcases hop with rfl | rfl | rfl | rfl | rfl | rfl
      · exact absurd f (by decide)
      · exact refReads_op18 a b c w h
      · exact refReads_op20 a b c w h
      · exact absurd f (by decide)
      · exact absurd f (by decide)
      · exact absurd f (by decide)
    · refine ⟨incr [a], by rw [incr_one a a0 a1]; exact regs_len _ 8, fun w ho => reads_u1 op a b c w ho h u f, fun w ho => ?_⟩
      rw [u] at hu
      have hop := of_decide_eq_true hu.symm
      rw [incr_one a a0 a1]
      rcases hop with rfl | rfl | rfl | rfl | rfl | rfl
      · exact absurd f (by decide)
      · exact absurd f (by decide)
      · exact absurd f (by decide)
      · exact absurd f (by decide)
      · exact absurd f (by decide)
      · exact refReads_op25 a b c w h
    all_goals
      have hn := of_decide_eq_false (hu.symm.trans u)
      have n3 : (op == 3) = false := by simp; omega
      have n18 : (op == 18) = false := by simp; omega
      have n20 : (op == 20) = false := by simp; omega
      have n22 : (op == 22) = false := by simp; omega
      have n23 : (op == 23) = false := by simp; omega
      have n25 : (op == 25) = false := by simp; omega
    · exact ⟨[], by simp, fun w ho => reads_n0 op a b c w ho h u f, fun w ho => by rw [← regs_none]; exact refReads_n0 op a b c w h f n3 n18 n20 n22 n23 n25⟩
    · exact ⟨incr [b], by rw [incr_one b b0 b1]; exact regs_len _ 8, fun w ho => reads_n2 op a b c w ho h u f, fun w ho => by rw [incr_one b b0 b1]; exact refReads_n2 op a b c w h f n3 n18 n20 n22 n23 n25⟩
    · exact ⟨[], by simp, fun w ho => reads_n4 op a b c w ho h u f, fun w ho => by rw [← regs_none]; exact refReads_n4 op a b c w h f n3 n18 n20 n22 n23 n25⟩
    · obtain ⟨c0, c1⟩ := chk_c h f
      exact ⟨incr [b, c], by rw [incr_two b c b0 b1 c0 c1]; exact regs_len _ 8, fun w ho => reads_n3 op a b c w ho h u f, fun w ho => by rw [incr_two b c b0 b1 c0 c1]; exact refReads_n3 op a b c w h f n3 n18 n20 n22 n23 n25⟩
    · exact ⟨incr [b], by rw [incr_one b b0 b1]; exact regs_len _ 8, fun w ho => reads_n5 op a b c w ho h u f, fun w ho => by rw [incr_one b b0 b1]; exact refReads_n5 op a b c w h f n3 n18 n20 n22 n23 n25⟩
    · exact ⟨[], by simp, fun w ho => reads_n6 op a b c w ho h u f, fun w ho => by rw [← regs_none]; exact refReads_n6 op a b c w h f n3 n18 n20 n22 n23 n25⟩
  · exact ⟨[], by simp, fun w ho => reads_no op a b c w ho h, fun w ho => refReads_no op a b c w h⟩
theorem writes_both (op a b c : Int) : ∃ L : List Int, L.length ≤ 8 ∧ ReadsTo 44 op a b c L ∧ ReadsTo 45 op a b c L := by
  by_cases h : chk op a b c = 0
  · obtain ⟨h0, h1, a0, a1, _⟩ := chk_zero h
    have hs := sets_of op h0 h1
    cases hq : setsB op.toNat with
    | true =>
      have hp := of_decide_eq_true (hs.symm.trans hq)
      exact ⟨[a], by simp, fun w ho => writes_yes op a b c w ho h hq, fun w ho => by rw [← regs_one a a0 a1]; exact refWrites_yes op a b c w h hp⟩
    | false =>
      have hp := of_decide_eq_false (hs.symm.trans hq)
      exact ⟨[], by simp, fun w ho => writes_not op a b c w ho h hq, fun w ho => by rw [← regs_none]; exact refWrites_not op a b c w h hp⟩
  · exact ⟨[], by simp, fun w ho => writes_no op a b c w ho h, fun w ho => by rw [← regs_none]; exact refWrites_no op a b c w h⟩
set_option maxHeartbeats 2000000 in
theorem registers_walk (op a b c : Int) (w : World) (ho : OpsAt w) :
    Calls Tryd.prog 12 #[.agg #[.int .i64 op, .int .i64 a, .int .i64 b, .int .i64 c]] w fun e w' => e = .returned (.bool true) ∧ Below w.heap.size w w' := by
  obtain ⟨L, hL, r1, r2⟩ := reads_both op a b c
  obtain ⟨M, hM, s1, s2⟩ := writes_both op a b c
  have hk0 := Kept.start ho op a b c
  go_enter Tryd.func12, Tryd.ntmps12
  go_wp2
  go_region_held3 (fun w' => Kept w op a b c w' ∧ w'.cell? ⟨w.heap.size, 0, none⟩ = some (.int .i64 op) ∧ w'.cell? ⟨w.heap.size, 1, none⟩ = some (.int .i64 a) ∧ w'.cell? ⟨w.heap.size, 2, none⟩ = some (.int .i64 b) ∧ w'.cell? ⟨w.heap.size, 3, none⟩ = some (.int .i64 c))
    (first | (with_reducible exact ⟨hk0, Kept.cell hk0⟩) | (with_reducible exact ⟨Kept.drew hk0, Kept.cell (Kept.drew hk0)⟩) | (with_reducible exact ⟨hk1, Kept.cell hk1⟩) | (with_reducible exact ⟨hk2, Kept.cell hk2⟩) | (with_reducible exact ⟨hk3, Kept.cell hk3⟩) | (with_reducible exact ⟨hk4, Kept.cell hk4⟩) | (with_reducible exact ⟨hk5, Kept.cell hk5⟩) | (with_reducible exact ⟨hk6, Kept.cell hk6⟩) | (with_reducible exact ⟨hk7, Kept.cell hk7⟩) | (with_reducible exact ⟨hk8, Kept.cell hk8⟩) | (with_reducible exact ⟨hk9, Kept.cell hk9⟩))
    (first | (go_at_call 13; refine (known_any _ hk0.drew.1).mono ?_; rintro e w1 ⟨rfl, b1⟩; have hk1 := hk0.drew.next b1) | (go_at_call 14; have hq := hk5; refine (to_any _ _ _ _ _).mono ?_; rintro e w6 ⟨rfl, b6⟩; have hk6 := hk5.next b6; clear hq) | (go_at_call 14; refine (to_any _ _ _ _ _).mono ?_; rintro e w2 ⟨rfl, b2⟩; have hk2 := hk1.next b2) | (go_at_call 42; refine (r1 _ hk2.1).mono ?_; rintro e w3 ⟨⟨v, rfl, hv⟩, b3⟩; have hk3 := hk2.next b3) | (go_at_call 43; refine (r2 _ hk3.1).mono ?_; rintro e w4 ⟨⟨u, rfl, hu⟩, b4⟩; have hk4 := hk3.next b4; have hv4 := hv.next b4) | (go_at_call 41; have hq := hk8; refine (same_any _ _ M _ _ _ hv8 hu8 hM).mono ?_; rintro e w9 ⟨rfl, b9⟩; have hk9 := hk8.next b9; clear hq) | (go_at_call 41; refine (same_any _ _ L _ _ _ hv4 hu hL).mono ?_; rintro e w5 ⟨rfl, b5⟩; have hk5 := hk4.next b5) | (go_at_call 44; refine (s1 _ hk6.1).mono ?_; rintro e w7 ⟨⟨v', rfl, hv'⟩, b7⟩; have hk7 := hk6.next b7) | (go_at_call 45; refine (s2 _ hk7.1).mono ?_; rintro e w8 ⟨⟨u', rfl, hu8⟩, b8⟩; have hk8 := hk7.next b8; have hv8 := hv'.next b8))
  go_wp2
  go_ret
  exact ⟨rfl, hk9.below⟩
end Go.Proofs.YtagmeijpelffcaaDoor
