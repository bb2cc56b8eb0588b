/- Walks of layer 47: names of ports and processes. -/
import Derived.Test.YtmjkcanjfjfkfaaE1
import Derived.Test.YtmjkcanjfjfkfaaP1
namespace Go.Proofs.Ytmjkcanjfjfkfaa
open Go.RowKit
set_option linter.unusedSimpArgs false
set_option linter.unusedVariables false
attribute [local go_sem ↓] Go.wp_at_zero Go.wp_at_succ
theorem ofport_is (n : Int) (w : World) : Calls Try.prog 41 #[.int .i64 n] w fun e w' => e = .returned (nmV (prtN n)) ∧ Below w.heap.size w w' := by
  go_enter Try.func41, Try.ntmps41
  go_wp2
  exact bodyPost_ret (v := nmV (prtN n)) (by simp [results, Try.results41, go_sem, nmV, nmA, prtN, bs]) rfl ⟨rfl, (Below.refl _ _).alloc (Nat.le_refl _) _⟩
theorem ofproc_is (s : Bs) (w : World) : Calls Try.prog 17 #[.string (bs s)] w fun e w' => e = .returned (nmV (prcN s)) ∧ Below w.heap.size w w' := by
  go_enter Try.func17, Try.ntmps17
  go_wp2
  exact bodyPost_ret (v := nmV (prcN s)) (by simp [results, Try.results17, go_sem, nmV, nmA, prcN, bs]) rfl ⟨rfl, (Below.refl _ _).alloc (Nat.le_refl _) _⟩
theorem port_is (i : Int) (h0 : 0 ≤ i) (h1 : i ≤ 100) (w : World) : Calls Try.prog 16 #[.int .i64 i] w fun e w' => e = .returned (nmV (prtN (1 + i))) ∧ Below w.heap.size w w' := by
  have HP := Lib.hid (fun W => ofport_is (1 + i) W)
  have z := Blk.new w 41 #[.int .i64 0, .string ⟨#[]⟩, .int .i64 0, .int .i64 0, .string ⟨#[]⟩]
  have hb := (Below.refl w.heap.size w).alloc (Nat.le_refl _) (.cells #[.int .i64 0, .string ⟨#[]⟩, .int .i64 0, .int .i64 0, .string ⟨#[]⟩] 41)
  have HB := Lib.hid hb
  have Z := Lib.hid z
  clear z hb
  unfold nmV nmA at HP
  go_enter Try.func16, Try.ntmps16
  go_wp2_with fail
  refine (HP.out _).mono ?_
  rintro e w1 ⟨rfl, hb1⟩
  obtain ⟨hc1, hf1⟩ := bcell hb1
  have hz1 := Nat.lt_of_lt_of_le Z.out.lt hb1.size
  have Z1 := Lib.hid (Z.out.next hb1 Z.out.lt)
  have z0 := Z1.out.cell 0
  have z1 := Z1.out.cell 1
  have z2 := Z1.out.cell 2
  have z3 := Z1.out.cell 3
  have z4 := Z1.out.cell 4
  have f0 := Z1.out.frozen 0
  have f1 := Z1.out.frozen 1
  have f2 := Z1.out.frozen 2
  have f3 := Z1.out.frozen 3
  have f4 := Z1.out.frozen 4
  simp only [List.getElem?_toArray, List.getElem?_cons_zero, List.getElem?_cons_succ] at z0 z1 z2 z3 z4
  have HB1 := Lib.hid (HB.out.trans (hb1.mono HB.out.size))
  clear hb1 hc1 hf1
  unfold prtN
  go_wp2_with fail
  clear z0 z1 z2 z3 z4 f0 f1 f2 f3 f4
  have P0 := (Z1.out).set_ 0 (.int .i64 16)
  have P1 := (P0).set_ 1 (.string (bs []))
  have P2 := (P1).set_ 2 (.int .i64 (1 + i))
  have P3 := (P2).set_ 3 (.int .i64 0)
  have P4 := (P3).set_ 4 (.string (bs []))
  have q0 := P4.cell 0
  have q1 := P4.cell 1
  have q2 := P4.cell 2
  have q3 := P4.cell 3
  have q4 := P4.cell 4
  simp only [List.setIfInBounds_toArray, List.set_cons_zero, List.set_cons_succ, List.getElem?_toArray, List.getElem?_cons_zero, List.getElem?_cons_succ] at q0 q1 q2 q3 q4
  have HBE := Lib.hid (((((HB1.out.setCell (p := ⟨w.heap.size, 0, none⟩) (Nat.le_refl _) (.int .i64 16)).setCell (p := ⟨w.heap.size, 1, none⟩) (Nat.le_refl _) (.string (bs []))).setCell (p := ⟨w.heap.size, 2, none⟩) (Nat.le_refl _) (.int .i64 (1 + i))).setCell (p := ⟨w.heap.size, 3, none⟩) (Nat.le_refl _) (.int .i64 0)).setCell (p := ⟨w.heap.size, 4, none⟩) (Nat.le_refl _) (.string (bs [])))
  clear P0 P1 P2 P3 P4
  generalize (((((w1.setCell ⟨w.heap.size, 0, none⟩ (.int .i64 16)).setCell ⟨w.heap.size, 1, none⟩ (.string (bs []))).setCell ⟨w.heap.size, 2, none⟩ (.int .i64 (1 + i))).setCell ⟨w.heap.size, 3, none⟩ (.int .i64 0)).setCell ⟨w.heap.size, 4, none⟩ (.string (bs []))) = W2 at *
  exact bodyPost_ret (v := nmV (prtN (1 + i))) (by simp [results, Try.results16, go_sem, nmV, nmA, prtN, q0, q1, q2, q3, q4]) rfl ⟨rfl, HBE.out⟩
theorem who_is (n : Nat) (h0 : 1 ≤ n) (h1 : n < 256) (w : World) : Calls Try.prog 18 #[.int .u8 n] w fun e w' => e = .returned (.string (bs (whoS n))) ∧ Below w.heap.size w w' := by
  have h3 : (n - 1) % 3 = 0 ∨ (n - 1) % 3 = 1 ∨ (n - 1) % 3 = 2 := by omega
  unfold whoS
  rcases h3 with h | h | h
  all_goals
    rw [h]
    have e1 := Lib.hid h
    go_enter Try.func18, Try.ntmps18
    go_wp2_with fail
    go_ret
    exact ⟨rfl, (Below.refl _ _).alloc (Nat.le_refl _) _⟩
end Go.Proofs.Ytmjkcanjfjfkfaa
