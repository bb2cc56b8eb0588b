/- Walks of layer 16: Calculate of the reference: it returns what the plain function says. -/
import Derived.Test.YtagmeijpelffcaaDoorW8
namespace Go.Proofs.YtagmeijpelffcaaDoor
open Go.RowKit
set_option linter.unusedSimpArgs false
set_option linter.unusedVariables false
set_option maxHeartbeats 400000 in
theorem refCalc_4 (x y : Int) (w : World) (h0 : 0 ≤ x) (h1 : x < 4294967296) (h2 : 0 ≤ y) (h3 : y < 4294967296) :
    Calls Tryd.prog 18 #[.int .i64 4, .int .u32 x, .int .u32 y] w fun e w' => e = .returned (.tuple #[.int .u32 (calcV 4 x y), .int .i64 0]) ∧ w = w' := by
  obtain ⟨a1, a2⟩ := sgn_bd x h0 h1
  obtain ⟨b1, b2⟩ := sgn_bd y h2 h3
  go_enter Tryd.func18, Tryd.ntmps18
  go_wp2_with (first | (go_at_call 21; refine (refSigned_any _ _ (by omega) (by omega)).mono ?_; rintro e w' ⟨rfl, rfl⟩) | (go_at_call 22; refine (refUnsigned_any _ _).mono ?_; rintro e w' ⟨rfl, rfl⟩))
  go_ret2
  exact ⟨rfl, rfl⟩
set_option maxHeartbeats 400000 in
theorem refCalc_5 (x y : Int) (w : World) (h0 : 0 ≤ x) (h1 : x < 4294967296) (h2 : 0 ≤ y) (h3 : y < 4294967296) :
    Calls Tryd.prog 18 #[.int .i64 5, .int .u32 x, .int .u32 y] w fun e w' => e = .returned (.tuple #[.int .u32 (calcV 5 x y), .int .i64 0]) ∧ w = w' := by
  obtain ⟨a1, a2⟩ := sgn_bd x h0 h1
  obtain ⟨b1, b2⟩ := sgn_bd y h2 h3
  go_enter Tryd.func18, Tryd.ntmps18
  go_wp2_with (first | (go_at_call 21; refine (refSigned_any _ _ (by omega) (by omega)).mono ?_; rintro e w' ⟨rfl, rfl⟩) | (go_at_call 22; refine (refUnsigned_any _ _).mono ?_; rintro e w' ⟨rfl, rfl⟩))
  go_ret2
  exact ⟨rfl, rfl⟩
set_option maxHeartbeats 400000 in
theorem refCalc_6 (x y : Int) (w : World) (h0 : 0 ≤ x) (h1 : x < 4294967296) (h2 : 0 ≤ y) (h3 : y < 4294967296) :
    Calls Tryd.prog 18 #[.int .i64 6, .int .u32 x, .int .u32 y] w fun e w' => e = .returned (.tuple #[.int .u32 (calcV 6 x y), .int .i64 0]) ∧ w = w' := by
  obtain ⟨a1, a2⟩ := sgn_bd x h0 h1
  obtain ⟨b1, b2⟩ := sgn_bd y h2 h3
  obtain ⟨m1, m2, m3, m4⟩ := mul_bds x y h0 h1 h2 h3
  have hm := Lib.hid (mul_halves' x y)
  go_enter Tryd.func18, Tryd.ntmps18
  go_wp2_with (first | (go_at_call 21; refine (refSigned_any _ _ (by omega) (by omega)).mono ?_; rintro e w' ⟨rfl, rfl⟩) | (go_at_call 22; refine (refUnsigned_any _ _).mono ?_; rintro e w' ⟨rfl, rfl⟩))
  go_ret2
  exact ⟨ret_int2 (by rw [hm.out]; rfl) rfl, rfl⟩
set_option maxHeartbeats 400000 in
theorem refCalc_7 (x y : Int) (w : World) (h0 : 0 ≤ x) (h1 : x < 4294967296) (h2 : 0 ≤ y) (h3 : y < 4294967296) (hy : 0 < y) :
    Calls Tryd.prog 18 #[.int .i64 7, .int .u32 x, .int .u32 y] w fun e w' => e = .returned (.tuple #[.int .u32 (calcV 7 x y), .int .i64 0]) ∧ w = w' := by
  obtain ⟨a1, a2⟩ := sgn_bd x h0 h1
  obtain ⟨b1, b2⟩ := sgn_bd y h2 h3
  have hz : ¬ sgn y = 0 := by rw [sgn_zero y (by omega) h3]; omega
  have hz' : (sgn y == 0) = false := by simpa using hz
  have hq := Lib.hid (wrap_tdiv (sgn x) (sgn y) a1 a2)
  go_enter Tryd.func18, Tryd.ntmps18
  go_wp2_with (first | (go_at_call 21; refine (refSigned_any _ _ (by omega) (by omega)).mono ?_; rintro e w' ⟨rfl, rfl⟩) | (go_at_call 22; refine (refUnsigned_any _ _).mono ?_; rintro e w' ⟨rfl, rfl⟩))
  go_ret2
  exact ⟨ret_int2 (by rw [hq.out]; rfl) rfl, rfl⟩
set_option maxHeartbeats 400000 in
theorem refCalc_8 (x y : Int) (w : World) (h0 : 0 ≤ x) (h1 : x < 4294967296) (h2 : 0 ≤ y) (h3 : y < 4294967296) (hy : 0 < y) :
    Calls Tryd.prog 18 #[.int .i64 8, .int .u32 x, .int .u32 y] w fun e w' => e = .returned (.tuple #[.int .u32 (calcV 8 x y), .int .i64 0]) ∧ w = w' := by
  obtain ⟨a1, a2⟩ := sgn_bd x h0 h1
  obtain ⟨b1, b2⟩ := sgn_bd y h2 h3
  have hz : ¬ sgn y = 0 := by rw [sgn_zero y (by omega) h3]; omega
  have hz' : (sgn y == 0) = false := by simpa using hz
  have hq := Lib.hid (wrap_tdiv (sgn x) (sgn y) a1 a2)
  have hs := Lib.hid (tmod_sub (sgn x) (sgn y))
  go_enter Tryd.func18, Tryd.ntmps18
  go_wp2_with (first | (go_at_call 21; refine (refSigned_any _ _ (by omega) (by omega)).mono ?_; rintro e w' ⟨rfl, rfl⟩) | (go_at_call 22; refine (refUnsigned_any _ _).mono ?_; rintro e w' ⟨rfl, rfl⟩))
  go_ret2
  exact ⟨ret_int2 (by rw [wrap_sub, hq.out, hs.out]; rfl) rfl, rfl⟩
set_option maxHeartbeats 400000 in
theorem refCalc_14 (x y : Int) (w : World) (h0 : 0 ≤ x) (h1 : x < 4294967296) (h2 : 0 ≤ y) (h3 : y < 4294967296) :
    Calls Tryd.prog 18 #[.int .i64 14, .int .u32 x, .int .u32 y] w fun e w' => e = .returned (.tuple #[.int .u32 (calcV 14 x y), .int .i64 0]) ∧ w = w' := by
  obtain ⟨a1, a2⟩ := sgn_bd x h0 h1
  obtain ⟨b1, b2⟩ := sgn_bd y h2 h3
  go_enter Tryd.func18, Tryd.ntmps18
  go_wp2_with (first | (go_at_call 21; refine (refSigned_any _ _ (by omega) (by omega)).mono ?_; rintro e w' ⟨rfl, rfl⟩) | (go_at_call 22; refine (refUnsigned_any _ _).mono ?_; rintro e w' ⟨rfl, rfl⟩))
  all_goals
    go_ret2
    exact ⟨ret_int2 (by first | (simp [calcV]; done) | (simp [calcV]; omega)) rfl, rfl⟩
set_option maxHeartbeats 400000 in
theorem refCalc_15 (x y : Int) (w : World) (h0 : 0 ≤ x) (h1 : x < 4294967296) (h2 : 0 ≤ y) (h3 : y < 4294967296) :
    Calls Tryd.prog 18 #[.int .i64 15, .int .u32 x, .int .u32 y] w fun e w' => e = .returned (.tuple #[.int .u32 (calcV 15 x y), .int .i64 0]) ∧ w = w' := by
  obtain ⟨a1, a2⟩ := sgn_bd x h0 h1
  obtain ⟨b1, b2⟩ := sgn_bd y h2 h3
  by_cases hxy : x = y
  · subst hxy
    go_enter Tryd.func18, Tryd.ntmps18
    go_wp2_with (first | (go_at_call 21; refine (refSigned_any _ _ (by omega) (by omega)).mono ?_; rintro e w' ⟨rfl, rfl⟩) | (go_at_call 22; refine (refUnsigned_any _ _).mono ?_; rintro e w' ⟨rfl, rfl⟩))
    go_ret2
    exact ⟨ret_int2 (by simp [calcV]) rfl, rfl⟩
  · have hb : (x == y) = false := by simpa using hxy
    go_enter Tryd.func18, Tryd.ntmps18
    go_wp2_with (first | (go_at_call 21; refine (refSigned_any _ _ (by omega) (by omega)).mono ?_; rintro e w' ⟨rfl, rfl⟩) | (go_at_call 22; refine (refUnsigned_any _ _).mono ?_; rintro e w' ⟨rfl, rfl⟩))
    go_ret2
    exact ⟨ret_int2 (by simp [calcV]; omega) rfl, rfl⟩
set_option maxHeartbeats 400000 in
theorem refCalc_7zero (x : Int) (w : World) (h0 : 0 ≤ x) (h1 : x < 4294967296) :
    Calls Tryd.prog 18 #[.int .i64 7, .int .u32 x, .int .u32 0] w fun e w' => e = .returned (.tuple #[.int .u32 0, .int .i64 38]) ∧ w = w' := by
  have hz : sgn 0 = 0 := rfl
  go_enter Tryd.func18, Tryd.ntmps18
  go_wp2_with (first | (go_at_call 21; refine (refSigned_any _ _ (by omega) (by omega)).mono ?_; rintro e w' ⟨rfl, rfl⟩) | (go_at_call 22; refine (refUnsigned_any _ _).mono ?_; rintro e w' ⟨rfl, rfl⟩))
  go_ret2
  exact ⟨rfl, rfl⟩
set_option maxHeartbeats 400000 in
theorem refCalc_8zero (x : Int) (w : World) (h0 : 0 ≤ x) (h1 : x < 4294967296) :
    Calls Tryd.prog 18 #[.int .i64 8, .int .u32 x, .int .u32 0] w fun e w' => e = .returned (.tuple #[.int .u32 0, .int .i64 38]) ∧ w = w' := by
  have hz : sgn 0 = 0 := rfl
  go_enter Tryd.func18, Tryd.ntmps18
  go_wp2_with (first | (go_at_call 21; refine (refSigned_any _ _ (by omega) (by omega)).mono ?_; rintro e w' ⟨rfl, rfl⟩) | (go_at_call 22; refine (refUnsigned_any _ _).mono ?_; rintro e w' ⟨rfl, rfl⟩))
  go_ret2
  exact ⟨rfl, rfl⟩
set_option maxHeartbeats 400000 in
theorem refCalc_out (op x y : Int) (w : World) (h0 : 0 ≤ x) (h1 : x < 4294967296) (h2 : 0 ≤ y) (h3 : y < 4294967296) (h : op < 4 ∨ 16 ≤ op) :
    Calls Tryd.prog 18 #[.int .i64 op, .int .u32 x, .int .u32 y] w fun e w' => e = .returned (.tuple #[.int .u32 0, .int .i64 11]) ∧ w = w' := by
  have n4 : (op == 4) = false := by simp; omega
  have n5 : (op == 5) = false := by simp; omega
  have n6 : (op == 6) = false := by simp; omega
  have n7 : (op == 7) = false := by simp; omega
  have n8 : (op == 8) = false := by simp; omega
  have n9 : (op == 9) = false := by simp; omega
  have n10 : (op == 10) = false := by simp; omega
  have n11 : (op == 11) = false := by simp; omega
  have n12 : (op == 12) = false := by simp; omega
  have n13 : (op == 13) = false := by simp; omega
  have n14 : (op == 14) = false := by simp; omega
  have n15 : (op == 15) = false := by simp; omega
  go_enter Tryd.func18, Tryd.ntmps18
  go_wp2_with (first | (go_at_call 21; refine (refSigned_any _ _ (by omega) (by omega)).mono ?_; rintro e w' ⟨rfl, rfl⟩) | (go_at_call 22; refine (refUnsigned_any _ _).mono ?_; rintro e w' ⟨rfl, rfl⟩))
  go_ret2
  exact ⟨rfl, rfl⟩
end Go.Proofs.YtagmeijpelffcaaDoor
