/- Walks of layer 16: the loops of Calculate of the reference. -/
import Derived.Test.YtagmeijpelffcaaDoorW9
namespace Go.Proofs.YtagmeijpelffcaaDoor
open Go.RowKit
set_option linter.unusedSimpArgs false
set_option linter.unusedVariables false
set_option maxHeartbeats 1600000 in
theorem refCalc_9 (x y : Int) (w : World) (h0 : 0 ≤ x) (h1 : x < 4294967296) (h2 : 0 ≤ y) (h3 : y < 4294967296) :
    Calls Tryd.prog 18 #[.int .i64 9, .int .u32 x, .int .u32 y] w fun e w' => e = .returned (.tuple #[.int .u32 (calcV 9 x y), .int .i64 0]) ∧ w = w' := by
  obtain ⟨m, rfl⟩ := Int.eq_ofNat_of_zero_le h0
  obtain ⟨n, rfl⟩ := Int.eq_ofNat_of_zero_le h2
  have hv := Lib.hid (show calcV 9 m n = ((m &&& n : Nat) : Int) from u32_and_nat m n (by omega) (by omega))
  have hlt := Lib.hid (show (m &&& n) < 4294967296 from Nat.and_lt_two_pow (n := 32) _ (by omega))
  have hst := Lib.hid (upper_and m n)
  generalize hz : (m &&& n) = z at *
  have Hz := Lib.hid hz
  clear hz
  go_enter Tryd.func18, Tryd.ntmps18
  go_wp2_with (first | (go_at_call 21; refine (refSigned_any _ _ (by omega) (by omega)).mono ?_; rintro e w' ⟨rfl, rfl⟩) | (go_at_call 22; refine (refUnsigned_any _ _).mono ?_; rintro e w' ⟨rfl, rfl⟩))
  go_loop [12, 13] (fun o i => ∃ j : Int, -1 ≤ j ∧ j ≤ 31 ∧ i = .int .i64 j ∧ o = .int .i64 (upper z j)) (fun _ i => (intOf i + 1).toNat)
  case atStart => exact ⟨31, by omega, by omega, rfl, by rw [upper_top _ hlt.out]⟩
  case round =>
    obtain ⟨j, hj0, hj1, rfl, rfl⟩ := hrel
    obtain ⟨u0, u1⟩ := upper_bd z j hlt.out
    by_cases hj : 0 ≤ j
    · have hs := Lib.hid (hst.out j hj)
      rcases bitI_01 m j with e1 | e1 <;> rcases bitI_01 n j with e2 | e2
      all_goals
        have E1 := Lib.hid e1
        have E2 := Lib.hid e2
        go_wp2_with (first | (go_at_call 55; refine (bit_any _ _ _ (by omega) (by omega) (by omega) (by omega)).mono ?_; rintro e w' ⟨rfl, rfl⟩))
        go_round
        case rel => exact ⟨j - 1, by omega, by omega, rfl, by have := hs.out; rw [E1.out, E2.out] at this; simp at this; rw [this]⟩
        case measure => simp [intOf]; omega
    · have hj' : j = -1 := by omega
      have Hj := Lib.hid hj'
      clear hj'
      go_wp2_with (first | (go_at_call 22; refine (refUnsigned_any _ _).mono ?_; rintro e w' ⟨rfl, rfl⟩))
      go_ret2
      refine ⟨ret_int2 ?_ rfl, rfl⟩
      rw [hv.out, Hj.out, upper_all]
      have := hlt.out
      omega
set_option maxHeartbeats 1600000 in
theorem refCalc_10 (x y : Int) (w : World) (h0 : 0 ≤ x) (h1 : x < 4294967296) (h2 : 0 ≤ y) (h3 : y < 4294967296) :
    Calls Tryd.prog 18 #[.int .i64 10, .int .u32 x, .int .u32 y] w fun e w' => e = .returned (.tuple #[.int .u32 (calcV 10 x y), .int .i64 0]) ∧ w = w' := by
  obtain ⟨m, rfl⟩ := Int.eq_ofNat_of_zero_le h0
  obtain ⟨n, rfl⟩ := Int.eq_ofNat_of_zero_le h2
  have hv := Lib.hid (show calcV 10 m n = ((m ||| n : Nat) : Int) from u32_or_nat m n (by omega) (by omega))
  have hlt := Lib.hid (show (m ||| n) < 4294967296 from Nat.or_lt_two_pow (n := 32) (by omega) (by omega))
  have hst := Lib.hid (upper_or m n)
  generalize hz : (m ||| n) = z at *
  have Hz := Lib.hid hz
  clear hz
  go_enter Tryd.func18, Tryd.ntmps18
  go_wp2_with (first | (go_at_call 21; refine (refSigned_any _ _ (by omega) (by omega)).mono ?_; rintro e w' ⟨rfl, rfl⟩) | (go_at_call 22; refine (refUnsigned_any _ _).mono ?_; rintro e w' ⟨rfl, rfl⟩))
  go_loop [12, 13] (fun o i => ∃ j : Int, -1 ≤ j ∧ j ≤ 31 ∧ i = .int .i64 j ∧ o = .int .i64 (upper z j)) (fun _ i => (intOf i + 1).toNat)
  case atStart => exact ⟨31, by omega, by omega, rfl, by rw [upper_top _ hlt.out]⟩
  case round =>
    obtain ⟨j, hj0, hj1, rfl, rfl⟩ := hrel
    obtain ⟨u0, u1⟩ := upper_bd z j hlt.out
    by_cases hj : 0 ≤ j
    · have hs := Lib.hid (hst.out j hj)
      rcases bitI_01 m j with e1 | e1 <;> rcases bitI_01 n j with e2 | e2
      all_goals
        have E1 := Lib.hid e1
        have E2 := Lib.hid e2
        go_wp2_with (first | (go_at_call 55; refine (bit_any _ _ _ (by omega) (by omega) (by omega) (by omega)).mono ?_; rintro e w' ⟨rfl, rfl⟩))
        go_round
        case rel => exact ⟨j - 1, by omega, by omega, rfl, by have := hs.out; rw [E1.out, E2.out] at this; simp at this; rw [this]⟩
        case measure => simp [intOf]; omega
    · have hj' : j = -1 := by omega
      have Hj := Lib.hid hj'
      clear hj'
      go_wp2_with (first | (go_at_call 22; refine (refUnsigned_any _ _).mono ?_; rintro e w' ⟨rfl, rfl⟩))
      go_ret2
      refine ⟨ret_int2 ?_ rfl, rfl⟩
      rw [hv.out, Hj.out, upper_all]
      have := hlt.out
      omega
set_option maxHeartbeats 1600000 in
theorem refCalc_11 (x y : Int) (w : World) (h0 : 0 ≤ x) (h1 : x < 4294967296) (h2 : 0 ≤ y) (h3 : y < 4294967296) :
    Calls Tryd.prog 18 #[.int .i64 11, .int .u32 x, .int .u32 y] w fun e w' => e = .returned (.tuple #[.int .u32 (calcV 11 x y), .int .i64 0]) ∧ w = w' := by
  obtain ⟨m, rfl⟩ := Int.eq_ofNat_of_zero_le h0
  obtain ⟨n, rfl⟩ := Int.eq_ofNat_of_zero_le h2
  have hv := Lib.hid (show calcV 11 m n = ((m ^^^ n : Nat) : Int) from u32_xor_nat m n (by omega) (by omega))
  have hlt := Lib.hid (show (m ^^^ n) < 4294967296 from Nat.xor_lt_two_pow (n := 32) (by omega) (by omega))
  have hst := Lib.hid (upper_xor m n)
  generalize hz : (m ^^^ n) = z at *
  have Hz := Lib.hid hz
  clear hz
  go_enter Tryd.func18, Tryd.ntmps18
  go_wp2_with (first | (go_at_call 21; refine (refSigned_any _ _ (by omega) (by omega)).mono ?_; rintro e w' ⟨rfl, rfl⟩) | (go_at_call 22; refine (refUnsigned_any _ _).mono ?_; rintro e w' ⟨rfl, rfl⟩))
  go_loop [12, 13] (fun o i => ∃ j : Int, -1 ≤ j ∧ j ≤ 31 ∧ i = .int .i64 j ∧ o = .int .i64 (upper z j)) (fun _ i => (intOf i + 1).toNat)
  case atStart => exact ⟨31, by omega, by omega, rfl, by rw [upper_top _ hlt.out]⟩
  case round =>
    obtain ⟨j, hj0, hj1, rfl, rfl⟩ := hrel
    obtain ⟨u0, u1⟩ := upper_bd z j hlt.out
    by_cases hj : 0 ≤ j
    · have hs := Lib.hid (hst.out j hj)
      rcases bitI_01 m j with e1 | e1 <;> rcases bitI_01 n j with e2 | e2
      all_goals
        have E1 := Lib.hid e1
        have E2 := Lib.hid e2
        go_wp2_with (first | (go_at_call 55; refine (bit_any _ _ _ (by omega) (by omega) (by omega) (by omega)).mono ?_; rintro e w' ⟨rfl, rfl⟩))
        go_round
        case rel => exact ⟨j - 1, by omega, by omega, rfl, by have := hs.out; rw [E1.out, E2.out] at this; simp at this; rw [this]⟩
        case measure => simp [intOf]; omega
    · have hj' : j = -1 := by omega
      have Hj := Lib.hid hj'
      clear hj'
      go_wp2_with (first | (go_at_call 22; refine (refUnsigned_any _ _).mono ?_; rintro e w' ⟨rfl, rfl⟩))
      go_ret2
      refine ⟨ret_int2 ?_ rfl, rfl⟩
      rw [hv.out, Hj.out, upper_all]
      have := hlt.out
      omega
def lo12 (x : Int) (k : Nat) : Int := x * 2 ^ k % 4294967296
theorem lo12_zero (x : Int) (h0 : 0 ≤ x) (h1 : x < 4294967296) : lo12 x 0 = x := by unfold lo12; simp; try omega
theorem lo12_bd (x : Int) (k : Nat) (h0 : 0 ≤ x) (h1 : x < 4294967296) : 0 ≤ lo12 x k ∧ lo12 x k < 4294967296 := by
  unfold lo12
  omega
theorem lo12_step (x : Int) (k : Nat) (h0 : 0 ≤ x) : lo12 x (k + 1) = lo12 x k * 2 % 4294967296 := by
  unfold lo12
  exact (shl_step x k).symm
set_option maxHeartbeats 1600000 in
theorem refCalc_12 (x y : Int) (w : World) (h0 : 0 ≤ x) (h1 : x < 4294967296) (h2 : 0 ≤ y) (h3 : y < 4294967296) :
    Calls Tryd.prog 18 #[.int .i64 12, .int .u32 x, .int .u32 y] w fun e w' => e = .returned (.tuple #[.int .u32 (calcV 12 x y), .int .i64 0]) ∧ w = w' := by
  have hv := Lib.hid (show calcV 12 x y = lo12 x (y % 32).toNat from rfl)
  go_enter Tryd.func18, Tryd.ntmps18
  go_wp2_with (first | (go_at_call 21; refine (refSigned_any _ _ (by omega) (by omega)).mono ?_; rintro e w' ⟨rfl, rfl⟩) | (go_at_call 22; refine (refUnsigned_any _ _).mono ?_; rintro e w' ⟨rfl, rfl⟩))
  go_loop [12, 15] (fun o i => ∃ k : Nat, (k : Int) ≤ y % 32 ∧ i = .int .i64 k ∧ o = .int .i64 (lo12 x k)) (fun _ i => 32 - (intOf i).toNat)
  case atStart => exact ⟨0, by omega, rfl, by rw [lo12_zero x h0 h1]⟩
  case round =>
    obtain ⟨k, hk, rfl, rfl⟩ := hrel
    obtain ⟨u0, u1⟩ := lo12_bd x k h0 h1
    by_cases hk1 : (k : Int) < y % 32
    · go_wp2
      go_round
      case rel => exact ⟨k + 1, by omega, by go_num, by rw [lo12_step x k h0]⟩
      case measure => simp [intOf]; omega
    · go_wp2_with (first | (go_at_call 22; refine (refUnsigned_any _ _).mono ?_; rintro e w' ⟨rfl, rfl⟩))
      go_ret2
      refine ⟨ret_int2 ?_ rfl, rfl⟩
      have : (y % 32).toNat = k := by omega
      rw [hv.out, this]
      omega
def lo13 (x : Int) (k : Nat) : Int := x / 2 ^ k
theorem lo13_zero (x : Int) (h0 : 0 ≤ x) (h1 : x < 4294967296) : lo13 x 0 = x := by unfold lo13; simp; try omega
theorem lo13_bd (x : Int) (k : Nat) (h0 : 0 ≤ x) (h1 : x < 4294967296) : 0 ≤ lo13 x k ∧ lo13 x k < 4294967296 := by
  unfold lo13
  exact shr_bd x k h0 h1
theorem lo13_step (x : Int) (k : Nat) (h0 : 0 ≤ x) : lo13 x (k + 1) = lo13 x k / 2 := by
  unfold lo13
  exact (shr_step x k h0).symm
set_option maxHeartbeats 1600000 in
theorem refCalc_13 (x y : Int) (w : World) (h0 : 0 ≤ x) (h1 : x < 4294967296) (h2 : 0 ≤ y) (h3 : y < 4294967296) :
    Calls Tryd.prog 18 #[.int .i64 13, .int .u32 x, .int .u32 y] w fun e w' => e = .returned (.tuple #[.int .u32 (calcV 13 x y), .int .i64 0]) ∧ w = w' := by
  have hv := Lib.hid (show calcV 13 x y = lo13 x (y % 32).toNat from rfl)
  go_enter Tryd.func18, Tryd.ntmps18
  go_wp2_with (first | (go_at_call 21; refine (refSigned_any _ _ (by omega) (by omega)).mono ?_; rintro e w' ⟨rfl, rfl⟩) | (go_at_call 22; refine (refUnsigned_any _ _).mono ?_; rintro e w' ⟨rfl, rfl⟩))
  go_loop [12, 16] (fun o i => ∃ k : Nat, (k : Int) ≤ y % 32 ∧ i = .int .i64 k ∧ o = .int .i64 (lo13 x k)) (fun _ i => 32 - (intOf i).toNat)
  case atStart => exact ⟨0, by omega, rfl, by rw [lo13_zero x h0 h1]⟩
  case round =>
    obtain ⟨k, hk, rfl, rfl⟩ := hrel
    obtain ⟨u0, u1⟩ := lo13_bd x k h0 h1
    by_cases hk1 : (k : Int) < y % 32
    · go_wp2
      go_round
      case rel => exact ⟨k + 1, by omega, by go_num, by rw [lo13_step x k h0]⟩
      case measure => simp [intOf]; omega
    · go_wp2_with (first | (go_at_call 22; refine (refUnsigned_any _ _).mono ?_; rintro e w' ⟨rfl, rfl⟩))
      go_ret2
      refine ⟨ret_int2 ?_ rfl, rfl⟩
      have : (y % 32).toNat = k := by omega
      rw [hv.out, this]
      omega
theorem refCalc_any (op x y : Int) (w : World) (h0 : 0 ≤ x) (h1 : x < 4294967296) (h2 : 0 ≤ y) (h3 : y < 4294967296) :
    Calls Tryd.prog 18 #[.int .i64 op, .int .u32 x, .int .u32 y] w fun e w' => e = .returned (.tuple #[.int .u32 (calcR op x y).1, .int .i64 (calcR op x y).2]) ∧ w = w' := by
  unfold calcR
  split
  · exact refCalc_out op x y w h0 h1 h2 h3 (by assumption)
  split
  · rename_i h
    obtain ⟨h | h, h'⟩ := h
    · subst h; subst h'; exact refCalc_7zero x w h0 h1
    · subst h; subst h'; exact refCalc_8zero x w h0 h1
  · rename_i ha hb
    have hop : op = 4 ∨ op = 5 ∨ op = 6 ∨ op = 7 ∨ op = 8 ∨ op = 9 ∨ op = 10 ∨ op = 11 ∨ op = 12 ∨ op = 13 ∨ op = 14 ∨ op = 15 := by omega
    rcases hop with h | h | h | h | h | h | h | h | h | h | h | h
    · subst h; exact refCalc_4 x y w h0 h1 h2 h3
    · subst h; exact refCalc_5 x y w h0 h1 h2 h3
    · subst h; exact refCalc_6 x y w h0 h1 h2 h3
    · subst h; exact refCalc_7 x y w h0 h1 h2 h3 (by omega)
    · subst h; exact refCalc_8 x y w h0 h1 h2 h3 (by omega)
    · subst h; exact refCalc_9 x y w h0 h1 h2 h3
    · subst h; exact refCalc_10 x y w h0 h1 h2 h3
    · subst h; exact refCalc_11 x y w h0 h1 h2 h3
    · subst h; exact refCalc_12 x y w h0 h1 h2 h3
    · subst h; exact refCalc_13 x y w h0 h1 h2 h3
    · subst h; exact refCalc_14 x y w h0 h1 h2 h3
    · subst h; exact refCalc_15 x y w h0 h1 h2 h3
end Go.Proofs.YtagmeijpelffcaaDoor
