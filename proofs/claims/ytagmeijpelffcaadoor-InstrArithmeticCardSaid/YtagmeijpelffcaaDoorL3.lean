/- The law InstrArithmetic, walked. -/
import Derived.Test.YtagmeijpelffcaaDoorW10
namespace Go.Proofs.YtagmeijpelffcaaDoor
open Go.RowKit
set_option linter.unusedSimpArgs false
set_option linter.unusedVariables false
theorem calcR_plain (op x y : Int) (h : 4 ≤ op) (h' : op < 16) (hd : op ≠ 7) (hm : op ≠ 8) : calcR op x y = (calcV op x y, 0) := by
  unfold calcR
  rw [if_neg (by omega), if_neg (by omega)]
theorem calcR_div (op x y : Int) (h : op = 7 ∨ op = 8) (hy : y ≠ 0) : calcR op x y = (calcV op x y, 0) := by
  unfold calcR
  rw [if_neg (by omega), if_neg (by omega)]
theorem sub_add (x y : Int) (h0 : 0 ≤ x) (h1 : x < 4294967296) : calcV 5 (calcV 4 x y) y = x := by
  show ((x + y) % 4294967296 - y) % 4294967296 = x
  omega
theorem xor_xor (x y : Int) (h0 : 0 ≤ x) (h1 : x < 4294967296) (h2 : 0 ≤ y) (h3 : y < 4294967296) : calcV 11 (calcV 11 x y) y = x := by
  obtain ⟨m, rfl⟩ := Int.eq_ofNat_of_zero_le h0
  obtain ⟨n, rfl⟩ := Int.eq_ofNat_of_zero_le h2
  have hlt : m ^^^ n < 4294967296 := Nat.xor_lt_two_pow (n := 32) (by omega) (by omega)
  show bits .xor .u32 (bits .xor .u32 m n) n = m
  rw [u32_xor_nat m n (by omega) (by omega), u32_xor_nat (m ^^^ n) n hlt (by omega), Nat.xor_assoc, Nat.xor_self, Nat.xor_zero]
theorem xor_bd (x y : Int) (h0 : 0 ≤ x) (h1 : x < 4294967296) (h2 : 0 ≤ y) (h3 : y < 4294967296) : 0 ≤ calcV 11 x y ∧ calcV 11 x y < 4294967296 := by
  obtain ⟨m, rfl⟩ := Int.eq_ofNat_of_zero_le h0
  obtain ⟨n, rfl⟩ := Int.eq_ofNat_of_zero_le h2
  have hlt : m ^^^ n < 4294967296 := Nat.xor_lt_two_pow (n := 32) (by omega) (by omega)
  show 0 ≤ bits .xor .u32 m n ∧ bits .xor .u32 m n < 4294967296
  rw [u32_xor_nat m n (by omega) (by omega)]
  omega
theorem sgn_mod (x : Int) (h0 : 0 ≤ x) (h1 : x < 4294967296) : sgn x % 4294967296 = x := by unfold sgn; split <;> omega
theorem sgn_shift (x : Int) : ∃ t, x = sgn x + 4294967296 * t := by
  unfold sgn
  split
  · exact ⟨0, by omega⟩
  · exact ⟨1, by omega⟩
theorem div_all (x y : Int) (h0 : 0 ≤ x) (h1 : x < 4294967296) : calcV 4 (calcV 6 (calcV 7 x y) y) (calcV 8 x y) = x := by
  show (((sgn x).tdiv (sgn y) % 4294967296) * y % 4294967296 + (sgn x).tmod (sgn y) % 4294967296) % 4294967296 = x
  have hd := Int.mul_tdiv_add_tmod (sgn x) (sgn y)
  have hx := sgn_mod x h0 h1
  obtain ⟨t, ht⟩ := sgn_shift y
  generalize (sgn x).tdiv (sgn y) = q at *
  generalize (sgn x).tmod (sgn y) = r at *
  have e1 : (q % 4294967296) * y % 4294967296 = q * y % 4294967296 := by rw [Int.mul_emod, Int.emod_emod, ← Int.mul_emod]
  have e2 : q * y = sgn y * q + 4294967296 * (t * q) := by
    conv => lhs; rw [ht]
    rw [Int.mul_add, Int.mul_comm q (sgn y), Int.mul_comm q, Int.mul_assoc]
  rw [e1, e2]
  generalize sgn y * q = u at *
  generalize t * q = v at *
  omega
theorem unsigned_is (n r : Int) (w : World) (h : n % 4294967296 = r) :
    Calls Tryd.prog 20 #[.int .i64 n] w fun e w' => e = .returned (.int .u32 r) ∧ w = w' := by
  subst h; exact unsigned_any n w
theorem less_one (x y : Int) (h : sgn x < sgn y) : calcV 14 x y = 1 := by
  show (if sgn x < sgn y then (1 : Int) else 0) = 1
  rw [if_pos h]
theorem less_zero (x y : Int) (h : ¬ sgn x < sgn y) : calcV 14 x y = 0 := by
  show (if sgn x < sgn y then (1 : Int) else 0) = 0
  rw [if_neg h]
set_option maxRecDepth 100000 in
set_option maxHeartbeats 1600000 in
theorem arithmetic_core (x y s b l q r p : Int) (w : World) (ho : OpsAt w) (h0 : 0 ≤ x) (h1 : x < 4294967296) (h2 : 0 ≤ y) (h3 : y < 4294967296)
    (s0 : 0 ≤ s) (s1 : s < 4294967296) (b0 : 0 ≤ b) (b1 : b < 4294967296) (q0 : 0 ≤ q) (q1 : q < 4294967296) (p0 : 0 ≤ p) (p1 : p < 4294967296) (r0 : 0 ≤ r) (r1 : r < 4294967296)
    (hs : Hid (calcR 4 x y = (s, 0))) (hx : Hid (calcR 5 s y = (x, 0))) (hb : Hid (calcR 11 x y = (b, 0))) (hb2 : Hid (calcR 11 b y = (x, 0)))
    (hl : Hid (calcR 14 x y = (l, 0))) (hl2 : (l = 1 ∧ sgn x < sgn y) ∨ (l = 0 ∧ sgn y ≤ sgn x)) (hu : Hid (sgn x % 4294967296 = x))
    (hz : Hid (y = 0 → calcR 7 x y = (0, 38) ∧ calcR 8 x y = (0, 38)))
    (hq : Hid (y ≠ 0 → calcR 7 x y = (q, 0) ∧ calcR 8 x y = (r, 0) ∧ calcR 6 q y = (p, 0) ∧ calcR 4 p r = (x, 0))) :
    Calls Tryd.prog 5 #[.int .u32 x, .int .u32 y] w fun e w' => e = .returned (.bool true) ∧ Below w.heap.size w w' := by
  obtain ⟨a1, a2⟩ := sgn_bd x h0 h1
  obtain ⟨c1, c2⟩ := sgn_bd y h2 h3
  by_cases hy : y = 0
  · have HZ := Lib.hid (hz.out hy)
    have hy0 : (y == 0) = true := by simpa using hy
    clear hy hz hq
    rcases hl2 with ⟨rfl, hl2⟩ | ⟨rfl, hl2⟩
    all_goals
      go_enter Tryd.func5, Tryd.ntmps5
      go_wp2_with fail
      refine (known_any _ ho).mono ?_
      rintro e w1 ⟨rfl, k1⟩
      go_wp2_with fail
      refine (calc_is _ _ _ s 0 _ h0 h1 h2 h3 hs.out).mono ?_
      rintro e w2 ⟨rfl, k2⟩
      go_wp2_with fail
      refine (calc_is _ _ _ x 0 _ s0 s1 h2 h3 hx.out).mono ?_
      rintro e w3 ⟨rfl, k3⟩
      go_wp2_with fail
      refine (calc_is _ _ _ b 0 _ h0 h1 h2 h3 hb.out).mono ?_
      rintro e w4 ⟨rfl, k4⟩
      go_wp2_with fail
      refine (calc_is _ _ _ x 0 _ b0 b1 h2 h3 hb2.out).mono ?_
      rintro e w5 ⟨rfl, k5⟩
      go_wp2_with fail
      refine (calc_is _ _ _ _ 0 _ h0 h1 h2 h3 hl.out).mono ?_
      rintro e w6 ⟨rfl, k6⟩
      have K := k1.trans ((k2.mono k1.size).trans ((k3.mono (Nat.le_trans k1.size k2.size)).trans ((k4.mono (Nat.le_trans k1.size (Nat.le_trans k2.size k3.size))).trans ((k5.mono (Nat.le_trans k1.size (Nat.le_trans k2.size (Nat.le_trans k3.size k4.size)))).trans (k6.mono (Nat.le_trans k1.size (Nat.le_trans k2.size (Nat.le_trans k3.size (Nat.le_trans k4.size k5.size)))))))))
      clear k1 k2 k3 k4 k5 k6
      go_wp2_with (first | (go_at_call 19; refine (signed_any _ _ (by omega) (by omega)).mono ?_; rintro e w' ⟨rfl, rfl⟩) | (go_at_call 20; refine (unsigned_is _ x _ hu.out).mono ?_; rintro e w' ⟨rfl, rfl⟩))
      refine (calc_is _ _ _ 0 38 _ h0 h1 h2 h3 HZ.out.1).mono ?_
      rintro e w7 ⟨rfl, k7⟩
      go_wp2_with fail
      refine (calc_is _ _ _ 0 38 _ h0 h1 h2 h3 HZ.out.2).mono ?_
      rintro e w8 ⟨rfl, k8⟩
      go_wp2
      go_ret
      exact ⟨rfl, K.trans ((k7.mono K.size).trans (k8.mono (Nat.le_trans K.size k7.size)))⟩
  · have HQ := Lib.hid (hq.out hy)
    have hy0 : (y == 0) = false := by simpa using hy
    clear hy hz hq
    rcases hl2 with ⟨rfl, hl2⟩ | ⟨rfl, hl2⟩
    all_goals
      go_enter Tryd.func5, Tryd.ntmps5
      go_wp2_with fail
      refine (known_any _ ho).mono ?_
      rintro e w1 ⟨rfl, k1⟩
      go_wp2_with fail
      refine (calc_is _ _ _ s 0 _ h0 h1 h2 h3 hs.out).mono ?_
      rintro e w2 ⟨rfl, k2⟩
      go_wp2_with fail
      refine (calc_is _ _ _ x 0 _ s0 s1 h2 h3 hx.out).mono ?_
      rintro e w3 ⟨rfl, k3⟩
      go_wp2_with fail
      refine (calc_is _ _ _ b 0 _ h0 h1 h2 h3 hb.out).mono ?_
      rintro e w4 ⟨rfl, k4⟩
      go_wp2_with fail
      refine (calc_is _ _ _ x 0 _ b0 b1 h2 h3 hb2.out).mono ?_
      rintro e w5 ⟨rfl, k5⟩
      go_wp2_with fail
      refine (calc_is _ _ _ _ 0 _ h0 h1 h2 h3 hl.out).mono ?_
      rintro e w6 ⟨rfl, k6⟩
      have K := k1.trans ((k2.mono k1.size).trans ((k3.mono (Nat.le_trans k1.size k2.size)).trans ((k4.mono (Nat.le_trans k1.size (Nat.le_trans k2.size k3.size))).trans ((k5.mono (Nat.le_trans k1.size (Nat.le_trans k2.size (Nat.le_trans k3.size k4.size)))).trans (k6.mono (Nat.le_trans k1.size (Nat.le_trans k2.size (Nat.le_trans k3.size (Nat.le_trans k4.size k5.size)))))))))
      clear k1 k2 k3 k4 k5 k6
      go_wp2_with (first | (go_at_call 19; refine (signed_any _ _ (by omega) (by omega)).mono ?_; rintro e w' ⟨rfl, rfl⟩) | (go_at_call 20; refine (unsigned_is _ x _ hu.out).mono ?_; rintro e w' ⟨rfl, rfl⟩))
      refine (calc_is _ _ _ q 0 _ h0 h1 h2 h3 HQ.out.1).mono ?_
      rintro e w7 ⟨rfl, k7⟩
      go_wp2_with fail
      refine (calc_is _ _ _ r 0 _ h0 h1 h2 h3 HQ.out.2.1).mono ?_
      rintro e w8 ⟨rfl, k8⟩
      go_wp2_with fail
      refine (calc_is _ _ _ p 0 _ q0 q1 h2 h3 HQ.out.2.2.1).mono ?_
      rintro e w9 ⟨rfl, k9⟩
      go_wp2_with fail
      refine (calc_is _ _ _ x 0 _ p0 p1 r0 r1 HQ.out.2.2.2).mono ?_
      rintro e w10 ⟨rfl, k10⟩
      go_wp2
      go_ret
      exact ⟨rfl, K.trans ((k7.mono K.size).trans ((k8.mono (Nat.le_trans K.size k7.size)).trans ((k9.mono (Nat.le_trans K.size (Nat.le_trans k7.size k8.size))).trans (k10.mono (Nat.le_trans K.size (Nat.le_trans k7.size (Nat.le_trans k8.size k9.size)))))))⟩
theorem arithmetic_walk (x y : Int) (w : World) (ho : OpsAt w) (h0 : 0 ≤ x) (h1 : x < 4294967296) (h2 : 0 ≤ y) (h3 : y < 4294967296) :
    Calls Tryd.prog 5 #[.int .u32 x, .int .u32 y] w fun e w' => e = .returned (.bool true) ∧ Below w.heap.size w w' := by
  have hb := xor_bd x y h0 h1 h2 h3
  have m0 : ∀ z : Int, 0 ≤ z % 4294967296 ∧ z % 4294967296 < 4294967296 := fun z => by omega
  have hs : calcV 4 x y = (x + y) % 4294967296 := rfl
  have h7 : calcV 7 x y = (sgn x).tdiv (sgn y) % 4294967296 := rfl
  have h8 : calcV 8 x y = (sgn x).tmod (sgn y) % 4294967296 := rfl
  have h6 : calcV 6 (calcV 7 x y) y = calcV 7 x y * y % 4294967296 := rfl
  refine arithmetic_core x y (calcV 4 x y) (calcV 11 x y) (calcV 14 x y) (calcV 7 x y) (calcV 8 x y) (calcV 6 (calcV 7 x y) y) w ho h0 h1 h2 h3
    (by rw [hs]; exact (m0 _).1) (by rw [hs]; exact (m0 _).2) hb.1 hb.2 (by rw [h7]; exact (m0 _).1) (by rw [h7]; exact (m0 _).2) (by rw [h6]; exact (m0 _).1) (by rw [h6]; exact (m0 _).2) (by rw [h8]; exact (m0 _).1) (by rw [h8]; exact (m0 _).2)
    (Lib.hid (calcR_plain _ _ _ (by decide) (by decide) (by decide) (by decide)))
    (Lib.hid ((calcR_plain _ _ _ (by decide) (by decide) (by decide) (by decide)).trans (by rw [sub_add x y h0 h1])))
    (Lib.hid (calcR_plain _ _ _ (by decide) (by decide) (by decide) (by decide)))
    (Lib.hid ((calcR_plain _ _ _ (by decide) (by decide) (by decide) (by decide)).trans (by rw [xor_xor x y h0 h1 h2 h3])))
    (Lib.hid (calcR_plain _ _ _ (by decide) (by decide) (by decide) (by decide))) ?_ (Lib.hid (sgn_mod x h0 h1)) (Lib.hid ?_) (Lib.hid ?_)
  · by_cases h : sgn x < sgn y
    · exact .inl ⟨less_one x y h, h⟩
    · exact .inr ⟨less_zero x y h, by omega⟩
  · intro hy
    subst hy
    exact ⟨rfl, rfl⟩
  · intro hy
    exact ⟨calcR_div _ _ _ (.inl rfl) hy, calcR_div _ _ _ (.inr rfl) hy, calcR_plain _ _ _ (by decide) (by decide) (by decide) (by decide), (calcR_plain _ _ _ (by decide) (by decide) (by decide) (by decide)).trans (by rw [div_all x y h0 h1])⟩
end Go.Proofs.YtagmeijpelffcaaDoor
