/- Walks of layer 16: Decode of the program and of the reference. -/
import Derived.Test.YtagmeijpelffcaaDoorW5
import Derived.Laws.BitsAllLaws
namespace Go.Proofs.YtagmeijpelffcaaDoor
open Go.RowKit
set_option linter.unusedSimpArgs false
set_option linter.unusedVariables false
/-- The number in the last two bytes. -/
def decC (op x y : Int) : Int := if lowI op.toNat < 0 ∧ 32767 < x + 256 * y then x + 256 * y - 65536 else x + 256 * y
def okB (b0 b1 b2 b3 : Int) : Bool := decide (chk b0 (b1 / 16) (b1 % 16) (decC b0 b2 b3) = 0)
theorem or_bytes (x y : Int) (h0 : 0 ≤ x) (h1 : x < 256) (h2 : 0 ≤ y) (h3 : y < 256) : bits .or .u16 x (y * 256) = x + 256 * y := by
  rw [u16_or x (y * 256) h0 (by omega) (by omega) (by omega)]
  obtain ⟨m, rfl⟩ := Int.eq_ofNat_of_zero_le h0
  obtain ⟨n, rfl⟩ := Int.eq_ofNat_of_zero_le h2
  have e : ((n : Int) * 256).toNat = 2 ^ 8 * n := by omega
  rw [e, Int.toNat_natCast, Nat.or_comm, ← Nat.two_pow_add_eq_or_of_lt (by omega)]
  omega
theorem and_15 (x : Int) (h0 : 0 ≤ x) (h1 : x < 256) : bits .and .u8 x 15 = x % 16 := by
  rw [u8_and x 15 h0 h1 (by omega) (by omega)]
  have : ((15 : Int).toNat) = 2 ^ 4 - 1 := rfl
  rw [this, Nat.and_two_pow_sub_one_eq_mod]
  omega
theorem wrap_low (op x y : Int) (h0 : 0 ≤ x) (h1 : x < 256) (h2 : 0 ≤ y) (h3 : y < 256) (hn : lowI op.toNat < 0) : wrap64 (IntKind.i16.wrap (x + 256 * y)) = decC op x y := by
  have e : IntKind.i16.wrap (x + 256 * y) = if 32767 < x + 256 * y then x + 256 * y - 65536 else x + 256 * y := by
    unfold IntKind.wrap IntKind.bits IntKind.signed
    simp
    split <;> split <;> omega
  rw [e]
  unfold decC wrap64
  simp only [hn, true_and]
  split <;> omega
theorem decC_plain (op x y : Int) (hn : 0 ≤ lowI op.toNat) : decC op x y = x + 256 * y := by
  unfold decC
  rw [if_neg (by omega)]
theorem decode_lowOk (b0 b1 b2 b3 : Int) (w : World) (ho : OpsAt w) (h0 : 0 ≤ b0) (h1 : b0 < 27) (h2 : 0 ≤ b1) (h3 : b1 < 256) (h4 : 0 ≤ b2) (h5 : b2 < 256) (h6 : 0 ≤ b3) (h7 : b3 < 256) (hn : lowI b0.toNat < 0) (hk : chk b0 (b1 / 16) (b1 % 16) (decC b0 b2 b3) = 0) :
    Calls Tryd.prog 25 #[.agg #[.int .u8 b0, .int .u8 b1, .int .u8 b2, .int .u8 b3]] w fun e w' => e = .returned (.tuple #[.agg #[.int .i64 b0, .int .i64 (b1 / 16), .int .i64 (b1 % 16), .int .i64 (decC b0 b2 b3)], .int .i64 0]) ∧ Below w.heap.size w w' := by
  obtain ⟨c0, c1, c2, c3, c4, c5⟩ := ho.2 b0.toNat (by omega)
  have O := ho.1
  have e1 := or_bytes b2 b3 h4 h5 h6 h7
  have e2 := and_15 b1 h2 h3
  have e3 := wrap_low b0 b2 b3 h4 h5 h6 h7 hn
  have HK := Lib.hid hk
  clear hk
  go_enter Tryd.func25, Tryd.ntmps25
  go_wp2_with (first | (go_at_call 46; go_in))
  refine (check_is _ _ _ _ 0 _ (((ho.alloc _).alloc _).alloc _) HK.out).mono ?_
  rintro e w1 ⟨rfl, hb1⟩
  obtain ⟨hc, hf⟩ := bcell hb1
  have hz : w.heap.size + 2 < w1.heap.size := by have := hb1.size; simp at this; omega
  have hz1 : w.heap.size + 1 < w1.heap.size := by omega
  go_wp2
  refine bodyPost_ret (v := .tuple #[.agg #[.int .i64 b0, .int .i64 (b1 / 16), .int .i64 (b1 % 16), .int .i64 (decC b0 b2 b3)], .int .i64 0]) (by simp [results, Tryd.results25, go_sem, hc, hz, hz1]) rfl ⟨rfl, ?_⟩
  repeat (refine Below.setCell ?_ (by simp) _)
  exact below3 hb1
theorem decode_lowNo (b0 b1 b2 b3 : Int) (w : World) (ho : OpsAt w) (h0 : 0 ≤ b0) (h1 : b0 < 27) (h2 : 0 ≤ b1) (h3 : b1 < 256) (h4 : 0 ≤ b2) (h5 : b2 < 256) (h6 : 0 ≤ b3) (h7 : b3 < 256) (hn : lowI b0.toNat < 0) (hk : chk b0 (b1 / 16) (b1 % 16) (decC b0 b2 b3) ≠ 0) :
    Calls Tryd.prog 25 #[.agg #[.int .u8 b0, .int .u8 b1, .int .u8 b2, .int .u8 b3]] w fun e w' => e = .returned (.tuple #[.agg #[.int .i64 0, .int .i64 0, .int .i64 0, .int .i64 0], .int .i64 24]) ∧ Below w.heap.size w w' := by
  obtain ⟨c0, c1, c2, c3, c4, c5⟩ := ho.2 b0.toNat (by omega)
  have O := ho.1
  have e1 := or_bytes b2 b3 h4 h5 h6 h7
  have e2 := and_15 b1 h2 h3
  have e3 := wrap_low b0 b2 b3 h4 h5 h6 h7 hn
  have hne : (chk b0 (b1 / 16) (b1 % 16) (decC b0 b2 b3) != 0) = true := by simpa using hk
  clear hk
  go_enter Tryd.func25, Tryd.ntmps25
  go_wp2_with (first | (go_at_call 46; go_in))
  refine (check_is _ _ _ _ _ _ (((ho.alloc _).alloc _).alloc _) rfl).mono ?_
  rintro e w1 ⟨rfl, hb1⟩
  obtain ⟨hc, hf⟩ := bcell hb1
  have hz : w.heap.size + 2 < w1.heap.size := by have := hb1.size; simp at this; omega
  have hz1 : w.heap.size + 1 < w1.heap.size := by omega
  go_wp2
  refine bodyPost_ret (v := .tuple #[.agg #[.int .i64 0, .int .i64 0, .int .i64 0, .int .i64 0], .int .i64 24]) (by simp [results, Tryd.results25, go_sem, hc, hz, hz1]) rfl ⟨rfl, ?_⟩
  repeat (refine Below.setCell ?_ (by simp) _)
  exact below3 hb1
theorem decode_flatOk (b0 b1 b2 b3 : Int) (w : World) (ho : OpsAt w) (h0 : 0 ≤ b0) (h1 : b0 < 27) (h2 : 0 ≤ b1) (h3 : b1 < 256) (h4 : 0 ≤ b2) (h5 : b2 < 256) (h6 : 0 ≤ b3) (h7 : b3 < 256) (hn : 0 ≤ lowI b0.toNat) (hk : chk b0 (b1 / 16) (b1 % 16) (b2 + 256 * b3) = 0) :
    Calls Tryd.prog 25 #[.agg #[.int .u8 b0, .int .u8 b1, .int .u8 b2, .int .u8 b3]] w fun e w' => e = .returned (.tuple #[.agg #[.int .i64 b0, .int .i64 (b1 / 16), .int .i64 (b1 % 16), .int .i64 (b2 + 256 * b3)], .int .i64 0]) ∧ Below w.heap.size w w' := by
  obtain ⟨c0, c1, c2, c3, c4, c5⟩ := ho.2 b0.toNat (by omega)
  have O := ho.1
  have e1 := or_bytes b2 b3 h4 h5 h6 h7
  have e2 := and_15 b1 h2 h3
  have HK := Lib.hid hk
  clear hk
  go_enter Tryd.func25, Tryd.ntmps25
  go_wp2_with (first | (go_at_call 46; go_in))
  refine (check_is _ _ _ _ 0 _ (((ho.alloc _).alloc _).alloc _) HK.out).mono ?_
  rintro e w1 ⟨rfl, hb1⟩
  obtain ⟨hc, hf⟩ := bcell hb1
  have hz : w.heap.size + 2 < w1.heap.size := by have := hb1.size; simp at this; omega
  have hz1 : w.heap.size + 1 < w1.heap.size := by omega
  go_wp2
  refine bodyPost_ret (v := .tuple #[.agg #[.int .i64 b0, .int .i64 (b1 / 16), .int .i64 (b1 % 16), .int .i64 (b2 + 256 * b3)], .int .i64 0]) (by simp [results, Tryd.results25, go_sem, hc, hz, hz1]) rfl ⟨rfl, ?_⟩
  repeat (refine Below.setCell ?_ (by simp) _)
  exact below3 hb1
theorem decode_flatNo (b0 b1 b2 b3 : Int) (w : World) (ho : OpsAt w) (h0 : 0 ≤ b0) (h1 : b0 < 27) (h2 : 0 ≤ b1) (h3 : b1 < 256) (h4 : 0 ≤ b2) (h5 : b2 < 256) (h6 : 0 ≤ b3) (h7 : b3 < 256) (hn : 0 ≤ lowI b0.toNat) (hk : chk b0 (b1 / 16) (b1 % 16) (b2 + 256 * b3) ≠ 0) :
    Calls Tryd.prog 25 #[.agg #[.int .u8 b0, .int .u8 b1, .int .u8 b2, .int .u8 b3]] w fun e w' => e = .returned (.tuple #[.agg #[.int .i64 0, .int .i64 0, .int .i64 0, .int .i64 0], .int .i64 24]) ∧ Below w.heap.size w w' := by
  obtain ⟨c0, c1, c2, c3, c4, c5⟩ := ho.2 b0.toNat (by omega)
  have O := ho.1
  have e1 := or_bytes b2 b3 h4 h5 h6 h7
  have e2 := and_15 b1 h2 h3
  have hne : (chk b0 (b1 / 16) (b1 % 16) (b2 + 256 * b3) != 0) = true := by simpa using hk
  clear hk
  go_enter Tryd.func25, Tryd.ntmps25
  go_wp2_with (first | (go_at_call 46; go_in))
  refine (check_is _ _ _ _ _ _ (((ho.alloc _).alloc _).alloc _) rfl).mono ?_
  rintro e w1 ⟨rfl, hb1⟩
  obtain ⟨hc, hf⟩ := bcell hb1
  have hz : w.heap.size + 2 < w1.heap.size := by have := hb1.size; simp at this; omega
  have hz1 : w.heap.size + 1 < w1.heap.size := by omega
  go_wp2
  refine bodyPost_ret (v := .tuple #[.agg #[.int .i64 0, .int .i64 0, .int .i64 0, .int .i64 0], .int .i64 24]) (by simp [results, Tryd.results25, go_sem, hc, hz, hz1]) rfl ⟨rfl, ?_⟩
  repeat (refine Below.setCell ?_ (by simp) _)
  exact below3 hb1
theorem decode_out (b0 b1 b2 b3 : Int) (w : World) (h0 : 27 ≤ b0) (h1 : b0 < 256) :
    Calls Tryd.prog 25 #[.agg #[.int .u8 b0, .int .u8 b1, .int .u8 b2, .int .u8 b3]] w fun e w' => e = .returned (.tuple #[.agg #[.int .i64 0, .int .i64 0, .int .i64 0, .int .i64 0], .int .i64 24]) ∧ Below w.heap.size w w' := by
  have hd : decide (b0 < 27) = false := by simp; omega
  have hp : 0 ≤ b0 := by omega
  go_enter Tryd.func25, Tryd.ntmps25
  go_wp2_with (first | (go_at_call 46; go_in))
  refine bodyPost_ret (v := .tuple #[.agg #[.int .i64 0, .int .i64 0, .int .i64 0, .int .i64 0], .int .i64 24]) (by simp [results, Tryd.results25, go_sem]) rfl ⟨rfl, ?_⟩
  exact ((Below.refl _ _).alloc (Nat.le_refl _) _).alloc (by simp) _
theorem decode_ok (b0 b1 b2 b3 : Int) (w : World) (ho : OpsAt w) (h2 : 0 ≤ b1) (h3 : b1 < 256) (h4 : 0 ≤ b2) (h5 : b2 < 256) (h6 : 0 ≤ b3) (h7 : b3 < 256) (hk : chk b0 (b1 / 16) (b1 % 16) (decC b0 b2 b3) = 0) :
    Calls Tryd.prog 25 #[.agg #[.int .u8 b0, .int .u8 b1, .int .u8 b2, .int .u8 b3]] w fun e w' => e = .returned (.tuple #[.agg #[.int .i64 b0, .int .i64 (b1 / 16), .int .i64 (b1 % 16), .int .i64 (decC b0 b2 b3)], .int .i64 0]) ∧ Below w.heap.size w w' := by
  obtain ⟨h0, h1, _⟩ := chk_zero hk
  by_cases hn : lowI b0.toNat < 0
  · exact decode_lowOk b0 b1 b2 b3 w ho h0 h1 h2 h3 h4 h5 h6 h7 hn hk
  · rw [decC_plain b0 b2 b3 (by omega)] at hk ⊢
    exact decode_flatOk b0 b1 b2 b3 w ho h0 h1 h2 h3 h4 h5 h6 h7 (by omega) hk
theorem decode_no (b0 b1 b2 b3 : Int) (w : World) (ho : OpsAt w) (h0 : 0 ≤ b0) (h1 : b0 < 256) (h2 : 0 ≤ b1) (h3 : b1 < 256) (h4 : 0 ≤ b2) (h5 : b2 < 256) (h6 : 0 ≤ b3) (h7 : b3 < 256) (hk : chk b0 (b1 / 16) (b1 % 16) (decC b0 b2 b3) ≠ 0) :
    Calls Tryd.prog 25 #[.agg #[.int .u8 b0, .int .u8 b1, .int .u8 b2, .int .u8 b3]] w fun e w' => e = .returned (.tuple #[.agg #[.int .i64 0, .int .i64 0, .int .i64 0, .int .i64 0], .int .i64 24]) ∧ Below w.heap.size w w' := by
  by_cases h27 : b0 < 27
  · by_cases hn : lowI b0.toNat < 0
    · exact decode_lowNo b0 b1 b2 b3 w ho h0 h27 h2 h3 h4 h5 h6 h7 hn hk
    · rw [decC_plain b0 b2 b3 (by omega)] at hk
      exact decode_flatNo b0 b1 b2 b3 w ho h0 h27 h2 h3 h4 h5 h6 h7 (by omega) hk
  · exact decode_out b0 b1 b2 b3 w (by omega) h1
theorem low_form (k : Nat) (h : k < 27) (hn : lowI k < 0) : 4 ≤ formI k := ((tab_bd k h).2.2.2 hn).1
theorem refDecode_outNo (b0 b1 b2 b3 : Int) (w : World) (h0 : 27 ≤ b0) (h1 : b0 < 256) (h2 : 0 ≤ b1) (h3 : b1 < 256) (h4 : 0 ≤ b2) (h5 : b2 < 256) (h6 : 0 ≤ b3) (h7 : b3 < 256) (hk : chk b0 (b1 / 16) (b1 % 16) (b2 + 256 * b3) ≠ 0) :
    Calls Tryd.prog 27 #[.agg #[.int .u8 b0, .int .u8 b1, .int .u8 b2, .int .u8 b3]] w fun e w' => e = .returned (.tuple #[.agg #[.int .i64 0, .int .i64 0, .int .i64 0, .int .i64 0], .int .i64 24]) ∧ Below w.heap.size w w' := by
  have hne : (chk b0 (b1 / 16) (b1 % 16) (b2 + 256 * b3) != 0) = true := by simpa using hk
  clear hk
  go_enter Tryd.func27, Tryd.ntmps27
  go_wp2_with (first | (go_at_call 33; refine (refLimits_out _ _ (by omega)).mono ?_; rintro e w' ⟨rfl, rfl⟩))
  refine (refCheck_is _ _ _ _ _ _ rfl).mono ?_
  rintro e w1 ⟨rfl, hb1⟩
  obtain ⟨hc, hf⟩ := bcell hb1
  have hz : w.heap.size + 2 < w1.heap.size := by have := hb1.size; simp at this; omega
  have hz1 : w.heap.size + 1 < w1.heap.size := by omega
  go_wp2
  refine bodyPost_ret (v := .tuple #[.agg #[.int .i64 0, .int .i64 0, .int .i64 0, .int .i64 0], .int .i64 24]) (by simp [results, Tryd.results27, go_sem, hc, hz, hz1]) rfl ⟨rfl, ?_⟩
  repeat (refine Below.setCell ?_ (by simp) _)
  exact below3 hb1
theorem refDecode_noneOk (b0 b1 b2 b3 : Int) (w : World) (h0 : 0 ≤ b0) (h1 : b0 < 27) (hf : formI b0.toNat < 4) (h2 : 0 ≤ b1) (h3 : b1 < 256) (h4 : 0 ≤ b2) (h5 : b2 < 256) (h6 : 0 ≤ b3) (h7 : b3 < 256) (hk : chk b0 (b1 / 16) (b1 % 16) (b2 + 256 * b3) = 0) :
    Calls Tryd.prog 27 #[.agg #[.int .u8 b0, .int .u8 b1, .int .u8 b2, .int .u8 b3]] w fun e w' => e = .returned (.tuple #[.agg #[.int .i64 b0, .int .i64 (b1 / 16), .int .i64 (b1 % 16), .int .i64 (b2 + 256 * b3)], .int .i64 0]) ∧ Below w.heap.size w w' := by
  have HK := Lib.hid hk
  clear hk
  go_enter Tryd.func27, Tryd.ntmps27
  go_wp2_with (first | (go_at_call 33; refine (refLimits_none _ _ h0 h1 hf).mono ?_; rintro e w' ⟨rfl, rfl⟩))
  refine (refCheck_is _ _ _ _ 0 _ HK.out).mono ?_
  rintro e w1 ⟨rfl, hb1⟩
  obtain ⟨hc, hf⟩ := bcell hb1
  have hz : w.heap.size + 2 < w1.heap.size := by have := hb1.size; simp at this; omega
  have hz1 : w.heap.size + 1 < w1.heap.size := by omega
  go_wp2
  refine bodyPost_ret (v := .tuple #[.agg #[.int .i64 b0, .int .i64 (b1 / 16), .int .i64 (b1 % 16), .int .i64 (b2 + 256 * b3)], .int .i64 0]) (by simp [results, Tryd.results27, go_sem, hc, hz, hz1]) rfl ⟨rfl, ?_⟩
  repeat (refine Below.setCell ?_ (by simp) _)
  exact below3 hb1
theorem refDecode_noneNo (b0 b1 b2 b3 : Int) (w : World) (h0 : 0 ≤ b0) (h1 : b0 < 27) (hf : formI b0.toNat < 4) (h2 : 0 ≤ b1) (h3 : b1 < 256) (h4 : 0 ≤ b2) (h5 : b2 < 256) (h6 : 0 ≤ b3) (h7 : b3 < 256) (hk : chk b0 (b1 / 16) (b1 % 16) (b2 + 256 * b3) ≠ 0) :
    Calls Tryd.prog 27 #[.agg #[.int .u8 b0, .int .u8 b1, .int .u8 b2, .int .u8 b3]] w fun e w' => e = .returned (.tuple #[.agg #[.int .i64 0, .int .i64 0, .int .i64 0, .int .i64 0], .int .i64 24]) ∧ Below w.heap.size w w' := by
  have hne : (chk b0 (b1 / 16) (b1 % 16) (b2 + 256 * b3) != 0) = true := by simpa using hk
  clear hk
  go_enter Tryd.func27, Tryd.ntmps27
  go_wp2_with (first | (go_at_call 33; refine (refLimits_none _ _ h0 h1 hf).mono ?_; rintro e w' ⟨rfl, rfl⟩))
  refine (refCheck_is _ _ _ _ _ _ rfl).mono ?_
  rintro e w1 ⟨rfl, hb1⟩
  obtain ⟨hc, hf⟩ := bcell hb1
  have hz : w.heap.size + 2 < w1.heap.size := by have := hb1.size; simp at this; omega
  have hz1 : w.heap.size + 1 < w1.heap.size := by omega
  go_wp2
  refine bodyPost_ret (v := .tuple #[.agg #[.int .i64 0, .int .i64 0, .int .i64 0, .int .i64 0], .int .i64 24]) (by simp [results, Tryd.results27, go_sem, hc, hz, hz1]) rfl ⟨rfl, ?_⟩
  repeat (refine Below.setCell ?_ (by simp) _)
  exact below3 hb1
theorem refDecode_flatOk (b0 b1 b2 b3 : Int) (w : World) (h0 : 0 ≤ b0) (h1 : b0 < 27) (hf : 4 ≤ formI b0.toNat) (hn : 0 ≤ lowI b0.toNat) (h2 : 0 ≤ b1) (h3 : b1 < 256) (h4 : 0 ≤ b2) (h5 : b2 < 256) (h6 : 0 ≤ b3) (h7 : b3 < 256) (hk : chk b0 (b1 / 16) (b1 % 16) (b2 + 256 * b3) = 0) :
    Calls Tryd.prog 27 #[.agg #[.int .u8 b0, .int .u8 b1, .int .u8 b2, .int .u8 b3]] w fun e w' => e = .returned (.tuple #[.agg #[.int .i64 b0, .int .i64 (b1 / 16), .int .i64 (b1 % 16), .int .i64 (b2 + 256 * b3)], .int .i64 0]) ∧ Below w.heap.size w w' := by
  have HK := Lib.hid hk
  clear hk
  go_enter Tryd.func27, Tryd.ntmps27
  go_wp2_with (first | (go_at_call 33; refine (refLimits_any _ _ h0 h1 hf).mono ?_; rintro e w' ⟨rfl, rfl⟩))
  refine (refCheck_is _ _ _ _ 0 _ HK.out).mono ?_
  rintro e w1 ⟨rfl, hb1⟩
  obtain ⟨hc, hf⟩ := bcell hb1
  have hz : w.heap.size + 2 < w1.heap.size := by have := hb1.size; simp at this; omega
  have hz1 : w.heap.size + 1 < w1.heap.size := by omega
  go_wp2
  refine bodyPost_ret (v := .tuple #[.agg #[.int .i64 b0, .int .i64 (b1 / 16), .int .i64 (b1 % 16), .int .i64 (b2 + 256 * b3)], .int .i64 0]) (by simp [results, Tryd.results27, go_sem, hc, hz, hz1]) rfl ⟨rfl, ?_⟩
  repeat (refine Below.setCell ?_ (by simp) _)
  exact below3 hb1
theorem refDecode_flatNo (b0 b1 b2 b3 : Int) (w : World) (h0 : 0 ≤ b0) (h1 : b0 < 27) (hf : 4 ≤ formI b0.toNat) (hn : 0 ≤ lowI b0.toNat) (h2 : 0 ≤ b1) (h3 : b1 < 256) (h4 : 0 ≤ b2) (h5 : b2 < 256) (h6 : 0 ≤ b3) (h7 : b3 < 256) (hk : chk b0 (b1 / 16) (b1 % 16) (b2 + 256 * b3) ≠ 0) :
    Calls Tryd.prog 27 #[.agg #[.int .u8 b0, .int .u8 b1, .int .u8 b2, .int .u8 b3]] w fun e w' => e = .returned (.tuple #[.agg #[.int .i64 0, .int .i64 0, .int .i64 0, .int .i64 0], .int .i64 24]) ∧ Below w.heap.size w w' := by
  have hne : (chk b0 (b1 / 16) (b1 % 16) (b2 + 256 * b3) != 0) = true := by simpa using hk
  clear hk
  go_enter Tryd.func27, Tryd.ntmps27
  go_wp2_with (first | (go_at_call 33; refine (refLimits_any _ _ h0 h1 hf).mono ?_; rintro e w' ⟨rfl, rfl⟩))
  refine (refCheck_is _ _ _ _ _ _ rfl).mono ?_
  rintro e w1 ⟨rfl, hb1⟩
  obtain ⟨hc, hf⟩ := bcell hb1
  have hz : w.heap.size + 2 < w1.heap.size := by have := hb1.size; simp at this; omega
  have hz1 : w.heap.size + 1 < w1.heap.size := by omega
  go_wp2
  refine bodyPost_ret (v := .tuple #[.agg #[.int .i64 0, .int .i64 0, .int .i64 0, .int .i64 0], .int .i64 24]) (by simp [results, Tryd.results27, go_sem, hc, hz, hz1]) rfl ⟨rfl, ?_⟩
  repeat (refine Below.setCell ?_ (by simp) _)
  exact below3 hb1
theorem refDecode_smallOk (b0 b1 b2 b3 : Int) (w : World) (h0 : 0 ≤ b0) (h1 : b0 < 27) (hf : 4 ≤ formI b0.toNat) (hn : lowI b0.toNat < 0) (hc0 : b2 + 256 * b3 ≤ 32767) (h2 : 0 ≤ b1) (h3 : b1 < 256) (h4 : 0 ≤ b2) (h5 : b2 < 256) (h6 : 0 ≤ b3) (h7 : b3 < 256) (hk : chk b0 (b1 / 16) (b1 % 16) (b2 + 256 * b3) = 0) :
    Calls Tryd.prog 27 #[.agg #[.int .u8 b0, .int .u8 b1, .int .u8 b2, .int .u8 b3]] w fun e w' => e = .returned (.tuple #[.agg #[.int .i64 b0, .int .i64 (b1 / 16), .int .i64 (b1 % 16), .int .i64 (b2 + 256 * b3)], .int .i64 0]) ∧ Below w.heap.size w w' := by
  have HK := Lib.hid hk
  clear hk
  go_enter Tryd.func27, Tryd.ntmps27
  go_wp2_with (first | (go_at_call 33; refine (refLimits_any _ _ h0 h1 hf).mono ?_; rintro e w' ⟨rfl, rfl⟩))
  refine (refCheck_is _ _ _ _ 0 _ HK.out).mono ?_
  rintro e w1 ⟨rfl, hb1⟩
  obtain ⟨hc, hf⟩ := bcell hb1
  have hz : w.heap.size + 2 < w1.heap.size := by have := hb1.size; simp at this; omega
  have hz1 : w.heap.size + 1 < w1.heap.size := by omega
  go_wp2
  refine bodyPost_ret (v := .tuple #[.agg #[.int .i64 b0, .int .i64 (b1 / 16), .int .i64 (b1 % 16), .int .i64 (b2 + 256 * b3)], .int .i64 0]) (by simp [results, Tryd.results27, go_sem, hc, hz, hz1]) rfl ⟨rfl, ?_⟩
  repeat (refine Below.setCell ?_ (by simp) _)
  exact below3 hb1
theorem refDecode_smallNo (b0 b1 b2 b3 : Int) (w : World) (h0 : 0 ≤ b0) (h1 : b0 < 27) (hf : 4 ≤ formI b0.toNat) (hn : lowI b0.toNat < 0) (hc0 : b2 + 256 * b3 ≤ 32767) (h2 : 0 ≤ b1) (h3 : b1 < 256) (h4 : 0 ≤ b2) (h5 : b2 < 256) (h6 : 0 ≤ b3) (h7 : b3 < 256) (hk : chk b0 (b1 / 16) (b1 % 16) (b2 + 256 * b3) ≠ 0) :
    Calls Tryd.prog 27 #[.agg #[.int .u8 b0, .int .u8 b1, .int .u8 b2, .int .u8 b3]] w fun e w' => e = .returned (.tuple #[.agg #[.int .i64 0, .int .i64 0, .int .i64 0, .int .i64 0], .int .i64 24]) ∧ Below w.heap.size w w' := by
  have hne : (chk b0 (b1 / 16) (b1 % 16) (b2 + 256 * b3) != 0) = true := by simpa using hk
  clear hk
  go_enter Tryd.func27, Tryd.ntmps27
  go_wp2_with (first | (go_at_call 33; refine (refLimits_any _ _ h0 h1 hf).mono ?_; rintro e w' ⟨rfl, rfl⟩))
  refine (refCheck_is _ _ _ _ _ _ rfl).mono ?_
  rintro e w1 ⟨rfl, hb1⟩
  obtain ⟨hc, hf⟩ := bcell hb1
  have hz : w.heap.size + 2 < w1.heap.size := by have := hb1.size; simp at this; omega
  have hz1 : w.heap.size + 1 < w1.heap.size := by omega
  go_wp2
  refine bodyPost_ret (v := .tuple #[.agg #[.int .i64 0, .int .i64 0, .int .i64 0, .int .i64 0], .int .i64 24]) (by simp [results, Tryd.results27, go_sem, hc, hz, hz1]) rfl ⟨rfl, ?_⟩
  repeat (refine Below.setCell ?_ (by simp) _)
  exact below3 hb1
theorem refDecode_greatOk (b0 b1 b2 b3 : Int) (w : World) (h0 : 0 ≤ b0) (h1 : b0 < 27) (hf : 4 ≤ formI b0.toNat) (hn : lowI b0.toNat < 0) (hc0 : 32767 < b2 + 256 * b3) (h2 : 0 ≤ b1) (h3 : b1 < 256) (h4 : 0 ≤ b2) (h5 : b2 < 256) (h6 : 0 ≤ b3) (h7 : b3 < 256) (hk : chk b0 (b1 / 16) (b1 % 16) (b2 + 256 * b3 - 65536) = 0) :
    Calls Tryd.prog 27 #[.agg #[.int .u8 b0, .int .u8 b1, .int .u8 b2, .int .u8 b3]] w fun e w' => e = .returned (.tuple #[.agg #[.int .i64 b0, .int .i64 (b1 / 16), .int .i64 (b1 % 16), .int .i64 (b2 + 256 * b3 - 65536)], .int .i64 0]) ∧ Below w.heap.size w w' := by
  have HK := Lib.hid hk
  clear hk
  go_enter Tryd.func27, Tryd.ntmps27
  go_wp2_with (first | (go_at_call 33; refine (refLimits_any _ _ h0 h1 hf).mono ?_; rintro e w' ⟨rfl, rfl⟩))
  refine (refCheck_is _ _ _ _ 0 _ HK.out).mono ?_
  rintro e w1 ⟨rfl, hb1⟩
  obtain ⟨hc, hf⟩ := bcell hb1
  have hz : w.heap.size + 2 < w1.heap.size := by have := hb1.size; simp at this; omega
  have hz1 : w.heap.size + 1 < w1.heap.size := by omega
  go_wp2
  refine bodyPost_ret (v := .tuple #[.agg #[.int .i64 b0, .int .i64 (b1 / 16), .int .i64 (b1 % 16), .int .i64 (b2 + 256 * b3 - 65536)], .int .i64 0]) (by simp [results, Tryd.results27, go_sem, hc, hz, hz1]) rfl ⟨rfl, ?_⟩
  repeat (refine Below.setCell ?_ (by simp) _)
  exact below3 hb1
theorem refDecode_greatNo (b0 b1 b2 b3 : Int) (w : World) (h0 : 0 ≤ b0) (h1 : b0 < 27) (hf : 4 ≤ formI b0.toNat) (hn : lowI b0.toNat < 0) (hc0 : 32767 < b2 + 256 * b3) (h2 : 0 ≤ b1) (h3 : b1 < 256) (h4 : 0 ≤ b2) (h5 : b2 < 256) (h6 : 0 ≤ b3) (h7 : b3 < 256) (hk : chk b0 (b1 / 16) (b1 % 16) (b2 + 256 * b3 - 65536) ≠ 0) :
    Calls Tryd.prog 27 #[.agg #[.int .u8 b0, .int .u8 b1, .int .u8 b2, .int .u8 b3]] w fun e w' => e = .returned (.tuple #[.agg #[.int .i64 0, .int .i64 0, .int .i64 0, .int .i64 0], .int .i64 24]) ∧ Below w.heap.size w w' := by
  have hne : (chk b0 (b1 / 16) (b1 % 16) (b2 + 256 * b3 - 65536) != 0) = true := by simpa using hk
  clear hk
  go_enter Tryd.func27, Tryd.ntmps27
  go_wp2_with (first | (go_at_call 33; refine (refLimits_any _ _ h0 h1 hf).mono ?_; rintro e w' ⟨rfl, rfl⟩))
  refine (refCheck_is _ _ _ _ _ _ rfl).mono ?_
  rintro e w1 ⟨rfl, hb1⟩
  obtain ⟨hc, hf⟩ := bcell hb1
  have hz : w.heap.size + 2 < w1.heap.size := by have := hb1.size; simp at this; omega
  have hz1 : w.heap.size + 1 < w1.heap.size := by omega
  go_wp2
  refine bodyPost_ret (v := .tuple #[.agg #[.int .i64 0, .int .i64 0, .int .i64 0, .int .i64 0], .int .i64 24]) (by simp [results, Tryd.results27, go_sem, hc, hz, hz1]) rfl ⟨rfl, ?_⟩
  repeat (refine Below.setCell ?_ (by simp) _)
  exact below3 hb1
theorem refDecode_ok (b0 b1 b2 b3 : Int) (w : World) (h2 : 0 ≤ b1) (h3 : b1 < 256) (h4 : 0 ≤ b2) (h5 : b2 < 256) (h6 : 0 ≤ b3) (h7 : b3 < 256) (hk : chk b0 (b1 / 16) (b1 % 16) (decC b0 b2 b3) = 0) :
    Calls Tryd.prog 27 #[.agg #[.int .u8 b0, .int .u8 b1, .int .u8 b2, .int .u8 b3]] w fun e w' => e = .returned (.tuple #[.agg #[.int .i64 b0, .int .i64 (b1 / 16), .int .i64 (b1 % 16), .int .i64 (decC b0 b2 b3)], .int .i64 0]) ∧ Below w.heap.size w w' := by
  obtain ⟨h0, h1, _⟩ := chk_zero hk
  by_cases hn : lowI b0.toNat < 0
  · have hf := low_form b0.toNat (by omega) hn
    by_cases hc0 : 32767 < b2 + 256 * b3
    · have e : decC b0 b2 b3 = b2 + 256 * b3 - 65536 := if_pos ⟨hn, hc0⟩
      rw [e] at hk ⊢
      exact refDecode_greatOk b0 b1 b2 b3 w h0 h1 hf hn hc0 h2 h3 h4 h5 h6 h7 hk
    · have e : decC b0 b2 b3 = b2 + 256 * b3 := if_neg (by omega)
      rw [e] at hk ⊢
      exact refDecode_smallOk b0 b1 b2 b3 w h0 h1 hf hn (by omega) h2 h3 h4 h5 h6 h7 hk
  · rw [decC_plain b0 b2 b3 (by omega)] at hk ⊢
    by_cases hf : 4 ≤ formI b0.toNat
    · exact refDecode_flatOk b0 b1 b2 b3 w h0 h1 hf (by omega) h2 h3 h4 h5 h6 h7 hk
    · exact refDecode_noneOk b0 b1 b2 b3 w h0 h1 (by omega) h2 h3 h4 h5 h6 h7 hk
theorem refDecode_no (b0 b1 b2 b3 : Int) (w : World) (h0 : 0 ≤ b0) (h1 : b0 < 256) (h2 : 0 ≤ b1) (h3 : b1 < 256) (h4 : 0 ≤ b2) (h5 : b2 < 256) (h6 : 0 ≤ b3) (h7 : b3 < 256) (hk : chk b0 (b1 / 16) (b1 % 16) (decC b0 b2 b3) ≠ 0) :
    Calls Tryd.prog 27 #[.agg #[.int .u8 b0, .int .u8 b1, .int .u8 b2, .int .u8 b3]] w fun e w' => e = .returned (.tuple #[.agg #[.int .i64 0, .int .i64 0, .int .i64 0, .int .i64 0], .int .i64 24]) ∧ Below w.heap.size w w' := by
  by_cases h27 : b0 < 27
  · by_cases hn : lowI b0.toNat < 0
    · have hf := low_form b0.toNat (by omega) hn
      by_cases hc0 : 32767 < b2 + 256 * b3
      · have e : decC b0 b2 b3 = b2 + 256 * b3 - 65536 := if_pos ⟨hn, hc0⟩
        rw [e] at hk
        exact refDecode_greatNo b0 b1 b2 b3 w h0 h27 hf hn hc0 h2 h3 h4 h5 h6 h7 hk
      · have e : decC b0 b2 b3 = b2 + 256 * b3 := if_neg (by omega)
        rw [e] at hk
        exact refDecode_smallNo b0 b1 b2 b3 w h0 h27 hf hn (by omega) h2 h3 h4 h5 h6 h7 hk
    · rw [decC_plain b0 b2 b3 (by omega)] at hk
      by_cases hf : 4 ≤ formI b0.toNat
      · exact refDecode_flatNo b0 b1 b2 b3 w h0 h27 hf (by omega) h2 h3 h4 h5 h6 h7 hk
      · exact refDecode_noneNo b0 b1 b2 b3 w h0 h27 (by omega) h2 h3 h4 h5 h6 h7 hk
  · exact refDecode_outNo b0 b1 b2 b3 w (by omega) h1 h2 h3 h4 h5 h6 h7 (by rw [chk_out _ _ _ (by omega)]; decide)
end Go.Proofs.YtagmeijpelffcaaDoor
