/- Walks of layer 21: small functions of the reference. -/
import Derived.Test.YtdhfkokinnmfhaaDoorX14
namespace Go.Proofs.YtdhfkokinnmfhaaDoor
open Go.RowKit
set_option linter.unusedSimpArgs false
set_option linter.unusedVariables false
theorem str_beq (a b : ByteArray) : (a.toList == b.toList) = decide (a = b) := by
  rw [Lib.toList_data, Lib.toList_data, Bool.eq_iff_iff]
  simp only [beq_iff_eq, decide_eq_true_eq]
  constructor
  · intro h; exact ByteArray.ext (Array.toList_inj.1 h)
  · rintro rfl; rfl
theorem bt_rest (s : ByteArray) (a i : Nat) (h : a ≤ s.size) : bt (s.extract a s.size) i = bt s (a + i) := by
  by_cases hi : a + i < s.size
  · exact bt_extract s a s.size i (Nat.le_refl _) hi
  · rw [bt_out s _ (by omega), bt_out _ _ (by rw [size_extract s a s.size (Nat.le_refl _)]; omega)]
theorem letter_any (n : Int) (w : World) : Calls Tryd.prog 35 #[.int .u8 n] w fun e w' => e = .returned (.bool (ltrI n)) ∧ w = w' := by
  go_enter Tryd.func35, Tryd.ntmps35
  go_wp2
  all_goals
    go_ret
    refine ⟨ret_bool ?_, rfl⟩
    unfold ltrI
    rw [Bool.eq_iff_iff]
    simp
    omega
theorem digit_any (n : Int) (w : World) : Calls Tryd.prog 37 #[.int .u8 n] w fun e w' => e = .returned (.bool (digI n)) ∧ w = w' := by
  go_enter Tryd.func37, Tryd.ntmps37
  go_wp2
  all_goals
    go_ret
    refine ⟨ret_bool ?_, rfl⟩
    unfold digI
    rw [Bool.eq_iff_iff]
    simp
    omega
/-- The value of a digit, or -1. -/
def hexR (n : Int) : Int := if hexI n = true then hexV n else -1
theorem hex_any (n : Int) (w : World) : Calls Tryd.prog 59 #[.int .u8 n] w fun e w' => e = .returned (.int .i64 (hexR n)) ∧ w = w' := by
  cases hd : digI n with
  | true =>
    have g : 48 ≤ n ∧ n ≤ 57 := by unfold digI at hd; simpa using hd
    obtain ⟨g1, g2⟩ := g
    have HD := Lib.hid hd
    clear hd
    go_enter Tryd.func59, Tryd.ntmps59
    go_wp2_with (go_at_call 37; refine (digit_any _ _).mono ?_; rintro e w' ⟨rfl, rfl⟩; rw [HD.out])
    go_ret
    exact ⟨ret_int (by unfold hexR hexI hexV; rw [HD.out]; rfl), rfl⟩
  | false =>
    have HD := Lib.hid hd
    by_cases g : 97 ≤ n ∧ n ≤ 102
    · obtain ⟨g1, g2⟩ := g
      clear hd
      go_enter Tryd.func59, Tryd.ntmps59
      go_wp2_with (go_at_call 37; refine (digit_any _ _).mono ?_; rintro e w' ⟨rfl, rfl⟩; rw [HD.out])
      go_ret
      refine ⟨ret_int ?_, rfl⟩
      unfold hexR hexI hexV
      rw [HD.out]
      simp [g1, g2]
      omega
    · have HR := Lib.hid (show hexR n = -1 by
        unfold hexR hexI
        rw [if_neg]
        rw [HD.out]
        simp
        omega)
      clear hd
      by_cases g1 : 97 ≤ n
      · have g2 : 102 < n := by omega
        clear g
        go_enter Tryd.func59, Tryd.ntmps59
        go_wp2_with (go_at_call 37; refine (digit_any _ _).mono ?_; rintro e w' ⟨rfl, rfl⟩; rw [HD.out])
        go_ret
        exact ⟨ret_int HR.out.symm, rfl⟩
      · have g2 : n < 97 := by omega
        clear g
        go_enter Tryd.func59, Tryd.ntmps59
        go_wp2_with (go_at_call 37; refine (digit_any _ _).mono ?_; rintro e w' ⟨rfl, rfl⟩; rw [HD.out])
        go_ret
        exact ⟨ret_int HR.out.symm, rfl⟩
theorem contains_any (b n : Nat) (zs : List ByteArray) (x : ByteArray) (w : World) (hn : n = zs.length) (h1000 : n ≤ 1000) (h : StrsAt w b zs) :
    Calls Tryd.prog 36 #[.slice (some ⟨b, 0, none⟩) n n, .string x] w fun e w' => e = .returned (.bool (Lib.containsS zs x)) ∧ w = w' := by
  have HN := Lib.hid hn
  clear hn
  go_enter Tryd.func36, Tryd.ntmps36
  go_wp2
  go_loop [5] (fun i => ∃ k : Nat, k ≤ n ∧ i = .int .i64 k ∧ (∀ j, j < k → zs.getD j ByteArray.empty ≠ x)) (fun i => n - (intOf i).toNat)
  case atStart => exact ⟨0, Nat.zero_le _, rfl, fun j h => by omega⟩
  case round =>
    obtain ⟨k, hk, rfl, hj⟩ := hrel
    have HJ := Lib.hid hj
    clear hj
    by_cases hlt : k < n
    · have hc := h.2 k (by have := HN.out; omega)
      generalize hz : zs.getD k ByteArray.empty = z at *
      have HZ := Lib.hid hz
      clear hz
      cases hq : (z.toList == x.toList) with
      | true =>
        have HQ := Lib.hid (show z = x by rw [str_beq] at hq; simpa using hq)
        go_wp2
        go_ret
        refine ⟨ret_bool ?_, rfl⟩
        rw [eq_comm, Lib.containsS_iff, ← HQ.out, ← HZ.out, List.getD_eq_getElem?_getD, List.getElem?_eq_getElem (by have := HN.out; omega)]
        exact List.getElem_mem _
      | false =>
        have HQ := Lib.hid (show z ≠ x by rw [str_beq] at hq; simpa using hq)
        go_wp2
        go_round
        case rel => exact ⟨k + 1, by omega, by go_num, fun j hj => (by by_cases e : j = k; (subst e; rw [HZ.out]; exact HQ.out); exact HJ.out j (by omega))⟩
        case measure => simp [intOf]; omega
    · go_wp2
      go_ret
      refine ⟨ret_bool ?_, rfl⟩
      cases hc : Lib.containsS zs x with
      | false => rfl
      | true =>
        rw [Lib.containsS_iff] at hc
        obtain ⟨j, hj, hx⟩ := List.getElem_of_mem hc
        have := HJ.out j (by have := HN.out; omega)
        rw [List.getD_eq_getElem?_getD, List.getElem?_eq_getElem hj] at this
        exact absurd hx this
theorem alnum_any (s : ByteArray) (a : Nat) (w : World) (ha : a ≤ s.size) (hs : s.size ≤ 100000) :
    Calls Tryd.prog 48 #[.string s, .int .i64 a] w fun e w' => e = .returned (.int .i64 ((a : Int) + leadB alnI (s.extract a s.size))) ∧ w = w' := by
  have HZ := Lib.hid (size_extract s a s.size (Nat.le_refl _))
  go_enter Tryd.func48, Tryd.ntmps48
  go_wp2
  go_loop [1] (fun i => ∃ k : Nat, a + k ≤ s.size ∧ i = .int .i64 ((a + k : Nat) : Int) ∧ (∀ j, j < k → alnI (bt s (a + j)) = true)) (fun i => s.size - (intOf i).toNat)
  case atStart => exact ⟨0, ha, rfl, fun j h => by omega⟩
  case round =>
    obtain ⟨k, hk, rfl, hj⟩ := hrel
    have HJ := Lib.hid hj
    clear hj
    by_cases hlt : a + k < s.size
    · have hb := bt_of s (a + k) hlt
      cases hq : ltrI (bt s (a + k)) with
      | true =>
        have HQ := Lib.hid hq
        go_wp2_with (first | (go_at_call 35; refine (letter_any _ _).mono ?_; rintro e w' ⟨rfl, rfl⟩) | (go_at_call 37; refine (digit_any _ _).mono ?_; rintro e w' ⟨rfl, rfl⟩))
        go_round
        case rel => exact ⟨k + 1, by omega, by go_num, fun j hj => (by by_cases e : j = k; (subst e; unfold alnI; rw [HQ.out]; rfl); exact HJ.out j (by omega))⟩
        case measure => simp [intOf]; omega
      | false =>
        have HQ := Lib.hid hq
        cases hd : digI (bt s (a + k)) with
        | true =>
          have HD := Lib.hid hd
          go_wp2_with (first | (go_at_call 35; refine (letter_any _ _).mono ?_; rintro e w' ⟨rfl, rfl⟩) | (go_at_call 37; refine (digit_any _ _).mono ?_; rintro e w' ⟨rfl, rfl⟩))
          go_round
          case rel => exact ⟨k + 1, by omega, by go_num, fun j hj => (by by_cases e : j = k; (subst e; unfold alnI; rw [HD.out]; simp); exact HJ.out j (by omega))⟩
          case measure => simp [intOf]; omega
        | false =>
          have HD := Lib.hid hd
          go_wp2_with (first | (go_at_call 35; refine (letter_any _ _).mono ?_; rintro e w' ⟨rfl, rfl⟩) | (go_at_call 37; refine (digit_any _ _).mono ?_; rintro e w' ⟨rfl, rfl⟩))
          go_ret
          refine ⟨ret_int ?_, rfl⟩
          rw [leadB_at alnI (s.extract a s.size) k (by rw [HZ.out]; omega) (fun i hi => by rw [bt_rest s a i ha]; exact HJ.out i hi) (.inr (by rw [bt_rest s a k ha]; unfold alnI; rw [HQ.out, HD.out]; rfl))]
          try omega
    · go_wp2
      go_ret
      refine ⟨ret_int ?_, rfl⟩
      rw [leadB_at alnI (s.extract a s.size) k (by rw [HZ.out]; omega) (fun i hi => by rw [bt_rest s a i ha]; exact HJ.out i hi) (.inl (by rw [HZ.out]; omega))]
      try omega
theorem ret_2 {a b c d : Int} (h : a = b) (h' : c = d) : Ending.returned (.tuple #[.int .i64 a, .int .i64 c]) = .returned (.tuple #[.int .i64 b, .int .i64 d]) := by rw [h, h']
theorem place_any (s : ByteArray) (a : Nat) (w : World) (ha : a ≤ s.size) (hs : s.size ≤ 100000) :
    Calls Tryd.prog 14 #[.string s, .int .i64 a] w fun e w' => e = .returned (.tuple #[.int .i64 (lineN s a), .int .i64 (colN s a)]) ∧ w = w' := by
  go_enter Tryd.func14, Tryd.ntmps14
  go_wp2
  go_loop [4, 5, 6] (fun l c i => ∃ k : Nat, k ≤ a ∧ i = .int .i64 k ∧ l = .int .i64 (lineN s k) ∧ c = .int .i64 (colN s k)) (fun _ _ i => a - (intOf i).toNat)
  case atStart => exact ⟨0, Nat.zero_le _, rfl, rfl, rfl⟩
  case round =>
    obtain ⟨k, hk, rfl, rfl, rfl⟩ := hrel
    have h1 := lineN_le s k
    have h2 := begN_le s k
    have HC := Lib.hid (show colN s k = (k : Int) - begN s k + 1 from rfl)
    have h3 : 1 ≤ colN s k ∧ colN s k ≤ k + 1 := by unfold colN; omega
    obtain ⟨h4, h5⟩ := h3
    by_cases hlt : k < a
    · have hb := bt_of s k (by omega)
      by_cases h10 : bt s k = 10
      · have t10 : (bt s k == 10) = true := by simpa using h10
        have HL := Lib.hid (lineN_nl s k h10)
        have HB := Lib.hid (begN_nl s k h10)
        clear h10
        generalize colN s k = c at *
        go_wp2
        go_round
        case rel => exact ⟨k + 1, by omega, by go_num, by rw [HL.out]; go_num, by unfold colN; rw [HB.out]; simp⟩
        case measure => simp [intOf]; omega
      · have t10 : (bt s k == 10) = false := by simpa using h10
        have HL := Lib.hid (lineN_no s k h10)
        have HB := Lib.hid (begN_no s k h10)
        clear h10
        generalize colN s k = c at *
        go_wp2
        go_round
        case rel => exact ⟨k + 1, by omega, by go_num, by rw [HL.out], by unfold colN; rw [HB.out, HC.out]; simp; omega⟩
        case measure => simp [intOf]; omega
    · obtain rfl : k = a := by omega
      go_wp2
      go_ret2
      exact ⟨rfl, rfl⟩
end Go.Proofs.YtdhfkokinnmfhaaDoor
