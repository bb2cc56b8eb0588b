/- Walks of layer 21: number of the reference. -/
import Derived.Test.YtdhfkokinnmfhaaDoorY2
namespace Go.Proofs.YtdhfkokinnmfhaaDoor
open Go.RowKit
set_option linter.unusedSimpArgs false
set_option linter.unusedVariables false
theorem ext2 (s : ByteArray) (h : 2 ≤ s.size) : ((s.extract 0 2).toList == [48, 120]) = decide (bt s 0 = 48 ∧ bt s 1 = 120) := by
  have e0 := bt_extract s 0 2 0 h (by omega)
  have e1 := bt_extract s 0 2 1 h (by omega)
  have hz := size_extract s 0 2 h
  rw [show ([48, 120] : List UInt8) = (⟨#[48, 120]⟩ : ByteArray).toList by rw [Lib.toList_data], str_beq, Bool.eq_iff_iff]
  simp only [decide_eq_true_eq]
  constructor
  · intro h2
    rw [h2] at e0 e1
    exact ⟨e0.symm, e1.symm⟩
  · rintro ⟨h1, h2⟩
    apply ext_bt
    · rw [hz]; rfl
    · intro i hi
      obtain rfl | rfl : i = 0 ∨ i = 1 := by omega
      · rw [e0]; exact h1
      · rw [e1]; exact h2
theorem valS_hex (s : ByteArray) (h : 2 < s.size) (h1 : bt s 0 = 48 ∧ bt s 1 = 120) : valS s = if s.size < 3 ∨ 10 < s.size ∨ leadB hexI (s.extract 2 s.size) < s.size - 2 then (0, 3) else (hexF 0 (s.extract 2 s.size).data.toList, 0) := by
  unfold valS
  rw [if_pos ⟨by omega, h1⟩]
theorem valS_dec (s : ByteArray) (h : ¬(2 < s.size ∧ bt s 0 = 48 ∧ bt s 1 = 120)) (h0 : 0 < s.size) : valS s = if leadB digI s < s.size ∨ (bt s 0 = 48 ∧ 1 < s.size) then (0, 3) else decS 0 s.data.toList := by
  unfold valS
  by_cases h1 : 2 ≤ s.size ∧ bt s 0 = 48 ∧ bt s 1 = 120
  · rw [if_pos h1, if_pos (.inl (by omega)), if_pos (.inr ⟨h1.2.1, by omega⟩)]
  · rw [if_neg h1]
set_option maxHeartbeats 2000000 in
theorem refNumber_hex (s : ByteArray) (w : World) (h : 2 < s.size) (hs : s.size ≤ 100000) (h1 : bt s 0 = 48 ∧ bt s 1 = 120) :
    Calls Tryd.prog 49 #[.string s] w fun e w' => e = valV (valS s) ∧ w = w' := by
  have HS := Lib.hid (valS_hex s h h1)
  have hp : ((s.extract 0 2).toList == [48, 120]) = true := by rw [ext2 s (by omega)]; simpa using h1
  have HZ := Lib.hid (size_extract s 2 s.size (Nat.le_refl _))
  clear h1
  go_enter Tryd.func49, Tryd.ntmps49
  go_wp2
  go_loop [4, 5] (fun v i => ∃ (k : Nat) (n : Int), 2 + k ≤ s.size ∧ k ≤ 8 ∧ i = .int .i64 ((2 + k : Nat) : Int) ∧ v = .int .i64 n ∧ 0 ≤ n ∧ n < 16 ^ k ∧ (∀ j, j < k → hexI (bt s (2 + j)) = true) ∧ hexF 0 (s.extract 2 s.size).data.toList = hexF n ((s.extract 2 s.size).data.toList.drop k)) (fun _ i => s.size - (intOf i).toNat)
  case atStart => exact ⟨0, 0, by omega, by omega, rfl, rfl, Int.le_refl _, by decide, fun j h => by omega, rfl⟩
  case round =>
    obtain ⟨k, n, hk, hk8, rfl, rfl, n0, n1, hj, hF⟩ := hrel
    have hpw := pow16 k hk8
    have n2 : n < 4294967296 := by omega
    have HF := Lib.hid hF
    have HJ := Lib.hid hj
    have N1 := Lib.hid n1
    clear hF hj n1 hpw
    by_cases hlt : 2 + k < s.size
    · have hb := bt_of s (2 + k) hlt
      cases hq : hexI (bt s (2 + k)) with
      | false =>
        have HH := Lib.hid (show hexR (bt s (2 + k)) = -1 by unfold hexR; rw [hq]; rfl)
        have HQ := Lib.hid hq
        go_wp2_with (go_at_call 59; refine (hex_any _ _).mono ?_; rintro e w' ⟨rfl, rfl⟩; rw [HH.out])
        go_ret2
        refine ⟨valV_eq ?_, rfl⟩
        rw [HS.out, if_pos]
        refine .inr (.inr ?_)
        rw [leadB_at hexI (s.extract 2 s.size) k (by rw [HZ.out]; omega) (fun i hi => by rw [bt_rest s 2 i (by omega)]; exact HJ.out i hi) (.inr (by rw [bt_rest s 2 k (by omega)]; exact HQ.out))]
        omega
      | true =>
        have HH := Lib.hid (show hexR (bt s (2 + k)) = hexV (bt s (2 + k)) by unfold hexR; rw [hq]; rfl)
        obtain ⟨v1, v2⟩ := hexV_bd _ hq
        have HQ := Lib.hid hq
        clear hq
        by_cases h8 : k = 8
        · subst h8
          go_wp2_with (go_at_call 59; refine (hex_any _ _).mono ?_; rintro e w' ⟨rfl, rfl⟩; rw [HH.out])
          go_ret2
          refine ⟨valV_eq ?_, rfl⟩
          rw [HS.out, if_pos (.inr (.inl (by omega)))]
        · have h7 : k ≤ 7 := by omega
          clear h8
          go_wp2_with (go_at_call 59; refine (hex_any _ _).mono ?_; rintro e w' ⟨rfl, rfl⟩; rw [HH.out])
          go_round
          case rel => exact ⟨k + 1, 16 * n + hexV (bt s (2 + k)), by omega, by omega, by go_num, by go_num, by omega, pow16s _ _ _ N1.out v2, fun j hj => (by by_cases e : j = k; (subst e; exact HQ.out); exact HJ.out j (by omega)), by rw [HF.out, hexF_step _ n k (by rw [HZ.out]; omega), bt_rest s 2 k (by omega)]⟩
          case measure => simp [intOf]; omega
    · go_wp2
      go_ret2
      refine ⟨valV_eq ?_, rfl⟩
      have hL : leadB hexI (s.extract 2 s.size) = k := leadB_at hexI (s.extract 2 s.size) k (by rw [HZ.out]; omega) (fun i hi => by rw [bt_rest s 2 i (by omega)]; exact HJ.out i hi) (.inl (by rw [HZ.out]; omega))
      rw [HS.out, if_neg (by rw [hL]; omega), HF.out, hexF_end _ n k (by rw [HZ.out]; omega)]
set_option maxHeartbeats 4000000 in
set_option maxRecDepth 100000 in
theorem refNumber_dec (s : ByteArray) (w : World) (h0 : 0 < s.size) (hs : s.size ≤ 100000) (h : ¬(2 < s.size ∧ bt s 0 = 48 ∧ bt s 1 = 120)) :
    Calls Tryd.prog 49 #[.string s] w fun e w' => e = valV (valS s) ∧ w = w' := by
  have HS := Lib.hid (valS_dec s h h0)
  have hb0 := bt_of s 0 h0
  have hp : 2 < s.size → ((s.extract 0 2).toList == [48, 120]) = false := fun h2 => by rw [ext2 s (by omega)]; simp; exact fun a b => h ⟨h2, a, b⟩
  have hdg : Hid (∀ n, digI n = true → 48 ≤ n ∧ n ≤ 57) := fun n hn => by unfold digI at hn; simpa using hn
  clear h
  by_cases h2 : 2 < s.size
  all_goals first | (have hp2 := hp h2) | (have hp2 : True := trivial)
  all_goals
    clear hp
    go_enter Tryd.func49, Tryd.ntmps49
    go_wp2
    clear hp2
    go_loop [6, 7, 8] (fun v ov i => ∃ (k : Nat) (n : Int) (o : Bool), k ≤ s.size ∧ i = .int .i64 k ∧ v = .int .i64 n ∧ ov = .bool o ∧ (∀ j, j < k → digI (bt s j) = true) ∧ (bt s 0 = 48 → k ≤ 1) ∧ (o = false → 0 ≤ n ∧ n ≤ 4294967295 ∧ decS 0 s.data.toList = decS n (s.data.toList.drop k)) ∧ (o = true → 0 ≤ n ∧ n ≤ 50000000000 ∧ decS 0 s.data.toList = (0, 2))) (fun _ _ i => s.size - (intOf i).toNat)
    case atStart => exact ⟨0, 0, false, Nat.zero_le _, rfl, rfl, rfl, fun j h => by omega, fun _ => by omega, fun _ => ⟨by omega, by omega, rfl⟩, by simp⟩
    case round =>
      obtain ⟨k, n, o, hk, rfl, rfl, rfl, hj, h48, hF0, hT0⟩ := hrel
      have HJ := Lib.hid hj
      have H48 := Lib.hid h48
      clear hj h48
      by_cases hlt : k < s.size
      · have hb := bt_of s k hlt
        cases hq : digI (bt s k) with
        | false =>
          have HD := Lib.hid hq
          have HB := Lib.hid (show leadB digI s = k from leadB_at digI s k hk HJ.out (.inr hq))
          clear hF0 hT0 hq
          go_wp2_with (go_at_call 37; refine (digit_any _ _).mono ?_; rintro e w' ⟨rfl, rfl⟩; rw [HD.out])
          go_ret2
          exact ⟨valV_eq (by rw [HS.out, if_pos (.inl (by rw [HB.out]; exact hlt))]), rfl⟩
        | true =>
          have HD := Lib.hid hq
          obtain ⟨d0, d1⟩ := hdg.out _ hq
          clear hq
          by_cases hz : k = 1 ∧ bt s 0 = 48
          · obtain ⟨rfl, hz⟩ := hz
            have tz : (bt s 0 == 48) = true := by simpa using hz
            have HZ := Lib.hid hz
            clear hF0 hT0 hz
            go_wp2_with (go_at_call 37; refine (digit_any _ _).mono ?_; rintro e w' ⟨rfl, rfl⟩; rw [HD.out])
            go_ret2
            exact ⟨valV_eq (by rw [HS.out, if_pos (.inr ⟨HZ.out, by omega⟩)]), rfl⟩
          have HJ2 : Hid (∀ j, j < k + 1 → digI (bt s j) = true) := fun j hj => (by by_cases e : j = k; (subst e; exact HD.out); exact HJ.out j (by omega))
          have H482 : Hid (bt s 0 = 48 → k + 1 ≤ 1) := fun h => by
            have := H48.out h
            rcases Nat.lt_or_ge k 1 with g | g
            · omega
            · exact absurd ⟨by omega, h⟩ hz
          have tz : ((k : Int) == 1) = false ∨ (((k : Int) == 1) = true ∧ (bt s 0 == 48) = false) := by
            by_cases e : k = 1
            · right; exact ⟨by simp; omega, by simp; exact fun h => hz ⟨e, h⟩⟩
            · left; simp; omega
          clear hz
          cases o with
          | false =>
            obtain ⟨n0, n1, hF⟩ := hF0 rfl
            have HF := Lib.hid hF
            clear hF0 hT0 hF
            rcases tz with tz | ⟨tz, tz2⟩
            all_goals
              by_cases hov : 4294967295 < n * 10 + (bt s k - 48)
              · have hov2 : 4294967295 < 10 * n + (bt s k - 48) := by omega
                have HS2 := Lib.hid (show decS 0 s.data.toList = (0, 2) by rw [HF.out, decS_step s n k hlt, if_pos hov])
                go_wp2_with (go_at_call 37; refine (digit_any _ _).mono ?_; rintro e w' ⟨rfl, rfl⟩; rw [HD.out])
                go_round
                case rel => exact ⟨k + 1, 10 * n + (bt s k - 48), true, by omega, by go_num, rfl, rfl, HJ2.out, H482.out, by simp, fun _ => ⟨by omega, by omega, HS2.out⟩⟩
                case measure => simp [intOf]; omega
              · have hov2 : 10 * n + (bt s k - 48) ≤ 4294967295 := by omega
                have HS2 := Lib.hid (show decS 0 s.data.toList = decS (10 * n + (bt s k - 48)) (s.data.toList.drop (k + 1)) by rw [HF.out, decS_step s n k hlt, if_neg hov, Int.mul_comm])
                go_wp2_with (go_at_call 37; refine (digit_any _ _).mono ?_; rintro e w' ⟨rfl, rfl⟩; rw [HD.out])
                go_round
                case rel => exact ⟨k + 1, 10 * n + (bt s k - 48), false, by omega, by go_num, rfl, congrArg Value.bool (decide_eq_false (by omega)), HJ2.out, H482.out, fun _ => ⟨by omega, by omega, HS2.out⟩, by simp⟩
                case measure => simp [intOf]; omega
          | true =>
            obtain ⟨n0, n1, hF⟩ := hT0 rfl
            have HF := Lib.hid hF
            clear hF0 hT0 hF
            rcases tz with tz | ⟨tz, tz2⟩
            all_goals
              go_wp2_with (go_at_call 37; refine (digit_any _ _).mono ?_; rintro e w' ⟨rfl, rfl⟩; rw [HD.out])
              go_round
              case rel => exact ⟨k + 1, n, true, by omega, by go_num, rfl, rfl, HJ2.out, H482.out, by simp, fun _ => ⟨by omega, by omega, HF.out⟩⟩
              case measure => simp [intOf]; omega
      · have HB := Lib.hid (show leadB digI s = k from leadB_at digI s k hk HJ.out (.inl (by omega)))
        have HC := Lib.hid (show ¬(leadB digI s < s.size ∨ (bt s 0 = 48 ∧ 1 < s.size)) by
          rw [HB.out]
          rintro (g | ⟨g, g'⟩)
          · omega
          · have := H48.out g; omega)
        cases o with
        | false =>
          obtain ⟨n0, n1, hF⟩ := hF0 rfl
          have HF := Lib.hid hF
          clear hF0 hT0 hF
          go_wp2
          go_ret2
          exact ⟨valV_eq (by rw [HS.out, if_neg HC.out, HF.out, decS_end s n k (by omega)]), rfl⟩
        | true =>
          obtain ⟨n0, n1, hF⟩ := hT0 rfl
          have HF := Lib.hid hF
          clear hF0 hT0 hF
          go_wp2
          go_ret2
          exact ⟨valV_eq (by rw [HS.out, if_neg HC.out, HF.out]), rfl⟩
theorem refNumber_any (s : ByteArray) (w : World) (h0 : 0 < s.size) (hs : s.size ≤ 100000) :
    Calls Tryd.prog 49 #[.string s] w fun e w' => e = valV (valS s) ∧ w = w' := by
  by_cases h : 2 < s.size ∧ bt s 0 = 48 ∧ bt s 1 = 120
  · exact refNumber_hex s w h.1 hs h.2
  · exact refNumber_dec s w h0 hs h
end Go.Proofs.YtdhfkokinnmfhaaDoor
