/- Walks of layer 21: valueOf. -/
import Derived.Test.YtdhfkokinnmfhaaDoorX5
import Derived.Test.YtdhfkokinnmfhaaDoorQ2
namespace Go.Proofs.YtdhfkokinnmfhaaDoor
open Go.RowKit
set_option linter.unusedSimpArgs false
set_option linter.unusedVariables false
theorem cut_yes (s : ByteArray) (w : World) (h : 2 ≤ s.size ∧ bt s 0 = 48 ∧ bt s 1 = 120) : Calls Tryd.prog 63 #[.string s, .string ⟨#[48, 120]⟩] w fun e w' => e = .returned (.tuple #[.string (s.extract 2 s.size), .bool true]) ∧ w = w' :=
  (Tryd.strings_CutPrefix s ⟨#[48, 120]⟩ w).mono (by
    rintro e w' ⟨rfl, rfl⟩
    have hp : Lib.hasPrefix s.data.toList [48, 120] = true := by rw [hasPrefix_0x]; simpa using h
    have ht := trim_0x s h
    refine ⟨?_, rfl⟩
    show Ending.returned (.tuple #[.string ⟨(Lib.trimPrefix s.data.toList [48, 120]).toArray⟩, .bool (Lib.hasPrefix s.data.toList [48, 120])]) = _
    rw [ht, hp])
theorem cut_no (s : ByteArray) (w : World) (h : ¬(2 ≤ s.size ∧ bt s 0 = 48 ∧ bt s 1 = 120)) : Calls Tryd.prog 63 #[.string s, .string ⟨#[48, 120]⟩] w fun e w' => e = .returned (.tuple #[.string s, .bool false]) ∧ w = w' :=
  (Tryd.strings_CutPrefix s ⟨#[48, 120]⟩ w).mono (by
    rintro e w' ⟨rfl, rfl⟩
    have hp : Lib.hasPrefix s.data.toList [48, 120] = false := by rw [hasPrefix_0x]; simpa using h
    have ht := trim_no s h
    refine ⟨?_, rfl⟩
    show Ending.returned (.tuple #[.string ⟨(Lib.trimPrefix s.data.toList [48, 120]).toArray⟩, .bool (Lib.hasPrefix s.data.toList [48, 120])]) = _
    rw [ht, hp])
def valV (r : Int × Int) : Ending := .returned (.tuple #[.int .i64 r.1, .int .i64 r.2])
theorem valV_eq {a b : Int} {r : Int × Int} (h : r = (a, b)) : Ending.returned (.tuple #[.int .i64 a, .int .i64 b]) = valV r := by rw [h]; rfl
theorem hex_no (s : ByteArray) (w : World) (hs : s.size ≤ 100000) (h : 2 ≤ s.size ∧ bt s 0 = 48 ∧ bt s 1 = 120) (h2 : s.size < 3 ∨ 10 < s.size ∨ leadB hexI (s.extract 2 s.size) < s.size - 2) :
    Calls Tryd.prog 57 #[.string s] w fun e w' => e = valV (valS s) ∧ w = w' := by
  have HS := Lib.hid (show valS s = (0, 3) by unfold valS; rw [if_pos h, if_pos h2])
  have H := Lib.hid h
  have hsz : (s.extract 2 s.size).size = s.size - 2 := size_extract s 2 s.size (Nat.le_refl _)
  have hl := leadB_le hexI (s.extract 2 s.size)
  have h3 : (s.extract 2 s.size).size < 1 ∨ 8 < (s.extract 2 s.size).size ∨ leadB hexI (s.extract 2 s.size) < (s.extract 2 s.size).size := by have := h.1; omega
  have hd : (s.extract 2 s.size).size ≤ 100000 := by omega
  generalize hD : s.extract 2 s.size = D at *
  have HD := Lib.hid hD
  clear h h2 hD hsz
  by_cases g1 : D.size < 1
  · clear h3
    go_enter Tryd.func57, Tryd.ntmps57
    go_wp2_with (go_at_call 63; refine (cut_yes _ _ H.out).mono ?_; rintro e w' ⟨rfl, rfl⟩; rw [HD.out])
    go_ret2
    exact ⟨valV_eq HS.out, rfl⟩
  have g1' : 1 ≤ D.size := by omega
  by_cases g2 : 8 < D.size
  · clear h3 g1
    go_enter Tryd.func57, Tryd.ntmps57
    go_wp2_with (go_at_call 63; refine (cut_yes _ _ H.out).mono ?_; rintro e w' ⟨rfl, rfl⟩; rw [HD.out])
    go_ret2
    exact ⟨valV_eq HS.out, rfl⟩
  have g2' : D.size ≤ 8 := by omega
  have g3 : leadB hexI D < D.size := by omega
  generalize hL : leadB hexI D = L at *
  have HL := Lib.hid hL
  clear hL h3 g1 g2
  go_enter Tryd.func57, Tryd.ntmps57
  go_wp2_with (first | (go_at_call 63; refine (cut_yes _ _ H.out).mono ?_; rintro e w' ⟨rfl, rfl⟩; rw [HD.out]) | (go_at_call 32; refine (leading_hex _ _ hd).mono ?_; rintro e w' ⟨rfl, rfl⟩; rw [HL.out]))
  go_ret2
  exact ⟨valV_eq HS.out, rfl⟩
theorem hex_ok (s : ByteArray) (w : World) (hs : s.size ≤ 100000) (h : 2 ≤ s.size ∧ bt s 0 = 48 ∧ bt s 1 = 120) (h2 : ¬(s.size < 3 ∨ 10 < s.size ∨ leadB hexI (s.extract 2 s.size) < s.size - 2)) :
    Calls Tryd.prog 57 #[.string s] w fun e w' => e = valV (valS s) ∧ w = w' := by
  have HS := Lib.hid (show valS s = (hexF 0 (s.extract 2 s.size).data.toList, 0) by unfold valS; rw [if_pos h, if_neg h2])
  have H := Lib.hid h
  have hsz : (s.extract 2 s.size).size = s.size - 2 := size_extract s 2 s.size (Nat.le_refl _)
  have hl := leadB_le hexI (s.extract 2 s.size)
  have g1 : 1 ≤ (s.extract 2 s.size).size := by omega
  have g2 : (s.extract 2 s.size).size ≤ 8 := by omega
  have g3 : leadB hexI (s.extract 2 s.size) = (s.extract 2 s.size).size := by omega
  have hd : (s.extract 2 s.size).size ≤ 100000 := by omega
  have hx : Hid (∀ i, i < (s.extract 2 s.size).size → hexI (bt (s.extract 2 s.size) i) = true) := fun i hi => leadB_spec _ _ _ (by omega)
  generalize hD : s.extract 2 s.size = D at *
  have HD := Lib.hid hD
  have HL := Lib.hid g3
  clear h h2 hD hsz g3 hl
  go_enter Tryd.func57, Tryd.ntmps57
  go_wp2_with (first | (go_at_call 63; refine (cut_yes _ _ H.out).mono ?_; rintro e w' ⟨rfl, rfl⟩; rw [HD.out]) | (go_at_call 32; refine (leading_hex _ _ hd).mono ?_; rintro e w' ⟨rfl, rfl⟩; rw [HL.out]))
  go_loop [6, 33] (fun v i => ∃ (k : Nat) (n : Int), k ≤ D.size ∧ i = .int .i64 k ∧ v = .int .i64 n ∧ 0 ≤ n ∧ n < 16 ^ k ∧ hexF 0 D.data.toList = hexF n (D.data.toList.drop k)) (fun _ i => D.size - (intOf i).toNat)
  case atStart => exact ⟨0, 0, Nat.zero_le _, rfl, rfl, Int.le_refl _, by decide, rfl⟩
  case round =>
    obtain ⟨k, n, hk, rfl, rfl, n0, n1, hF⟩ := hrel
    have hp := pow16 k (by omega)
    have n2 : n < 4294967296 := by omega
    have HF := Lib.hid hF
    have N1 := Lib.hid n1
    clear hF n1 hp
    by_cases hlt : k < D.size
    · have hb := bt_of D k hlt
      have hq := hx.out k hlt
      obtain ⟨v1, v2⟩ := hexV_bd _ hq
      have HQ := Lib.hid hq
      clear hq
      go_wp2_with (go_at_call 65; refine (hexValue_any _ _ HQ.out).mono ?_; rintro e w' ⟨rfl, rfl⟩)
      go_round
      case rel => exact ⟨k + 1, 16 * n + hexV (bt D k), by omega, by go_num, by go_num, by omega, pow16s _ _ _ N1.out v2, by rw [HF.out, hexF_step D n k hlt]⟩
      case measure => simp [intOf]; omega
    · go_wp2
      go_ret2
      exact ⟨valV_eq (by rw [HS.out, HF.out, hexF_end D n k (by omega)]), rfl⟩
theorem dec_no (s : ByteArray) (w : World) (h0 : 0 < s.size) (hs : s.size ≤ 100000) (h : ¬(2 ≤ s.size ∧ bt s 0 = 48 ∧ bt s 1 = 120)) (h2 : leadB digI s < s.size ∨ (bt s 0 = 48 ∧ 1 < s.size)) :
    Calls Tryd.prog 57 #[.string s] w fun e w' => e = valV (valS s) ∧ w = w' := by
  have HS := Lib.hid (show valS s = (0, 3) by unfold valS; rw [if_neg h, if_pos h2])
  have H := Lib.hid h
  have hx := bt_of s 0 h0
  by_cases g1 : leadB digI s < s.size
  · generalize hL : leadB digI s = L at *
    have HL := Lib.hid hL
    clear hL h2 h
    go_enter Tryd.func57, Tryd.ntmps57
    go_wp2_with (first | (go_at_call 63; refine (cut_no _ _ H.out).mono ?_; rintro e w' ⟨rfl, rfl⟩) | (go_at_call 32; refine (leading_dig _ _ hs).mono ?_; rintro e w' ⟨rfl, rfl⟩; rw [HL.out]))
    go_ret2
    exact ⟨valV_eq HS.out, rfl⟩
  · obtain ⟨h3, h4⟩ : bt s 0 = 48 ∧ 1 < s.size := by rcases h2 with h2 | h2; (exact absurd h2 g1); exact h2
    have h3' : (bt s 0 == 48) = true := by simpa using h3
    have HL := Lib.hid (show leadB digI s = s.size by have := leadB_le digI s; omega)
    clear h2 h g1 h3
    go_enter Tryd.func57, Tryd.ntmps57
    go_wp2_with (first | (go_at_call 63; refine (cut_no _ _ H.out).mono ?_; rintro e w' ⟨rfl, rfl⟩) | (go_at_call 32; refine (leading_dig _ _ hs).mono ?_; rintro e w' ⟨rfl, rfl⟩; rw [HL.out]))
    go_ret2
    exact ⟨valV_eq HS.out, rfl⟩
set_option maxHeartbeats 1000000 in
theorem dec_ok (s : ByteArray) (w : World) (h0 : 0 < s.size) (hs : s.size ≤ 100000) (h : ¬(2 ≤ s.size ∧ bt s 0 = 48 ∧ bt s 1 = 120)) (h2 : ¬(leadB digI s < s.size ∨ (bt s 0 = 48 ∧ 1 < s.size))) :
    Calls Tryd.prog 57 #[.string s] w fun e w' => e = valV (valS s) ∧ w = w' := by
  have HS := Lib.hid (show valS s = decS 0 s.data.toList by unfold valS; rw [if_neg h, if_neg h2])
  have H := Lib.hid h
  have hx := bt_of s 0 h0
  have hl := leadB_le digI s
  have HL := Lib.hid (show leadB digI s = s.size by omega)
  have hdg : Hid (∀ i, i < s.size → 48 ≤ bt s i ∧ bt s i ≤ 57) := fun i hi => by
    have := leadB_spec digI s i (by rw [HL.out]; exact hi)
    unfold digI at this
    simpa using this
  by_cases g : bt s 0 = 48
  all_goals first | (have g' : (bt s 0 == 48) = true := by simpa using g) | (have g' : (bt s 0 == 48) = false := by simpa using g)
  all_goals first | (have g4 : s.size ≤ 1 := by omega) | skip
  all_goals
    clear h h2 hl g
    go_enter Tryd.func57, Tryd.ntmps57
    go_wp2_with (first | (go_at_call 63; refine (cut_no _ _ H.out).mono ?_; rintro e w' ⟨rfl, rfl⟩) | (go_at_call 32; refine (leading_dig _ _ hs).mono ?_; rintro e w' ⟨rfl, rfl⟩; rw [HL.out]))
    go_loop [8, 63] (fun v i => ∃ (k : Nat) (n : Int), k ≤ s.size ∧ i = .int .i64 k ∧ v = .int .i64 n ∧ 0 ≤ n ∧ n ≤ 4294967295 ∧ decS 0 s.data.toList = decS n (s.data.toList.drop k)) (fun _ i => s.size - (intOf i).toNat)
    case atStart => exact ⟨0, 0, Nat.zero_le _, rfl, rfl, Int.le_refl _, by decide, rfl⟩
    case round =>
      obtain ⟨k, n, hk, rfl, rfl, n0, n1, hF⟩ := hrel
      have HF := Lib.hid hF
      clear hF
      by_cases hlt : k < s.size
      · have hb := bt_of s k hlt
        obtain ⟨d0, d1⟩ := hdg.out k hlt
        by_cases hov : 4294967295 < n * 10 + (bt s k - 48)
        · go_wp2
          go_ret2
          exact ⟨valV_eq (by rw [HS.out, HF.out, decS_step s n k hlt, if_pos hov]), rfl⟩
        · have hov' : n * 10 + (bt s k - 48) ≤ 4294967295 := by omega
          go_wp2
          go_round
          case rel => exact ⟨k + 1, n * 10 + (bt s k - 48), by omega, by go_num, by go_num, by omega, by omega, by rw [HF.out, decS_step s n k hlt, if_neg hov]⟩
          case measure => simp [intOf]; omega
      · go_wp2
        go_ret2
        exact ⟨valV_eq (by rw [HS.out, HF.out, decS_end s n k (by omega)]), rfl⟩
theorem valueOf_any (s : ByteArray) (w : World) (h0 : 0 < s.size) (hs : s.size ≤ 100000) :
    Calls Tryd.prog 57 #[.string s] w fun e w' => e = valV (valS s) ∧ w = w' := by
  by_cases h : 2 ≤ s.size ∧ bt s 0 = 48 ∧ bt s 1 = 120
  · by_cases h2 : s.size < 3 ∨ 10 < s.size ∨ leadB hexI (s.extract 2 s.size) < s.size - 2
    · exact hex_no s w hs h h2
    · exact hex_ok s w hs h h2
  · by_cases h2 : leadB digI s < s.size ∨ (bt s 0 = 48 ∧ 1 < s.size)
    · exact dec_no s w h0 hs h h2
    · exact dec_ok s w h0 hs h h2
end Go.Proofs.YtdhfkokinnmfhaaDoor
