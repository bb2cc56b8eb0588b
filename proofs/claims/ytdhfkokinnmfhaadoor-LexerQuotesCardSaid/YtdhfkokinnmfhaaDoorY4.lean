/- Walks of layer 21: char of the reference. -/
import Derived.Test.YtdhfkokinnmfhaaDoorY3
namespace Go.Proofs.YtdhfkokinnmfhaaDoor
open Go.RowKit
set_option linter.unusedSimpArgs false
set_option linter.unusedVariables false
/-- What char answers, out of what one answers. -/
def chR (r : Int × Int × Int) (k : Nat) : Int × Int × Int × Int := if r.2.2 = 0 then (r.1, r.2.1, 0, 0) else if r.2.2 = 4 then (0, k, 4, k) else (0, k, r.2.2, r.2.1)
def chS (s : ByteArray) (k : Nat) : Int × Int × Int × Int := chR (oneS s k (-1)) k
def chV (r : Int × Int × Int × Int) : Ending := .returned (.tuple #[.int .u8 r.1, .int .i64 r.2.1, .int .i64 r.2.2.1, .int .i64 r.2.2.2])
theorem chV_eq {a b c d : Int} {r : Int × Int × Int × Int} {e : Ending} (h : r = (a, b, c, d)) (he : e = .returned (.tuple #[.int .u8 a, .int .i64 b, .int .i64 c, .int .i64 d])) : e = chV r := by rw [h, he]; rfl
theorem chS_esc (s : ByteArray) (k : Nat) (h : k < s.size) (h1 : bt s k = 92) : chS s k = chR (escS s k) k := by
  unfold chS oneS
  rw [if_neg (by omega), if_pos h1]
set_option maxHeartbeats 2000000 in
set_option maxRecDepth 100000 in
theorem char_any (s : ByteArray) (k : Nat) (w : World) (h : k ≤ s.size) (hs : s.size ≤ 100000) :
    Calls Tryd.prog 60 #[.string s, .int .i64 k] w fun e w' => e = chV (chS s k) ∧ w = w' := by
  by_cases h0 : k = s.size
  · have HS := Lib.hid (show chS s k = (0, (k : Int), 4, (k : Int)) by unfold chS oneS; rw [if_pos h0]; rfl)
    have h0' : s.size ≤ k := by omega
    clear h0
    go_enter Tryd.func60, Tryd.ntmps60
    go_wp2
    exact bodyPost_ret (results_tmp4 rfl _ _ _) rfl ⟨chV_eq HS.out rfl, rfl⟩
  have hl : k < s.size := by omega
  have hx := bt_of s k hl
  obtain ⟨b0, b1⟩ := bt_bd s k
  by_cases h1 : bt s k < 32 ∨ 126 < bt s k
  · have HS := Lib.hid (show chS s k = (0, (k : Int), 6, (k : Int)) by unfold chS oneS; rw [if_neg h0, if_neg (by omega), if_pos (.inr h1)]; rfl)
    clear h0
    rcases h1 with h1 | h1
    · go_enter Tryd.func60, Tryd.ntmps60
      go_wp2
      exact bodyPost_ret (results_tmp4 rfl _ _ _) rfl ⟨chV_eq HS.out rfl, rfl⟩
    · go_enter Tryd.func60, Tryd.ntmps60
      go_wp2
      exact bodyPost_ret (results_tmp4 rfl _ _ _) rfl ⟨chV_eq HS.out rfl, rfl⟩
  have g1 : 32 ≤ bt s k := by omega
  have g2 : bt s k ≤ 126 := by omega
  by_cases h2 : bt s k = 92
  all_goals first | (have t92 : (bt s k != 92) = false := by simpa using h2) | (have t92 : (bt s k != 92) = true := by simpa using h2)
  case neg =>
    have HS := Lib.hid (show chS s k = (bt s k, (k : Int) + 1, 0, 0) by unfold chS oneS; rw [if_neg h0, if_neg h2, if_neg (by omega)]; rfl)
    clear h0 h1 h2
    go_enter Tryd.func60, Tryd.ntmps60
    go_wp2
    exact bodyPost_ret (results_tmp4 rfl _ _ _) rfl ⟨chV_eq HS.out rfl, rfl⟩
  have HE := Lib.hid (chS_esc s k hl h2)
  clear h0 h1 h2
  by_cases h3 : k + 1 = s.size
  · have HS := Lib.hid (show chS s k = (0, (k : Int), 4, (k : Int)) by rw [HE.out]; unfold escS; rw [if_pos h3]; rfl)
    have h3' : s.size ≤ k + 1 := by omega
    clear h3
    go_enter Tryd.func60, Tryd.ntmps60
    go_wp2
    exact bodyPost_ret (results_tmp4 rfl _ _ _) rfl ⟨chV_eq HS.out rfl, rfl⟩
  have hl1 : k + 1 < s.size := by omega
  have hx1 := bt_of s (k + 1) hl1
  obtain ⟨c0, c1⟩ := bt_bd s (k + 1)
  by_cases h4 : bt s (k + 1) = 120
  · have HS := Lib.hid (escS_x s k hl1 h4)
    have t0 : (bt s (k + 1) == 110) = false := by simp; omega
    have t1 : (bt s (k + 1) == 116) = false := by simp; omega
    have t2 : (bt s (k + 1) == 48) = false := by simp; omega
    have t3 : (bt s (k + 1) == 92) = false := by simp; omega
    have t4 : (bt s (k + 1) == 39) = false := by simp; omega
    have t5 : (bt s (k + 1) == 34) = false := by simp; omega
    have t6 : (bt s (k + 1) == 120) = true := by simpa using h4
    clear h3 h4
    go_enter Tryd.func60, Tryd.ntmps60
    go_wp2
    clear t0 t1 t2 t3 t4 t5 t6 t92
    go_loop [8, 9] (fun b i => (b = .int .i64 0 ∧ i = .int .i64 ((k + 2 : Nat) : Int)) ∨ (k + 2 < s.size ∧ hexI (bt s (k + 2)) = true ∧ b = .int .i64 (hexV (bt s (k + 2))) ∧ i = .int .i64 ((k + 3 : Nat) : Int)) ∨ (k + 3 < s.size ∧ hexI (bt s (k + 2)) = true ∧ hexI (bt s (k + 3)) = true ∧ b = .int .i64 (16 * hexV (bt s (k + 2)) + hexV (bt s (k + 3))) ∧ i = .int .i64 ((k + 4 : Nat) : Int))) (fun _ i => s.size + 4 - (intOf i).toNat)
    case atStart => exact .inl ⟨rfl, by go_num⟩
    case round =>
      rcases hrel with ⟨rfl, rfl⟩ | ⟨g1, g2, rfl, rfl⟩ | ⟨g1, g2, g3, rfl, rfl⟩
      · by_cases he : k + 2 = s.size
        · have hbb : s.size ≤ k + 2 := by omega
          have HF := Lib.hid (show chS s k = (0, (k : Int), 4, (k : Int)) by rw [HE.out, HS.out, if_pos he]; rfl)
          clear he
          go_wp2
          exact bodyPost_ret (results_tmp4 rfl _ _ _) rfl ⟨chV_eq HF.out rfl, rfl⟩
        · have hl2 : k + 2 < s.size := by omega
          have hx2 := bt_of s (k + 2) hl2
          cases hq : hexI (bt s (k + 2)) with
          | false =>
            have HH := Lib.hid (show hexR (bt s (k + 2)) = -1 by unfold hexR; rw [hq]; rfl)
            have HF := Lib.hid (show chS s k = (0, (k : Int), 6, ((k + 2 : Nat) : Int)) by rw [HE.out, HS.out, if_neg he, if_pos hq]; unfold chR; simp)
            clear he hq
            go_wp2_with (go_at_call 59; refine (hex_any _ _).mono ?_; rintro e w' ⟨rfl, rfl⟩; rw [HH.out])
            exact bodyPost_ret (results_tmp4 rfl _ _ _) rfl ⟨chV_eq HF.out rfl, rfl⟩
          | true =>
            have HH := Lib.hid (show hexR (bt s (k + 2)) = hexV (bt s (k + 2)) by unfold hexR; rw [hq]; rfl)
            have HQ := Lib.hid hq
            obtain ⟨v1, v2⟩ := hexV_bd _ hq
            clear he hq
            go_wp2_with (go_at_call 59; refine (hex_any _ _).mono ?_; rintro e w' ⟨rfl, rfl⟩; rw [HH.out])
            go_round
            case rel => exact .inr (.inl ⟨hl2, by first | exact HQ.out | trivial, by go_num, by go_num⟩)
            case measure => simp [intOf]; omega
      · have G2 := Lib.hid g2
        obtain ⟨u1, u2⟩ := hexV_bd _ g2
        by_cases he : k + 3 = s.size
        · have hbb : s.size ≤ k + 3 := by omega
          have HF := Lib.hid (show chS s k = (0, (k : Int), 4, (k : Int)) by rw [HE.out, HS.out, if_neg (by omega), if_neg (by rw [g2]; simp), if_pos he]; rfl)
          clear he g2
          go_wp2
          exact bodyPost_ret (results_tmp4 rfl _ _ _) rfl ⟨chV_eq HF.out rfl, rfl⟩
        · have hl2 : k + 3 < s.size := by omega
          have hx2 := bt_of s (k + 3) hl2
          cases hq : hexI (bt s (k + 3)) with
          | false =>
            have HH := Lib.hid (show hexR (bt s (k + 3)) = -1 by unfold hexR; rw [hq]; rfl)
            have HF := Lib.hid (show chS s k = (0, (k : Int), 6, ((k + 3 : Nat) : Int)) by rw [HE.out, HS.out, if_neg (by omega), if_neg (by rw [g2]; simp), if_neg he, if_pos hq]; unfold chR; simp)
            clear he hq g2
            go_wp2_with (go_at_call 59; refine (hex_any _ _).mono ?_; rintro e w' ⟨rfl, rfl⟩; rw [HH.out])
            exact bodyPost_ret (results_tmp4 rfl _ _ _) rfl ⟨chV_eq HF.out rfl, rfl⟩
          | true =>
            have HH := Lib.hid (show hexR (bt s (k + 3)) = hexV (bt s (k + 3)) by unfold hexR; rw [hq]; rfl)
            have HQ := Lib.hid hq
            obtain ⟨v1, v2⟩ := hexV_bd _ hq
            clear he hq g2
            go_wp2_with (go_at_call 59; refine (hex_any _ _).mono ?_; rintro e w' ⟨rfl, rfl⟩; rw [HH.out])
            go_round
            case rel => exact .inr (.inr ⟨hl2, by first | exact G2.out | trivial, by first | exact HQ.out | trivial, by go_num, by go_num⟩)
            case measure => simp [intOf]; omega
      · obtain ⟨u1, u2⟩ := hexV_bd _ g2
        obtain ⟨v1, v2⟩ := hexV_bd _ g3
        have HF := Lib.hid (show chS s k = (16 * hexV (bt s (k + 2)) + hexV (bt s (k + 3)), (k : Int) + 4, 0, 0) by
          rw [HE.out, HS.out, if_neg (by omega), if_neg (by rw [g2]; simp), if_neg (by omega), if_neg (by rw [g3]; simp)]; rfl)
        clear g2 g3
        go_wp2
        exact bodyPost_ret (results_tmp4 rfl _ _ _) rfl ⟨chV_eq HF.out rfl, rfl⟩
  by_cases h5 : 128 ≤ bt s (k + 1) ∨ escT (bt s (k + 1)) = 0
  · have HS := Lib.hid (show chS s k = (0, (k : Int), 6, (k : Int) + 1) by rw [HE.out]; unfold escS; rw [if_neg h3, if_pos h4, if_pos h5]; rfl)
    have hne : bt s (k + 1) ≠ 110 ∧ bt s (k + 1) ≠ 116 ∧ bt s (k + 1) ≠ 48 ∧ bt s (k + 1) ≠ 92 ∧ bt s (k + 1) ≠ 39 ∧ bt s (k + 1) ≠ 34 := by
      refine ⟨?_, ?_, ?_, ?_, ?_, ?_⟩ <;> (intro e; rw [e] at h5; exact absurd h5 (by decide))
    obtain ⟨n0, n1, n2, n3, n4, n5⟩ := hne
    have t0 : (bt s (k + 1) == 110) = false := by simpa using n0
    have t1 : (bt s (k + 1) == 116) = false := by simpa using n1
    have t2 : (bt s (k + 1) == 48) = false := by simpa using n2
    have t3 : (bt s (k + 1) == 92) = false := by simpa using n3
    have t4 : (bt s (k + 1) == 39) = false := by simpa using n4
    have t5 : (bt s (k + 1) == 34) = false := by simpa using n5
    have t6 : (bt s (k + 1) == 120) = false := by simpa using h4
    clear h3 h4 h5 n0 n1 n2 n3 n4 n5
    go_enter Tryd.func60, Tryd.ntmps60
    go_wp2
    exact bodyPost_ret (results_tmp4 rfl _ _ _) rfl ⟨chV_eq HS.out rfl, rfl⟩
  · have HS := Lib.hid (show chS s k = (escT (bt s (k + 1)) - 1, (k : Int) + 2, 0, 0) by rw [HE.out]; unfold escS; rw [if_neg h3, if_pos h4, if_neg h5]; rfl)
    have hin : bt s (k + 1) = 110 ∨ bt s (k + 1) = 116 ∨ bt s (k + 1) = 48 ∨ bt s (k + 1) = 92 ∨ bt s (k + 1) = 39 ∨ bt s (k + 1) = 34 := by
      have h6 : escT (bt s (k + 1)) ≠ 0 := fun e => h5 (.inr e)
      unfold escT at h6
      (repeat' split at h6) <;> first | omega | exact absurd rfl h6
    clear h3 h4 h5
    generalize bt s (k + 1) = c at *
    rcases hin with rfl | rfl | rfl | rfl | rfl | rfl
    all_goals
      go_enter Tryd.func60, Tryd.ntmps60
      go_wp2
      exact bodyPost_ret (results_tmp4 rfl _ _ _) rfl ⟨chV_eq HS.out rfl, rfl⟩
end Go.Proofs.YtdhfkokinnmfhaaDoor
