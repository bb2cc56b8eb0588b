/- Walks of layer 21: skip and number of the reference. -/
import Derived.Test.YtdhfkokinnmfhaaDoorY1
namespace Go.Proofs.YtdhfkokinnmfhaaDoor
open Go.RowKit
set_option linter.unusedSimpArgs false
set_option linter.unusedVariables false
set_option maxHeartbeats 2000000 in
theorem refSkip_any (s : ByteArray) (a : Nat) (w : World) (ha : a ≤ s.size) (hs : s.size ≤ 100000) :
    Calls Tryd.prog 29 #[.string s, .int .i64 a] w fun e w' => e = .returned (.int .i64 (skp s a)) ∧ w = w' := by
  go_enter Tryd.func29, Tryd.ntmps29
  go_wp2
  go_loop [1] (fun i => ∃ k : Nat, k ≤ s.size ∧ i = .int .i64 k ∧ skp s a = skp s k) (fun i => s.size - (intOf i).toNat)
  case atStart => exact ⟨a, ha, rfl, rfl⟩
  case round =>
    obtain ⟨k, hk, rfl, hK⟩ := hrel
    have HK := Lib.hid hK
    clear hK
    by_cases hlt : k < s.size
    · have hb := bt_of s k hlt
      by_cases hbl : bt s k = 10 ∨ bt s k = 32 ∨ bt s k = 9
      · have HE := Lib.hid (skp_blank s k hlt hbl)
        by_cases h3 : bt s k = 32
        · have t3 : (bt s k == 32) = true := by simpa using h3
          clear hbl h3
          go_wp2
          go_round
          case rel => exact ⟨k + 1, by omega, by go_num, by rw [HK.out, HE.out]⟩
          case measure => simp [intOf]; omega
        · have t3 : (bt s k == 32) = false := by simpa using h3
          by_cases h9 : bt s k = 9
          · have t9 : (bt s k == 9) = true := by simpa using h9
            clear hbl h3 h9
            go_wp2
            go_round
            case rel => exact ⟨k + 1, by omega, by go_num, by rw [HK.out, HE.out]⟩
            case measure => simp [intOf]; omega
          · have t9 : (bt s k == 9) = false := by simpa using h9
            have t10 : (bt s k == 10) = true := by simp; omega
            clear hbl h3 h9
            go_wp2
            go_round
            case rel => exact ⟨k + 1, by omega, by go_num, by rw [HK.out, HE.out]⟩
            case measure => simp [intOf]; omega
      · have t3 : (bt s k == 32) = false := by simp; omega
        have t9 : (bt s k == 9) = false := by simp; omega
        have t10 : (bt s k == 10) = false := by simp; omega
        by_cases hcc : bt s k = 47 ∧ bt s (k + 1) = 47
        · obtain ⟨e1, e2⟩ := hcc
          have hl1 : k + 1 < s.size := by
            rcases Nat.lt_or_ge (k + 1) s.size with h | h
            · exact h
            · rw [bt_out s _ h] at e2; omega
          have hb1 := bt_of s (k + 1) hl1
          have HE := Lib.hid (skp_cmt s k hlt e1 e2)
          have hgt := cmtE_gt s k hlt e1
          have hce := (cmtE_bd s k hk).2
          have HN : Hid (∀ i, k + i < cmtE s k → bt s (k + i) ≠ 10) := fun i hi => cmtE_no s k i hk hi
          have HEND : Hid (cmtE s k < s.size → bt s (cmtE s k) = 10) := fun h => cmtE_end s k hk h
          have t47 : (bt s k == 47) = true := by simpa using e1
          have t47b : (bt s (k + 1) == 47) = true := by simpa using e2
          clear hbl e1 e2
          generalize cmtE s k = c at *
          go_wp2
          go_loop [1] (fun i => ∃ j : Nat, k ≤ j ∧ j ≤ c ∧ i = .int .i64 j) (fun i => s.size - (intOf i).toNat)
          case atStart => exact ⟨k, Nat.le_refl _, by omega, rfl⟩
          case round =>
            obtain ⟨j, hj1, hj2, rfl⟩ := hrel
            by_cases hjc : j < c
            · have hbj := bt_of s j (by omega)
              have tn : (bt s j != 10) = true := by
                have := HN.out (j - k) (by omega)
                rw [show k + (j - k) = j by omega] at this
                simpa using this
              go_wp2
              go_round
              case rel => exact ⟨j + 1, by omega, by omega, by go_num⟩
              case measure => simp [intOf]; omega
            · obtain rfl : j = c := by omega
              by_cases hjs : j < s.size
              · have hbj := bt_of s j hjs
                have tn : (bt s j != 10) = false := by
                  have := HEND.out hjs
                  simpa using this
                go_wp2
                go_round
                case rel => exact ⟨j, by omega, rfl, by rw [HK.out, HE.out]⟩
                case measure => simp [intOf]; omega
              · go_wp2
                go_round
                case rel => exact ⟨j, by omega, rfl, by rw [HK.out, HE.out]⟩
                case measure => simp [intOf]; omega
        · have HE := Lib.hid (skp_stop s k hbl hcc)
          by_cases e1 : bt s k = 47
          · have t47 : (bt s k == 47) = true := by simpa using e1
            by_cases hl1 : k + 1 < s.size
            · have hb1 := bt_of s (k + 1) hl1
              have t47b : (bt s (k + 1) == 47) = false := by rw [beq_eq_false_iff_ne]; exact fun e => hcc ⟨e1, e⟩
              clear hbl hcc e1
              go_wp2
              go_ret
              exact ⟨ret_int (by rw [HK.out, HE.out]), rfl⟩
            · clear hbl hcc e1
              go_wp2
              go_ret
              exact ⟨ret_int (by rw [HK.out, HE.out]), rfl⟩
          · have t47 : (bt s k == 47) = false := by simpa using e1
            clear hbl hcc e1
            go_wp2
            go_ret
            exact ⟨ret_int (by rw [HK.out, HE.out]), rfl⟩
    · have HE := Lib.hid (skp_end s k (by omega))
      go_wp2
      go_ret
      exact ⟨ret_int (by rw [HK.out, HE.out]), rfl⟩
end Go.Proofs.YtdhfkokinnmfhaaDoor
