/- Walks of layer 21: Quote of the reference. -/
import Derived.Test.YtdhfkokinnmfhaaDoorS3
namespace Go.Proofs.YtdhfkokinnmfhaaDoor
open Go.RowKit
set_option linter.unusedSimpArgs false
set_option linter.unusedVariables false
theorem strOfNums_app (l r : List Int) : strOfNums (l ++ r) = strOfNums l ++ strOfNums r := by
  apply ByteArray.ext
  simp [strOfNums, ByteArray.data_append]
theorem dig_ext (d : Int) (h0 : 0 ≤ d) (h1 : d < 16) : (⟨#[48, 49, 50, 51, 52, 53, 54, 55, 56, 57, 97, 98, 99, 100, 101, 102]⟩ : ByteArray).extract d.toNat (d.toNat + 1) = strOfNums [hdC d] := by
  have : ∀ n : Fin 16, (⟨#[48, 49, 50, 51, 52, 53, 54, 55, 56, 57, 97, 98, 99, 100, 101, 102]⟩ : ByteArray).extract n.val (n.val + 1) = strOfNums [hdC (n.val : Int)] := by decide
  have h3 := this ⟨d.toNat, by omega⟩
  simp only [Int.toNat_of_nonneg h0] at h3
  exact h3
set_option maxRecDepth 100000 in
set_option maxHeartbeats 2000000 in
theorem refQuote_any (s : ByteArray) (w : World) (h : s.size ≤ 200) : Calls Tryd.prog 25 #[.string s] w fun e w' => e = .returned (.tuple #[.string (strOfNums (quT s)), .int .i64 0]) ∧ Below w.heap.size w w' := by
  have hcv := conv1
  go_enter Tryd.func25, Tryd.ntmps25
  go_wp2
  go_loopw [5, 6] (fun v i wr => ∃ k : Nat, k ≤ s.size ∧ i = .int .i64 k ∧ v = .string (strOfNums (quN s k)) ∧ Below w.heap.size w wr) (fun _ i _ => s.size - (intOf i).toNat)
  case atStart => exact ⟨0, Nat.zero_le _, rfl, rfl, Below.refl _ _⟩
  case round =>
    obtain ⟨k, hk, rfl, rfl, hb⟩ := hrel
    have hbs := hb.size
    have hql := quN_len s k
    have hsz : (strOfNums (quN s k)).size ≤ 1000 := by rw [strOfNums_size]; omega
    by_cases hlt : k < s.size
    · have hx := bt_of s k hlt
      obtain ⟨b0, b1⟩ := bt_bd s k
      have HNX := Lib.hid (show quN s (k + 1) = quN s k ++ qB (bt s k) from rfl)
      generalize bt s k = B at *
      generalize hT0 : strOfNums (quN s k) = T0 at *
      have HT0 := Lib.hid hT0
      clear hT0
      have hs1 : (strOfNums [B]).size ≤ 1 := by rw [strOfNums_size]; simp
      have hs2 : (T0 ++ ⟨#[92]⟩).size ≤ 1001 := by rw [size_app]; show _ + 1 ≤ _; omega
      by_cases h10 : B = 10
      · have t10 : (B == 10) = true := by simpa using h10
        have HQ := Lib.hid (show qB B = [92, 110] by rw [h10]; rfl)
        clear h10
        have HNX2 := Lib.hid (show strOfNums (quN s (k + 1)) = T0 ++ ⟨#[92, 110]⟩ by rw [HNX.out, HQ.out, strOfNums_app, HT0.out]; rfl)
        go_wp2
        go_roundw
        case rel => exact ⟨k + 1, by omega, by go_num, by rw [HNX2.out], hb⟩
        case measure => simp [intOf]; omega
      have t10 : (B == 10) = false := by simpa using h10
      by_cases h9 : B = 9
      · have t9 : (B == 9) = true := by simpa using h9
        have HQ := Lib.hid (show qB B = [92, 116] by rw [h9]; rfl)
        clear h10 h9
        have HNX2 := Lib.hid (show strOfNums (quN s (k + 1)) = T0 ++ ⟨#[92, 116]⟩ by rw [HNX.out, HQ.out, strOfNums_app, HT0.out]; rfl)
        go_wp2
        go_roundw
        case rel => exact ⟨k + 1, by omega, by go_num, by rw [HNX2.out], hb⟩
        case measure => simp [intOf]; omega
      have t9 : (B == 9) = false := by simpa using h9
      by_cases h0 : B = 0
      · have t0 : (B == 0) = true := by simpa using h0
        have HQ := Lib.hid (show qB B = [92, 48] by rw [h0]; rfl)
        clear h10 h9 h0
        have HNX2 := Lib.hid (show strOfNums (quN s (k + 1)) = T0 ++ ⟨#[92, 48]⟩ by rw [HNX.out, HQ.out, strOfNums_app, HT0.out]; rfl)
        go_wp2
        go_roundw
        case rel => exact ⟨k + 1, by omega, by go_num, by rw [HNX2.out], hb⟩
        case measure => simp [intOf]; omega
      have t0 : (B == 0) = false := by simpa using h0
      by_cases h92 : B = 92
      · have t92 : (B == 92) = true := by simpa using h92
        have HQ := Lib.hid (show qB B = [92, B] by rw [h92]; rfl)
        clear h10 h9 h0 h92
        have HNX2 := Lib.hid (show strOfNums (quN s (k + 1)) = (T0 ++ ⟨#[92]⟩) ++ strOfNums [B] by rw [HNX.out, HQ.out, strOfNums_app, HT0.out, app_assoc]; rfl)
        go_wp2
        go_roundw
        case rel => exact ⟨k + 1, by omega, by go_num, by rw [HNX2.out], hb.alloc hbs _⟩
        case measure => simp [intOf]; omega
      have t92 : (B == 92) = false := by simpa using h92
      by_cases h34 : B = 34
      · have t34 : (B == 34) = true := by simpa using h34
        have HQ := Lib.hid (show qB B = [92, B] by rw [h34]; rfl)
        clear h10 h9 h0 h92 h34
        have HNX2 := Lib.hid (show strOfNums (quN s (k + 1)) = (T0 ++ ⟨#[92]⟩) ++ strOfNums [B] by rw [HNX.out, HQ.out, strOfNums_app, HT0.out, app_assoc]; rfl)
        go_wp2
        go_roundw
        case rel => exact ⟨k + 1, by omega, by go_num, by rw [HNX2.out], hb.alloc hbs _⟩
        case measure => simp [intOf]; omega
      have t34 : (B == 34) = false := by simpa using h34
      by_cases hx : B < 32 ∨ 126 < B
      · have HQ := Lib.hid (show qB B = [92, 120, hdC (B / 16), hdC (B % 16)] by unfold qB; rw [if_neg h10, if_neg h9, if_neg h0, if_neg (by omega), if_pos hx])
        have K1 : 0 ≤ B / 16 := by omega
        have K2 : B / 16 < 16 := by omega
        have K3 : 0 ≤ B % 16 := by omega
        have K4 : B % 16 < 16 := by omega
        have HE1 := Lib.hid (dig_ext (B / 16) K1 K2)
        have HE2 := Lib.hid (dig_ext (B % 16) K3 K4)
        rcases hx with hx | hx
        · clear h10 h9 h0 h92 h34
          go_wp2
          go_quiet (fail)
          go_wp2
          go_roundw
          case rel =>
            refine ⟨k + 1, by omega, by go_num, ?_, below_drewN hb _⟩
            rw [show (B / 16 + 1).toNat = (B / 16).toNat + 1 by omega, show (B % 16 + 1).toNat = (B % 16).toNat + 1 by omega, HE1.out, HE2.out, HNX.out, HQ.out, strOfNums_app, HT0.out, app_assoc, app_assoc]
            rfl
          case measure => simp [intOf]; omega
        · have hx2 : 32 ≤ B := by omega
          clear h10 h9 h0 h92 h34
          go_wp2
          go_quiet (fail)
          go_wp2
          go_roundw
          case rel =>
            refine ⟨k + 1, by omega, by go_num, ?_, below_drewN hb _⟩
            rw [show (B / 16 + 1).toNat = (B / 16).toNat + 1 by omega, show (B % 16 + 1).toNat = (B % 16).toNat + 1 by omega, HE1.out, HE2.out, HNX.out, HQ.out, strOfNums_app, HT0.out, app_assoc, app_assoc]
            rfl
          case measure => simp [intOf]; omega
      · have HQ := Lib.hid (show qB B = [B] by unfold qB; rw [if_neg h10, if_neg h9, if_neg h0, if_neg (by omega), if_neg hx])
        have x1 : 32 ≤ B := by omega
        have x2 : B ≤ 126 := by omega
        clear h10 h9 h0 h92 h34 hx
        have HNX2 := Lib.hid (show strOfNums (quN s (k + 1)) = T0 ++ strOfNums [B] by rw [HNX.out, HQ.out, strOfNums_app, HT0.out])
        go_wp2
        go_roundw
        case rel => exact ⟨k + 1, by omega, by go_num, by rw [HNX2.out], hb.alloc hbs _⟩
        case measure => simp [intOf]; omega
    · obtain rfl : k = s.size := by omega
      have HF := Lib.hid (show strOfNums (quT s) = strOfNums (quN s s.size) ++ ⟨#[34]⟩ by unfold quT; rw [strOfNums_app]; rfl)
      go_wp2
      go_ret2
      exact ⟨by rw [HF.out]; rfl, hb⟩
end Go.Proofs.YtdhfkokinnmfhaaDoor
