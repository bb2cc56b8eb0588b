/- Walks of layer 21: Quote. -/
import Derived.Test.YtdhfkokinnmfhaaDoorS1
import Derived.Test.YtdhfkokinnmfhaaDoorQ15
import Derived.Laws.BitsAllLaws
namespace Go.Proofs.YtdhfkokinnmfhaaDoor
open Go.RowKit
set_option linter.unusedSimpArgs false
set_option linter.unusedVariables false
theorem and15 (B : Int) (h0 : 0 ≤ B) (h1 : B < 256) : bits BinOp.and IntKind.u8 B 15 = B % 16 := by
  have : ∀ n : Fin 256, bits BinOp.and IntKind.u8 (n.val : Int) 15 = (n.val : Int) % 16 := by decide +kernel
  have h3 := this ⟨B.toNat, by omega⟩
  simp only [Int.toNat_of_nonneg h0] at h3
  exact h3
theorem dig_at (d : Int) (h0 : 0 ≤ d) (h1 : d < 16) (h : d.toNat < (⟨#[48, 49, 50, 51, 52, 53, 54, 55, 56, 57, 97, 98, 99, 100, 101, 102]⟩ : ByteArray).size) : ((((⟨#[48, 49, 50, 51, 52, 53, 54, 55, 56, 57, 97, 98, 99, 100, 101, 102]⟩ : ByteArray)[d.toNat]'h).toNat : Nat) : Int) = hdC d := by
  have : ∀ n : Fin 16, ((((⟨#[48, 49, 50, 51, 52, 53, 54, 55, 56, 57, 97, 98, 99, 100, 101, 102]⟩ : ByteArray)[n.val]'n.isLt).toNat : Nat) : Int) = hdC (n.val : Int) := by decide
  have h3 := this ⟨d.toNat, by omega⟩
  simp only [Int.toNat_of_nonneg h0] at h3
  exact h3
theorem own_row1 (w : World) (v : Int) : (w.alloc (.cells #[.int .u8 v] 5)).ownsRow w.heap.size 5 1 (.slice (some ⟨w.heap.size, 0, none⟩) 1 1) 1 [.int .u8 v] := by
  refine ⟨rfl, .inr ⟨w.heap.size, 1, #[.int .u8 v], rfl, Nat.le_refl _, ?_, Nat.le_refl _, by decide, rfl, rfl⟩⟩
  show (w.heap.push _)[w.heap.size]? = _
  simp
theorem quote_long (s : ByteArray) (w : World) (h : 200 < s.size) (hs : s.size ≤ 100000) : Calls Tryd.prog 24 #[.string s] w fun e w' => e = .returned (.tuple #[.string ⟨#[]⟩, .int .i64 5]) ∧ w = w' := by
  go_enter Tryd.func24, Tryd.ntmps24
  go_wp2
  go_ret2
  exact ⟨rfl, rfl⟩
theorem refQuote_long (s : ByteArray) (w : World) (h : 200 < s.size) (hs : s.size ≤ 100000) : Calls Tryd.prog 25 #[.string s] w fun e w' => e = .returned (.tuple #[.string ⟨#[]⟩, .int .i64 5]) ∧ w = w' := by
  go_enter Tryd.func25, Tryd.ntmps25
  go_wp2
  go_ret2
  exact ⟨rfl, rfl⟩
set_option maxRecDepth 100000 in
set_option maxHeartbeats 1000000 in
theorem quote_any (s : ByteArray) (w : World) (h : s.size ≤ 200) : Calls Tryd.prog 24 #[.string s] w fun e w' => e = .returned (.tuple #[.string (strOfNums (quT s)), .int .i64 0]) ∧ Below w.heap.size w w' := by
  obtain ⟨i0, hi, hz0, hz1, hzb⟩ := info_parts info5
  go_enter Tryd.func24, Tryd.ntmps24
  go_wp2
  go_loopw [4, 13] (fun v i wr => ∃ k : Nat, k ≤ s.size ∧ i = .int .i64 k ∧ wr.ownsRow w.heap.size 5 1 v (quN s k).length ((quN s k).map (Value.int .u8)) ∧ Below w.heap.size w wr) (fun _ i _ => s.size - (intOf i).toNat)
  case atStart => exact ⟨0, Nat.zero_le _, rfl, own_row1 w 34, (Below.refl _ _).alloc (Nat.le_refl _) _⟩
  case round =>
    obtain ⟨k, hk, rfl, hown, hb⟩ := hrel
    have hbs := hb.size
    have hql := quN_len s k
    by_cases hlt : k < s.size
    · have hx := bt_of s k hlt
      obtain ⟨b0, b1⟩ := bt_bd s k
      have HNX := Lib.hid (show quN s (k + 1) = quN s k ++ qB (bt s k) from rfl)
      generalize bt s k = B at *
      by_cases h10 : B = 10
      · have t10 : (B == 10) = true := by simpa using h10
        have HQ := Lib.hid (show qB B = [92, 110] by rw [h10]; rfl)
        clear h10
        go_wp2_with (at_builtin; refine wpList_append_own _ rfl _ _ 42 rfl w.heap.size 5 i0 (.int .u8 0) 1 1 Tryd.underlying42 hi hz0 hz1 hzb rfl (by decide) _ _ _ rfl (hown.alloc _) ⟨wr.heap.size, 0, none⟩ 2 2 [.int .u8 92, .int .u8 110] rfl rfl (World.news_of_block (cs := #[.int .u8 92, .int .u8 110]) (t := 5) (fr := (0, 0)) (heap_alloc_new wr _)) (by simp [Value.oneCell']) (by unfold maxLen; omega) (by omega) (by simp; omega) ?_)
        intro v' w3 hown3 hg3 _
        have hB3 : Below w.heap.size w w3 := (hb.alloc hbs _).grown hg3 (by simp; omega) (fun g hg => own_ge hown hg)
        have HOWN := Lib.hid (show w3.ownsRow w.heap.size 5 1 v' (quN s (k + 1)).length ((quN s (k + 1)).map (Value.int .u8)) by rw [HNX.out, HQ.out, List.length_append, List.map_append]; exact hown3)
        clear hown hown3 hg3 hb
        go_wp2
        go_roundw
        case rel => exact ⟨k + 1, by omega, by go_num, HOWN.out, hB3⟩
        case measure => simp [intOf]; omega
      have t10 : (B == 10) = false := by simpa using h10
      by_cases h9 : B = 9
      · have t9 : (B == 9) = true := by simpa using h9
        have HQ := Lib.hid (show qB B = [92, 116] by rw [h9]; rfl)
        clear h10 h9
        go_wp2_with (at_builtin; refine wpList_append_own _ rfl _ _ 42 rfl w.heap.size 5 i0 (.int .u8 0) 1 1 Tryd.underlying42 hi hz0 hz1 hzb rfl (by decide) _ _ _ rfl (hown.alloc _) ⟨wr.heap.size, 0, none⟩ 2 2 [.int .u8 92, .int .u8 116] rfl rfl (World.news_of_block (cs := #[.int .u8 92, .int .u8 116]) (t := 5) (fr := (0, 0)) (heap_alloc_new wr _)) (by simp [Value.oneCell']) (by unfold maxLen; omega) (by omega) (by simp; omega) ?_)
        intro v' w3 hown3 hg3 _
        have hB3 : Below w.heap.size w w3 := (hb.alloc hbs _).grown hg3 (by simp; omega) (fun g hg => own_ge hown hg)
        have HOWN := Lib.hid (show w3.ownsRow w.heap.size 5 1 v' (quN s (k + 1)).length ((quN s (k + 1)).map (Value.int .u8)) by rw [HNX.out, HQ.out, List.length_append, List.map_append]; exact hown3)
        clear hown hown3 hg3 hb
        go_wp2
        go_roundw
        case rel => exact ⟨k + 1, by omega, by go_num, HOWN.out, hB3⟩
        case measure => simp [intOf]; omega
      have t9 : (B == 9) = false := by simpa using h9
      by_cases h0 : B = 0
      · have t0 : (B == 0) = true := by simpa using h0
        have HQ := Lib.hid (show qB B = [92, 48] by rw [h0]; rfl)
        clear h10 h9 h0
        go_wp2_with (at_builtin; refine wpList_append_own _ rfl _ _ 42 rfl w.heap.size 5 i0 (.int .u8 0) 1 1 Tryd.underlying42 hi hz0 hz1 hzb rfl (by decide) _ _ _ rfl (hown.alloc _) ⟨wr.heap.size, 0, none⟩ 2 2 [.int .u8 92, .int .u8 48] rfl rfl (World.news_of_block (cs := #[.int .u8 92, .int .u8 48]) (t := 5) (fr := (0, 0)) (heap_alloc_new wr _)) (by simp [Value.oneCell']) (by unfold maxLen; omega) (by omega) (by simp; omega) ?_)
        intro v' w3 hown3 hg3 _
        have hB3 : Below w.heap.size w w3 := (hb.alloc hbs _).grown hg3 (by simp; omega) (fun g hg => own_ge hown hg)
        have HOWN := Lib.hid (show w3.ownsRow w.heap.size 5 1 v' (quN s (k + 1)).length ((quN s (k + 1)).map (Value.int .u8)) by rw [HNX.out, HQ.out, List.length_append, List.map_append]; exact hown3)
        clear hown hown3 hg3 hb
        go_wp2
        go_roundw
        case rel => exact ⟨k + 1, by omega, by go_num, HOWN.out, hB3⟩
        case measure => simp [intOf]; omega
      have t0 : (B == 0) = false := by simpa using h0
      by_cases h92 : B = 92
      · have t92 : (B == 92) = true := by simpa using h92
        have HQ := Lib.hid (show qB B = [92, B] by rw [h92]; rfl)
        clear h10 h9 h0 h92
        go_wp2_with (at_builtin; refine wpList_append_own _ rfl _ _ 42 rfl w.heap.size 5 i0 (.int .u8 0) 1 1 Tryd.underlying42 hi hz0 hz1 hzb rfl (by decide) _ _ _ rfl (hown.alloc _) ⟨wr.heap.size, 0, none⟩ 2 2 [.int .u8 92, .int .u8 B] rfl rfl (World.news_of_block (cs := #[.int .u8 92, .int .u8 B]) (t := 5) (fr := (0, 0)) (heap_alloc_new wr _)) (by simp [Value.oneCell']) (by unfold maxLen; omega) (by omega) (by simp; omega) ?_)
        intro v' w3 hown3 hg3 _
        have hB3 : Below w.heap.size w w3 := (hb.alloc hbs _).grown hg3 (by simp; omega) (fun g hg => own_ge hown hg)
        have HOWN := Lib.hid (show w3.ownsRow w.heap.size 5 1 v' (quN s (k + 1)).length ((quN s (k + 1)).map (Value.int .u8)) by rw [HNX.out, HQ.out, List.length_append, List.map_append]; exact hown3)
        clear hown hown3 hg3 hb
        go_wp2
        go_roundw
        case rel => exact ⟨k + 1, by omega, by go_num, HOWN.out, hB3⟩
        case measure => simp [intOf]; omega
      have t92 : (B == 92) = false := by simpa using h92
      by_cases h34 : B = 34
      · have t34 : (B == 34) = true := by simpa using h34
        have HQ := Lib.hid (show qB B = [92, B] by rw [h34]; rfl)
        clear h10 h9 h0 h92 h34
        go_wp2_with (at_builtin; refine wpList_append_own _ rfl _ _ 42 rfl w.heap.size 5 i0 (.int .u8 0) 1 1 Tryd.underlying42 hi hz0 hz1 hzb rfl (by decide) _ _ _ rfl (hown.alloc _) ⟨wr.heap.size, 0, none⟩ 2 2 [.int .u8 92, .int .u8 B] rfl rfl (World.news_of_block (cs := #[.int .u8 92, .int .u8 B]) (t := 5) (fr := (0, 0)) (heap_alloc_new wr _)) (by simp [Value.oneCell']) (by unfold maxLen; omega) (by omega) (by simp; omega) ?_)
        intro v' w3 hown3 hg3 _
        have hB3 : Below w.heap.size w w3 := (hb.alloc hbs _).grown hg3 (by simp; omega) (fun g hg => own_ge hown hg)
        have HOWN := Lib.hid (show w3.ownsRow w.heap.size 5 1 v' (quN s (k + 1)).length ((quN s (k + 1)).map (Value.int .u8)) by rw [HNX.out, HQ.out, List.length_append, List.map_append]; exact hown3)
        clear hown hown3 hg3 hb
        go_wp2
        go_roundw
        case rel => exact ⟨k + 1, by omega, by go_num, HOWN.out, hB3⟩
        case measure => simp [intOf]; omega
      have t34 : (B == 34) = false := by simpa using h34
      by_cases hx : B < 32 ∨ 126 < B
      · have HQ := Lib.hid (show qB B = [92, 120, hdC (B / 16), hdC (B % 16)] by unfold qB; rw [if_neg h10, if_neg h9, if_neg h0, if_neg (by omega), if_pos hx])
        have HAND := Lib.hid (and15 B b0 b1)
        have HD1 := Lib.hid (fun h => dig_at (B / 16) (by omega) (by omega) h)
        have HD2 := Lib.hid (fun h => dig_at (B % 16) (by omega) (by omega) h)
        rcases hx with hx | hx
        · clear h10 h9 h0 h92 h34
          have hB3' := hb
          go_wp2
          have K1 : 0 ≤ B / 16 ∧ B / 16 < 16 := by omega
          have K2 : 0 ≤ B % 16 ∧ B % 16 < 16 := by omega
          have K3 : bits BinOp.and IntKind.u8 B 15 = B % 16 := HAND.out
          have K4 : ∀ h, ((((⟨#[48, 49, 50, 51, 52, 53, 54, 55, 56, 57, 97, 98, 99, 100, 101, 102]⟩ : ByteArray)[(B / 16).toNat]'h).toNat : Nat) : Int) = hdC (B / 16) := HD1.out
          have K5 : ∀ h, ((((⟨#[48, 49, 50, 51, 52, 53, 54, 55, 56, 57, 97, 98, 99, 100, 101, 102]⟩ : ByteArray)[(B % 16).toNat]'h).toNat : Nat) : Int) = hdC (B % 16) := HD2.out
          go_region_held3 (fun w' => 0 ≤ w'.heap.size) (exact Nat.zero_le _)
            ((refine step_append_lies _ (by rfl) _ _ _ (by rfl) w.heap.size 5 i0 _ 1 1 Tryd.underlying42 hi hz0 hz1 hzb rfl (by omega) u4 (quN s k).length ((quN s k).map (Value.int .u8)) (by rfl) ((hown.alloc _).drew)
                ⟨wr.heap.size, 0, none⟩ 4 4 [.int .u8 92, .int .u8 120, .int .u8 (hdC (B / 16)), .int .u8 (hdC (B % 16))] (by rfl) (by rfl) (World.news_of_block (cs := #[.int .u8 92, .int .u8 120, .int .u8 (hdC (B / 16)), .int .u8 (hdC (B % 16))]) (t := 5) (fr := (0, 0)) (heap_alloc_new wr _)) (by simp [Value.oneCell'])
                (by omega) (by unfold maxLen; omega) (by omega) (by simp; omega) (wr.heap.size + 1) (by simp) ?_; intro gg cap w1 hown1 hgrow hat hltg))
          all_goals
            clear K1 K2 K3 K4 K5
            have hB3 : Below w.heap.size w w1 := ((hb.alloc hbs _).drew).grown hgrow (by simp; omega) (fun g hg => own_ge hown hg)
            have HOWN := Lib.hid (show w1.ownsRow w.heap.size 5 1 (.slice (some ⟨gg, 0, none⟩) (quN s (k + 1)).length cap) (quN s (k + 1)).length ((quN s (k + 1)).map (Value.int .u8)) by rw [HNX.out, HQ.out, List.length_append, List.map_append]; exact hown1)
            have HLE := Lib.hid (show (quN s (k + 1)).length = (quN s k).length + 4 by rw [HNX.out, HQ.out, List.length_append]; rfl)
            clear hown hown1 hgrow hb
            go_wp2
            first | (refine ⟨⟨k + 1, by omega, by go_num, ?_, hB3⟩, by simp [intOf]; omega⟩; have := HOWN.out; rw [HLE.out] at this ⊢; exact this) | (go_roundw; (case rel => exact ⟨k + 1, by omega, by go_num, by have := HOWN.out; rw [HLE.out] at this ⊢; exact this, hB3⟩); (case measure => simp [intOf]; omega))
        · have hx2 : 32 ≤ B := by omega
          clear h10 h9 h0 h92 h34
          have hB3' := hb
          go_wp2
          have K1 : 0 ≤ B / 16 ∧ B / 16 < 16 := by omega
          have K2 : 0 ≤ B % 16 ∧ B % 16 < 16 := by omega
          have K3 : bits BinOp.and IntKind.u8 B 15 = B % 16 := HAND.out
          have K4 : ∀ h, ((((⟨#[48, 49, 50, 51, 52, 53, 54, 55, 56, 57, 97, 98, 99, 100, 101, 102]⟩ : ByteArray)[(B / 16).toNat]'h).toNat : Nat) : Int) = hdC (B / 16) := HD1.out
          have K5 : ∀ h, ((((⟨#[48, 49, 50, 51, 52, 53, 54, 55, 56, 57, 97, 98, 99, 100, 101, 102]⟩ : ByteArray)[(B % 16).toNat]'h).toNat : Nat) : Int) = hdC (B % 16) := HD2.out
          go_region_held3 (fun w' => 0 ≤ w'.heap.size) (exact Nat.zero_le _)
            ((refine step_append_lies _ (by rfl) _ _ _ (by rfl) w.heap.size 5 i0 _ 1 1 Tryd.underlying42 hi hz0 hz1 hzb rfl (by omega) u4 (quN s k).length ((quN s k).map (Value.int .u8)) (by rfl) ((hown.alloc _).drew)
                ⟨wr.heap.size, 0, none⟩ 4 4 [.int .u8 92, .int .u8 120, .int .u8 (hdC (B / 16)), .int .u8 (hdC (B % 16))] (by rfl) (by rfl) (World.news_of_block (cs := #[.int .u8 92, .int .u8 120, .int .u8 (hdC (B / 16)), .int .u8 (hdC (B % 16))]) (t := 5) (fr := (0, 0)) (heap_alloc_new wr _)) (by simp [Value.oneCell'])
                (by omega) (by unfold maxLen; omega) (by omega) (by simp; omega) (wr.heap.size + 1) (by simp) ?_; intro gg cap w1 hown1 hgrow hat hltg))
          all_goals
            clear K1 K2 K3 K4 K5
            have hB3 : Below w.heap.size w w1 := ((hb.alloc hbs _).drew).grown hgrow (by simp; omega) (fun g hg => own_ge hown hg)
            have HOWN := Lib.hid (show w1.ownsRow w.heap.size 5 1 (.slice (some ⟨gg, 0, none⟩) (quN s (k + 1)).length cap) (quN s (k + 1)).length ((quN s (k + 1)).map (Value.int .u8)) by rw [HNX.out, HQ.out, List.length_append, List.map_append]; exact hown1)
            have HLE := Lib.hid (show (quN s (k + 1)).length = (quN s k).length + 4 by rw [HNX.out, HQ.out, List.length_append]; rfl)
            clear hown hown1 hgrow hb
            go_wp2
            first | (refine ⟨⟨k + 1, by omega, by go_num, ?_, hB3⟩, by simp [intOf]; omega⟩; have := HOWN.out; rw [HLE.out] at this ⊢; exact this) | (go_roundw; (case rel => exact ⟨k + 1, by omega, by go_num, by have := HOWN.out; rw [HLE.out] at this ⊢; exact this, hB3⟩); (case measure => simp [intOf]; omega))
      · have HQ := Lib.hid (show qB B = [B] by unfold qB; rw [if_neg h10, if_neg h9, if_neg h0, if_neg (by omega), if_neg hx])
        have x1 : 32 ≤ B := by omega
        have x2 : B ≤ 126 := by omega
        clear h10 h9 h0 h92 h34 hx
        go_wp2_with (at_builtin; refine wpList_append_own _ rfl _ _ 42 rfl w.heap.size 5 i0 (.int .u8 0) 1 1 Tryd.underlying42 hi hz0 hz1 hzb rfl (by decide) _ _ _ rfl (hown.alloc _) ⟨wr.heap.size, 0, none⟩ 1 1 [.int .u8 B] rfl rfl (World.news_of_block (cs := #[.int .u8 B]) (t := 5) (fr := (0, 0)) (heap_alloc_new wr _)) (by simp [Value.oneCell']) (by unfold maxLen; omega) (by omega) (by simp; omega) ?_)
        intro v' w3 hown3 hg3 _
        have hB3 : Below w.heap.size w w3 := (hb.alloc hbs _).grown hg3 (by simp; omega) (fun g hg => own_ge hown hg)
        have HOWN := Lib.hid (show w3.ownsRow w.heap.size 5 1 v' (quN s (k + 1)).length ((quN s (k + 1)).map (Value.int .u8)) by rw [HNX.out, HQ.out, List.length_append, List.map_append]; exact hown3)
        clear hown hown3 hg3 hb
        go_wp2
        go_roundw
        case rel => exact ⟨k + 1, by omega, by go_num, HOWN.out, hB3⟩
        case measure => simp [intOf]; omega
    · obtain rfl : k = s.size := by omega
      go_wp2_with (at_builtin; refine wpList_append_own _ rfl _ _ 42 rfl w.heap.size 5 i0 (.int .u8 0) 1 1 Tryd.underlying42 hi hz0 hz1 hzb rfl (by decide) _ _ _ rfl (hown.alloc _) ⟨wr.heap.size, 0, none⟩ 1 1 [.int .u8 34] rfl rfl (World.news_of_block (cs := #[.int .u8 34]) (t := 5) (fr := (0, 0)) (heap_alloc_new wr _)) (by simp [Value.oneCell']) (by unfold maxLen; omega) (by omega) (by simp; omega) ?_)
      intro v' w3 hown3 hg3 _
      have hB3 : Below w.heap.size w w3 := (hb.alloc hbs _).grown hg3 (by simp; omega) (fun g hg => own_ge hown hg)
      have hown4 : w3.ownsRow w.heap.size 5 1 v' (quT s).length ((quT s).map (Value.int .u8)) := by unfold quT; rw [List.length_append, List.map_append]; exact hown3
      have htx := own_text hown4
      clear hown hown3 hg3 hb
      go_wp2
      go_ret2
      exact ⟨rfl, hB3⟩
end Go.Proofs.YtdhfkokinnmfhaaDoor
