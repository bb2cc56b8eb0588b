/- Walks of layer 21: escape, one. -/
import Derived.Test.YtdhfkokinnmfhaaDoorX3
namespace Go.Proofs.YtdhfkokinnmfhaaDoor
open Go.RowKit
set_option linter.unusedSimpArgs false
set_option linter.unusedVariables false
theorem escS_x (s : ByteArray) (k : Nat) (h : k + 1 < s.size) (h1 : bt s (k + 1) = 120) : escS s k =
    (if k + 2 = s.size then ((0, 0, 4) : Int × Int × Int)
    else if hexI (bt s (k + 2)) = false then (0, (k : Int) + 2, 6)
    else if k + 3 = s.size then (0, 0, 4)
    else if hexI (bt s (k + 3)) = false then (0, (k : Int) + 3, 6)
    else (16 * hexV (bt s (k + 2)) + hexV (bt s (k + 3)), (k : Int) + 4, 0)) := by
  unfold escS
  rw [if_neg (by omega), if_neg (by simpa using h1)]
theorem trip_eq {a b c : Int} {r : Int × Int × Int} (h : r = (a, b, c)) : Ending.returned (.tuple #[.int .u8 a, .int .i64 b, .int .i64 c]) = trip r := by rw [h]; rfl
set_option maxRecDepth 100000 in
theorem escape_hex (s : ByteArray) (k : Nat) (w : World) (h : k + 1 < s.size) (hs : s.size ≤ 100000) (h1 : bt s (k + 1) = 120) :
    Calls Tryd.prog 66 #[.string s, .int .i64 k] w fun e w' => e = trip (escS s k) ∧ w = w' := by
  have HS := Lib.hid (escS_x s k h h1)
  have hb : ((k : Int) + 1 == (s.size : Int)) = false := by simp; omega
  have hx := bt_of s (k + 1) h
  have hn : (bt s (k + 1) != 120) = false := by simpa using h1
  clear h1
  go_enter Tryd.func66, Tryd.ntmps66
  go_wp2
  clear hb hn hx
  go_loop [4, 5] (fun b i => (b = .int .u8 0 ∧ i = .int .i64 ((k + 2 : Nat) : Int)) ∨ (k + 2 < s.size ∧ hexI (bt s (k + 2)) = true ∧ b = .int .u8 (hexV (bt s (k + 2))) ∧ i = .int .i64 ((k + 3 : Nat) : Int)) ∨ (k + 3 < s.size ∧ hexI (bt s (k + 2)) = true ∧ hexI (bt s (k + 3)) = true ∧ b = .int .u8 (16 * hexV (bt s (k + 2)) + hexV (bt s (k + 3))) ∧ i = .int .i64 ((k + 4 : Nat) : Int))) (fun _ i => s.size + 4 - (intOf i).toNat)
  case atStart => exact .inl ⟨rfl, by go_num⟩
  case round =>
    rcases hrel with ⟨rfl, rfl⟩ | ⟨g1, g2, rfl, rfl⟩ | ⟨g1, g2, g3, rfl, rfl⟩
    · by_cases he : k + 2 = s.size
      · have hbb : (((k + 2 : Nat) : Int) == (s.size : Int)) = true := by simp; omega
        have HE := Lib.hid he
        clear he
        go_wp2
        go_ret3
        exact ⟨trip_eq (by rw [HS.out, if_pos HE.out]), rfl⟩
      · have hbb : (((k + 2 : Nat) : Int) == (s.size : Int)) = false := by simp; omega
        have hl : k + 2 < s.size := by omega
        have hx := bt_of s (k + 2) hl
        have HE := Lib.hid he
        clear he
        cases hq : hexI (bt s (k + 2)) with
        | false =>
          have HQ := Lib.hid hq
          go_wp2_with (first | (go_at_call 64; refine (isHex_any _ _).mono ?_; rintro e w' ⟨rfl, rfl⟩) | (go_at_call 65; refine (hexValue_any _ _ HQ.out).mono ?_; rintro e w' ⟨rfl, rfl⟩))
          go_ret3
          exact ⟨trip_eq (by rw [HS.out, if_neg HE.out, if_pos HQ.out]), rfl⟩
        | true =>
          have HQ := Lib.hid hq
          obtain ⟨v1, v2⟩ := hexV_bd _ hq
          go_wp2_with (first | (go_at_call 64; refine (isHex_any _ _).mono ?_; rintro e w' ⟨rfl, rfl⟩) | (go_at_call 65; refine (hexValue_any _ _ HQ.out).mono ?_; rintro e w' ⟨rfl, rfl⟩))
          go_round
          case rel => exact .inr (.inl ⟨hl, by first | exact HQ.out | trivial, by go_num, by go_num⟩)
          case measure => simp [intOf]; omega
    · have G2 := Lib.hid g2
      obtain ⟨u1, u2⟩ := hexV_bd _ g2
      clear g2
      by_cases he : k + 3 = s.size
      · have hbb : (((k + 3 : Nat) : Int) == (s.size : Int)) = true := by simp; omega
        have HE := Lib.hid he
        clear he
        go_wp2
        go_ret3
        exact ⟨trip_eq (by rw [HS.out, if_neg (by omega), if_neg (by rw [G2.out]; simp), if_pos HE.out]), rfl⟩
      · have hbb : (((k + 3 : Nat) : Int) == (s.size : Int)) = false := by simp; omega
        have hl : k + 3 < s.size := by omega
        have hx := bt_of s (k + 3) hl
        have HE := Lib.hid he
        clear he
        cases hq : hexI (bt s (k + 3)) with
        | false =>
          have HQ := Lib.hid hq
          go_wp2_with (first | (go_at_call 64; refine (isHex_any _ _).mono ?_; rintro e w' ⟨rfl, rfl⟩) | (go_at_call 65; refine (hexValue_any _ _ HQ.out).mono ?_; rintro e w' ⟨rfl, rfl⟩))
          go_ret3
          exact ⟨trip_eq (by rw [HS.out, if_neg (by omega), if_neg (by rw [G2.out]; simp), if_neg HE.out, if_pos HQ.out]), rfl⟩
        | true =>
          have HQ := Lib.hid hq
          obtain ⟨v1, v2⟩ := hexV_bd _ hq
          go_wp2_with (first | (go_at_call 64; refine (isHex_any _ _).mono ?_; rintro e w' ⟨rfl, rfl⟩) | (go_at_call 65; refine (hexValue_any _ _ HQ.out).mono ?_; rintro e w' ⟨rfl, rfl⟩))
          go_round
          case rel => exact .inr (.inr ⟨hl, by first | exact G2.out | trivial, by first | exact HQ.out | trivial, by go_num, by go_num⟩)
          case measure => simp [intOf]; omega
    · have G2 := Lib.hid g2
      have G3 := Lib.hid g3
      clear g2 g3
      go_wp2
      go_ret3
      exact ⟨trip_eq (by rw [HS.out, if_neg (by omega), if_neg (by rw [G2.out]; simp), if_neg (by omega), if_neg (by rw [G3.out]; simp)]), rfl⟩
theorem escape_any (s : ByteArray) (k : Nat) (w : World) (ho : EscAt w) (h : k + 1 ≤ s.size) (hs : s.size ≤ 100000) :
    Calls Tryd.prog 66 #[.string s, .int .i64 k] w fun e w' => e = trip (escS s k) ∧ w = w' := by
  by_cases h0 : k + 1 = s.size
  · have e : escS s k = (0, 0, 4) := by unfold escS; rw [if_pos h0]
    rw [e]
    exact escape_end s k w h0 hs
  by_cases h1 : bt s (k + 1) = 120
  · exact escape_hex s k w (by omega) hs h1
  by_cases h2 : 128 ≤ bt s (k + 1) ∨ escT (bt s (k + 1)) = 0
  · have e : escS s k = (0, (k : Int) + 1, 6) := by unfold escS; rw [if_neg h0, if_pos h1, if_pos h2]
    rw [e]
    exact escape_bad s k w ho (by omega) hs h1 h2
  · have e : escS s k = (escT (bt s (k + 1)) - 1, (k : Int) + 2, 0) := by unfold escS; rw [if_neg h0, if_pos h1, if_neg h2]
    rw [e]
    exact escape_plain s k w ho (by omega) hs h1 (by omega) (by omega)
set_option maxRecDepth 100000 in
theorem one_any (s : ByteArray) (k : Nat) (q : Int) (w : World) (ho : EscAt w) (h : k ≤ s.size) (hs : s.size ≤ 100000) :
    Calls Tryd.prog 58 #[.string s, .int .i64 k, .int .u8 q] w fun e w' => e = trip (oneS s k q) ∧ w = w' := by
  by_cases h0 : k = s.size
  · have hb : ((k : Int) == (s.size : Int)) = true := by simp; omega
    have HS := Lib.hid (show oneS s k q = (0, 0, 4) by unfold oneS; rw [if_pos h0])
    clear h0
    go_enter Tryd.func58, Tryd.ntmps58
    go_wp2
    go_ret3
    exact ⟨trip_eq HS.out, rfl⟩
  have hb : ((k : Int) == (s.size : Int)) = false := by simp; omega
  have hl : k < s.size := by omega
  have hx := bt_of s k hl
  by_cases h1 : bt s k = 92
  · have HS := Lib.hid (show oneS s k q = escS s k by unfold oneS; rw [if_neg h0, if_pos h1])
    have h1' : (bt s k == 92) = true := by simpa using h1
    clear h1 h0
    go_enter Tryd.func58, Tryd.ntmps58
    go_wp2_with (go_at_call 66; refine (escape_any s k _ ho (by omega) hs).mono ?_; rintro e w' ⟨rfl, rfl⟩; rw [trip])
    go_ret3
    exact ⟨trip_eq HS.out, rfl⟩
  · have h1' : (bt s k == 92) = false := by simpa using h1
    by_cases h2 : bt s k = q ∨ bt s k < 32 ∨ 126 < bt s k
    · have HS := Lib.hid (show oneS s k q = (0, (k : Int), 6) by unfold oneS; rw [if_neg h0, if_neg h1, if_pos h2])
      have hz : (bt s k == q || decide (bt s k < 32) || decide (126 < bt s k)) = true := by
        rw [Bool.eq_iff_iff]; simp; omega
      clear h0 h1 
      by_cases h3 : bt s k = q
      · have h3' : (bt s k == q) = true := by simpa using h3
        clear h2 hz h3
        go_enter Tryd.func58, Tryd.ntmps58
        go_wp2
        go_ret3
        exact ⟨trip_eq HS.out, rfl⟩
      · have h3' : (bt s k == q) = false := by simpa using h3
        have h4 : bt s k < 32 ∨ 126 < bt s k := by rcases h2 with h | h; (exact absurd h h3); exact h
        by_cases h5 : bt s k < 32
        · clear h2 hz h3 h4
          go_enter Tryd.func58, Tryd.ntmps58
          go_wp2
          go_ret3
          exact ⟨trip_eq HS.out, rfl⟩
        · have h6 : 126 < bt s k := by omega
          have h7 : 32 ≤ bt s k := by omega
          clear h2 hz h3 h4 h5
          go_enter Tryd.func58, Tryd.ntmps58
          go_wp2
          go_ret3
          exact ⟨trip_eq HS.out, rfl⟩
    · have HS := Lib.hid (show oneS s k q = (bt s k, (k : Int) + 1, 0) by unfold oneS; rw [if_neg h0, if_neg h1, if_neg h2])
      have h3' : (bt s k == q) = false := by simp; omega
      have h6 : bt s k ≤ 126 := by omega
      have h7 : 32 ≤ bt s k := by omega
      clear h0 h1 h2
      go_enter Tryd.func58, Tryd.ntmps58
      go_wp2
      go_ret3
      exact ⟨trip_eq HS.out, rfl⟩
end Go.Proofs.YtdhfkokinnmfhaaDoor
