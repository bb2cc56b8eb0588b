/- The law LexerPlaces, walked. -/
import Derived.Test.YtdhfkokinnmfhaaDoorL1
import Derived.Test.YtdhfkokinnmfhaaDoorQ9
namespace Go.Proofs.YtdhfkokinnmfhaaDoor
open Go.RowKit
set_option linter.unusedSimpArgs false
set_option linter.unusedVariables false
set_option maxRecDepth 100000 in
set_option maxHeartbeats 1000000 in
theorem places_err (s : ByteArray) (w : World) (ho : EscAt w) (hs : s.size ≤ maxLen) (p : Nat) (off er : Int) (hS : scanS (cutS s) = .err p off er) :
    Calls Tryd.prog 4 #[.string s] w fun e w' => e = .returned (.bool true) ∧ Below w.heap.size w w' := by
  obtain ⟨h0, _⟩ := scanS_err _ _ _ _ hS
  have hz := cutS_size s
  have HS := Lib.hid hS
  have he : (er != 0) = true := by simpa using h0
  clear h0 hS
  go_enter Tryd.func4, Tryd.ntmps4
  go_wp2_with (go_at_call 10; refine (cut_any s _ hs).mono ?_; rintro e w' ⟨rfl, rfl⟩)
  refine (scan_no _ _ p off er ho (by omega) HS.out).mono ?_
  rintro e w1 ⟨rfl, k1⟩
  go_wp2_with fail
  refine (known_any _ (ho.next k1)).mono ?_
  rintro e w2 ⟨rfl, k2⟩
  go_wp2_with fail
  refine (known_any _ (ho.next (bnext k1 k2))).mono ?_
  rintro e w3 ⟨rfl, k3⟩
  have B3 := bnext (bnext k1 k2) k3
  go_wp2
  go_ret
  exact ⟨rfl, B3⟩
/-- The loop's relation. -/
def PlRel (t : ByteArray) (L : List (Att × Nat)) (w : World) (ln cl nx a : Value) (wr : World) : Prop :=
  ∃ k i : Nat, k ≤ t.size + 1 ∧ a = .int .i64 k ∧ nx = .int .i64 i ∧ ln = .int .i64 (lnX t k) ∧ cl = .int .i64 (clX t k) ∧ PosAt L k i ∧ Below w.heap.size w wr
set_option maxRecDepth 100000 in
set_option maxHeartbeats 4000000 in
theorem places_ok (s : ByteArray) (w : World) (ho : EscAt w) (hs : s.size ≤ maxLen) (l : List (Att × Nat)) (hS : scanS (cutS s) = .ok l) :
    Calls Tryd.prog 4 #[.string s] w fun e w' => e = .returned (.bool true) ∧ Below w.heap.size w w' := by
  have hz := cutS_size s
  have hll := scan_len _ _ hS
  have HS := Lib.hid hS
  clear hS
  go_enter Tryd.func4, Tryd.ntmps4
  go_wp2_with (go_at_call 10; refine (cut_any s _ hs).mono ?_; rintro e w' ⟨rfl, rfl⟩)
  refine (scan_ok _ _ l ho (by omega) HS.out).mono ?_
  rintro e w1 ⟨g, cap, rfl, hT, hg, hcap, k1⟩
  go_wp2_with fail
  refine (known_any _ (ho.next k1)).mono ?_
  rintro e w2 ⟨rfl, k2⟩
  have B2 := bnext k1 k2
  have hT2 : Toks w2 g (cutS s) (toksL (cutS s) l) := hT.next k2
  clear k1 k2 hT
  have HN := Lib.hid (toksL_len (cutS s) l)
  have HLAST := Lib.hid (show (toksL (cutS s) l)[l.length]? = some (endA, (cutS s).size) by unfold toksL; rw [List.getElem?_append_right (Nat.le_refl _)]; simp)
  generalize hn : l.length + 1 = n at *
  have hn2 : n ≤ 1501 := by omega
  have hn1 : 1 ≤ n := by omega
  have HNL := Lib.hid hn
  clear hn
  generalize hTT : cutS s = t at *
  have hT0 := Lib.hid hTT
  clear hTT
  go_wp2
  go_loopw [7, 8, 9, 10] (fun ln cl nx a wr => PlRel t (toksL t l) w2 ln cl nx a wr) (fun _ _ _ a _ => t.size + 1 - (intOf a).toNat)
  case atStart => exact ⟨0, 0, by omega, rfl, rfl, by unfold lnX; rw [if_pos (Nat.zero_le _)]; rfl, by unfold clX; rw [if_pos (Nat.zero_le _)]; rfl, pos_zero _, Below.refl _ _⟩
  case round =>
    obtain ⟨k, i, hk, rfl, rfl, rfl, rfl, hp, hb⟩ := hrel
    have hin : i ≤ n := by have := hp.1; rw [HN.out] at this; exact this
    by_cases hgo : k ≤ t.size ∧ i < n
    · obtain ⟨hkt, hil⟩ := hgo
      obtain ⟨u, hu⟩ : ∃ u, (toksL t l)[i]? = some u := ⟨_, List.getElem?_eq_getElem (by rw [HN.out]; exact hil)⟩
      obtain ⟨⟨kind, text, value, bytes, size, off, e0⟩, q⟩ := u
      have hge := pos_ge _ _ _ _ hp hu
      obtain ⟨tx1, tx2⟩ := toksL_text t l HS.out i _ hu
      have hq := all_le t l HS.out i _ hu
      obtain ⟨c0, c1, c2, c3, c4, c5⟩ := (hT2.next hb).2 i _ hu
      simp only at hge tx1 tx2 hq c0 c1 c2 c3 c4 c5
      have hl1 := lineN_le t k
      have hl2 := begN_le t k
      have HC0 := Lib.hid (show clX t k = colN t k by unfold clX; rw [if_pos hkt])
      have HL0 := Lib.hid (show lnX t k = (lineN t k : Int) by unfold lnX; rw [if_pos hkt])
      have hcl : 1 ≤ colN t k ∧ colN t k ≤ k + 1 := by unfold colN; omega
      obtain ⟨cl1, cl2⟩ := hcl
      rw [HC0.out, HL0.out]
      have P0 : (0 : Int) ≤ (i : Int) := by omega
      have P1 : (i : Int) < (n : Int) := by omega
      by_cases hkq : q = k
      · subst hkq
        have HPH := Lib.hid (pos_hit t l HS.out q i _ hu rfl hp)
        have K1 : ((t.extract q (q + text.size)).toList == text.toList) = true := by rw [str_beq, tx2]; simp
        have K2 : IntKind.i64.wrap ((q : Int) + (text.size : Int)) = (q : Int) + (text.size : Int) := IntWalk.i64_in _ (by omega)
        have K3 : decide ((t.size : Int) < (q : Int) + (text.size : Int)) = false := by simp; omega
        have K4 : (0 : Int) ≤ (q : Int) + (text.size : Int) := by omega
        have K5 : ((q : Int) + (text.size : Int)).toNat = q + text.size := by omega
        have K6 : (q : Int) ≤ (q : Int) + (text.size : Int) := by omega
        have K7 : (q : Int) + (text.size : Int) ≤ (t.size : Int) := by omega
        clear hu hp tx2
        generalize hC : colN t q = C at *
        have HC := Lib.hid hC
        clear hC
        by_cases hks : q < t.size
        · have hx := bt_of t q hks
          by_cases h10 : bt t q = 10
          · have t10 : (bt t q == 10) = true := by simpa using h10
            have HX1 := Lib.hid (show lnX t (q + 1) = (lineN t q : Int) + 1 by unfold lnX; rw [if_pos (by omega), lineN_nl t q h10]; simp)
            have HX2 := Lib.hid (show clX t (q + 1) = 1 by unfold clX colN; rw [if_pos (by omega), begN_nl t q h10]; simp)
            clear h10
            go_wp2
            go_quiet (fail)
            clear K1 K2 K3 K4 K5 K6 K7
            go_wp2
            go_roundw
            case rel => exact ⟨q + 1, i + 1, by omega, by go_num, by go_num, by rw [HX1.out], by rw [HX2.out], HPH.out, below_drewN hb _⟩
            case measure => simp [intOf]; omega
          · have t10 : (bt t q == 10) = false := by simpa using h10
            have HX1 := Lib.hid (show lnX t (q + 1) = (lineN t q : Int) by unfold lnX; rw [if_pos (by omega), lineN_no t q h10])
            have HX2 := Lib.hid (show clX t (q + 1) = C + 1 by rw [← HC.out]; unfold clX colN; rw [if_pos (by omega), begN_no t q h10]; simp; omega)
            clear h10
            go_wp2
            go_quiet (fail)
            clear K1 K2 K3 K4 K5 K6 K7
            go_wp2
            go_roundw
            case rel => exact ⟨q + 1, i + 1, by omega, by go_num, by go_num, by rw [HX1.out], by rw [HX2.out], HPH.out, below_drewN hb _⟩
            case measure => simp [intOf]; omega
        · have hke : q = t.size := by omega
          have HX1 := Lib.hid (show lnX t (q + 1) = (lineN t q : Int) by unfold lnX; rw [if_neg (by omega), hke])
          have HX2 := Lib.hid (show clX t (q + 1) = C + 1 by rw [← HC.out]; unfold clX; rw [if_neg (by omega), hke])
          clear hke
          go_wp2
          go_quiet (fail)
          clear K1 K2 K3 K4 K5 K6 K7
          go_wp2
          go_roundw
          case rel => exact ⟨q + 1, i + 1, by omega, by go_num, by go_num, by rw [HX1.out], by rw [HX2.out], HPH.out, below_drewN hb _⟩
          case measure => simp [intOf]; omega
      · have HPM := Lib.hid (pos_miss t l HS.out k i _ hu (by omega) hp)
        have hne : ((lineN t q : Int) == (lineN t k : Int)) = false ∨ (((lineN t q : Int) == (lineN t k : Int)) = true ∧ (colN t q == colN t k) = false) := by
          by_cases e : lineN t q = lineN t k
          · right
            refine ⟨by simp [e], ?_⟩
            rw [beq_eq_false_iff_ne]
            exact fun e2 => place_inj t k q (by omega) e e2
          · left
            rw [beq_eq_false_iff_ne]
            omega
        clear hu hp tx2
        generalize hC : colN t k = C at *
        have HC := Lib.hid hC
        clear hC
        rcases hne with hne | ⟨hne, hne2⟩
        all_goals
          by_cases hks : k < t.size
          · have hx := bt_of t k hks
            by_cases h10 : bt t k = 10
            · have t10 : (bt t k == 10) = true := by simpa using h10
              have HX1 := Lib.hid (show lnX t (k + 1) = (lineN t k : Int) + 1 by unfold lnX; rw [if_pos (by omega), lineN_nl t k h10]; simp)
              have HX2 := Lib.hid (show clX t (k + 1) = 1 by unfold clX colN; rw [if_pos (by omega), begN_nl t k h10]; simp)
              clear h10
              go_wp2
              go_roundw
              case rel => exact ⟨k + 1, i, by omega, by go_num, rfl, by rw [HX1.out], by rw [HX2.out], HPM.out, hb⟩
              case measure => simp [intOf]; omega
            · have t10 : (bt t k == 10) = false := by simpa using h10
              have HX1 := Lib.hid (show lnX t (k + 1) = (lineN t k : Int) by unfold lnX; rw [if_pos (by omega), lineN_no t k h10])
              have HX2 := Lib.hid (show clX t (k + 1) = C + 1 by rw [← HC.out]; unfold clX colN; rw [if_pos (by omega), begN_no t k h10]; simp; omega)
              clear h10
              go_wp2
              go_roundw
              case rel => exact ⟨k + 1, i, by omega, by go_num, rfl, by rw [HX1.out], by rw [HX2.out], HPM.out, hb⟩
              case measure => simp [intOf]; omega
          · have hke : k = t.size := by omega
            have HX1 := Lib.hid (show lnX t (k + 1) = (lineN t k : Int) by unfold lnX; rw [if_neg (by omega), hke])
            have HX2 := Lib.hid (show clX t (k + 1) = C + 1 by rw [← HC.out]; unfold clX; rw [if_neg (by omega), hke])
            clear hke
            exact absurd hkq (by omega)
    · have hend : i = n := by
        rcases Nat.lt_or_ge t.size k with h | h
        · have := pos_end t l k i h hp; rw [HN.out] at this; exact this
        · rcases Nat.lt_or_ge i n with h2 | h2
          · exact absurd ⟨h, h2⟩ hgo
          · omega
      subst hend
      have hlast := (hT2.next hb).2 l.length _ HLAST.out
      have c0 := hlast.1
      rw [show l.length = i - 1 by have := HNL.out; omega] at c0
      have c0' : wr.cell? ⟨g, (i - 1) * 6, none⟩ = some (.int .i64 0) := c0
      have hi1 : ((i : Int) - 1).toNat = i - 1 := by omega
      clear hgo hlast c0 hp
      by_cases hkt : k ≤ t.size
      all_goals
        go_wp2
        go_ret
        exact ⟨rfl, bnext B2 hb⟩
theorem places_walk (s : ByteArray) (w : World) (ho : EscAt w) (hs : s.size ≤ maxLen) :
    Calls Tryd.prog 4 #[.string s] w fun e w' => e = .returned (.bool true) ∧ Below w.heap.size w w' := by
  cases hS : scanS (cutS s) with
  | ok l => exact places_ok s w ho hs l hS
  | err p off er => exact places_err s w ho hs p off er hS
end Go.Proofs.YtdhfkokinnmfhaaDoor
