/- The law LexerScans, walked. -/
import Derived.Test.YtdhfkokinnmfhaaDoorY9
import Derived.Test.YtdhfkokinnmfhaaDoorQ8
namespace Go.Proofs.YtdhfkokinnmfhaaDoor
open Go.RowKit
set_option linter.unusedSimpArgs false
set_option linter.unusedVariables false
def cutS (s : ByteArray) : ByteArray := s.extract 0 (min s.size 1500)
theorem cutS_size (s : ByteArray) : (cutS s).size ≤ 1500 := by
  unfold cutS
  rw [size_extract _ _ _ (by omega)]
  omega
theorem ext_all (s : ByteArray) : s.extract 0 s.size = s := by
  apply ext_bt
  · rw [size_extract _ _ _ (Nat.le_refl _)]; omega
  · intro i hi
    rw [size_extract _ _ _ (Nat.le_refl _)] at hi
    rw [bt_extract s 0 s.size i (Nat.le_refl _) (by omega), Nat.zero_add]
theorem cut_any (s : ByteArray) (w : World) (hs : s.size ≤ maxLen) : Calls Tryd.prog 10 #[.string s] w fun e w' => e = .returned (.string (cutS s)) ∧ w = w' := by
  unfold maxLen at hs
  by_cases h : s.size ≤ 1500
  · have HC := Lib.hid (show cutS s = s by unfold cutS; rw [show min s.size 1500 = s.size by omega]; exact ext_all s)
    have hm : min (s.size : Int) 1500 = (s.size : Int) := by omega
    go_enter Tryd.func10, Tryd.ntmps10
    go_wp2
    go_ret
    exact ⟨by rw [HC.out]; rfl, rfl⟩
  · have HC := Lib.hid (show cutS s = s.extract 0 1500 by unfold cutS; rw [show min s.size 1500 = 1500 by omega])
    have hm : min (s.size : Int) 1500 = 1500 := by omega
    have h1 : 1500 < s.size := by omega
    clear h
    go_enter Tryd.func10, Tryd.ntmps10
    go_wp2
    go_ret
    exact ⟨by rw [HC.out]; rfl, rfl⟩
set_option maxRecDepth 100000 in
theorem is_any (s : ByteArray) (k v : Int) (t b : ByteArray) (p : Nat) (w : World) (hp : p ≤ s.size) (hs : s.size ≤ 100000) :
    Calls Tryd.prog 15 #[.string s, .agg #[.int .i64 k, .string t, .int .i64 v, .string b, .int .i64 (lineN s p), .int .i64 (colN s p)], .agg #[.int .i64 k, .string t, .int .i64 v, .string b, .int .i64 p]] w fun e w' => e = .returned (.bool true) ∧ Below w.heap.size w w' := by
  go_enter Tryd.func15, Tryd.ntmps15
  go_wp2_with (go_at_call 14; refine (place_any s p _ hp hs).mono ?_; rintro e w' ⟨rfl, rfl⟩)
  go_ret
  exact ⟨rfl, ((Below.refl _ _).alloc (Nat.le_refl _) _).alloc (by simp) _⟩
set_option maxRecDepth 100000 in
set_option maxHeartbeats 1000000 in
theorem scans_err (s : ByteArray) (w : World) (ho : EscAt w) (hs : s.size ≤ maxLen) (p : Nat) (off er : Int) (hS : scanS (cutS s) = .err p off er) :
    Calls Tryd.prog 3 #[.string s] w fun e w' => e = .returned (.bool true) ∧ Below w.heap.size w w' := by
  obtain ⟨h0, h1, h2, h3, h4⟩ := scanS_err _ _ _ _ hS
  obtain ⟨n, rfl⟩ : ∃ n : Nat, off = n := ⟨off.toNat, by omega⟩
  obtain ⟨h5, h6⟩ := col_run (cutS s) p n (fun i hi => h4 i (by omega))
  have hz := cutS_size s
  have HS := Lib.hid hS
  have H5 := Lib.hid h5
  have H6 := Lib.hid h6
  have he : (er != 0) = true := by simpa using h0
  clear h4 h5 h6 h0 hS
  go_enter Tryd.func3, Tryd.ntmps3
  go_wp2_with (go_at_call 10; refine (cut_any s _ hs).mono ?_; rintro e w' ⟨rfl, rfl⟩)
  refine (scan_no _ _ p n er ho (by omega) HS.out).mono ?_
  rintro e w1 ⟨rfl, k1⟩
  go_wp2_with fail
  refine (refScan_no _ _ p n er (by omega) HS.out).mono ?_
  rintro e w2 ⟨rfl, k2⟩
  go_wp2_with fail
  refine (known_any _ (ho.next (bnext k1 k2))).mono ?_
  rintro e w3 ⟨rfl, k3⟩
  have B3 := bnext (bnext k1 k2) k3
  clear k1 k2 k3
  go_wp2_with (go_at_call 14; refine (place_any (cutS s) (p + n) _ (by omega) (by omega)).mono ?_; rintro e w' ⟨rfl, rfl⟩; rw [H5.out, H6.out])
  go_ret
  exact ⟨rfl, B3⟩
theorem TokAt.drew {w : World} {g : Nat} {s : ByteArray} {i : Nat} {t : Att × Nat} (h : TokAt w g s i t) : TokAt w.drew g s i t := h
theorem RTokAt.drew {w : World} {g : Nat} {i : Nat} {t : Att × Nat} (h : RTokAt w g i t) : RTokAt w.drew g i t := h
set_option maxRecDepth 100000 in
set_option maxHeartbeats 2000000 in
theorem scans_ok (s : ByteArray) (w : World) (ho : EscAt w) (hs : s.size ≤ maxLen) (l : List (Att × Nat)) (hS : scanS (cutS s) = .ok l) :
    Calls Tryd.prog 3 #[.string s] w fun e w' => e = .returned (.bool true) ∧ Below w.heap.size w w' := by
  have hz := cutS_size s
  have hll := scan_len _ _ hS
  have hle : Hid (∀ (i : Nat) (t : Att × Nat), (l ++ [(endA, (cutS s).size)])[i]? = some t → t.2 ≤ (cutS s).size) := fun i t ht => all_le _ _ hS i t ht
  have HS := Lib.hid hS
  clear hS
  go_enter Tryd.func3, Tryd.ntmps3
  go_wp2_with (go_at_call 10; refine (cut_any s _ hs).mono ?_; rintro e w' ⟨rfl, rfl⟩)
  refine (scan_ok _ _ l ho (by omega) HS.out).mono ?_
  rintro e w1 ⟨g, cap, rfl, hT, hg, hcap, k1⟩
  go_wp2_with fail
  refine (refScan_ok _ _ l (by omega) HS.out).mono ?_
  rintro e w2 ⟨g', cap', rfl, hR, hcap', k2⟩
  go_wp2_with fail
  refine (known_any _ (ho.next (bnext k1 k2))).mono ?_
  rintro e w3 ⟨rfl, k3⟩
  have B3 := bnext (bnext k1 k2) k3
  have hT3 := (hT.next k2).next k3
  have hR3 := hR.next k3
  clear k1 k2 k3 hT hR
  generalize hn : l.length + 1 = n at *
  have HN := Lib.hid hn
  have hn2 : n ≤ 1501 := by omega
  have hn1 : 1 ≤ n := by omega
  clear hn hll
  go_wp2
  go_loopw [12] (fun i wr => ∃ k : Nat, k ≤ n ∧ i = .int .i64 k ∧ Below w3.heap.size w3 wr) (fun i _ => n - (intOf i).toNat)
  case atStart => exact ⟨0, Nat.zero_le _, rfl, Below.refl _ _⟩
  case round =>
    obtain ⟨k, hk, rfl, hb⟩ := hrel
    by_cases hlt : k < n
    · obtain ⟨t, ht⟩ : ∃ t, (l ++ [(endA, (cutS s).size)])[k]? = some t := ⟨_, List.getElem?_eq_getElem (by simp; have := HN.out; omega)⟩
      obtain ⟨⟨kind, text, value, bytes, size, off, e0⟩, q⟩ := t
      have hq := hle.out k _ ht
      obtain ⟨c0, c1, c2, c3, c4, c5⟩ := (hT3.next hb).2 k _ ht
      obtain ⟨d0, d1, d2, d3, d4⟩ := (hR3.next hb).2 k _ ht
      have P0 : (0 : Int) ≤ (k : Int) := by omega
      have P1 : (k : Int) < (n : Int) := by omega
      simp only at c0 c1 c2 c3 c4 c5 d0 d1 d2 d3 d4 hq
      clear ht
      go_wp2
      go_still_tail 9, (by kernel_rfl)
      show wpList _ _ _ _ _ wr.drew
      go_wp2_with (go_at_call 15; refine (is_any _ _ _ _ _ _ _ hq (by omega)).mono ?_; rintro e w5 ⟨rfl, k5⟩)
      go_roundw
      case rel => exact ⟨k + 1, by omega, by go_num, (hb.drew).trans (k5.mono hb.size)⟩
      case measure => simp [intOf]; omega
    · go_wp2
      go_ret
      exact ⟨rfl, bnext B3 hb⟩
theorem scans_walk (s : ByteArray) (w : World) (ho : EscAt w) (hs : s.size ≤ maxLen) :
    Calls Tryd.prog 3 #[.string s] w fun e w' => e = .returned (.bool true) ∧ Below w.heap.size w w' := by
  cases hS : scanS (cutS s) with
  | ok l => exact scans_ok s w ho hs l hS
  | err p off er => exact scans_err s w ho hs p off er hS
end Go.Proofs.YtdhfkokinnmfhaaDoor
