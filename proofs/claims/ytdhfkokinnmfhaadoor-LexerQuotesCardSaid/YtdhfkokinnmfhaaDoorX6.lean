/- Walks of layer 21: word. -/
import Derived.Test.YtdhfkokinnmfhaaDoorX5
import Derived.Deep.QuietTactic
import Derived.BigQuiet
import Derived.Deep.RegionWith
import Derived.Deep.Cut
namespace Go.Proofs.YtdhfkokinnmfhaaDoor
open Go.RowKit
set_option linter.unusedSimpArgs false
set_option linter.unusedVariables false
def kwCells : Array Value := (kws.map Value.string).toArray
set_option maxRecDepth 100000 in
theorem keywords_new (w : World) :
    Calls Tryd.prog 17 #[] w fun e w' => e = .returned (.slice (some ⟨w.heap.size, 0, none⟩) 8 8) ∧ w' = w.alloc (.cells kwCells 9) := by
  go_enter Tryd.func17, Tryd.ntmps17
  go_wp2
  go_ret
  exact ⟨rfl, rfl⟩
theorem StrsAt.alloc_at {w : World} {zs : List ByteArray} {t : TypeId} {n : Nat} (hn : n = w.heap.size) : StrsAt (w.alloc (.cells (zs.map Value.string).toArray t)) n zs := by
  rw [hn]; exact StrsAt.alloc
theorem kw_new (w : World) (n : Nat) (hn : n = w.heap.size) : StrsAt (w.alloc (.cells kwCells 9)).drew n kws := StrsAt.alloc_at (zs := kws) hn
theorem containsStr (zs : List ByteArray) (b n : Nat) (x : ByteArray) (w : World) (hn : n = zs.length) (hb : n ≤ 1000) (h : StrsAt w b zs) : Calls Tryd.prog 34 #[.slice (some ⟨b, 0, none⟩) n n, .string x] w fun e w' => e = .returned (.bool (Lib.containsS zs x)) ∧ w' = w := by
  have := Tryd.slices_Contains_string b 0 n n zs x w (Nat.le_of_eq hn) (by omega) (fun j hj => by rw [Nat.zero_add]; exact h.2 j hj)
  rwa [hn, List.take_length, ← hn] at this
theorem containsKw (b : Nat) (x : ByteArray) (w : World) (h : StrsAt w b kws) : Calls Tryd.prog 34 #[.slice (some ⟨b, 0, none⟩) 8 8, .string x] w fun e w' => e = .returned (.bool (Lib.containsS kws x)) ∧ w' = w :=
  containsStr kws b 8 x w rfl (by omega) h
set_option maxRecDepth 100000 in
set_option maxHeartbeats 2000000 in
theorem word_any (s : ByteArray) (w : World) (h : 0 < s.size) (hs : s.size ≤ 100000) :
    Calls Tryd.prog 43 #[.string s] w fun e w' => e = .returned (attR (wordS s)) ∧ Below w.heap.size w w' := by
  have hx := bt_of s 0 h
  cases hl : ltrI (bt s 0) with
  | false =>
    have HS := Lib.hid (show wordS s = none by unfold wordS; rw [if_pos hl])
    go_enter Tryd.func43, Tryd.ntmps43
    go_wp2_with (go_at_call 31; refine (isLetter_any _ _).mono ?_; rintro e w' ⟨rfl, rfl⟩)
    refine bodyPost_ret (v := attR none) (by simp [results, Tryd.results43, go_sem, attR, attV, attE]) rfl ⟨by rw [HS.out], (Below.refl _ _).alloc (Nat.le_refl _) _⟩
  | true =>
    have hn := leadB_le alnI s
    by_cases hg : 32 < leadB alnI s
    · have HS := Lib.hid (show wordS s = some (attE 0 5) by unfold wordS; rw [if_neg (by rw [hl]; simp), if_pos hg])
      generalize hL : leadB alnI s = L at *
      have HL := Lib.hid hL
      clear hL
      go_enter Tryd.func43, Tryd.ntmps43
      go_wp2_with (first | (go_at_call 31; refine (isLetter_any _ _).mono ?_; rintro e w' ⟨rfl, rfl⟩) | (go_at_call 32; refine (leading_aln _ _ hs).mono ?_; rintro e w' ⟨rfl, rfl⟩; rw [HL.out]))
      refine bodyPost_ret (v := attR (some (attE 0 5))) (by simp [results, Tryd.results43, go_sem, attR, attV, attE]) rfl ⟨by rw [HS.out], (Below.refl _ _).alloc (Nat.le_refl _) _⟩
    · have HS := Lib.hid (show wordS s = some ⟨if Lib.containsS kws (s.extract 0 (leadB alnI s)) = true then 4 else 1, s.extract 0 (leadB alnI s), 0, ⟨#[]⟩, leadB alnI s, 0, 0⟩ by unfold wordS; rw [if_neg (by rw [hl]; simp), if_neg hg])
      generalize hL : leadB alnI s = L at *
      have HL := Lib.hid hL
      have hg' : L ≤ 32 := by omega
      clear hL hg
      cases hc : Lib.containsS kws (s.extract 0 L) with
      | true =>
        rw [hc] at HS
        go_enter Tryd.func43, Tryd.ntmps43
        go_upto_region 7 with (first | (go_at_call 31; refine (isLetter_any _ _).mono ?_; rintro e w' ⟨rfl, rfl⟩) | (go_at_call 32; refine (leading_aln _ _ hs).mono ?_; rintro e w' ⟨rfl, rfl⟩; rw [HL.out]))
        go_region_with (first | (go_at_call 17; refine (keywords_new _).mono ?_; rintro e w' ⟨rfl, rfl⟩) | (go_at_call 34; refine (containsKw _ _ _ (kw_new _ _ (by simp))).mono ?_; rintro e w' ⟨rfl, rfl⟩))
        all_goals go_wp2
        all_goals (refine bodyPost_ret (v := attR (some ⟨4, s.extract 0 L, 0, ⟨#[]⟩, L, 0, 0⟩)) (by simp [results, Tryd.results43, go_sem, attR, attV]) rfl ⟨by rw [HS.out]; rfl, (((Below.refl _ _).alloc (Nat.le_refl _) _).alloc (by simp) _).drew⟩)
      | false =>
        rw [hc] at HS
        go_enter Tryd.func43, Tryd.ntmps43
        go_upto_region 7 with (first | (go_at_call 31; refine (isLetter_any _ _).mono ?_; rintro e w' ⟨rfl, rfl⟩) | (go_at_call 32; refine (leading_aln _ _ hs).mono ?_; rintro e w' ⟨rfl, rfl⟩; rw [HL.out]))
        go_region_with (first | (go_at_call 17; refine (keywords_new _).mono ?_; rintro e w' ⟨rfl, rfl⟩) | (go_at_call 34; refine (containsKw _ _ _ (kw_new _ _ (by simp))).mono ?_; rintro e w' ⟨rfl, rfl⟩))
        all_goals go_wp2
        all_goals (refine bodyPost_ret (v := attR (some ⟨1, s.extract 0 L, 0, ⟨#[]⟩, L, 0, 0⟩)) (by simp [results, Tryd.results43, go_sem, attR, attV]) rfl ⟨by rw [HS.out]; rfl, (((Below.refl _ _).alloc (Nat.le_refl _) _).alloc (by simp) _).drew⟩)
end Go.Proofs.YtdhfkokinnmfhaaDoor
