/- Walks of layer 21: number, character. -/
import Derived.Test.YtdhfkokinnmfhaaDoorX7
import Derived.Test.YtdhfkokinnmfhaaDoorQ3
namespace Go.Proofs.YtdhfkokinnmfhaaDoor
open Go.RowKit
set_option linter.unusedSimpArgs false
set_option linter.unusedVariables false
theorem leadB_pos (p : Int → Bool) (s : ByteArray) (h : 0 < s.size) (hp : p (bt s 0) = true) : 0 < leadB p s := by
  rcases Nat.eq_zero_or_pos (leadB p s) with h0 | h0
  · have := leadB_end p s (by omega)
    rw [h0, hp] at this
    cases this
  · exact h0
set_option maxRecDepth 100000 in
set_option maxHeartbeats 1000000 in
theorem number_any (s : ByteArray) (w : World) (h : 0 < s.size) (hs : s.size ≤ 100000) :
    Calls Tryd.prog 44 #[.string s] w fun e w' => e = .returned (attR (numS s)) ∧ Below w.heap.size w w' := by
  have hx := bt_of s 0 h
  cases hl : digI (bt s 0) with
  | false =>
    have HS := Lib.hid (show numS s = none by unfold numS; rw [if_pos hl])
    go_enter Tryd.func44, Tryd.ntmps44
    go_wp2_with (go_at_call 51; refine (isDigit_any _ _).mono ?_; rintro e w' ⟨rfl, rfl⟩)
    refine bodyPost_ret (v := attR (none)) (by simp [results, Tryd.results44, go_sem, attR, attV, attE]) rfl ⟨by rw [HS.out], (Below.refl _ _).alloc (Nat.le_refl _) _⟩
  | true =>
    have hn := leadB_le alnI s
    have hp := leadB_pos alnI s h (by unfold alnI; rw [hl]; simp)
    have H0 := Lib.hid (show 0 < (s.extract 0 (leadB alnI s)).size by rw [size_extract _ _ _ hn]; omega)
    have hs2 : (s.extract 0 (leadB alnI s)).size ≤ 100000 := by rw [size_extract _ _ _ hn]; omega
    obtain ⟨v, e0, hv⟩ : ∃ v e0, valS (s.extract 0 (leadB alnI s)) = (v, e0) := ⟨_, _, rfl⟩
    have HV := Lib.hid hv
    by_cases he : e0 = 0
    · have HS := Lib.hid (show numS s = some ⟨2, s.extract 0 (leadB alnI s), v, ⟨#[]⟩, leadB alnI s, 0, 0⟩ by
        unfold numS; rw [if_neg (by rw [hl]; simp), hv, if_neg (by simpa using he)])
      subst he
      clear hv
      generalize hL : leadB alnI s = L at *
      have HL := Lib.hid hL
      clear hL
      go_enter Tryd.func44, Tryd.ntmps44
      go_wp2_with (first | (go_at_call 51; refine (isDigit_any _ _).mono ?_; rintro e w' ⟨rfl, rfl⟩) | (go_at_call 32; refine (leading_aln _ _ hs).mono ?_; rintro e w' ⟨rfl, rfl⟩; rw [HL.out]) | (go_at_call 57; refine (valueOf_any _ _ H0.out hs2).mono ?_; rintro e w' ⟨rfl, rfl⟩; rw [HV.out, valV]))
      refine bodyPost_ret (v := attR (some ⟨2, s.extract 0 L, v, ⟨#[]⟩, L, 0, 0⟩)) (by simp [results, Tryd.results44, go_sem, attR, attV, attE]) rfl ⟨by rw [HS.out], (Below.refl _ _).alloc (Nat.le_refl _) _⟩
    · have HS := Lib.hid (show numS s = some (attE 0 e0) by
        unfold numS; rw [if_neg (by rw [hl]; simp), hv, if_pos (by simpa using he)])
      have he' : (e0 != 0) = true := by simpa using he
      clear hv he
      generalize hL : leadB alnI s = L at *
      have HL := Lib.hid hL
      clear hL
      go_enter Tryd.func44, Tryd.ntmps44
      go_wp2_with (first | (go_at_call 51; refine (isDigit_any _ _).mono ?_; rintro e w' ⟨rfl, rfl⟩) | (go_at_call 32; refine (leading_aln _ _ hs).mono ?_; rintro e w' ⟨rfl, rfl⟩; rw [HL.out]) | (go_at_call 57; refine (valueOf_any _ _ H0.out hs2).mono ?_; rintro e w' ⟨rfl, rfl⟩; rw [HV.out, valV]))
      refine bodyPost_ret (v := attR (some (attE 0 e0))) (by simp [results, Tryd.results44, go_sem, attR, attV, attE]) rfl ⟨by rw [HS.out], (Below.refl _ _).alloc (Nat.le_refl _) _⟩
set_option maxRecDepth 100000 in
set_option maxHeartbeats 1000000 in
theorem character_any (s : ByteArray) (w : World) (ho : EscAt w) (h : 0 < s.size) (hs : s.size ≤ 100000) :
    Calls Tryd.prog 45 #[.string s] w fun e w' => e = .returned (attR (charS s)) ∧ Below w.heap.size w w' := by
  have hx := bt_of s 0 h
  by_cases h1 : bt s 0 ≠ 39
  · have HS := Lib.hid (show charS s = none by unfold charS; rw [if_pos h1])
    have h1' : (bt s 0 != 39) = true := by simpa using h1
    clear h1
    go_enter Tryd.func45, Tryd.ntmps45
    go_wp2
    refine bodyPost_ret (v := attR (none)) (by simp [results, Tryd.results45, go_sem, attR, attV, attE]) rfl ⟨by rw [HS.out], (Below.refl _ _).alloc (Nat.le_refl _) _⟩
  have h1' : (bt s 0 != 39) = false := by simpa using h1
  by_cases h2 : (oneS s 1 39).2.2 ≠ 0
  · obtain ⟨b, a, e0, hO⟩ := oneS_trip s 1 39
    rw [hO] at h2
    have HS := Lib.hid (show charS s = some (attE a e0) by unfold charS; rw [if_neg h1, hO, if_pos h2])
    have h2' : (e0 != 0) = true := by simpa using h2
    have HO := Lib.hid hO
    clear h1 h2 hO
    go_enter Tryd.func45, Tryd.ntmps45
    go_wp2_with (go_at_call 58; refine (one_any s 1 39 _ (ho.next ((Below.refl _ _).alloc (Nat.le_refl _) _)) h hs).mono ?_; rintro e w' ⟨rfl, rfl⟩; rw [HO.out, trip])
    refine bodyPost_ret (v := attR (some (attE a e0))) (by simp [results, Tryd.results45, go_sem, attR, attV, attE]) rfl ⟨by rw [HS.out], (Below.refl _ _).alloc (Nat.le_refl _) _⟩
  obtain ⟨b, m, hO, m1, m2, b0, b1, _⟩ := oneS_ok s 1 39 h (by simpa using h2)
  have HO := Lib.hid hO
  by_cases h3 : m = s.size
  · have HS := Lib.hid (show charS s = some (attE 0 4) by unfold charS; rw [if_neg h1, hO, if_neg (by simp), if_pos (by show (m : Int) = (s.size : Int); omega)])
    have h3' : ((m : Int) == (s.size : Int)) = true := by simp; omega
    clear h1 h2 hO h3
    go_enter Tryd.func45, Tryd.ntmps45
    go_wp2_with (go_at_call 58; refine (one_any s 1 39 _ (ho.next ((Below.refl _ _).alloc (Nat.le_refl _) _)) h hs).mono ?_; rintro e w' ⟨rfl, rfl⟩; rw [HO.out, trip])
    refine bodyPost_ret (v := attR (some (attE 0 4))) (by simp [results, Tryd.results45, go_sem, attR, attV, attE]) rfl ⟨by rw [HS.out], (Below.refl _ _).alloc (Nat.le_refl _) _⟩
  have h3' : ((m : Int) == (s.size : Int)) = false := by simp; omega
  have hm : m < s.size := by omega
  have hy := bt_of s m hm
  by_cases h4 : bt s m ≠ 39
  · have HS := Lib.hid (show charS s = some (attE m 6) by unfold charS; rw [if_neg h1, hO, if_neg (by simp), if_neg (by show ¬ (m : Int) = (s.size : Int); omega), if_pos (by simpa using h4)])
    have h4' : (bt s m != 39) = true := by simpa using h4
    clear h1 h2 hO h3 h4
    go_enter Tryd.func45, Tryd.ntmps45
    go_wp2_with (go_at_call 58; refine (one_any s 1 39 _ (ho.next ((Below.refl _ _).alloc (Nat.le_refl _) _)) h hs).mono ?_; rintro e w' ⟨rfl, rfl⟩; rw [HO.out, trip])
    refine bodyPost_ret (v := attR (some (attE m 6))) (by simp [results, Tryd.results45, go_sem, attR, attV, attE]) rfl ⟨by rw [HS.out], (Below.refl _ _).alloc (Nat.le_refl _) _⟩
  · have HS := Lib.hid (show charS s = some ⟨2, s.extract 0 (m + 1), b, ⟨#[]⟩, m + 1, 0, 0⟩ by unfold charS; rw [if_neg h1, hO, if_neg (by simp), if_neg (by show ¬ (m : Int) = (s.size : Int); omega), if_neg (by simpa using h4)]; rfl)
    have h4' : (bt s m != 39) = false := by simpa using h4
    clear h1 h2 hO h3 h4
    go_enter Tryd.func45, Tryd.ntmps45
    go_wp2_with (go_at_call 58; refine (one_any s 1 39 _ (ho.next ((Below.refl _ _).alloc (Nat.le_refl _) _)) h hs).mono ?_; rintro e w' ⟨rfl, rfl⟩; rw [HO.out, trip])
    refine bodyPost_ret (v := attR (some ⟨2, s.extract 0 (m + 1), b, ⟨#[]⟩, m + 1, 0, 0⟩)) (by simp [results, Tryd.results45, go_sem, attR, attV, attE]) rfl ⟨by rw [HS.out], (Below.refl _ _).alloc (Nat.le_refl _) _⟩
end Go.Proofs.YtdhfkokinnmfhaaDoor
