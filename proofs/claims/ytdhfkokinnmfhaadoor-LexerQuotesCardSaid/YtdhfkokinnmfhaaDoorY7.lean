/- Walks of layer 21: one of the reference, words and numbers. -/
import Derived.Test.YtdhfkokinnmfhaaDoorY6
namespace Go.Proofs.YtdhfkokinnmfhaaDoor
open Go.RowKit
set_option linter.unusedSimpArgs false
set_option linter.unusedVariables false
set_option maxRecDepth 100000 in
theorem words_new (w : World) :
    Calls Tryd.prog 18 #[] w fun e w' => e = .returned (.slice (some ⟨w.heap.size, 0, none⟩) 8 8) ∧ w' = w.alloc (.cells kwCells 9) := by
  go_enter Tryd.func18, Tryd.ntmps18
  go_wp2
  go_ret
  exact ⟨rfl, rfl⟩
theorem kw_new0 (w : World) (n : Nat) (hn : n = w.heap.size) : StrsAt (w.alloc (.cells kwCells 9)) n kws := StrsAt.alloc_at (zs := kws) hn
theorem find_word {R : ByteArray} {a : Att} (h : wordS R = some a) : findS R = some a := by unfold findS; rw [h]
theorem find_num {R : ByteArray} {a : Att} (h0 : wordS R = none) (h : numS R = some a) : findS R = some a := by unfold findS; rw [h0, h]
theorem word_none (R : ByteArray) (h : ltrI (bt R 0) = false) : wordS R = none := by unfold wordS; rw [if_pos h]
theorem num_none (R : ByteArray) (h : digI (bt R 0) = false) : numS R = none := by unfold numS; rw [if_pos h]
theorem char_none (R : ByteArray) (h : bt R 0 ≠ 39) : charS R = none := by unfold charS; rw [if_pos h]
theorem quo_none (R : ByteArray) (h : bt R 0 ≠ 34) : quoS R = none := by unfold quoS; rw [if_pos h]
theorem find_char {R : ByteArray} (h0 : wordS R = none) (h1 : numS R = none) (h : bt R 0 = 39) : findS R = charS R := by
  have h2 := quo_none R (by omega)
  unfold findS
  rw [h0, h1]
  have : charS R ≠ none := by
    unfold charS
    rw [if_neg (by omega)]
    (repeat' split) <;> simp
  cases hc : charS R with
  | none => exact absurd hc this
  | some a => rfl
theorem find_quo {R : ByteArray} (h0 : wordS R = none) (h1 : numS R = none) (h : bt R 0 = 34) : findS R = quoS R := by
  have h2 := char_none R (by omega)
  unfold findS
  rw [h0, h1, h2]
  have : quoS R ≠ none := by unfold quoS; rw [if_neg (by omega)]; simp
  cases hc : quoS R with
  | none => exact absurd hc this
  | some a => rfl
theorem find_sym {R : ByteArray} (h0 : wordS R = none) (h1 : numS R = none) (h2 : bt R 0 ≠ 39) (h3 : bt R 0 ≠ 34) : findS R = symS R := by
  unfold findS
  rw [h0, h1, char_none R h2, quo_none R h3]
set_option maxRecDepth 100000 in
set_option maxHeartbeats 2000000 in
theorem refOne_word (s : ByteArray) (p : Nat) (w : World) (h : p < s.size) (hs : s.size ≤ 100000) (hlt : ltrI (bt s p) = true) :
    Calls Tryd.prog 30 #[.string s, .int .i64 p] w fun e w' => e = .returned (refF (findS (s.extract p s.size)) p) ∧ Below w.heap.size w w' := by
  have hx := bt_of s p h
  have hz := size_extract s p s.size (Nat.le_refl _)
  have hR0 : bt (s.extract p s.size) 0 = bt s p := by rw [bt_rest' s p 0 (by omega), Nat.add_zero]
  have hln := leadB_le alnI (s.extract p s.size)
  have hE := ext_rest s p (leadB alnI (s.extract p s.size)) (by omega)
  have hsz := size_extract s p (p + leadB alnI (s.extract p s.size)) (by omega)
  have HLT := Lib.hid hlt
  by_cases hg : 32 < leadB alnI (s.extract p s.size)
  · have HF := Lib.hid (refF_err (p := p) (off := 0) (e := 5) (find_word (show wordS (s.extract p s.size) = some (attE 0 5) by unfold wordS; rw [if_neg (by rw [hR0, hlt]; simp), if_pos hg])) (by decide))
    generalize hL : leadB alnI (s.extract p s.size) = L at *
    have HL := Lib.hid hL
    have hpl : p + L ≤ s.size := by omega
    clear hL hE hlt hR0 hz hln hsz
    go_enter Tryd.func30, Tryd.ntmps30
    go_wp2_with (first | (go_at_call 35; refine (letter_any _ _).mono ?_; rintro e w' ⟨rfl, rfl⟩; rw [HLT.out]) | (go_at_call 48; refine (alnum_any _ _ _ (by omega) hs).mono ?_; rintro e w' ⟨rfl, rfl⟩; rw [HL.out]))
    exact bodyPost_ret (v := refE p 5 ((p : Int) + 0)) (by simp [results, Tryd.results30, go_sem, refE, refO]) rfl ⟨by rw [HF.out], (Below.refl _ _).alloc (Nat.le_refl _) _⟩
  · cases hk : Lib.containsS kws (s.extract p (p + leadB alnI (s.extract p s.size))) with
    | true =>
      have HF := Lib.hid (refF_ok (p := p) (find_word (show wordS (s.extract p s.size) = some ⟨4, s.extract p (p + leadB alnI (s.extract p s.size)), 0, ⟨#[]⟩, leadB alnI (s.extract p s.size), 0, 0⟩ by unfold wordS; rw [if_neg (by rw [hR0, hlt]; simp), if_neg hg, hE, hk]; rfl)) rfl)
      generalize hL : leadB alnI (s.extract p s.size) = L at *
      have HL := Lib.hid hL
      have HK := Lib.hid hk
      have hpl : p + L ≤ s.size := by omega
      have hg' : L ≤ 32 := by omega
      clear hL hE hlt hR0 hz hln hsz hk hg
      go_enter Tryd.func30, Tryd.ntmps30
      go_wp2_with (first | (go_at_call 35; refine (letter_any _ _).mono ?_; rintro e w' ⟨rfl, rfl⟩; rw [HLT.out]) | (go_at_call 48; refine (alnum_any _ _ _ (by omega) hs).mono ?_; rintro e w' ⟨rfl, rfl⟩; rw [HL.out]) | (go_at_call 18; refine (words_new _).mono ?_; rintro e w' ⟨rfl, rfl⟩) | (go_at_call 36; refine (contains_any _ 8 kws _ _ rfl (by omega) (kw_new0 _ _ (by simp))).mono ?_; rintro e w' ⟨rfl, rfl⟩; rw [HK.out]))
      exact bodyPost_ret (v := refO ⟨4, s.extract p (p + L), 0, ⟨#[]⟩, L, 0, 0⟩ p) (by simp [results, Tryd.results30, go_sem, refO]) rfl ⟨by rw [HF.out], ((Below.refl _ _).alloc (Nat.le_refl _) _).alloc (by simp) _⟩
    | false =>
      have HF := Lib.hid (refF_ok (p := p) (find_word (show wordS (s.extract p s.size) = some ⟨1, s.extract p (p + leadB alnI (s.extract p s.size)), 0, ⟨#[]⟩, leadB alnI (s.extract p s.size), 0, 0⟩ by unfold wordS; rw [if_neg (by rw [hR0, hlt]; simp), if_neg hg, hE, hk]; rfl)) rfl)
      generalize hL : leadB alnI (s.extract p s.size) = L at *
      have HL := Lib.hid hL
      have HK := Lib.hid hk
      have hpl : p + L ≤ s.size := by omega
      have hg' : L ≤ 32 := by omega
      clear hL hE hlt hR0 hz hln hsz hk hg
      go_enter Tryd.func30, Tryd.ntmps30
      go_wp2_with (first | (go_at_call 35; refine (letter_any _ _).mono ?_; rintro e w' ⟨rfl, rfl⟩; rw [HLT.out]) | (go_at_call 48; refine (alnum_any _ _ _ (by omega) hs).mono ?_; rintro e w' ⟨rfl, rfl⟩; rw [HL.out]) | (go_at_call 18; refine (words_new _).mono ?_; rintro e w' ⟨rfl, rfl⟩) | (go_at_call 36; refine (contains_any _ 8 kws _ _ rfl (by omega) (kw_new0 _ _ (by simp))).mono ?_; rintro e w' ⟨rfl, rfl⟩; rw [HK.out]))
      exact bodyPost_ret (v := refO ⟨1, s.extract p (p + L), 0, ⟨#[]⟩, L, 0, 0⟩ p) (by simp [results, Tryd.results30, go_sem, refO]) rfl ⟨by rw [HF.out], ((Below.refl _ _).alloc (Nat.le_refl _) _).alloc (by simp) _⟩
set_option maxRecDepth 100000 in
set_option maxHeartbeats 2000000 in
theorem refOne_num (s : ByteArray) (p : Nat) (w : World) (h : p < s.size) (hs : s.size ≤ 100000) (hlt : ltrI (bt s p) = false) (hdg : digI (bt s p) = true) :
    Calls Tryd.prog 30 #[.string s, .int .i64 p] w fun e w' => e = .returned (refF (findS (s.extract p s.size)) p) ∧ Below w.heap.size w w' := by
  have hx := bt_of s p h
  have hz := size_extract s p s.size (Nat.le_refl _)
  have hR0 : bt (s.extract p s.size) 0 = bt s p := by rw [bt_rest' s p 0 (by omega), Nat.add_zero]
  have hln := leadB_le alnI (s.extract p s.size)
  have hlp := lead_pos alnI (s.extract p s.size) (by omega) (by rw [hR0]; unfold alnI; rw [hdg]; simp)
  have hE := ext_rest s p (leadB alnI (s.extract p s.size)) (by omega)
  have hsz := size_extract s p (p + leadB alnI (s.extract p s.size)) (by omega)
  have hw := word_none (s.extract p s.size) (by rw [hR0]; exact hlt)
  have HLT := Lib.hid hlt
  have HDG := Lib.hid hdg
  obtain ⟨v, e0, hv⟩ : ∃ v e0, valS (s.extract p (p + leadB alnI (s.extract p s.size))) = (v, e0) := ⟨_, _, rfl⟩
  have HV := Lib.hid hv
  by_cases he : e0 = 0
  · have HF := Lib.hid (refF_ok (p := p) (find_num hw (show numS (s.extract p s.size) = some ⟨2, s.extract p (p + leadB alnI (s.extract p s.size)), v, ⟨#[]⟩, leadB alnI (s.extract p s.size), 0, 0⟩ by unfold numS; rw [if_neg (by rw [hR0, hdg]; simp), hE, hv, if_neg (by simpa using he)])) rfl)
    subst he
    generalize hL : leadB alnI (s.extract p s.size) = L at *
    have HL := Lib.hid hL
    have hpl : p + L ≤ s.size := by omega
    have H0 := Lib.hid (show 0 < (s.extract p (p + L)).size by omega)
    have hs2 := Lib.hid (show (s.extract p (p + L)).size ≤ 100000 by omega)
    clear hL hE hlt hdg hR0 hz hln hsz hw hv
    go_enter Tryd.func30, Tryd.ntmps30
    go_wp2_with (first | (go_at_call 35; refine (letter_any _ _).mono ?_; rintro e w' ⟨rfl, rfl⟩; rw [HLT.out]) | (go_at_call 37; refine (digit_any _ _).mono ?_; rintro e w' ⟨rfl, rfl⟩; rw [HDG.out]) | (go_at_call 48; refine (alnum_any _ _ _ (by omega) hs).mono ?_; rintro e w' ⟨rfl, rfl⟩; rw [HL.out]) | (go_at_call 49; refine (refNumber_any _ _ H0.out hs2.out).mono ?_; rintro e w' ⟨rfl, rfl⟩; rw [HV.out, valV]))
    exact bodyPost_ret (v := refO ⟨2, s.extract p (p + L), v, ⟨#[]⟩, L, 0, 0⟩ p) (by simp [results, Tryd.results30, go_sem, refE, refO]) rfl ⟨by rw [HF.out], (Below.refl _ _).alloc (Nat.le_refl _) _⟩
  · have HF := Lib.hid (refF_err (p := p) (off := 0) (e := e0) (find_num hw (show numS (s.extract p s.size) = some (attE 0 e0) by unfold numS; rw [if_neg (by rw [hR0, hdg]; simp), hE, hv, if_pos (by simpa using he)])) he)
    have he' : (e0 != 0) = true := by simpa using he
    generalize hL : leadB alnI (s.extract p s.size) = L at *
    have HL := Lib.hid hL
    have hpl : p + L ≤ s.size := by omega
    have H0 := Lib.hid (show 0 < (s.extract p (p + L)).size by omega)
    have hs2 := Lib.hid (show (s.extract p (p + L)).size ≤ 100000 by omega)
    clear hL hE hlt hdg hR0 hz hln hsz hw hv he
    go_enter Tryd.func30, Tryd.ntmps30
    go_wp2_with (first | (go_at_call 35; refine (letter_any _ _).mono ?_; rintro e w' ⟨rfl, rfl⟩; rw [HLT.out]) | (go_at_call 37; refine (digit_any _ _).mono ?_; rintro e w' ⟨rfl, rfl⟩; rw [HDG.out]) | (go_at_call 48; refine (alnum_any _ _ _ (by omega) hs).mono ?_; rintro e w' ⟨rfl, rfl⟩; rw [HL.out]) | (go_at_call 49; refine (refNumber_any _ _ H0.out hs2.out).mono ?_; rintro e w' ⟨rfl, rfl⟩; rw [HV.out, valV]))
    exact bodyPost_ret (v := refE p e0 ((p : Int) + 0)) (by simp [results, Tryd.results30, go_sem, refE, refO]) rfl ⟨by rw [HF.out], (Below.refl _ _).alloc (Nat.le_refl _) _⟩
end Go.Proofs.YtdhfkokinnmfhaaDoor
