/- Plain lemmas of layer 21: scanning what was put together. -/
import Derived.Test.YtdhfkokinnmfhaaDoorQ11
namespace Go.Proofs.YtdhfkokinnmfhaaDoor
set_option linter.unusedSimpArgs false
set_option linter.unusedVariables false
theorem size_app (a b : ByteArray) : (a ++ b).size = a.size + b.size := by simp
theorem bt_app_l (a b : ByteArray) (i : Nat) (h : i < a.size) : bt (a ++ b) i = bt a i := by
  unfold bt
  rw [ByteArray.data_append, Array.toList_append, List.getD_eq_getElem?_getD, List.getD_eq_getElem?_getD, List.getElem?_append_left (by simpa using h)]
theorem bt_app_r (a b : ByteArray) (i : Nat) : bt (a ++ b) (a.size + i) = bt b i := by
  unfold bt
  have hs : a.data.toList.length = a.size := by simp
  rw [ByteArray.data_append, Array.toList_append, List.getD_eq_getElem?_getD, List.getD_eq_getElem?_getD, List.getElem?_append_right (by omega)]
  congr 4
  omega
theorem app_tail (a b : ByteArray) : (a ++ b).extract a.size (a ++ b).size = b := by
  apply ext_bt
  · rw [size_extract _ _ _ (Nat.le_refl _), size_app]; omega
  · intro i hi
    rw [bt_rest' _ _ _ (by rw [size_app]; omega), bt_app_r]
theorem app_nil (a : ByteArray) : (⟨#[]⟩ : ByteArray) ++ a = a := by
  apply ByteArray.ext
  simp [ByteArray.data_append]
theorem nil_app (a : ByteArray) : a ++ (⟨#[]⟩ : ByteArray) = a := by
  apply ByteArray.ext
  simp [ByteArray.data_append]
theorem app_assoc (a b c : ByteArray) : (a ++ b) ++ c = a ++ (b ++ c) := by
  apply ByteArray.ext
  simp [ByteArray.data_append, Array.append_assoc]
theorem ext_tail (s : ByteArray) (p q : Nat) (h : p + q ≤ s.size) : (s.extract p s.size).extract q (s.extract p s.size).size = s.extract (p + q) s.size := by
  have hz := size_extract s p s.size (Nat.le_refl _)
  apply ext_bt
  · have h1 := size_extract (s.extract p s.size) q _ (Nat.le_refl _)
    have h2 := size_extract s (p + q) s.size (Nat.le_refl _)
    omega
  · intro i hi
    rw [bt_rest' _ _ _ (by omega), bt_rest' s p _ (by omega), bt_rest' s _ _ (by omega)]
    congr 1
    omega
theorem cmtE_rest (s : ByteArray) (p k : Nat) (h : p + k ≤ s.size) : cmtE s (p + k) = p + cmtE (s.extract p s.size) k := by
  unfold cmtE
  rw [ext_tail s p k h]
  omega
theorem skp_rest (s : ByteArray) (p : Nat) : ∀ (n k : Nat), s.size - (p + k) = n → p + k ≤ s.size → skp s (p + k) = p + skp (s.extract p s.size) k := by
  intro n
  induction n using Nat.strongRecOn with
  | ind n ih =>
    intro k hn hk
    have hz := size_extract s p s.size (Nat.le_refl _)
    rw [skp_eq s (p + k), skp_eq (s.extract p s.size) k, bt_rest' s p k (by omega), bt_rest' s p (k + 1) (by omega), hz, ← Nat.add_assoc]
    by_cases h : p + k < s.size
    · rw [if_pos h, if_pos (show k < s.size - p by omega)]
      by_cases h1 : bt s (p + k) = 10 ∨ bt s (p + k) = 32 ∨ bt s (p + k) = 9
      · rw [if_pos h1, if_pos h1]
        exact ih (s.size - (p + (k + 1))) (by omega) (k + 1) rfl (by omega)
      · rw [if_neg h1, if_neg h1]
        by_cases h2 : bt s (p + k) = 47 ∧ bt s (p + k + 1) = 47
        · rw [if_pos h2, if_pos h2]
          have g := cmtE_gt s (p + k) h h2.1
          have g2 := (cmtE_bd s (p + k) hk).2
          have e := cmtE_rest s p k hk
          rw [e] at g g2 ⊢
          exact ih (s.size - (p + cmtE (s.extract p s.size) k)) (by omega) _ rfl g2
        · rw [if_neg h2, if_neg h2]
    · rw [if_neg h, if_neg (show ¬ k < s.size - p by omega)]
theorem skp_shift (a b : ByteArray) : skp (a ++ b) a.size = a.size + skp b 0 := by
  have := skp_rest (a ++ b) a.size _ 0 rfl (by rw [size_app]; omega)
  rw [Nat.add_zero, app_tail] at this
  exact this
/-- A text that is a separator. -/
def SepOK (s : ByteArray) : Prop := ∀ R : ByteArray, skp (s ++ R) 0 = s.size + skp R 0
theorem sep_nil : SepOK ⟨#[]⟩ := fun R => by rw [app_nil]; exact (Nat.zero_add _).symm
theorem sep_app (a b : ByteArray) (ha : SepOK a) (hb : SepOK b) : SepOK (a ++ b) := fun R => by
  rw [app_assoc, ha, hb, size_app, Nat.add_assoc]
theorem sep_blank (c : ByteArray) (h1 : c.size = 1) (hb : Blk (bt c 0)) : SepOK c := fun R => by
  have e := skp_blank (c ++ R) 0 (by rw [size_app]; omega) (by rw [bt_app_l c R 0 (by omega)]; exact hb)
  rw [e, Nat.zero_add]
  have := skp_shift c R
  rw [h1] at this ⊢
  exact this
theorem sep_cmt (c : ByteArray) (n : Nat) (h1 : c.size = n + 1) (hn : 2 ≤ n) (h0 : bt c 0 = 47) (h2 : bt c 1 = 47) (h3 : ∀ i, i < n → bt c i ≠ 10) (h4 : bt c n = 10) : SepOK c := fun R => by
  have hz := size_app c R
  have hE : cmtE (c ++ R) 0 = n := by
    unfold cmtE
    rw [ext_self, Nat.zero_add]
    refine leadB_at nlI (c ++ R) n (by omega) (fun i hi => ?_) (.inr ?_)
    · rw [bt_app_l c R i (by omega)]
      have := h3 i hi
      unfold nlI
      simpa using this
    · rw [bt_app_l c R n (by omega), h4]; rfl
  have e := skp_cmt (c ++ R) 0 (by omega) (by rw [bt_app_l c R 0 (by omega)]; exact h0) (by rw [bt_app_l c R 1 (by omega)]; exact h2)
  rw [e, hE, skp_blank (c ++ R) n (by omega) (by rw [bt_app_l c R n (by omega)]; exact .inl h4)]
  have := skp_shift c R
  rw [h1] at this ⊢
  exact this
/-- Scanning the rest of a text, without places. -/
def Scans : ByteArray → List Att → Prop
  | R, [] => skp R 0 = R.size
  | R, a :: l => skp R 0 < R.size ∧ findS (R.extract (skp R 0) R.size) = some a ∧ a.e = 0 ∧ Scans (R.extract (skp R 0 + a.size) R.size) l
theorem scans_chain (s : ByteArray) : ∀ (A : List Att) (p : Nat), p ≤ s.size → Scans (s.extract p s.size) A → ∃ L, Chain s (skp s p) L ∧ L.map (·.1) = A
  | [], p, hp, h => by
    have hz := size_extract s p s.size (Nat.le_refl _)
    have e := skp_rest s p _ 0 rfl (by omega)
    have h' : skp (s.extract p s.size) 0 = (s.extract p s.size).size := h
    rw [Nat.add_zero, h'] at e
    exact ⟨[], show skp s p = s.size by omega, rfl⟩
  | a :: A, p, hp, h => by
    have hz := size_extract s p s.size (Nat.le_refl _)
    have e := skp_rest s p _ 0 rfl (by omega)
    rw [Nat.add_zero] at e
    obtain ⟨h1, h2, h3, h4⟩ := h
    rw [ext_tail s p _ (by omega), ← e] at h2
    obtain ⟨g1, g2, _⟩ := rest_good s (skp s p) a (by omega) h2 h3
    rw [ext_tail s p _ (by omega), ← Nat.add_assoc, ← e] at h4
    obtain ⟨L, hL, hm⟩ := scans_chain s A (skp s p + a.size) g2 h4
    exact ⟨(a, skp s p) :: L, ⟨rfl, by omega, h2, h3, hL⟩, by simp [hm]⟩
theorem scans_scan (s : ByteArray) (A : List Att) (h : Scans s A) : ∃ L, scanS s = .ok L ∧ L.map (·.1) = A := by
  obtain ⟨L, hL, hm⟩ := scans_chain s A 0 (Nat.zero_le _) (by rw [ext_self]; exact h)
  exact ⟨L, chain_scan s L _ (skp_le s 0 (Nat.zero_le _)).2 hL, hm⟩
/-- A token that was found somewhere. -/
def TokOK (a : Att) : Prop := ∃ x : ByteArray, 0 < x.size ∧ findS x = some a ∧ a.e = 0 ∧ ¬ Blk (bt x 0) ∧ ¬(bt x 0 = 47 ∧ bt x 1 = 47)
theorem chain_tok (s : ByteArray) : ∀ (l : List (Att × Nat)) (p : Nat), Chain s p l → (p < s.size → ¬ Blk (bt s p) ∧ ¬(bt s p = 47 ∧ bt s (p + 1) = 47)) → ∀ t ∈ l, TokOK t.1
  | [], _, _, _, t, ht => by cases ht
  | (a, q) :: l, p, hc, hp, t, ht => by
    obtain ⟨rfl, h1, h2, h3, h4⟩ := hc
    obtain ⟨g1, g2, _⟩ := rest_good s q a h1 h2 h3
    rcases List.mem_cons.1 ht with rfl | ht
    · have hz := size_extract s q s.size (Nat.le_refl _)
      refine ⟨s.extract q s.size, by omega, h2, h3, ?_⟩
      rw [bt_rest' s q 0 (by omega), bt_rest' s q 1 (by omega)]
      exact hp h1
    · exact chain_tok s l _ h4 (fun hh => skp_at s _ _ rfl g2 hh) t ht
theorem scan_tok (s : ByteArray) (l : List (Att × Nat)) (h : scanS s = .ok l) : ∀ t ∈ l, TokOK t.1 :=
  chain_tok s l _ (scanS_chain s l h) (fun hh => skp_at s _ 0 rfl (Nat.zero_le _) hh)
theorem tok_text (a : Att) (h : TokOK a) : a.text.size = a.size ∧ 1 ≤ a.size := by
  obtain ⟨x, hx, hf, he, _⟩ := h
  obtain ⟨_, g1, g2, g3, _⟩ := (findS_good x a hx hf).1 he
  exact ⟨by rw [g3, size_extract _ _ _ g2]; omega, g1⟩
/-- Separators and texts of tokens, and a last separator. -/
def bld (z : ByteArray) : List (ByteArray × Att) → ByteArray
  | [] => z
  | (s, a) :: l => s ++ (a.text ++ bld z l)
/-- Empty, or a blank first. -/
def Starts (r : ByteArray) : Prop := r.size = 0 ∨ (0 < r.size ∧ Blk (bt r 0))
theorem scans_bld (z : ByteArray) (hz : SepOK z) (hz2 : Starts z) : ∀ l : List (ByteArray × Att), (∀ t ∈ l, SepOK t.1 ∧ TokOK t.2) → (∀ t ∈ l.drop 1, 0 < t.1.size ∧ Blk (bt t.1 0)) → Scans (bld z l) (l.map (·.2))
  | [], _, _ => by
    show skp z 0 = z.size
    have := hz ⟨#[]⟩
    rw [nil_app] at this
    rw [this]
    have : skp (⟨#[]⟩ : ByteArray) 0 = 0 := skp_end _ 0 (Nat.le_refl _)
    omega
  | (s, a) :: l, h1, h2 => by
    obtain ⟨hs, ha⟩ := h1 (s, a) (List.mem_cons_self ..)
    obtain ⟨t1, t2⟩ := tok_text a ha
    obtain ⟨x, hx, hf, he, hb, hc⟩ := ha
    obtain ⟨_, g1, g2, g3, _⟩ := (findS_good x a hx hf).1 he
    have hst : Starts (bld z l) := by
      cases l with
      | nil => exact hz2
      | cons u l =>
        obtain ⟨hu1, hu2⟩ := h2 u (by simp)
        right
        show 0 < (u.1 ++ (u.2.text ++ bld z l)).size ∧ Blk (bt (u.1 ++ (u.2.text ++ bld z l)) 0)
        rw [size_app, bt_app_l _ _ _ hu1]
        exact ⟨by omega, hu2⟩
    generalize hT : bld z l = T at *
    have hy : (a.text ++ T).size = a.size + T.size := by rw [size_app, t1]
    have hby : ∀ i, i < a.size → bt (a.text ++ T) i = bt x i := fun i hi => by
      rw [bt_app_l _ _ _ (by omega), g3, bt_extract x 0 _ i g2 (by omega), Nat.zero_add]
    have hd : (a.text ++ T).size = a.size ∨ Blk (bt (a.text ++ T) a.size) := by
      rcases hst with h | ⟨_, h⟩
      · left; omega
      · right
        have := bt_app_r a.text T 0
        rw [t1, Nat.add_zero] at this
        rw [this]; exact h
    have hfy := find_loc x (a.text ++ T) a hx hf he ⟨g2, by omega, fun i hi => (hby i hi).symm⟩ hd
    have hsk : skp (a.text ++ T) 0 = 0 := by
      refine skp_stop _ 0 (by rw [hby 0 (by omega)]; exact hb) ?_
      rintro ⟨e1, e2⟩
      by_cases h2' : 2 ≤ a.size
      · rw [hby 0 (by omega)] at e1; rw [Nat.zero_add, hby 1 (by omega)] at e2; exact hc ⟨e1, e2⟩
      · have ha1 : a.size = 1 := by omega
        rw [ha1] at hd
        rw [Nat.zero_add] at e2
        rcases hd with h | h
        · rw [bt_out _ 1 (by omega)] at e2; omega
        · rw [e2] at h; exact absurd h (by unfold Blk; omega)
    have hR : skp (s ++ (a.text ++ T)) 0 = s.size := by rw [hs, hsk, Nat.add_zero]
    have hbl : bld z ((s, a) :: l) = s ++ (a.text ++ T) := by show s ++ (a.text ++ bld z l) = _; rw [hT]
    rw [hbl]
    refine ⟨?_, ?_, he, ?_⟩
    · rw [hR, size_app]; omega
    · rw [hR, app_tail]; exact hfy
    · have e : s.size + a.size = (s ++ a.text).size := by rw [size_app, t1]
      rw [hR, e, ← app_assoc, app_tail, ← hT]
      exact scans_bld z hz hz2 l (fun t ht => h1 t (List.mem_cons_of_mem _ ht)) (fun t ht => h2 t (show t ∈ l from List.mem_of_mem_drop ht))
end Go.Proofs.YtdhfkokinnmfhaaDoor
