/- Plain lemmas of layer 21: the same at an offset. -/
import Derived.Test.YtdhfkokinnmfhaaDoorQ6
namespace Go.Proofs.YtdhfkokinnmfhaaDoor
set_option linter.unusedSimpArgs false
set_option linter.unusedVariables false
theorem bt_rest' (s : ByteArray) (a i : Nat) (h : a ≤ s.size) : bt (s.extract a s.size) i = bt s (a + i) := by
  by_cases hi : a + i < s.size
  · exact bt_extract s a s.size i (Nat.le_refl _) hi
  · rw [bt_out s _ (by omega), bt_out _ _ (by rw [size_extract s a s.size (Nat.le_refl _)]; omega)]
theorem ext_rest (s : ByteArray) (p n : Nat) (h : p + n ≤ s.size) : (s.extract p s.size).extract 0 n = s.extract p (p + n) := by
  have hz := size_extract s p s.size (Nat.le_refl _)
  apply ext_bt
  · rw [size_extract _ _ _ (by omega), size_extract _ _ _ h]; omega
  · intro i hi
    rw [size_extract _ _ _ (by omega)] at hi
    rw [bt_extract _ 0 n i (by omega) (by omega), bt_extract s p _ i h (by omega), Nat.zero_add, bt_rest' s p i (by omega)]
theorem escS_cases (s : ByteArray) (k : Nat) (h : k + 1 ≤ s.size) : (∃ (b : Int) (m : Nat), escS s k = (b, (m : Int), 0) ∧ k + 2 ≤ m ∧ m ≤ s.size ∧ 0 ≤ b ∧ b < 256) ∨ escS s k = (0, 0, 4) ∨ ∃ m : Nat, escS s k = (0, (m : Int), 6) ∧ k ≤ m ∧ m < s.size := by
  by_cases he : (escS s k).2.2 = 0
  · exact .inl (escS_ok s k h he)
  right
  unfold escS at he ⊢
  by_cases h1 : k + 1 = s.size
  · rw [if_pos h1]; exact .inl rfl
  rw [if_neg h1] at he ⊢
  by_cases h2 : bt s (k + 1) ≠ 120
  · rw [if_pos h2] at he ⊢
    by_cases h3 : 128 ≤ bt s (k + 1) ∨ escT (bt s (k + 1)) = 0
    · rw [if_pos h3]; exact .inr ⟨k + 1, rfl, by omega, by omega⟩
    · rw [if_neg h3] at he; simp at he
  · rw [if_neg h2] at he ⊢
    by_cases h3 : k + 2 = s.size
    · rw [if_pos h3]; exact .inl rfl
    rw [if_neg h3] at he ⊢
    by_cases h4 : hexI (bt s (k + 2)) = false
    · rw [if_pos h4]; exact .inr ⟨k + 2, rfl, by omega, by omega⟩
    rw [if_neg h4] at he ⊢
    by_cases h5 : k + 3 = s.size
    · rw [if_pos h5]; exact .inl rfl
    rw [if_neg h5] at he ⊢
    by_cases h6 : hexI (bt s (k + 3)) = false
    · rw [if_pos h6]; exact .inr ⟨k + 3, rfl, by omega, by omega⟩
    rw [if_neg h6] at he; simp at he
theorem oneS_cases (s : ByteArray) (k : Nat) (q : Int) (h : k ≤ s.size) : (∃ (b : Int) (m : Nat), oneS s k q = (b, (m : Int), 0) ∧ k + 1 ≤ m ∧ m ≤ s.size ∧ 0 ≤ b ∧ b < 256 ∧ k < s.size) ∨ oneS s k q = (0, 0, 4) ∨ ∃ m : Nat, oneS s k q = (0, (m : Int), 6) ∧ k ≤ m ∧ m < s.size := by
  by_cases he : (oneS s k q).2.2 = 0
  · exact .inl (oneS_ok s k q h he)
  right
  unfold oneS at he ⊢
  by_cases h1 : k = s.size
  · rw [if_pos h1]; exact .inl rfl
  rw [if_neg h1] at he ⊢
  by_cases h2 : bt s k = 92
  · rw [if_pos h2] at he ⊢
    rcases escS_cases s k (by omega) with ⟨b, m, e, _⟩ | e | e
    · rw [e] at he; simp at he
    · exact .inl e
    · exact .inr e
  rw [if_neg h2] at he ⊢
  by_cases h3 : bt s k = q ∨ bt s k < 32 ∨ 126 < bt s k
  · rw [if_pos h3]; exact .inr ⟨k, rfl, by omega, by omega⟩
  rw [if_neg h3] at he; simp at he
def shR (p : Nat) (r : Int × Int × Int) : Int × Int × Int := if r.2.2 = 4 then r else (r.1, r.2.1 + p, r.2.2)
theorem tri {a b c a' b' c' : Int} (h1 : a = a') (h2 : b = b') (h3 : c = c') : ((a, b, c) : Int × Int × Int) = (a', b', c') := by rw [h1, h2, h3]
theorem escS_rest (s : ByteArray) (p k : Nat) (h : p + k < s.size) : escS s (p + k) = shR p (escS (s.extract p s.size) k) := by
  have hz := size_extract s p s.size (Nat.le_refl _)
  unfold escS
  rw [bt_rest' s p (k + 1) (by omega), bt_rest' s p (k + 2) (by omega), bt_rest' s p (k + 3) (by omega), hz]
  simp only [← Nat.add_assoc]
  by_cases h1 : p + k + 1 = s.size
  · rw [if_pos h1, if_pos (show k + 1 = s.size - p by omega)]; rfl
  rw [if_neg h1, if_neg (show ¬ k + 1 = s.size - p by omega)]
  by_cases h2 : bt s (p + k + 1) ≠ 120
  · rw [if_pos h2, if_pos h2]
    by_cases h3 : 128 ≤ bt s (p + k + 1) ∨ escT (bt s (p + k + 1)) = 0
    · rw [if_pos h3, if_pos h3]; exact tri rfl (by simp; omega) rfl
    · rw [if_neg h3, if_neg h3]; exact tri rfl (by simp; omega) rfl
  · rw [if_neg h2, if_neg h2]
    by_cases h3 : p + k + 2 = s.size
    · rw [if_pos h3, if_pos (show k + 2 = s.size - p by omega)]; rfl
    rw [if_neg h3, if_neg (show ¬ k + 2 = s.size - p by omega)]
    by_cases h4 : hexI (bt s (p + k + 2)) = false
    · rw [if_pos h4, if_pos h4]; exact tri rfl (by simp; omega) rfl
    rw [if_neg h4, if_neg h4]
    by_cases h5 : p + k + 3 = s.size
    · rw [if_pos h5, if_pos (show k + 3 = s.size - p by omega)]; rfl
    rw [if_neg h5, if_neg (show ¬ k + 3 = s.size - p by omega)]
    by_cases h6 : hexI (bt s (p + k + 3)) = false
    · rw [if_pos h6, if_pos h6]; exact tri rfl (by simp; omega) rfl
    rw [if_neg h6, if_neg h6]
    exact tri rfl (by simp; omega) rfl
theorem oneS_rest (s : ByteArray) (p k : Nat) (q : Int) (h : p + k ≤ s.size) : oneS s (p + k) q = shR p (oneS (s.extract p s.size) k q) := by
  have hz := size_extract s p s.size (Nat.le_refl _)
  unfold oneS
  rw [bt_rest' s p k (by omega), hz]
  by_cases h1 : p + k = s.size
  · rw [if_pos h1, if_pos (show k = s.size - p by omega)]; rfl
  rw [if_neg h1, if_neg (show ¬ k = s.size - p by omega)]
  by_cases h2 : bt s (p + k) = 92
  · rw [if_pos h2, if_pos h2]; exact escS_rest s p k (by omega)
  rw [if_neg h2, if_neg h2]
  by_cases h3 : bt s (p + k) = q ∨ bt s (p + k) < 32 ∨ 126 < bt s (p + k)
  · rw [if_pos h3, if_pos h3]; exact tri rfl (by simp; omega) rfl
  rw [if_neg h3, if_neg h3]
  exact tri rfl (by simp; omega) rfl
theorem oneS_q (s : ByteArray) (k : Nat) (q : Int) (h : k < s.size → bt s k ≠ q) : oneS s k q = oneS s k (-1) := by
  have hb := bt_bd s k
  unfold oneS
  by_cases h1 : k = s.size
  · rw [if_pos h1, if_pos h1]
  rw [if_neg h1, if_neg h1]
  by_cases h2 : bt s k = 92
  · rw [if_pos h2, if_pos h2]
  rw [if_neg h2, if_neg h2]
  by_cases hk : k < s.size
  · have hq := h hk
    by_cases h3 : bt s k < 32 ∨ 126 < bt s k
    · rw [if_pos (.inr h3), if_pos (.inr h3)]
    · rw [if_neg (by rintro (e | e); exact hq e; exact h3 e), if_neg (by rintro (e | e); omega; exact h3 e)]
  · have : bt s k = 0 := bt_out s k (by omega)
    rw [if_pos (.inr (.inl (by omega))), if_pos (.inr (.inl (by omega)))]
theorem strOfNums_snoc (l : List Int) (b : Int) : strOfNums l ++ strOfNums [b] = strOfNums (l ++ [b]) := by
  apply ByteArray.ext
  simp [strOfNums, ByteArray.data_append]
/-- The longest symbol is no shorter than any that stands at the beginning. -/
theorem symT_max (s : ByteArray) : ∀ x ∈ syms, preB s x = true → x.size ≤ (symT s).size := by
  have mono : ∀ (l : List ByteArray) (t : ByteArray), t.size ≤ (l.foldl (symF s) t).size := by
    intro l
    induction l with
    | nil => intro t; exact Nat.le_refl _
    | cons x l ih =>
      intro t
      refine Nat.le_trans ?_ (ih (symF s t x))
      unfold symF
      split
      · omega
      · exact Nat.le_refl _
  have gen : ∀ (l : List ByteArray) (t : ByteArray), ∀ x ∈ l, preB s x = true → x.size ≤ (l.foldl (symF s) t).size := by
    intro l
    induction l with
    | nil => intro t x hx; cases hx
    | cons y l ih =>
      intro t x hx hp
      rcases List.mem_cons.1 hx with rfl | hx
      · refine Nat.le_trans ?_ (mono l (symF s t x))
        unfold symF
        by_cases hc : t.size < x.size
        · rw [if_pos ⟨hc, hp⟩]; exact Nat.le_refl _
        · rw [if_neg (fun h => hc h.1)]; omega
      · exact ih _ x hx hp
  exact gen syms _
theorem preB_of (s : ByteArray) (n : Nat) (h : n ≤ s.size) : preB s (s.extract 0 n) = true := by
  unfold preB Lib.hasPrefix
  rw [List.isPrefixOf_iff_prefix]
  have e : (s.extract 0 n).data.toList = s.data.toList.take n := by
    simp [ByteArray.extract, ByteArray.copySlice]
  rw [e]
  exact List.take_prefix _ _
theorem pre_ext (s x : ByteArray) (h : preB s x = true) : x = s.extract 0 x.size := by
  obtain ⟨hl, hb⟩ := preB_bt s x h
  apply ext_bt
  · rw [size_extract _ _ _ hl]; omega
  · intro i hi
    rw [bt_extract s 0 _ i hl (by omega), Nat.zero_add, hb i hi]
/-- The longest symbol, by its length. -/
theorem symT_two (s : ByteArray) (h : 2 ≤ s.size) (hm : s.extract 0 2 ∈ syms) : symT s = s.extract 0 2 := by
  have hmax := symT_max s _ hm (preB_of s 2 h)
  have hz := size_extract s 0 2 h
  have hin := symT_in s
  generalize symT s = T at *
  rcases hin with rfl | ⟨h1, h2⟩
  · rw [hz] at hmax; exact absurd hmax (by decide)
  · have h3 := syms_no _ h1
    have h4 := pre_ext s T h2
    rw [show T.size = 2 by omega] at h4
    exact h4
theorem symT_one (s : ByteArray) (h : 1 ≤ s.size) (h2 : ¬(2 ≤ s.size ∧ s.extract 0 2 ∈ syms)) (hm : s.extract 0 1 ∈ syms) : symT s = s.extract 0 1 := by
  have hmax := symT_max s _ hm (preB_of s 1 h)
  have hz := size_extract s 0 1 h
  have hin := symT_in s
  generalize symT s = T at *
  rcases hin with rfl | ⟨h1, h3⟩
  · rw [hz] at hmax; exact absurd hmax (by decide)
  · have h4 := syms_no _ h1
    have h5 := pre_ext s T h3
    have h6 := (preB_bt s T h3).1
    rcases h4 with h4 | h4
    · rw [h4] at h5; exact h5
    · rw [h4] at h5; rw [h4] at h6; rw [h5] at h1; exact absurd ⟨h6, h1⟩ h2
theorem symT_zero (s : ByteArray) (h : 1 ≤ s.size) (h2 : ¬(2 ≤ s.size ∧ s.extract 0 2 ∈ syms)) (hm : s.extract 0 1 ∉ syms) : symT s = ⟨#[]⟩ := by
  have hin := symT_in s
  generalize symT s = T at *
  rcases hin with rfl | ⟨h1, h3⟩
  · rfl
  · have h4 := syms_no _ h1
    have h5 := pre_ext s T h3
    have h6 := (preB_bt s T h3).1
    rcases h4 with h4 | h4
    · rw [h4] at h5; rw [h5] at h1; exact absurd h1 hm
    · rw [h4] at h5; rw [h4] at h6; rw [h5] at h1; exact absurd ⟨h6, h1⟩ h2
end Go.Proofs.YtdhfkokinnmfhaaDoor
