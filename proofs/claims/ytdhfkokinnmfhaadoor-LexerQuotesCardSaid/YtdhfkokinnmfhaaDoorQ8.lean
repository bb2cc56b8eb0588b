/- Plain lemmas of layer 21: places of tokens and errors. -/
import Derived.Test.YtdhfkokinnmfhaaDoorQ7
namespace Go.Proofs.YtdhfkokinnmfhaaDoor
set_option linter.unusedSimpArgs false
set_option linter.unusedVariables false
theorem scanP_err (s : ByteArray) : ∀ (f p q : Nat) (off er : Int), p ≤ s.size → scanP s f p = .err q off er → er ≠ 0 ∧ p ≤ q ∧ q < s.size ∧ 0 ≤ off ∧ (q : Int) + off ≤ s.size ∧ (∀ i : Nat, (i : Int) < off → bt s (q + i) ≠ 10)
  | 0, p, q, off, er, _, h => by cases h
  | f + 1, p, q, off, er, hp, h => by
    rw [scanP_step] at h
    by_cases hlt : p < s.size
    · rw [if_pos hlt] at h
      cases ha : findS (s.extract p s.size) with
      | none =>
        rw [ha] at h
        injection h with h1 h2 h3
        subst h1 h2 h3
        exact ⟨by decide, Nat.le_refl _, hlt, by omega, by omega, fun i hi => by omega⟩
      | some a =>
        rw [ha] at h
        simp only [] at h
        by_cases he : a.e ≠ 0
        · rw [if_pos he] at h
          injection h with h1 h2 h3
          subst h1 h2 h3
          obtain ⟨g0, g1, g2⟩ := rest_bad s p a hlt ha he
          exact ⟨he, Nat.le_refl _, hlt, g0, g1, g2⟩
        · rw [if_neg he] at h
          obtain ⟨g1, g2, _⟩ := rest_good s p a hlt ha (by simpa using he)
          obtain ⟨g3, g4⟩ := skp_le s (p + a.size) g2
          cases hr : scanP s f (skp s (p + a.size)) with
          | ok l => rw [hr] at h; cases h
          | err q' off' er' =>
            rw [hr] at h
            injection h with h1 h2 h3
            subst h1 h2 h3
            obtain ⟨k0, k1, k2⟩ := scanP_err s f _ _ _ _ g4 hr
            exact ⟨k0, by omega, k2⟩
    · rw [if_neg hlt] at h; cases h
theorem scanS_err (s : ByteArray) (q : Nat) (off er : Int) (h : scanS s = .err q off er) : er ≠ 0 ∧ q < s.size ∧ 0 ≤ off ∧ (q : Int) + off ≤ s.size ∧ (∀ i : Nat, (i : Int) < off → bt s (q + i) ≠ 10) := by
  obtain ⟨h0, _, h1⟩ := scanP_err s _ _ _ _ _ (skp_le s 0 (Nat.zero_le _)).2 h
  exact ⟨h0, h1⟩
/-- What a token of a list of tokens is: it was found where it stands; the next one stands behind it and the blanks. -/
def Chain (s : ByteArray) : Nat → List (Att × Nat) → Prop
  | p, [] => p = s.size
  | p, (a, q) :: l => q = p ∧ p < s.size ∧ findS (s.extract p s.size) = some a ∧ a.e = 0 ∧ Chain s (skp s (p + a.size)) l
theorem scanP_chain (s : ByteArray) : ∀ (f p : Nat) (l : List (Att × Nat)), p ≤ s.size → s.size < f + p → scanP s f p = .ok l → Chain s p l
  | 0, p, l, hp, hf, h => by omega
  | f + 1, p, l, hp, hf, h => by
    rw [scanP_step] at h
    by_cases hlt : p < s.size
    · rw [if_pos hlt] at h
      cases ha : findS (s.extract p s.size) with
      | none => rw [ha] at h; cases h
      | some a =>
        rw [ha] at h
        simp only [] at h
        by_cases he : a.e ≠ 0
        · rw [if_pos he] at h; cases h
        · rw [if_neg he] at h
          obtain ⟨g1, g2, _⟩ := rest_good s p a hlt ha (by simpa using he)
          obtain ⟨g3, g4⟩ := skp_le s (p + a.size) g2
          cases hr : scanP s f (skp s (p + a.size)) with
          | err q' off' er' => rw [hr] at h; cases h
          | ok l' =>
            rw [hr] at h
            injection h with h1
            subst h1
            exact ⟨rfl, hlt, ha, by simpa using he, scanP_chain s f _ l' g4 (by omega) hr⟩
    · rw [if_neg hlt] at h
      injection h with h
      subst h
      show p = s.size
      omega
theorem scanS_chain (s : ByteArray) (l : List (Att × Nat)) (h : scanS s = .ok l) : Chain s (skp s 0) l :=
  scanP_chain s _ _ l (skp_le s 0 (Nat.zero_le _)).2 (by omega) h
theorem chain_scan (s : ByteArray) : ∀ (l : List (Att × Nat)) (p : Nat), p ≤ s.size → Chain s p l → scanP s (s.size + 1) p = .ok l
  | [], p, _, h => scan_end s p (by have : p = s.size := h; omega)
  | (a, q) :: l, p, hp, h => by
    obtain ⟨rfl, h1, h2, h3, h4⟩ := h
    obtain ⟨g1, g2, _⟩ := rest_good s q a h1 h2 h3
    rw [scan_next s q a h1 h2 h3, chain_scan s l _ (skp_le s _ g2).2 h4]
    rfl
theorem chain_at (s : ByteArray) : ∀ (l : List (Att × Nat)) (p i : Nat) (t : Att × Nat), Chain s p l → l[i]? = some t → p ≤ t.2 ∧ t.2 < s.size ∧ findS (s.extract t.2 s.size) = some t.1 ∧ t.1.e = 0
  | [], _, _, _, _, h => by simp at h
  | (a, q) :: l, p, 0, t, hc, h => by
    simp at h
    subst h
    obtain ⟨rfl, h1, h2, h3, _⟩ := hc
    exact ⟨Nat.le_refl _, h1, h2, h3⟩
  | (a, q) :: l, p, i + 1, t, hc, h => by
    obtain ⟨rfl, h1, h2, h3, h4⟩ := hc
    obtain ⟨g1, g2, _⟩ := rest_good s q a h1 h2 h3
    obtain ⟨g3, _⟩ := skp_le s _ g2
    have := chain_at s l _ i t h4 (by simpa using h)
    exact ⟨by omega, this.2⟩
theorem chain_len (s : ByteArray) : ∀ (l : List (Att × Nat)) (p : Nat), Chain s p l → l.length + p ≤ s.size
  | [], p, h => by have : p = s.size := h; simp; omega
  | (a, q) :: l, p, h => by
    obtain ⟨rfl, h1, h2, h3, h4⟩ := h
    obtain ⟨g1, g2, _⟩ := rest_good s q a h1 h2 h3
    obtain ⟨g3, _⟩ := skp_le s _ g2
    have := chain_len s l _ h4
    simp
    omega
theorem scan_len (s : ByteArray) (l : List (Att × Nat)) (h : scanS s = .ok l) : l.length ≤ s.size := by
  have := chain_len s l _ (scanS_chain s l h)
  omega
theorem all_le (s : ByteArray) (l : List (Att × Nat)) (h : scanS s = .ok l) (i : Nat) (t : Att × Nat) (ht : (l ++ [(endA, s.size)])[i]? = some t) : t.2 ≤ s.size := by
  by_cases hi : i < l.length
  · rw [List.getElem?_append_left hi] at ht
    have := chain_at s l _ i t (scanS_chain s l h) ht
    omega
  · rw [List.getElem?_append_right (by omega)] at ht
    cases hj : i - l.length with
    | zero => rw [hj] at ht; simp at ht; subst ht; exact Nat.le_refl _
    | succ j => rw [hj] at ht; simp at ht
theorem col_run (s : ByteArray) (q n : Nat) (h : ∀ i, i < n → bt s (q + i) ≠ 10) : lineN s (q + n) = lineN s q ∧ colN s (q + n) = colN s q + n := by
  obtain ⟨h1, h2⟩ := line_run s q n h
  refine ⟨h1, ?_⟩
  unfold colN
  rw [h2]
  omega
end Go.Proofs.YtdhfkokinnmfhaaDoor
