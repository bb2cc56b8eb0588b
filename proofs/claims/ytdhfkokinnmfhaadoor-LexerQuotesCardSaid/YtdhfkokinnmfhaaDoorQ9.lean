/- Plain lemmas of layer 21: places increase. -/
import Derived.Test.YtdhfkokinnmfhaaDoorQ8
namespace Go.Proofs.YtdhfkokinnmfhaaDoor
set_option linter.unusedSimpArgs false
set_option linter.unusedVariables false
/-- All tokens with the end. -/
def toksL (s : ByteArray) (l : List (Att × Nat)) : List (Att × Nat) := l ++ [(endA, s.size)]
theorem toksL_len (s : ByteArray) (l : List (Att × Nat)) : (toksL s l).length = l.length + 1 := by simp [toksL]
theorem chain_mono (s : ByteArray) : ∀ (l : List (Att × Nat)) (p i j : Nat) (t u : Att × Nat), Chain s p l → i < j → l[i]? = some t → l[j]? = some u → t.2 + t.1.size ≤ u.2
  | [], _, _, _, _, _, _, _, h, _ => by simp at h
  | (a, q) :: l, p, 0, 0, t, u, _, h, _, _ => by omega
  | (a, q) :: l, p, 0, j + 1, t, u, hc, _, ht, hu => by
    obtain ⟨rfl, h1, h2, h3, h4⟩ := hc
    simp at ht
    subst ht
    obtain ⟨g1, g2, _⟩ := rest_good s q a h1 h2 h3
    obtain ⟨g3, _⟩ := skp_le s _ g2
    have := chain_at s l _ j u h4 (by simpa using hu)
    show q + a.size ≤ u.2
    omega
  | (a, q) :: l, p, i + 1, 0, t, u, _, h, _, _ => by omega
  | (a, q) :: l, p, i + 1, j + 1, t, u, hc, h, ht, hu => by
    obtain ⟨rfl, h1, h2, h3, h4⟩ := hc
    exact chain_mono s l _ i j t u h4 (by omega) (by simpa using ht) (by simpa using hu)
theorem toksL_at (s : ByteArray) (l : List (Att × Nat)) (i : Nat) (t : Att × Nat) (ht : (toksL s l)[i]? = some t) : (i < l.length ∧ l[i]? = some t) ∨ (i = l.length ∧ t = (endA, s.size)) := by
  unfold toksL at ht
  by_cases hi : i < l.length
  · rw [List.getElem?_append_left hi] at ht; exact .inl ⟨hi, ht⟩
  · rw [List.getElem?_append_right (by omega)] at ht
    cases hj : i - l.length with
    | zero => rw [hj] at ht; simp at ht; exact .inr ⟨by omega, ht.symm⟩
    | succ j => rw [hj] at ht; simp at ht
/-- Each token stands where it was found: its text, within the program. -/
theorem toksL_text (s : ByteArray) (l : List (Att × Nat)) (h : scanS s = .ok l) (i : Nat) (t : Att × Nat) (ht : (toksL s l)[i]? = some t) : t.2 + t.1.text.size ≤ s.size ∧ s.extract t.2 (t.2 + t.1.text.size) = t.1.text := by
  rcases toksL_at s l i t ht with ⟨_, h1⟩ | ⟨_, rfl⟩
  · obtain ⟨g0, g1, g2, g3⟩ := chain_at s l _ i t (scanS_chain s l h) h1
    obtain ⟨k1, k2, _, k4, _⟩ := rest_good s t.2 t.1 g1 g2 g3
    have hz : t.1.text.size = t.1.size := by rw [k4, size_extract _ _ _ k2]; omega
    rw [hz]
    exact ⟨k2, k4.symm⟩
  · have e0 : endA.text.size = 0 := rfl
    show s.size + endA.text.size ≤ s.size ∧ s.extract s.size (s.size + endA.text.size) = endA.text
    rw [e0]
    refine ⟨by omega, ?_⟩
    apply ext_bt
    · rw [size_extract _ _ _ (by omega)]; show _ = 0; omega
    · intro i hi; rw [size_extract _ _ _ (by omega)] at hi; omega
theorem toksL_mono (s : ByteArray) (l : List (Att × Nat)) (h : scanS s = .ok l) (i j : Nat) (t u : Att × Nat) (hij : i < j) (ht : (toksL s l)[i]? = some t) (hu : (toksL s l)[j]? = some u) : t.2 < u.2 := by
  rcases toksL_at s l i t ht with ⟨_, h1⟩ | ⟨e1, rfl⟩
  · obtain ⟨g0, g1, g2, g3⟩ := chain_at s l _ i t (scanS_chain s l h) h1
    obtain ⟨k1, k2, _⟩ := rest_good s t.2 t.1 g1 g2 g3
    rcases toksL_at s l j u hu with ⟨_, h2⟩ | ⟨_, rfl⟩
    · have := chain_mono s l _ i j t u (scanS_chain s l h) hij h1 h2
      omega
    · exact g1
  · rcases toksL_at s l j u hu with ⟨h2, _⟩ | ⟨h2, _⟩ <;> omega
theorem lineN_mono (s : ByteArray) (a : Nat) : ∀ n, lineN s a ≤ lineN s (a + n)
  | 0 => Nat.le_refl _
  | n + 1 => by
    have := lineN_mono s a n
    rw [← Nat.add_assoc]
    by_cases h10 : bt s (a + n) = 10
    · rw [lineN_nl s _ h10]; omega
    · rw [lineN_no s _ h10]; exact this
theorem place_run (s : ByteArray) (a : Nat) : ∀ n, lineN s (a + n) = lineN s a → begN s (a + n) = begN s a
  | 0, _ => rfl
  | n + 1, h => by
    have h1 := lineN_mono s a n
    rw [← Nat.add_assoc] at h ⊢
    by_cases h10 : bt s (a + n) = 10
    · rw [lineN_nl s _ h10] at h; omega
    · rw [lineN_no s _ h10] at h
      rw [begN_no s _ h10]
      exact place_run s a n h
/-- Different offsets have different places. -/
theorem place_inj (s : ByteArray) (k q : Nat) (h : k < q) (h1 : lineN s q = lineN s k) (h2 : colN s q = colN s k) : False := by
  obtain ⟨n, rfl⟩ : ∃ n, q = k + n := ⟨q - k, by omega⟩
  have := place_run s k n h1
  unfold colN at h2
  rw [this] at h2
  omega
/-- The token behind which all places lie. -/
def PosAt (L : List (Att × Nat)) (k i : Nat) : Prop := i ≤ L.length ∧ ∀ (j : Nat) (t : Att × Nat), L[j]? = some t → (j < i ↔ t.2 < k)
theorem pos_zero (L : List (Att × Nat)) : PosAt L 0 0 := ⟨Nat.zero_le _, fun j t _ => by omega⟩
theorem pos_hit (s : ByteArray) (l : List (Att × Nat)) (h : scanS s = .ok l) (k i : Nat) (t : Att × Nat) (ht : (toksL s l)[i]? = some t) (hk : t.2 = k) (hp : PosAt (toksL s l) k i) : PosAt (toksL s l) (k + 1) (i + 1) := by
  refine ⟨(List.getElem?_eq_some_iff.1 ht).1, fun j u hu => ?_⟩
  rcases Nat.lt_trichotomy j i with hj | rfl | hj
  · have := toksL_mono s l h j i u t hj hu ht
    omega
  · rw [ht] at hu
    injection hu with hu
    subst hu
    omega
  · have := toksL_mono s l h i j t u hj ht hu
    omega
theorem pos_miss (s : ByteArray) (l : List (Att × Nat)) (h : scanS s = .ok l) (k i : Nat) (t : Att × Nat) (ht : (toksL s l)[i]? = some t) (hk : k < t.2) (hp : PosAt (toksL s l) k i) : PosAt (toksL s l) (k + 1) i := by
  refine ⟨hp.1, fun j u hu => ?_⟩
  rcases Nat.lt_trichotomy j i with hj | rfl | hj
  · have := (hp.2 j u hu).1 hj
    omega
  · rw [ht] at hu
    injection hu with hu
    subst hu
    omega
  · have := toksL_mono s l h i j t u hj ht hu
    omega
theorem pos_ge (L : List (Att × Nat)) (k i : Nat) (t : Att × Nat) (hp : PosAt L k i) (ht : L[i]? = some t) : k ≤ t.2 := by
  have := (hp.2 i t ht)
  omega
theorem pos_end (s : ByteArray) (l : List (Att × Nat)) (k i : Nat) (hk : s.size < k) (hp : PosAt (toksL s l) k i) : i = (toksL s l).length := by
  have hlast : (toksL s l)[l.length]? = some (endA, s.size) := by unfold toksL; rw [List.getElem?_append_right (Nat.le_refl _)]; simp
  have := (hp.2 l.length _ hlast).2 hk
  have h1 := hp.1
  rw [toksL_len] at h1 ⊢
  omega
def lnX (s : ByteArray) (k : Nat) : Int := if k ≤ s.size then (lineN s k : Int) else (lineN s s.size : Int)
def clX (s : ByteArray) (k : Nat) : Int := if k ≤ s.size then colN s k else colN s s.size + 1
end Go.Proofs.YtdhfkokinnmfhaaDoor
