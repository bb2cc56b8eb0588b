/- Plain functions of layer 21: scanning. -/
import Derived.Test.YtdhfkokinnmfhaaDoorQ5
namespace Go.Proofs.YtdhfkokinnmfhaaDoor
set_option linter.unusedSimpArgs false
set_option linter.unusedVariables false
/-- What scanning gives: the tokens with their offsets, or the place of an error, the offset from there, and the error. -/
inductive Res where
  | ok (l : List (Att × Nat))
  | err (p : Nat) (off e : Int)
def Res.pre (acc : List (Att × Nat)) : Res → Res
  | .ok l => .ok (acc ++ l)
  | .err p o e => .err p o e
theorem Res.pre_nil (r : Res) : r.pre [] = r := by cases r <;> rfl
theorem Res.pre_pre (a b : List (Att × Nat)) (r : Res) : (r.pre b).pre a = r.pre (a ++ b) := by cases r <;> simp [Res.pre]
def scanP (s : ByteArray) : Nat → Nat → Res
  | 0, _ => .ok []
  | f + 1, p =>
    if p < s.size then
      match findS (s.extract p s.size) with
      | none => .err p 0 6
      | some a => if a.e ≠ 0 then .err p a.off a.e else (scanP s f (skp s (p + a.size))).pre [(a, p)]
    else .ok []
def scanS (s : ByteArray) : Res := scanP s (s.size + 1) (skp s 0)
theorem rest_good (s : ByteArray) (p : Nat) (a : Att) (h : p < s.size) (ha : findS (s.extract p s.size) = some a) (he : a.e = 0) : 1 ≤ a.size ∧ p + a.size ≤ s.size ∧ a.off = 0 ∧ a.text = s.extract p (p + a.size) ∧ (∀ i, i < a.size → bt s (p + i) ≠ 10) := by
  have hz := size_extract s p s.size (Nat.le_refl _)
  obtain ⟨h1, _⟩ := findS_good _ a (by omega) ha
  obtain ⟨g0, g1, g2, g3, g4⟩ := h1 he
  refine ⟨g1, by omega, g0, ?_, fun i hi => ?_⟩
  · rw [g3]
    apply ext_bt
    · rw [size_extract _ _ _ g2, size_extract _ _ _ (by omega)]; omega
    · intro i hi
      rw [size_extract _ _ _ g2] at hi
      rw [bt_extract _ 0 _ i g2 (by omega), bt_extract s p s.size _ (Nat.le_refl _) (by omega), bt_extract s p _ i (by omega) (by omega), Nat.zero_add]
  · have := g4 i hi
    rwa [bt_extract s p s.size i (Nat.le_refl _) (by omega)] at this
theorem rest_bad (s : ByteArray) (p : Nat) (a : Att) (h : p < s.size) (ha : findS (s.extract p s.size) = some a) (he : a.e ≠ 0) : 0 ≤ a.off ∧ (p : Int) + a.off ≤ s.size ∧ (∀ i : Nat, (i : Int) < a.off → bt s (p + i) ≠ 10) := by
  have hz := size_extract s p s.size (Nat.le_refl _)
  obtain ⟨_, h1⟩ := findS_good _ a (by omega) ha
  obtain ⟨g0, g1, g2⟩ := h1 he
  refine ⟨g0, by omega, fun i hi => ?_⟩
  have := g2 i hi
  rwa [bt_extract s p s.size i (Nat.le_refl _) (by omega)] at this
theorem scanP_step (s : ByteArray) (f p : Nat) : scanP s (f + 1) p =
    if p < s.size then
      match findS (s.extract p s.size) with
      | none => .err p 0 6
      | some a => if a.e ≠ 0 then .err p a.off a.e else (scanP s f (skp s (p + a.size))).pre [(a, p)]
    else .ok [] := rfl
theorem scanP_fuel (s : ByteArray) : ∀ (f g p : Nat), s.size < f + p → s.size < g + p → p ≤ s.size → scanP s f p = scanP s g p
  | 0, _, p, h, _, hp => by omega
  | _, 0, p, _, h, hp => by omega
  | f + 1, g + 1, p, hf, hg, hp => by
    rw [scanP_step, scanP_step]
    by_cases h : p < s.size
    · rw [if_pos h, if_pos h]
      cases ha : findS (s.extract p s.size) with
      | none => rfl
      | some a =>
        simp only []
        by_cases he : a.e ≠ 0
        · rw [if_pos he, if_pos he]
        · rw [if_neg he, if_neg he]
          obtain ⟨g1, g2, _⟩ := rest_good s p a h ha (by simpa using he)
          obtain ⟨g3, g4⟩ := skp_le s (p + a.size) g2
          rw [scanP_fuel s f g _ (by omega) (by omega) g4]
    · rw [if_neg h, if_neg h]
/-- The three ways of a step, with the fuel as it was. -/
theorem scan_end (s : ByteArray) (p : Nat) (h : s.size ≤ p) : scanP s (s.size + 1) p = .ok [] := by
  rw [scanP_step, if_neg (by omega)]
theorem scan_none (s : ByteArray) (p : Nat) (h : p < s.size) (ha : findS (s.extract p s.size) = none) : scanP s (s.size + 1) p = .err p 0 6 := by
  rw [scanP_step, if_pos h, ha]
theorem scan_bad (s : ByteArray) (p : Nat) (a : Att) (h : p < s.size) (ha : findS (s.extract p s.size) = some a) (he : a.e ≠ 0) : scanP s (s.size + 1) p = .err p a.off a.e := by
  rw [scanP_step, if_pos h, ha]
  simp only []
  rw [if_pos he]
theorem scan_next (s : ByteArray) (p : Nat) (a : Att) (h : p < s.size) (ha : findS (s.extract p s.size) = some a) (he : a.e = 0) : scanP s (s.size + 1) p = (scanP s (s.size + 1) (skp s (p + a.size))).pre [(a, p)] := by
  rw [scanP_step, if_pos h, ha]
  simp only []
  rw [if_neg (by simpa using he)]
  obtain ⟨g1, g2, _⟩ := rest_good s p a h ha he
  obtain ⟨g3, g4⟩ := skp_le s (p + a.size) g2
  rw [scanP_fuel s s.size (s.size + 1) _ (by omega) (by omega) g4]
def colN (s : ByteArray) (p : Nat) : Int := (p : Int) - begN s p + 1
def tokC (s : ByteArray) (t : Att × Nat) : List Value := [.int .i64 t.1.kind, .string t.1.text, .int .i64 t.1.value, .string t.1.bytes, .int .i64 (lineN s t.2), .int .i64 (colN s t.2)]
def endA : Att := ⟨0, ⟨#[]⟩, 0, ⟨#[]⟩, 0, 0, 0⟩
def toksC (s : ByteArray) (l : List (Att × Nat)) : List Value := l.flatMap (tokC s)
theorem toksC_snoc (s : ByteArray) (l : List (Att × Nat)) (t : Att × Nat) : toksC s (l ++ [t]) = toksC s l ++ tokC s t := by simp [toksC]
theorem toksC_len (s : ByteArray) (l : List (Att × Nat)) : (toksC s l).length = l.length * 6 := by
  induction l with
  | nil => rfl
  | cons t l ih =>
    show (tokC s t ++ toksC s l).length = _
    rw [List.length_append, ih]
    show 6 + l.length * 6 = (l.length + 1) * 6
    omega
theorem toksC_get (s : ByteArray) : ∀ (l : List (Att × Nat)) (i j : Nat) (t : Att × Nat), l[i]? = some t → j < 6 → (toksC s l)[i * 6 + j]? = (tokC s t)[j]?
  | [], i, j, t, h, _ => by simp at h
  | u :: l, 0, j, t, h, hj => by
    simp at h; subst h
    show (tokC s u ++ toksC s l)[0 * 6 + j]? = _
    rw [Nat.zero_mul, Nat.zero_add, List.getElem?_append_left (by simpa [tokC] using hj)]
  | u :: l, i + 1, j, t, h, hj => by
    have := toksC_get s l i j t (by simpa using h) hj
    show (tokC s u ++ toksC s l)[(i + 1) * 6 + j]? = _
    have h6 : (tokC s u).length = 6 := rfl
    rw [List.getElem?_append_right (by omega), show (i + 1) * 6 + j - (tokC s u).length = i * 6 + j by omega]
    exact this
end Go.Proofs.YtdhfkokinnmfhaaDoor
