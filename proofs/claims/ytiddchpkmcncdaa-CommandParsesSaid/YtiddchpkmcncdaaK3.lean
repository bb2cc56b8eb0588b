/- Plain steps of the scanning functions of layer 41: tokens. -/
import Derived.Test.YtiddchpkmcncdaaX9
namespace Go.Proofs.Ytiddchpkmcncdaa
open Go.RowKit
set_option linter.unusedSimpArgs false
set_option linter.unusedVariables false
theorem wordS_pos : ∀ (l : Bs) (k p : Nat) (ps : Wd) (tx : Bs) (ps' : Wd) (tx' : Bs) (q : Nat), wordS l k p ps tx = .ok (ps', tx', q) → p ≤ q ∧ q ≤ p + l.length
  | [], k, p, ps, tx, ps', tx', q, h => by unfold wordS at h; cases h; simp
  | b :: l, k + 1, p, ps, tx, ps', tx', q, h => by
    have := wordS_pos l k (p + 1) ps tx ps' tx' q h
    simp; omega
  | b :: l, 0, p, ps, tx, ps', tx', q, h => by
    simp only [wordS] at h
    split at h
    · cases h; simp
    split at h
    · split at h
      · have := wordS_pos l _ (p + 1) _ _ ps' tx' q h
        simp; omega
      · cases h
    split at h
    · split at h
      · have := wordS_pos l _ (p + 1) _ _ ps' tx' q h
        simp; omega
      · cases h
    split at h
    · split at h
      · cases h
      · have := wordS_pos l _ (p + 1) _ _ ps' tx' q h
        simp; omega
    split at h
    · split at h
      · have := wordS_pos l _ (p + 1) _ _ ps' tx' q h
        simp; omega
      · cases h
    · have := wordS_pos l _ (p + 1) _ _ ps' tx' q h
      simp; omega
theorem wordS_pos1 (b : UInt8) (l : Bs) (p : Nat) (ps : Wd) (tx : Bs) (ps' : Wd) (tx' : Bs) (q : Nat) (h0 : (blkI (n8 b) || !(opAt (b :: l)).isEmpty) = false) (h : wordS (b :: l) 0 p ps tx = .ok (ps', tx', q)) : p + 1 ≤ q := by
  simp only [wordS] at h
  rw [if_neg (by rw [h0]; simp)] at h
  split at h
  · split at h
    · exact (wordS_pos l _ (p + 1) _ _ ps' tx' q h).1
    · cases h
  split at h
  · split at h
    · exact (wordS_pos l _ (p + 1) _ _ ps' tx' q h).1
    · cases h
  split at h
  · split at h
    · cases h
    · exact (wordS_pos l _ (p + 1) _ _ ps' tx' q h).1
  split at h
  · split at h
    · exact (wordS_pos l _ (p + 1) _ _ ps' tx' q h).1
    · cases h
  · exact (wordS_pos l _ (p + 1) _ _ ps' tx' q h).1
theorem wordS_err : ∀ (l : Bs) (k p : Nat) (ps : Wd) (tx : Bs) (q : Nat) (e : Int), wordS l k p ps tx = .err q e → e ≠ 0
  | [], k, p, ps, tx, q, e, h => by unfold wordS at h; cases h
  | b :: l, k + 1, p, ps, tx, q, e, h => wordS_err l k (p + 1) ps tx q e h
  | b :: l, 0, p, ps, tx, q, e, h => by
    simp only [wordS] at h
    split at h
    · cases h
    split at h
    · split at h
      · exact wordS_err l _ (p + 1) _ _ q e h
      · cases h; decide
    split at h
    · split at h
      · exact wordS_err l _ (p + 1) _ _ q e h
      · rename_i hq; cases h; exact quoS_err _ _ _ _ _ _ _ _ hq
    split at h
    · split at h
      · cases h; decide
      · exact wordS_err l _ (p + 1) _ _ q e h
    split at h
    · split at h
      · exact wordS_err l _ (p + 1) _ _ q e h
      · cases h; decide
    · exact wordS_err l _ (p + 1) _ _ q e h
theorem opAt_mem (l : Bs) : opAt l = [] ∨ (opAt l ∈ opsL ∧ (opAt l).isPrefixOf l = true) := by
  unfold opAt
  cases h : opsL.find? fun o => o.isPrefixOf l with
  | none => exact .inl rfl
  | some o => exact .inr ⟨List.mem_of_find?_eq_some h, by have := List.find?_some h; exact this⟩
theorem opAt_len (l : Bs) : (opAt l).length ≤ l.length := by
  rcases opAt_mem l with h | ⟨_, h⟩
  · rw [h]; simp
  · exact (List.isPrefixOf_iff_prefix.1 h).length_le
theorem opAt_two (l : Bs) : (opAt l).length ≤ 2 := by
  rcases opAt_mem l with h | ⟨h, _⟩
  · rw [h]; simp
  · have : ∀ o ∈ opsL, o.length ≤ 2 := by decide
    exact this _ h
section
variable (s : ByteArray) (p : Nat)
theorem toksP_end (h : s.size ≤ p) : toksP s p = .ok [] := by unfold toksP; rw [dr_nil s p h]; rfl
theorem toksP_blank (h : p < s.size) (hb : blkI (bt s p) = true) : toksP s p = toksP s (p + 1) := by
  unfold toksP
  rw [dr_cons s p h]
  simp only [toksS]
  rw [if_pos (show blkI (n8 (s.data.toList.getD p 0)) = true from hb)]
theorem toksP_op (h : p < s.size) (hb : blkI (bt s p) = false) (o : Bs) (ho : opAt (dr s p) = o) (hn : o ≠ []) : p + o.length ≤ s.size ∧ toksP s p = (toksP s (p + o.length)).cons ⟨p, o, [], []⟩ := by
  have hl := opAt_len (dr s p)
  rw [ho, dr_len] at hl
  have hpos : 0 < o.length := List.length_pos_iff.2 hn
  refine ⟨by omega, ?_⟩
  unfold toksP
  have e := dr_cons s p h
  rw [e] at ho
  rw [e]
  simp only [toksS]
  rw [if_neg (by rw [show n8 (s.data.toList.getD p 0) = bt s p from rfl, hb]; simp), ho, if_pos (by cases o with | nil => exact absurd rfl hn | cons a l => rfl)]
  rw [toksS_skip _ _ _ (by rw [dr_len]; omega), dr_drop, show p + 1 + (o.length - 1) = p + o.length by omega]
theorem toksP_word (h : p < s.size) (hb : blkI (bt s p) = false) (ho : opAt (dr s p) = []) :
    (∃ ps tx q, wordP s p [] [] = .ok (ps, tx, q) ∧ p + 1 ≤ q ∧ q ≤ s.size ∧ toksP s p = (toksP s q).cons ⟨p, [], finS ps tx, asgS (dr s p)⟩) ∨ ∃ q e, wordP s p [] [] = .err q e ∧ e ≠ 0 ∧ toksP s p = .err q e := by
  have e := dr_cons s p h
  have ht : toksP s p = (match wordP s p [] [] with
      | .ok (ps, tx, q) => (toksS (dr s (p + 1)) (q - (p + 1)) (p + 1)).cons ⟨p, [], finS ps tx, asgS (dr s p)⟩
      | .err q e => .err q e) := by
    unfold toksP wordP
    rw [e] at ho
    rw [e]
    simp only [toksS]
    rw [if_neg (by rw [show n8 (s.data.toList.getD p 0) = bt s p from rfl, hb]; simp), ho, if_neg (by simp)]
    rfl
  cases hw : wordP s p [] [] with
  | ok a =>
    obtain ⟨ps, tx, q⟩ := a
    rw [hw] at ht
    have h1 : p + 1 ≤ q := by
      unfold wordP at hw
      rw [e] at hw ho
      exact wordS_pos1 _ _ _ _ _ _ _ _ (by rw [show n8 (s.data.toList.getD p 0) = bt s p from rfl, hb, ho]; rfl) hw
    have h2 := (wordS_pos _ _ _ _ _ _ _ _ hw).2
    rw [dr_len] at h2
    refine .inl ⟨ps, tx, q, rfl, h1, by omega, ?_⟩
    rw [ht]
    simp only []
    rw [toksS_skip _ _ _ (by rw [dr_len]; omega), dr_drop, show p + 1 + (q - (p + 1)) = q by omega]
    rfl
  | err q e0 =>
    rw [hw] at ht
    exact .inr ⟨q, e0, rfl, wordS_err _ _ _ _ _ _ _ hw, ht⟩
end
end Go.Proofs.Ytiddchpkmcncdaa
