/- Plain steps of the scanning functions of layer 41. -/
import Derived.Test.YtiddchpkmcncdaaX6
namespace Go.Proofs.Ytiddchpkmcncdaa
open Go.RowKit
set_option linter.unusedSimpArgs false
set_option linter.unusedVariables false
theorem quoS_skip : ∀ (l : Bs) (k p beg : Nat) (ps : Wd) (tx : Bs), k ≤ l.length → quoS l k p beg ps tx = quoS (l.drop k) 0 (p + k) beg ps tx
  | [], k, p, beg, ps, tx, h => by
    have : k = 0 := by simpa using h
    subst this; rfl
  | b :: l, 0, p, beg, ps, tx, _ => rfl
  | b :: l, k + 1, p, beg, ps, tx, h => by
    have := quoS_skip l k (p + 1) beg ps tx (by simpa using h)
    rw [show quoS (b :: l) (k + 1) p beg ps tx = quoS l k (p + 1) beg ps tx from rfl, this, List.drop_succ_cons]
    congr 1; omega
theorem wordS_skip : ∀ (l : Bs) (k p : Nat) (ps : Wd) (tx : Bs), k ≤ l.length → wordS l k p ps tx = wordS (l.drop k) 0 (p + k) ps tx
  | [], k, p, ps, tx, h => by
    have : k = 0 := by simpa using h
    subst this; rfl
  | b :: l, 0, p, ps, tx, _ => rfl
  | b :: l, k + 1, p, ps, tx, h => by
    have := wordS_skip l k (p + 1) ps tx (by simpa using h)
    rw [show wordS (b :: l) (k + 1) p ps tx = wordS l k (p + 1) ps tx from rfl, this, List.drop_succ_cons]
    congr 1; omega
theorem toksS_skip : ∀ (l : Bs) (k p : Nat), k ≤ l.length → toksS l k p = toksS (l.drop k) 0 (p + k)
  | [], k, p, h => by
    have : k = 0 := by simpa using h
    subst this; rfl
  | b :: l, 0, p, _ => rfl
  | b :: l, k + 1, p, h => by
    have := toksS_skip l k (p + 1) (by simpa using h)
    rw [show toksS (b :: l) (k + 1) p = toksS l k (p + 1) from rfl, this, List.drop_succ_cons]
    congr 1; omega
/-- Scanning between quotation marks from an offset on. -/
def quoP (s : ByteArray) (p beg : Nat) (ps : Wd) (tx : Bs) : R (Wd × Bs × Nat) := quoS (dr s p) 0 p beg ps tx
def wordP (s : ByteArray) (p : Nat) (ps : Wd) (tx : Bs) : R (Wd × Bs × Nat) := wordS (dr s p) 0 p ps tx
def toksP (s : ByteArray) (p : Nat) : R (List Tk) := toksS (dr s p) 0 p
theorem drop_nm (s : ByteArray) (p : Nat) : quoS (dr s p) 0 p = quoS (dr s p) 0 p := rfl
section
variable (s : ByteArray) (p beg : Nat) (ps : Wd) (tx : Bs)
theorem quoP_end (h : s.size ≤ p) : quoP s p beg ps tx = .err beg 4 := by unfold quoP; rw [dr_nil s p h]; rfl
theorem quoP_cons (h : p < s.size) : quoP s p beg ps tx =
    (if bt s p = 34 then .ok (ps, tx, p + 1)
    else if bt s p = 92 then (if p + 1 = s.size then .err beg 4 else quoP s (p + 2) beg ps (tx ++ [b8 s (p + 1)]))
    else if bt s p = 36 then (if isVarS (nmS s (p + 1)) = true then quoP s (p + 1 + (nmS s (p + 1)).length) beg (flS ps tx ++ [⟨nmS s (p + 1), true, true⟩]) [] else .err p 3)
    else quoP s (p + 1) beg ps (tx ++ [b8 s p])) := by
  have e : dr s p = b8 s p :: dr s (p + 1) := dr_cons s p h
  have hl := dr_len s (p + 1)
  rw [show quoP s p beg ps tx = quoS (dr s p) 0 p beg ps tx from rfl, e]
  rw [show bt s p = n8 (b8 s p) from rfl]
  simp only [quoS]
  split
  · rfl
  split
  · by_cases hq : p + 1 = s.size
    · rw [dr_nil s (p + 1) (by omega), if_pos hq]; rfl
    · have e1 : dr s (p + 1) = b8 s (p + 1) :: dr s (p + 2) := dr_cons s (p + 1) (by omega)
      rw [if_neg hq, quoS_skip _ _ _ _ _ _ (by rw [hl]; omega), dr_drop, e1]
      simp [quoP]
  split
  · have hn := nm_le s (p + 1)
    rw [show (dr s (p + 1)).takeWhile aln8 = nmS s (p + 1) from rfl]
    split
    · rw [quoS_skip _ _ _ _ _ _ (by rw [hl]; exact hn), dr_drop]; rfl
    · rfl
  · rfl
theorem wordP_end (h : s.size ≤ p) : wordP s p ps tx = .ok (ps, tx, p) := by unfold wordP; rw [dr_nil s p h]; rfl
theorem wordP_cons (h : p < s.size) : wordP s p ps tx =
    (if (blkI (bt s p) || !(opAt (dr s p)).isEmpty) = true then .ok (ps, tx, p)
    else if bt s p = 39 then (if ((dr s (p + 1)).takeWhile nap8).length < s.size - (p + 1) then wordP s (p + ((dr s (p + 1)).takeWhile nap8).length + 2) ps (tx ++ (dr s (p + 1)).takeWhile nap8) else .err p 4)
    else if bt s p = 34 then (match quoP s (p + 1) p ps tx with
      | .ok (ps', tx', q) => wordS (dr s (p + 1)) (q - (p + 1)) (p + 1) ps' tx'
      | .err q e => .err q e)
    else if bt s p = 92 then (if p + 1 = s.size then .err p 4 else wordP s (p + 2) ps (tx ++ [b8 s (p + 1)]))
    else if bt s p = 36 then (if isVarS (nmS s (p + 1)) = true then wordP s (p + 1 + (nmS s (p + 1)).length) (flS ps tx ++ [⟨nmS s (p + 1), true, false⟩]) [] else .err p 3)
    else wordP s (p + 1) ps (tx ++ [b8 s p])) := by
  have e : dr s p = b8 s p :: dr s (p + 1) := dr_cons s p h
  have hl := dr_len s (p + 1)
  rw [show wordP s p ps tx = wordS (dr s p) 0 p ps tx from rfl, e]
  rw [show bt s p = n8 (b8 s p) from rfl]
  simp only [wordS]
  split
  · rfl
  split
  · rw [hl]
    split
    · rw [wordS_skip _ _ _ _ _ (by rw [hl]; omega), dr_drop]
      unfold wordP
      rw [show p + 1 + (((dr s (p + 1)).takeWhile nap8).length + 1) = p + ((dr s (p + 1)).takeWhile nap8).length + 2 by omega]
    · rfl
  split
  · rfl
  split
  · by_cases hq : p + 1 = s.size
    · rw [dr_nil s (p + 1) (by omega), if_pos hq]; rfl
    · have e1 : dr s (p + 1) = b8 s (p + 1) :: dr s (p + 2) := dr_cons s (p + 1) (by omega)
      rw [if_neg hq, wordS_skip _ _ _ _ _ (by rw [hl]; omega), dr_drop, e1]
      simp [wordP]
  split
  · have hn := nm_le s (p + 1)
    rw [show (dr s (p + 1)).takeWhile aln8 = nmS s (p + 1) from rfl]
    split
    · rw [wordS_skip _ _ _ _ _ (by rw [hl]; exact hn), dr_drop]; rfl
    · rfl
  · rfl
end
/-- Where the scanning between quotation marks ends. -/
theorem quoS_pos : ∀ (l : Bs) (k p beg : Nat) (ps : Wd) (tx : Bs) (ps' : Wd) (tx' : Bs) (q : Nat), quoS l k p beg ps tx = .ok (ps', tx', q) → p < q ∧ q ≤ p + l.length
  | [], k, p, beg, ps, tx, ps', tx', q, h => by unfold quoS at h; cases h
  | b :: l, k + 1, p, beg, ps, tx, ps', tx', q, h => by
    have := quoS_pos l k (p + 1) beg ps tx ps' tx' q h
    simp; omega
  | b :: l, 0, p, beg, ps, tx, ps', tx', q, h => by
    simp only [quoS] at h
    split at h
    · cases h; simp
    split at h
    · split at h
      · cases h
      · have := quoS_pos l _ (p + 1) beg _ _ ps' tx' q h
        simp; omega
    split at h
    · split at h
      · have := quoS_pos l _ (p + 1) beg _ _ ps' tx' q h
        simp; omega
      · cases h
    · have := quoS_pos l _ (p + 1) beg _ _ ps' tx' q h
      simp; omega
theorem quoP_pos (s : ByteArray) (p beg : Nat) (ps : Wd) (tx : Bs) (ps' : Wd) (tx' : Bs) (q : Nat) (hp : p ≤ s.size) (h : quoP s p beg ps tx = .ok (ps', tx', q)) : p < q ∧ q ≤ s.size := by
  have := quoS_pos _ _ _ _ _ _ _ _ _ h
  rw [dr_len] at this
  omega
theorem wordP_quo (s : ByteArray) (p : Nat) (ps : Wd) (tx : Bs) (q : Nat) (hq : p ≤ q) (hs : q ≤ s.size) : wordS (dr s p) (q - p) p ps tx = wordP s q ps tx := by
  rw [wordS_skip _ _ _ _ _ (by rw [dr_len]; omega), dr_drop, show p + (q - p) = q by omega]; rfl
end Go.Proofs.Ytiddchpkmcncdaa
