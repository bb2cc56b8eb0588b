/- Plain functions of layer 41: how words are written. -/
import Derived.Test.YtiddchpkmcncdaaK5
namespace Go.Proofs.Ytiddchpkmcncdaa
open Go.RowKit
set_option linter.unusedSimpArgs false
set_option linter.unusedVariables false
def sgnL : Bs := [46, 47, 45, 43, 58, 44, 64, 37]
def plnB (b : UInt8) : Bool := aln8 b || sgnL.contains b
def isPlnS (t : Bs) : Bool := !t.isEmpty && t.all plnB
def escB (b : UInt8) : Bool := decide (n8 b = 34) || decide (n8 b = 92) || decide (n8 b = 36)
def escS (b : UInt8) : Bs := if escB b then [92, b] else [b]
def quoteS (t : Bs) : Bs := [34] ++ t.flatMap escS ++ [34]
def pcS (aft : Bool) (p : Pc) : Bs :=
  if p.var && p.quo then [34, 36] ++ p.text ++ [34] else if p.var then [36] ++ p.text else if isPlnS p.text && !aft then p.text else quoteS p.text
def aftS (p : Pc) : Bool := p.var && !p.quo
/-- A word as it is written. -/
def txtS : Bool → Wd → Bs
  | _, [] => []
  | a, p :: ps => pcS a p ++ txtS (aftS p) ps
def lastA (a : Bool) (l : Wd) : Bool := match l.getLast? with | none => a | some q => aftS q
theorem txtS_snoc : ∀ (l : Wd) (a : Bool) (p : Pc), txtS a (l ++ [p]) = txtS a l ++ pcS (lastA a l) p
  | [], a, p => by simp [txtS, lastA]
  | q :: l, a, p => by
    rw [List.cons_append]
    simp only [txtS]
    rw [txtS_snoc l (aftS q) p, List.append_assoc]
    congr 2
    cases l with
    | nil => simp [lastA]
    | cons r l => simp [lastA, List.getLast?_cons]
theorem idx_contains : ∀ (l : Bs) (c : UInt8), (l.contains c = false → Lib.indexByte l c = -1) ∧ (l.contains c = true → 0 ≤ Lib.indexByte l c)
  | [], c => ⟨fun _ => rfl, fun h => by simp at h⟩
  | b :: l, c => by
    have ih := idx_contains l c
    by_cases hb : b = c
    · subst hb
      refine ⟨fun h => by simp at h, fun _ => ?_⟩
      unfold Lib.indexByte
      simp
    · have e : (b :: l).contains c = l.contains c := by
        rw [List.contains_cons]
        have : (c == b) = false := by simpa using fun h => hb h.symm
        rw [this]; rfl
      have hb' : (b == c) = false := by simpa using hb
      rw [e]
      refine ⟨fun h => ?_, fun h => ?_⟩
      · unfold Lib.indexByte
        rw [hb', ih.1 h]; rfl
      · have h2 := ih.2 h
        unfold Lib.indexByte
        rw [hb']
        have h3 : (Lib.indexByte l c == -1) = false := beq_false_of_ne (by omega)
        simp [h3]
        omega
theorem isPln_bad (s : ByteArray) (k : Nat) (hk : k < s.size) (h : plnB (s.data.toList.getD k 0) = false) : isPlnS s.data.toList = false := by
  unfold isPlnS
  have hl : k < s.data.toList.length := by simpa using hk
  have : s.data.toList.all plnB = false := by
    rw [List.all_eq_false]
    refine ⟨_, List.getElem_mem hl, ?_⟩
    rw [List.getD_eq_getElem?_getD, List.getElem?_eq_getElem hl] at h
    simpa using h
  rw [this]; simp
theorem isPln_good (s : ByteArray) (h : ∀ k, k < s.size → plnB (s.data.toList.getD k 0) = true) : isPlnS s.data.toList = !s.data.toList.isEmpty := by
  unfold isPlnS
  have : s.data.toList.all plnB = true := by
    rw [List.all_eq_true]
    intro x hx
    obtain ⟨k, hk, rfl⟩ := List.getElem_of_mem hx
    have := h k (by simpa using hk)
    rw [List.getD_eq_getElem?_getD, List.getElem?_eq_getElem hk] at this
    simpa using this
  rw [this]; simp
theorem esc_take (l : Bs) (k : Nat) (hk : k < l.length) : (l.take (k + 1)).flatMap escS = (l.take k).flatMap escS ++ escS (l.getD k 0) := by
  rw [List.take_succ_eq_append_getElem hk, List.flatMap_append, List.getD_eq_getElem?_getD, List.getElem?_eq_getElem hk]
  simp
theorem esc_len (l : Bs) : (l.flatMap escS).length ≤ 2 * l.length := by
  induction l with
  | nil => simp
  | cons b l ih =>
    rw [List.flatMap_cons, List.length_append, List.length_cons]
    have : (escS b).length ≤ 2 := by unfold escS; split <;> simp
    omega
end Go.Proofs.Ytiddchpkmcncdaa
