/- Plain functions of layer 41: what a word stands for. -/
import Derived.Test.YtiddchpkmcncdaaK7
namespace Go.Proofs.Ytiddchpkmcncdaa
open Go.RowKit
set_option linter.unusedSimpArgs false
set_option linter.unusedVariables false
/-- The texts that have ended, the present text, and whether it has begun. -/
structure Ex where
  out : List Bs
  tx : Bs
  bg : Bool
def addE (t : Ex) (s : Bs) : Ex := ⟨t.out, t.tx ++ s, true⟩
def endE (t : Ex) : Ex := ⟨if t.bg then t.out ++ [t.tx] else t.out, [], false⟩
def sepB (b : UInt8) : Bool := decide (n8 b = 32) || decide (n8 b = 9) || decide (n8 b = 10)
def expC (t : Ex) (b : UInt8) : Ex := if sepB b then endE t else addE t [b]
def expP (val : Bs → Bs) (t : Ex) (p : Pc) : Ex :=
  if p.var = false then addE t p.text else if p.quo then addE t (val p.text) else (val p.text).foldl expC t
def expS (val : Bs → Bs) (ps : Wd) : List Bs := (endE (ps.foldl (expP val) ⟨[], [], false⟩)).out
/-- A bound for what is held. -/
def exM (t : Ex) : Nat := t.out.length + t.tx.length
theorem exM_add (t : Ex) (s : Bs) : exM (addE t s) = exM t + s.length := by simp [exM, addE]; omega
theorem exM_end (t : Ex) : exM (endE t) ≤ exM t + 1 := by
  unfold exM endE
  cases t.bg <;> simp <;> omega
theorem exM_C (t : Ex) (b : UInt8) : exM (expC t b) ≤ exM t + 1 := by
  unfold expC
  split
  · exact exM_end t
  · rw [exM_add]; simp
theorem exM_fold : ∀ (l : Bs) (t : Ex), exM (l.foldl expC t) ≤ exM t + l.length
  | [], t => by simp
  | b :: l, t => by
    have h1 := exM_fold l (expC t b)
    have h2 := exM_C t b
    simp only [List.foldl_cons, List.length_cons]; omega
theorem exM_P (val : Bs → Bs) (N : Nat) (t : Ex) (p : Pc) (h1 : p.text.length ≤ N) (h2 : (val p.text).length ≤ N) : exM (expP val t p) ≤ exM t + N := by
  unfold expP
  split
  · rw [exM_add]; omega
  split
  · rw [exM_add]; omega
  · have := exM_fold (val p.text) t; omega
theorem exM_all (val : Bs → Bs) (N : Nat) : ∀ (ps : Wd) (t : Ex), (∀ p ∈ ps, p.text.length ≤ N ∧ (val p.text).length ≤ N) → exM (ps.foldl (expP val) t) ≤ exM t + N * ps.length
  | [], t, h => by simp
  | p :: ps, t, h => by
    have h1 := exM_all val N ps (expP val t p) (fun q hq => h q (List.mem_cons_of_mem _ hq))
    have h2 := exM_P val N t p (h p (by simp)).1 (h p (by simp)).2
    simp only [List.foldl_cons, List.length_cons, Nat.mul_add]
    omega
theorem fold_next {α β : Type} (f : β → α → β) (l : List α) (t : β) (k : Nat) (hk : k < l.length) : (l.take (k + 1)).foldl f t = f ((l.take k).foldl f t) l[k] := by
  rw [List.take_succ_eq_append_getElem hk, List.foldl_append]; rfl
end Go.Proofs.Ytiddchpkmcncdaa
