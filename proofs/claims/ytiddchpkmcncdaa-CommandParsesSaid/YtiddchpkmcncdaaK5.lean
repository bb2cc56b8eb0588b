/- Plain functions of layer 41: the steps of a simple command, a pipeline, a line. -/
import Derived.Test.YtiddchpkmcncdaaK4
import Derived.Test.YtiddchpkmcncdaaX12
namespace Go.Proofs.Ytiddchpkmcncdaa
open Go.RowKit
set_option linter.unusedSimpArgs false
set_option linter.unusedVariables false

def dupS (t : Tk) (c : Sm) : Bool := if t.op == [60] then !c.inn.isEmpty else !c.out.isEmpty
def redC (t u : Tk) (c : Sm) : Sm := if t.op == [60] then { c with inn := u.word } else { c with out := u.word, app := c.app || t.op == [62, 62] }
theorem simS_nil (en : Nat) (c : Sm) : simS en [] c = if smNone c then .err en 30 else .ok (c, []) := by unfold simS; rfl
theorem simS_red (en : Nat) (t : Tk) (ts : List Tk) (c : Sm) (h : redS t.op = true) : simS en (t :: ts) c =
    if dupS t c = true then .err t.pos 7 else if (hdT en ts).word.isEmpty = true then .err (hdT en ts).pos 30 else simS en ts.tail (redC t (hdT en ts) c) := by
  unfold dupS redC
  cases ts with
  | nil =>
    rw [simS, h]
    simp [hdT]
  | cons u ts =>
    rw [simS, h]
    simp only [if_true, hdT, List.headD_cons, List.tail_cons]
    by_cases h1 : (t.op == [60]) = true <;> simp [h1]
theorem simS_word (en : Nat) (t : Tk) (ts : List Tk) (c : Sm) (h : redS t.op = false) (hw : t.word.isEmpty = false) : simS en (t :: ts) c =
    if (!t.name.isEmpty && c.words.isEmpty) = true then (if c.asg.length = 32 then .err t.pos 9 else simS en ts { c with asg := c.asg ++ [⟨t.name, valS t⟩] })
    else if c.words.length = 32 then .err t.pos 9 else simS en ts { c with words := c.words ++ [t.word] } := by
  cases ts with
  | nil =>
    conv => lhs; rw [simS]
    rw [h, hw]; simp
  | cons u ts => rw [simS, h, hw]; simp
theorem simS_stop (en : Nat) (t : Tk) (ts : List Tk) (c : Sm) (h : redS t.op = false) (hw : t.word.isEmpty = true) : simS en (t :: ts) c = if smNone c then .err t.pos 30 else .ok (c, t :: ts) := by
  cases ts with
  | nil => rw [simS, h, hw]; simp
  | cons u ts => rw [simS, h, hw]; simp
/-- What is left behind a simple command is an end of what was there. -/
theorem simS_suf (en : Nat) : ∀ (n : Nat) (ts : List Tk) (c c' : Sm) (ts' : List Tk), ts.length ≤ n → simS en ts c = .ok (c', ts') → ts' <:+ ts ∧ (ts = [] ∨ ts.length ≠ ts'.length ∨ c = c')
  | 0, ts, c, c', ts', hn, h => by
    obtain rfl : ts = [] := List.length_eq_zero_iff.1 (by omega)
    rw [simS_nil] at h
    split at h
    · cases h
    · cases h; exact ⟨List.suffix_refl _, .inl rfl⟩
  | n + 1, [], c, c', ts', hn, h => by
    rw [simS_nil] at h
    split at h
    · cases h
    · cases h; exact ⟨List.suffix_refl _, .inl rfl⟩
  | n + 1, t :: ts, c, c', ts', hn, h => by
    have hn' : ts.length ≤ n := by simpa using hn
    cases hr : redS t.op with
    | true =>
      rw [simS_red en t ts c hr] at h
      split at h
      · cases h
      split at h
      · cases h
      have := simS_suf en n ts.tail _ c' ts' (by simp; omega) h
      have h2 : ts.tail <:+ ts := List.tail_suffix ts
      refine ⟨(this.1.trans h2).trans (List.suffix_cons t ts), .inr (.inl ?_)⟩
      have := (this.1.trans h2).length_le
      simp; omega
    | false =>
      cases hw : t.word.isEmpty with
      | true =>
        rw [simS_stop en t ts c hr hw] at h
        split at h
        · cases h
        · cases h; exact ⟨List.suffix_refl _, .inr (.inr rfl)⟩
      | false =>
        rw [simS_word en t ts c hr hw] at h
        have key : ∀ c1, simS en ts c1 = .ok (c', ts') → ts' <:+ t :: ts ∧ (t :: ts = [] ∨ (t :: ts).length ≠ ts'.length ∨ c = c') := by
          intro c1 h
          have := simS_suf en n ts c1 c' ts' hn' h
          refine ⟨this.1.trans (List.suffix_cons t ts), .inr (.inl ?_)⟩
          have := this.1.length_le
          simp; omega
        split at h
        · split at h
          · cases h
          · exact key _ h
        · split at h
          · cases h
          · exact key _ h
theorem simS_err (en : Nat) : ∀ (n : Nat) (ts : List Tk) (c : Sm) (q : Nat) (e : Int), ts.length ≤ n → simS en ts c = .err q e → e ≠ 0
  | 0, ts, c, q, e, hn, h => by
    obtain rfl : ts = [] := List.length_eq_zero_iff.1 (by omega)
    rw [simS_nil] at h
    split at h
    · cases h; decide
    · cases h
  | n + 1, [], c, q, e, hn, h => by
    rw [simS_nil] at h
    split at h
    · cases h; decide
    · cases h
  | n + 1, t :: ts, c, q, e, hn, h => by
    have hn' : ts.length ≤ n := by simpa using hn
    cases hr : redS t.op with
    | true =>
      rw [simS_red en t ts c hr] at h
      split at h
      · cases h; decide
      split at h
      · cases h; decide
      exact simS_err en n ts.tail _ q e (by simp; omega) h
    | false =>
      cases hw : t.word.isEmpty with
      | true =>
        rw [simS_stop en t ts c hr hw] at h
        split at h
        · cases h; decide
        · cases h
      | false =>
        rw [simS_word en t ts c hr hw] at h
        split at h
        · split at h
          · cases h; decide
          · exact simS_err en n ts _ q e hn' h
        · split at h
          · cases h; decide
          · exact simS_err en n ts _ q e hn' h
/-- A simple command consumes something. -/
theorem simS_less (en : Nat) (ts : List Tk) (c' : Sm) (ts' : List Tk) (h : simS en ts smE = .ok (c', ts')) : ts' <:+ ts ∧ ts'.length < ts.length := by
  have h1 := simS_suf en ts.length ts smE c' ts' (Nat.le_refl _) h
  refine ⟨h1.1, ?_⟩
  cases ts with
  | nil => simp [simS_nil, smNone, smE] at h
  | cons t ts =>
    have hl := h1.1.length_le
    rcases h1.2 with h2 | h2 | h2
    · cases h2
    · simp at hl h2 ⊢; omega
    · subst h2
      cases hr : redS t.op with
      | true =>
        rw [simS_red en t ts _ hr] at h
        split at h
        · cases h
        split at h
        · cases h
        have := (simS_suf en _ ts.tail _ _ ts' (Nat.le_refl _) h).1.length_le
        simp at this ⊢; omega
      | false =>
        cases hw : t.word.isEmpty with
        | true => rw [simS_stop en t ts _ hr hw] at h; simp [smNone, smE] at h
        | false =>
          rw [simS_word en t ts _ hr hw] at h
          split at h
          · split at h
            · cases h
            · have := (simS_suf en _ ts _ _ ts' (Nat.le_refl _) h).1.length_le
              simp; omega
          · split at h
            · cases h
            · have := (simS_suf en _ ts _ _ ts' (Nat.le_refl _) h).1.length_le
              simp; omega
end Go.Proofs.Ytiddchpkmcncdaa
