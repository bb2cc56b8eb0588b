/- Plain functions of layer 41: texts of plain bytes. -/
import Derived.Test.YtiddchpkmcncdaaK6
namespace Go.Proofs.Ytiddchpkmcncdaa
open Go.RowKit
set_option linter.unusedSimpArgs false
set_option linter.unusedVariables false
theorem wordS_stop (l : Bs) (p : Nat) (tx : Bs) (h : l = [] ∨ ∃ l', l = 32 :: l') : wordS l 0 p [] tx = .ok ([], tx, p) := by
  rcases h with rfl | ⟨l', rfl⟩
  · unfold wordS; rfl
  · simp only [wordS]
    rw [if_pos (by rfl)]
/-- A word of plain bytes. -/
theorem toks_plain (b : UInt8) (a l : Bs) (p : Nat) (ha : (b :: a).all plain8 = true) (hl : l = [] ∨ ∃ l', l = 32 :: l') : toksS ((b :: a) ++ l) 0 p = (toksS l 0 (p + (b :: a).length)).cons ⟨p, [], [lit (b :: a)], asgS ((b :: a) ++ l)⟩ := by
  have hb : plain8 b = true := by simp only [List.all_cons, Bool.and_eq_true] at ha; exact ha.1
  have hw : wordS ((b :: a) ++ l) 0 p [] [] = .ok ([], b :: a, p + (b :: a).length) := by
    rw [wordS_plains (b :: a) l p [] [] ha, List.nil_append]
    exact wordS_stop l _ _ hl
  rw [List.cons_append] at hw ⊢
  simp only [toksS]
  rw [(plain8_facts b hb).1, if_neg (by decide), opAt_plain b (a ++ l) hb, if_neg (by decide), hw]
  simp only
  rw [toksS_skip _ _ _ (by simp; omega)]
  have e1 : p + (b :: a).length - (p + 1) = a.length := by simp; omega
  rw [e1, List.drop_left]
  have e2 : p + 1 + a.length = p + (b :: a).length := by simp; omega
  rw [e2]; rfl
theorem asgS_none (l : Bs) (h : l.all neq8 = true) : asgS l = [] := by
  have : l.takeWhile neq8 = l := by
    induction l with
    | nil => rfl
    | cons b l ih =>
      simp only [List.all_cons, Bool.and_eq_true] at h
      rw [List.takeWhile_cons_of_pos h.1, ih h.2]
  unfold asgS
  rw [this, if_neg (by omega)]
theorem aln_all (c : Bs) (h : c.all aln8 = true) : c.all plain8 = true ∧ c.all neq8 = true ∧ c.all (fun b => perI (n8 b)) = true ∧ c.takeWhile aln8 = c := by
  induction c with
  | nil => exact ⟨rfl, rfl, rfl, rfl⟩
  | cons b c ih =>
    simp only [List.all_cons, Bool.and_eq_true] at h
    obtain ⟨i1, i2, i3, i4⟩ := ih h.2
    have hb := h.1
    refine ⟨by simp only [List.all_cons, Bool.and_eq_true]; exact ⟨by unfold plain8; rw [hb]; rfl, i1⟩, ?_, ?_, by rw [List.takeWhile_cons_of_pos hb, i4]⟩
    · simp only [List.all_cons, Bool.and_eq_true]
      refine ⟨?_, i2⟩
      unfold aln8 alnI ltrI digI at hb
      unfold neq8
      simp at hb ⊢
      omega
    · simp only [List.all_cons, Bool.and_eq_true]
      refine ⟨?_, i3⟩
      unfold aln8 alnI ltrI digI at hb
      unfold perI
      simp at hb ⊢
      omega
theorem badS_none (l : Bs) (h : l.all (fun b => perI (n8 b)) = true) : badS l = l.length := by
  unfold badS
  induction l with
  | nil => rfl
  | cons b l ih =>
    simp only [List.all_cons, Bool.and_eq_true] at h
    rw [List.takeWhile_cons_of_pos (p := fun b => perI (n8 b)) h.1]
    simp [ih h.2]
/-- The text echo $ .. -/
def ecS (c : Bs) : Bs := [101, 99, 104, 111, 32, 36] ++ c
def eqS (c : Bs) : Bs := c ++ [61, 49]
theorem toks_var (c : Bs) (p : Nat) (h : c.all aln8 = true) : toksS (36 :: c) 0 p = if isVarS c = true then .ok [⟨p, [], [⟨c, true, false⟩], []⟩] else .err p 3 := by
  obtain ⟨_, h2, _, h4⟩ := aln_all c h
  have hw : wordS (36 :: c) 0 p [] [] = if isVarS c = true then .ok ([⟨c, true, false⟩], [], p + 1 + c.length) else .err p 3 := by
    simp only [wordS]
    rw [if_neg (by rw [show opAt (36 :: c) = [] by simp [opAt, opsL, List.find?, List.isPrefixOf]]; decide), if_neg (by decide), if_neg (by decide), if_neg (by decide), if_pos (by decide), h4]
    by_cases hv : isVarS c = true
    · rw [if_pos hv, if_pos hv, wordS_skip _ _ _ _ _ (Nat.le_refl _), List.drop_length]
      simp [wordS, flS]
    · rw [if_neg hv, if_neg hv]
  simp only [toksS]
  rw [if_neg (by decide), if_neg (by rw [show opAt (36 :: c) = [] by simp [opAt, opsL, List.find?, List.isPrefixOf]]; decide), hw]
  by_cases hv : isVarS c = true
  · rw [if_pos hv, if_pos hv]
    simp only
    rw [toksS_skip _ _ _ (by omega)]
    have e : p + 1 + c.length - (p + 1) = c.length := by omega
    rw [e, List.drop_length]
    have ha : asgS (36 :: c) = [] := asgS_none _ (by simp only [List.all_cons, Bool.and_eq_true]; exact ⟨by decide, h2⟩)
    rw [ha]
    simp [toksS, R.cons, finS, flS]
  · rw [if_neg hv, if_neg hv]
def ecL (c : Bs) : Ln := ⟨[⟨0, [⟨[], [[lit [101, 99, 104, 111]], [⟨c, true, false⟩]], [], [], false⟩]⟩], false⟩
def eqL (c : Bs) : Ln := ⟨[⟨0, [⟨[⟨c, [lit [49]]⟩], [], [], [], false⟩]⟩], false⟩
theorem par_echo (c : Bs) (h : c.all aln8 = true) (hl : c.length ≤ 60) : parS (ecS c) = if isVarS c = true then .ok (ecL c) else .err 5 3 := by
  obtain ⟨_, h2, h3, _⟩ := aln_all c h
  have hbad : badS (ecS c) = (ecS c).length := badS_none _ (by unfold ecS; simp only [List.all_append, Bool.and_eq_true]; exact ⟨by decide, h3⟩)
  have ht : toksS (ecS c) 0 0 = (toksS (32 :: 36 :: c) 0 4).cons ⟨0, [], [lit [101, 99, 104, 111]], asgS (ecS c)⟩ := toks_plain 101 [99, 104, 111] (32 :: 36 :: c) 0 (by decide) (.inr ⟨_, rfl⟩)
  have ha : asgS (ecS c) = [] := asgS_none _ (by unfold ecS; simp only [List.all_append, Bool.and_eq_true]; exact ⟨by decide, h2⟩)
  have ht2 : toksS (32 :: 36 :: c) 0 4 = toksS (36 :: c) 0 5 := by
    rw [toksS, if_pos (by decide)]
  unfold parS
  rw [if_neg (by unfold ecS; simp; omega), hbad, if_neg (by omega), ht, ha, ht2, toks_var c 5 h]
  by_cases hv : isVarS c = true
  · rw [if_pos hv, if_pos hv]
    simp [R.cons, linS, pipS, simS, redS, smE, smNone, ecL, lit]
  · rw [if_neg hv, if_neg hv]; rfl
theorem par_eq (c : Bs) (h : c.all aln8 = true) (hl : c.length ≤ 60) (hv : isVarS c = true) : parS (eqS c) = .ok (eqL c) := by
  obtain ⟨h1, h2, h3, _⟩ := aln_all c h
  cases c with
  | nil => simp [isVarS] at hv
  | cons b c =>
    have hbad : badS (eqS (b :: c)) = (eqS (b :: c)).length := badS_none _ (by unfold eqS; simp only [List.all_append, Bool.and_eq_true]; exact ⟨h3, by decide⟩)
    have ht := toks_plain b (c ++ [61, 49]) [] 0 (by
      rw [← List.cons_append, List.all_append, h1]; decide) (.inl rfl)
    rw [List.append_nil, ← List.cons_append] at ht
    have ha : asgS (eqS (b :: c)) = b :: c := by
      have htw : (eqS (b :: c)).takeWhile neq8 = b :: c := by
        unfold eqS
        rw [List.takeWhile_append_of_pos (fun x hx => (List.all_eq_true.1 h2) x hx)]
        have : List.takeWhile neq8 [61, 49] = [] := by decide
        rw [this, List.append_nil]
      unfold asgS
      rw [htw, if_pos ⟨by unfold eqS; simp, hv⟩]
    unfold parS
    rw [if_neg (by unfold eqS; simp at hl ⊢; omega), hbad, if_neg (by omega)]
    show (match toksS (eqS (b :: c)) 0 0 with | .err p e => _ | .ok [] => _ | .ok (t :: ts) => _) = _
    have ht' : toksS (eqS (b :: c)) 0 0 = .ok [⟨0, [], [lit (eqS (b :: c))], b :: c⟩] := by
      have e : eqS (b :: c) = (b :: c) ++ [61, 49] := rfl
      rw [e, ht, ← e, ha]
      simp [toksS, R.cons]
    rw [ht']
    have hval : valS ⟨0, [], [lit (eqS (b :: c))], b :: c⟩ = [lit [49]] := by
      have e : (lit (eqS (b :: c))).text.drop ((b :: c).length + 1) = [49] := by
        show ((b :: c) ++ [61, 49]).drop ((b :: c).length + 1) = [49]
        rw [show (b :: c) ++ [61, 49] = ((b :: c) ++ [61]) ++ [49] by simp, show (b :: c).length + 1 = ((b :: c) ++ [61]).length by simp, List.drop_left]
      unfold valS
      simp only [e]
      simp [lit]
    simp [linS, pipS, simS, redS, smE, smNone, hval, eqL]
end Go.Proofs.Ytiddchpkmcncdaa
