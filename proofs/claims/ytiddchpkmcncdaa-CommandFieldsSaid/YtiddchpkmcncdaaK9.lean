/- Plain functions of layer 41: parsing what was written for a text. -/
import Derived.Test.YtiddchpkmcncdaaK8
namespace Go.Proofs.Ytiddchpkmcncdaa
open Go.RowKit
set_option linter.unusedSimpArgs false
set_option linter.unusedVariables false
/-- A byte that stands for itself in a word. -/
def ord8 (b : UInt8) : Bool := !blkI (n8 b) && decide (n8 b ≠ 39) && decide (n8 b ≠ 34) && decide (n8 b ≠ 92) && decide (n8 b ≠ 36) && decide (n8 b ≠ 124) && decide (n8 b ≠ 38) && decide (n8 b ≠ 62) && decide (n8 b ≠ 59) && decide (n8 b ≠ 60)
theorem ord8_facts (b : UInt8) (h : ord8 b = true) : blkI (n8 b) = false ∧ n8 b ≠ 39 ∧ n8 b ≠ 34 ∧ n8 b ≠ 92 ∧ n8 b ≠ 36 ∧ n8 b ≠ 124 ∧ n8 b ≠ 38 ∧ n8 b ≠ 62 ∧ n8 b ≠ 59 ∧ n8 b ≠ 60 := by
  unfold ord8 at h
  simpa [Bool.and_eq_true, and_assoc] using h
theorem opAt_nine (b : UInt8) (l : Bs) (h1 : n8 b ≠ 124) (h2 : n8 b ≠ 38) (h3 : n8 b ≠ 62) (h4 : n8 b ≠ 59) (h5 : n8 b ≠ 60) : opAt (b :: l) = [] := by
  have e : ∀ c : UInt8, n8 b ≠ n8 c → (c == b) = false := by
    intro c hc
    simp only [beq_eq_false_iff_ne]
    rintro rfl
    exact hc rfl
  have e1 : ((124 : UInt8) == b) = false := e 124 (by show n8 b ≠ 124; exact h1)
  have e2 : ((38 : UInt8) == b) = false := e 38 (by show n8 b ≠ 38; exact h2)
  have e3 : ((62 : UInt8) == b) = false := e 62 (by show n8 b ≠ 62; exact h3)
  have e4 : ((59 : UInt8) == b) = false := e 59 (by show n8 b ≠ 59; exact h4)
  have e5 : ((60 : UInt8) == b) = false := e 60 (by show n8 b ≠ 60; exact h5)
  simp [opAt, opsL, List.find?, List.isPrefixOf, e1, e2, e3, e4, e5]
theorem opAt_ord (b : UInt8) (l : Bs) (h : ord8 b = true) : opAt (b :: l) = [] := by
  have f := ord8_facts b h
  exact opAt_nine b l f.2.2.2.2.2.1 f.2.2.2.2.2.2.1 f.2.2.2.2.2.2.2.1 f.2.2.2.2.2.2.2.2.1 f.2.2.2.2.2.2.2.2.2
theorem wordS_ord (b : UInt8) (l : Bs) (p : Nat) (ps : Wd) (tx : Bs) (h : ord8 b = true) : wordS (b :: l) 0 p ps tx = wordS l 0 (p + 1) ps (tx ++ [b]) := by
  have f := ord8_facts b h
  simp only [wordS]
  rw [opAt_ord b l h, f.1, if_neg (by decide), if_neg f.2.1, if_neg f.2.2.1, if_neg f.2.2.2.1, if_neg f.2.2.2.2.1]
theorem wordS_ords : ∀ (a l : Bs) (p : Nat) (ps : Wd) (tx : Bs), a.all ord8 = true → wordS (a ++ l) 0 p ps tx = wordS l 0 (p + a.length) ps (tx ++ a)
  | [], l, p, ps, tx, _ => by simp
  | b :: a, l, p, ps, tx, h => by
    simp only [List.all_cons, Bool.and_eq_true] at h
    rw [List.cons_append, wordS_ord b _ p ps tx h.1, wordS_ords a l (p + 1) ps _ h.2]
    simp [Nat.add_assoc, Nat.add_comm 1]
theorem pln_ord (b : UInt8) (h : plnB b = true) : ord8 b = true ∧ neq8 b = true ∧ perI (n8 b) = true := by
  unfold plnB at h
  rw [Bool.or_eq_true] at h
  rcases h with h | h
  · unfold aln8 alnI ltrI digI at h
    unfold ord8 neq8 perI blkI
    simp at h ⊢
    omega
  · have hm := List.contains_iff_mem.1 h
    simp only [sgnL, List.mem_cons, List.not_mem_nil, or_false] at hm
    rcases hm with rfl | rfl | rfl | rfl | rfl | rfl | rfl | rfl <;> decide
theorem all_imp (p q : UInt8 → Bool) (h : ∀ b, p b = true → q b = true) (l : Bs) (hl : l.all p = true) : l.all q = true := by
  rw [List.all_eq_true] at hl ⊢
  exact fun x hx => h x (hl x hx)
theorem isVar_head (b : UInt8) (l : Bs) (h : ltrI (n8 b) = false) : isVarS (b :: l) = false := by
  unfold isVarS
  simp [h]
theorem quoS_esc : ∀ (l rest : Bs) (p beg : Nat) (ps : Wd) (tx : Bs), quoS (l.flatMap escS ++ 34 :: rest) 0 p beg ps tx = .ok (ps, tx ++ l, p + (l.flatMap escS).length + 1)
  | [], rest, p, beg, ps, tx => by
    simp only [List.flatMap_nil, List.nil_append, quoS]
    rw [if_pos (by decide)]; simp
  | b :: l, rest, p, beg, ps, tx => by
    rw [List.flatMap_cons, List.append_assoc]
    by_cases he : escB b = true
    · have e : escS b = [92, b] := by unfold escS; rw [if_pos he]
      rw [e, List.cons_append, List.cons_append, List.nil_append]
      simp only [quoS]
      rw [if_neg (by decide), if_pos (by decide), if_neg (by simp)]
      rw [List.headD_cons, quoS_esc l rest (p + 1 + 1) beg ps (tx ++ [b])]
      simp; omega
    · have e : escS b = [b] := by unfold escS; rw [if_neg he]
      rw [e, List.cons_append, List.nil_append]
      unfold escB at he
      simp only [Bool.or_eq_true, decide_eq_true_eq, not_or] at he
      simp only [quoS]
      rw [if_neg he.1.1, if_neg he.1.2, if_neg he.2, quoS_esc l rest (p + 1) beg ps (tx ++ [b])]
      simp; omega
def litL (l : Bs) : Ln := ⟨[⟨0, [⟨[], [[lit l]], [], [], false⟩]⟩], false⟩
theorem fin_lit (l : Bs) : finS [] l = [lit l] := by cases l <;> rfl
theorem lin_lit (l : Bs) (n p : Nat) : linS n 16 [⟨p, [], [lit l], []⟩] 0 [] = .ok (litL l) := by
  simp [linS, pipS, simS, redS, smE, smNone, litL, lit]
theorem par_pln (l : Bs) (hl : l.length ≤ 200) (h : isPlnS l = true) : parS l = .ok (litL l) := by
  unfold isPlnS at h
  simp only [Bool.and_eq_true] at h
  have h1 := all_imp _ _ (fun b hb => (pln_ord b hb).1) l h.2
  have h2 := all_imp _ _ (fun b hb => (pln_ord b hb).2.1) l h.2
  have h3 := all_imp _ (fun b => perI (n8 b)) (fun b hb => (pln_ord b hb).2.2) l h.2
  cases l with
  | nil => simp at h
  | cons b l =>
    have hb : ord8 b = true := by simp only [List.all_cons, Bool.and_eq_true] at h1; exact h1.1
    have hw : wordS (b :: l) 0 0 [] [] = .ok ([], b :: l, (b :: l).length) := by
      have := wordS_ords (b :: l) [] 0 [] [] h1
      rw [List.append_nil] at this
      rw [this]
      simp [wordS]
    have ht : toksS (b :: l) 0 0 = .ok [⟨0, [], [lit (b :: l)], []⟩] := by
      simp only [toksS]
      rw [(ord8_facts b hb).1, if_neg (by decide), opAt_ord b l hb, if_neg (by decide), hw]
      simp only
      rw [toksS_skip _ _ _ (by simp), asgS_none _ h2, fin_lit]
      have e : (b :: l).length - (0 + 1) = l.length := by simp
      rw [e, List.drop_length]
      simp [toksS, R.cons]
    unfold parS
    rw [if_neg (by omega), badS_none _ h3, if_neg (by omega), ht]
    exact lin_lit _ _ _
theorem par_quo (l : Bs) (hl : l.length ≤ 200) (h : l.all (fun b => perI (n8 b)) = true) : parS (quoteS l) = .ok (litL l) := by
  have he := esc_len l
  have hq : quoteS l = 34 :: (l.flatMap escS ++ [34]) := by unfold quoteS; simp
  have hper : (quoteS l).all (fun b => perI (n8 b)) = true := by
    rw [List.all_eq_true] at h ⊢
    intro x hx
    unfold quoteS at hx
    simp only [List.mem_append, List.mem_singleton, List.mem_flatMap] at hx
    rcases hx with (rfl | ⟨y, hy, hxy⟩) | rfl
    · decide
    · unfold escS at hxy
      split at hxy
      · simp only [List.mem_cons, List.not_mem_nil, or_false] at hxy
        rcases hxy with rfl | rfl
        · decide
        · exact h _ hy
      · simp only [List.mem_singleton] at hxy
        rw [hxy]; exact h _ hy
    · decide
  have hw : wordS (quoteS l) 0 0 [] [] = .ok ([], l, (quoteS l).length) := by
    rw [hq]
    simp only [wordS]
    rw [opAt_nine 34 _ (by decide) (by decide) (by decide) (by decide) (by decide), if_neg (by decide), if_neg (by decide), if_pos (by decide), quoS_esc l [] (0 + 1) 0 [] []]
    simp only [List.nil_append]
    have e : 0 + 1 + (l.flatMap escS).length + 1 - (0 + 1) = (l.flatMap escS ++ [34]).length := by simp; omega
    rw [e, wordS_skip _ _ _ _ _ (Nat.le_refl _), List.drop_length]
    simp [wordS]; omega
  have ha : asgS (quoteS l) = [] := by
    rw [hq]
    unfold asgS
    rw [if_neg]
    rintro ⟨_, hv⟩
    rw [List.takeWhile_cons_of_pos (by decide), isVar_head _ _ (by decide)] at hv
    cases hv
  have ht : toksS (quoteS l) 0 0 = .ok [⟨0, [], [lit l], []⟩] := by
    rw [hq] at hw ha ⊢
    simp only [toksS]
    rw [if_neg (by decide), opAt_nine 34 _ (by decide) (by decide) (by decide) (by decide) (by decide), if_neg (by decide), hw]
    simp only
    rw [toksS_skip _ _ _ (by simp), ha, fin_lit]
    have e : (34 :: (l.flatMap escS ++ [34])).length - (0 + 1) = (l.flatMap escS ++ [34]).length := by simp
    rw [e, List.drop_length]
    simp [toksS, R.cons]
  have hlen : (quoteS l).length ≤ 402 := by rw [hq, List.length_cons, List.length_append, List.length_singleton]; omega
  unfold parS
  rw [if_neg (by omega), badS_none _ hper, if_neg (by omega), ht]
  exact lin_lit _ _ _
theorem txt_lit (l : Bs) : txtS false [lit l] = pcS false (lit l) := by simp [txtS]
theorem par_lit (l : Bs) (hl : l.length ≤ 200) (h : l.all (fun b => perI (n8 b)) = true) : parS (txtS false [lit l]) = .ok (litL l) := by
  rw [txt_lit]
  unfold pcS
  rw [if_neg (by simp [lit]), if_neg (by simp [lit])]
  by_cases hp : isPlnS l = true
  · rw [if_pos (by show (isPlnS l && !false) = true; rw [hp]; rfl)]
    exact par_pln l hl hp
  · rw [if_neg (by show ¬ (isPlnS l && !false) = true; rw [Bool.not_false, Bool.and_true]; exact hp)]
    exact par_quo l hl h
theorem exp_lit (val : Bs → Bs) (l : Bs) : expS val [lit l] = [l] := by
  simp [expS, expP, addE, endE, lit]
theorem txt_lit_len (l : Bs) : (txtS false [lit l]).length ≤ 2 * l.length + 3 := by
  have h1 := esc_len l
  have h2 : (quoteS l).length = 1 + (l.flatMap escS).length + 1 := by unfold quoteS; rw [List.length_append, List.length_append]; rfl
  rw [txt_lit]
  unfold pcS
  rw [if_neg (by simp [lit]), if_neg (by simp [lit])]
  split
  · show l.length ≤ _; omega
  · show (quoteS l).length ≤ _; omega
end Go.Proofs.Ytiddchpkmcncdaa
