/- Plain functions of layer 41: lengths of words; the word behind the = of an assignment. -/
import Derived.Test.YtiddchpkmcncdaaK3
namespace Go.Proofs.Ytiddchpkmcncdaa
open Go.RowKit
set_option linter.unusedSimpArgs false
set_option linter.unusedVariables false
theorem flS_app (ps : Wd) (tx : Bs) : flS ps tx = ps ++ flS [] tx := by
  unfold flS
  cases tx <;> simp
theorem flS_le (ps : Wd) (tx : Bs) : (flS ps tx).length ≤ ps.length + tx.length := by
  unfold flS
  cases tx <;> simp
theorem tw_le (p : UInt8 → Bool) (l : Bs) : (l.takeWhile p).length ≤ l.length := (List.takeWhile_prefix p).length_le
theorem quoS_len : ∀ (l : Bs) (k p beg : Nat) (ps : Wd) (tx : Bs) (ps' : Wd) (tx' : Bs) (q : Nat), k ≤ l.length → quoS l k p beg ps tx = .ok (ps', tx', q) → ps'.length + tx'.length + (p + k) ≤ ps.length + tx.length + q
  | [], k, p, beg, ps, tx, ps', tx', q, _, h => by unfold quoS at h; cases h
  | b :: l, k + 1, p, beg, ps, tx, ps', tx', q, hk, h => by
    have := quoS_len l k (p + 1) beg ps tx ps' tx' q (by simpa using hk) h
    omega
  | b :: l, 0, p, beg, ps, tx, ps', tx', q, hk, h => by
    simp only [quoS] at h
    split at h
    · cases h; omega
    split at h
    · split at h
      · cases h
      · rename_i hl
        have hl' : 1 ≤ l.length := by cases l with | nil => exact absurd rfl hl | cons a l => simp
        have := quoS_len l 1 (p + 1) beg _ _ ps' tx' q hl' h
        simp at this; omega
    split at h
    · split at h
      · rename_i hv
        have hne : 0 < (l.takeWhile aln8).length := by
          cases ht : l.takeWhile aln8 with
          | nil => rw [ht] at hv; simp [isVarS] at hv
          | cons a l => simp
        have := quoS_len l _ (p + 1) beg _ _ ps' tx' q (tw_le _ _) h
        have h2 := flS_le ps tx
        simp at this; omega
      · cases h
    · have := quoS_len l 0 (p + 1) beg _ _ ps' tx' q (Nat.zero_le _) h
      simp at this; omega
theorem wordS_len : ∀ (l : Bs) (k p : Nat) (ps : Wd) (tx : Bs) (ps' : Wd) (tx' : Bs) (q : Nat), k ≤ l.length → wordS l k p ps tx = .ok (ps', tx', q) → ps'.length + tx'.length + (p + k) ≤ ps.length + tx.length + q
  | [], k, p, ps, tx, ps', tx', q, hk, h => by
    unfold wordS at h; cases h
    simp at hk; omega
  | b :: l, k + 1, p, ps, tx, ps', tx', q, hk, h => by
    have := wordS_len l k (p + 1) ps tx ps' tx' q (by simpa using hk) h
    omega
  | b :: l, 0, p, ps, tx, ps', tx', q, hk, h => by
    simp only [wordS] at h
    split at h
    · cases h; omega
    split at h
    · split at h
      · rename_i hl
        have := wordS_len l _ (p + 1) _ _ ps' tx' q (by omega) h
        simp at this; omega
      · cases h
    split at h
    · split at h
      · rename_i ps1 tx1 q1 hq
        have h1 := quoS_len l 0 (p + 1) p ps tx ps1 tx1 q1 (Nat.zero_le _) hq
        have h2 := quoS_pos l 0 (p + 1) p ps tx ps1 tx1 q1 hq
        have h3 := wordS_len l _ (p + 1) _ _ ps' tx' q (by omega) h
        omega
      · cases h
    split at h
    · split at h
      · cases h
      · rename_i hl
        have hl' : 1 ≤ l.length := by cases l with | nil => exact absurd rfl hl | cons a l => simp
        have := wordS_len l 1 (p + 1) _ _ ps' tx' q hl' h
        simp at this; omega
    split at h
    · split at h
      · rename_i hv
        have hne : 0 < (l.takeWhile aln8).length := by
          cases ht : l.takeWhile aln8 with
          | nil => rw [ht] at hv; simp [isVarS] at hv
          | cons a l => simp
        have := wordS_len l _ (p + 1) _ _ ps' tx' q (tw_le _ _) h
        have h2 := flS_le ps tx
        simp at this; omega
      · cases h
    · have := wordS_len l 0 (p + 1) _ _ ps' tx' q (Nat.zero_le _) h
      simp at this; omega
/-- The same with a text ahead of the first piece. -/
def Pre (a : Bs) (ps : Wd) (tx : Bs) (ps0 : Wd) (tx0 : Bs) : Prop :=
  (ps = [] ∧ ps0 = [] ∧ tx0 = a ++ tx) ∨ (tx = tx0 ∧ ∃ b rest, rest ≠ [] ∧ ps = flS [] b ++ rest ∧ ps0 = lit (a ++ b) :: rest)
theorem Pre.text {a : Bs} {ps ps0 : Wd} {tx tx0 : Bs} (h : Pre a ps tx ps0 tx0) (c : Bs) : Pre a ps (tx ++ c) ps0 (tx0 ++ c) := by
  rcases h with ⟨rfl, rfl, rfl⟩ | ⟨rfl, b, rest, hr, rfl, rfl⟩
  · exact .inl ⟨rfl, rfl, by simp⟩
  · exact .inr ⟨rfl, b, rest, hr, rfl, rfl⟩
theorem Pre.var {a : Bs} {ps ps0 : Wd} {tx tx0 : Bs} (ha : a ≠ []) (h : Pre a ps tx ps0 tx0) (x : Pc) : Pre a (flS ps tx ++ [x]) [] (flS ps0 tx0 ++ [x]) [] := by
  rcases h with ⟨rfl, rfl, rfl⟩ | ⟨rfl, b, rest, hr, rfl, rfl⟩
  · refine .inr ⟨rfl, tx, [x], by simp, rfl, ?_⟩
    cases a with
    | nil => exact absurd rfl ha
    | cons c a => rfl
  · refine .inr ⟨rfl, b, rest ++ flS [] tx ++ [x], by simp, ?_, ?_⟩
    · rw [flS_app]; simp
    · rw [flS_app]; simp
/-- Two readings that part in the text ahead alone. -/
def PreR (a : Bs) (x y : R (Wd × Bs × Nat)) : Prop :=
  (∃ ps tx q ps0 tx0, x = .ok (ps, tx, q) ∧ y = .ok (ps0, tx0, q) ∧ Pre a ps tx ps0 tx0) ∨ ∃ q e, x = .err q e ∧ y = .err q e
theorem quoS_pre (a : Bs) (ha : a ≠ []) : ∀ (l : Bs) (k p beg : Nat) (ps : Wd) (tx : Bs) (ps0 : Wd) (tx0 : Bs), Pre a ps tx ps0 tx0 → PreR a (quoS l k p beg ps tx) (quoS l k p beg ps0 tx0)
  | [], k, p, beg, ps, tx, ps0, tx0, h => .inr ⟨beg, 4, by unfold quoS; rfl, by unfold quoS; rfl⟩
  | b :: l, k + 1, p, beg, ps, tx, ps0, tx0, h => quoS_pre a ha l k (p + 1) beg ps tx ps0 tx0 h
  | b :: l, 0, p, beg, ps, tx, ps0, tx0, h => by
    simp only [quoS]
    split
    · exact .inl ⟨_, _, _, _, _, rfl, rfl, h⟩
    split
    · split
      · exact .inr ⟨_, _, rfl, rfl⟩
      · exact quoS_pre a ha l _ (p + 1) beg _ _ _ _ (h.text _)
    split
    · split
      · exact quoS_pre a ha l _ (p + 1) beg _ _ _ _ (h.var ha _)
      · exact .inr ⟨_, _, rfl, rfl⟩
    · exact quoS_pre a ha l _ (p + 1) beg _ _ _ _ (h.text _)
theorem wordS_pre (a : Bs) (ha : a ≠ []) : ∀ (l : Bs) (k p : Nat) (ps : Wd) (tx : Bs) (ps0 : Wd) (tx0 : Bs), Pre a ps tx ps0 tx0 → PreR a (wordS l k p ps tx) (wordS l k p ps0 tx0)
  | [], k, p, ps, tx, ps0, tx0, h => .inl ⟨_, _, _, _, _, by unfold wordS; rfl, by unfold wordS; rfl, h⟩
  | b :: l, k + 1, p, ps, tx, ps0, tx0, h => wordS_pre a ha l k (p + 1) ps tx ps0 tx0 h
  | b :: l, 0, p, ps, tx, ps0, tx0, h => by
    simp only [wordS]
    split
    · exact .inl ⟨_, _, _, _, _, rfl, rfl, h⟩
    split
    · split
      · exact wordS_pre a ha l _ (p + 1) _ _ _ _ (h.text _)
      · exact .inr ⟨_, _, rfl, rfl⟩
    split
    · rcases quoS_pre a ha l 0 (p + 1) p ps tx ps0 tx0 h with ⟨ps1, tx1, q, ps2, tx2, e1, e2, h2⟩ | ⟨q, e, e1, e2⟩
      · rw [e1, e2]
        exact wordS_pre a ha l _ (p + 1) _ _ _ _ h2
      · rw [e1, e2]
        exact .inr ⟨_, _, rfl, rfl⟩
    split
    · split
      · exact .inr ⟨_, _, rfl, rfl⟩
      · exact wordS_pre a ha l _ (p + 1) _ _ _ _ (h.text _)
    split
    · split
      · exact wordS_pre a ha l _ (p + 1) _ _ _ _ (h.var ha _)
      · exact .inr ⟨_, _, rfl, rfl⟩
    · exact wordS_pre a ha l _ (p + 1) _ _ _ _ (h.text _)
/-- A byte that stands for itself wherever it is. -/
def plain8 (b : UInt8) : Bool := aln8 b || decide (n8 b = 61)
theorem plain8_facts (b : UInt8) (h : plain8 b = true) : blkI (n8 b) = false ∧ n8 b ≠ 39 ∧ n8 b ≠ 34 ∧ n8 b ≠ 92 ∧ n8 b ≠ 36 ∧ n8 b ≠ 124 ∧ n8 b ≠ 38 ∧ n8 b ≠ 62 ∧ n8 b ≠ 59 ∧ n8 b ≠ 60 := by
  unfold plain8 aln8 alnI ltrI digI at h
  unfold blkI
  simp at h
  have := n8_bd b
  refine ⟨by simp; omega, ?_⟩
  omega
theorem opAt_plain (b : UInt8) (l : Bs) (h : plain8 b = true) : opAt (b :: l) = [] := by
  have f := plain8_facts b h
  have e : ∀ c : UInt8, n8 b ≠ n8 c → (c == b) = false := by
    intro c hc
    simp only [beq_eq_false_iff_ne]
    rintro rfl
    exact hc rfl
  have e1 : ((124 : UInt8) == b) = false := e 124 (by show n8 b ≠ 124; exact f.2.2.2.2.2.1)
  have e2 : ((38 : UInt8) == b) = false := e 38 (by show n8 b ≠ 38; exact f.2.2.2.2.2.2.1)
  have e3 : ((62 : UInt8) == b) = false := e 62 (by show n8 b ≠ 62; exact f.2.2.2.2.2.2.2.1)
  have e4 : ((59 : UInt8) == b) = false := e 59 (by show n8 b ≠ 59; exact f.2.2.2.2.2.2.2.2.1)
  have e5 : ((60 : UInt8) == b) = false := e 60 (by show n8 b ≠ 60; exact f.2.2.2.2.2.2.2.2.2)
  simp [opAt, opsL, List.find?, List.isPrefixOf, e1, e2, e3, e4, e5]
theorem wordS_plain (b : UInt8) (l : Bs) (p : Nat) (ps : Wd) (tx : Bs) (h : plain8 b = true) : wordS (b :: l) 0 p ps tx = wordS l 0 (p + 1) ps (tx ++ [b]) := by
  have f := plain8_facts b h
  simp only [wordS]
  rw [opAt_plain b l h, f.1, if_neg (by decide), if_neg f.2.1, if_neg f.2.2.1, if_neg f.2.2.2.1, if_neg f.2.2.2.2.1]
theorem wordS_plains : ∀ (a l : Bs) (p : Nat) (ps : Wd) (tx : Bs), a.all plain8 = true → wordS (a ++ l) 0 p ps tx = wordS l 0 (p + a.length) ps (tx ++ a)
  | [], l, p, ps, tx, _ => by simp
  | b :: a, l, p, ps, tx, h => by
    simp only [List.all_cons, Bool.and_eq_true] at h
    rw [List.cons_append, wordS_plain b _ p ps tx h.1, wordS_plains a l (p + 1) ps _ h.2]
    simp [Nat.add_assoc, Nat.add_comm 1]
theorem tw_split (p : UInt8 → Bool) : ∀ l : Bs, (l.takeWhile p).length < l.length → ∃ c l', l = l.takeWhile p ++ c :: l' ∧ p c = false
  | [], h => by simp at h
  | b :: l, h => by
    by_cases hb : p b = true
    · rw [List.takeWhile_cons_of_pos hb] at h ⊢
      obtain ⟨c, l', e, hc⟩ := tw_split p l (by simpa using h)
      exact ⟨c, l', by rw [List.cons_append, ← e], hc⟩
    · rw [List.takeWhile_cons_of_neg hb]
      exact ⟨b, l, rfl, by simpa using hb⟩
theorem asgS_form (l : Bs) (h : asgS l ≠ []) : ∃ l', l = asgS l ++ 61 :: l' ∧ isVarS (asgS l) = true ∧ (asgS l ++ [61]).all plain8 = true := by
  unfold asgS at h ⊢
  split at h
  · rename_i hc
    rw [if_pos hc]
    obtain ⟨c, l', e, hn⟩ := tw_split neq8 l hc.1
    have hcc : c = 61 := by
      unfold neq8 at hn
      simp at hn
      have := (n8_eq c 61 (by decide)).1 hn
      simpa using this
    subst hcc
    refine ⟨l', e, hc.2, ?_⟩
    have hv := hc.2
    unfold isVarS at hv
    simp only [Bool.and_eq_true] at hv
    simp only [List.all_append, Bool.and_eq_true]
    refine ⟨?_, by decide⟩
    rw [List.all_eq_true] at hv ⊢
    intro x hx
    have := hv.2 x hx
    unfold plain8 aln8
    rw [this]; rfl
  · exact absurd rfl h
/-- The word of an assignment, and what stands behind its =. -/
theorem asg_word (l : Bs) (p : Nat) (h : asgS l ≠ []) : ∃ l', l = asgS l ++ 61 :: l' ∧ isVarS (asgS l) = true ∧ PreR (asgS l ++ [61]) (wordS l' 0 (p + ((asgS l).length + 1)) [] []) (wordS l 0 p [] []) := by
  obtain ⟨l', e, hv, ha⟩ := asgS_form l h
  refine ⟨l', e, hv, ?_⟩
  have e2 : wordS l 0 p [] [] = wordS l' 0 (p + ((asgS l).length + 1)) [] (asgS l ++ [61]) := by
    have := wordS_plains (asgS l ++ [61]) l' p [] [] ha
    rw [List.append_assoc, List.singleton_append, ← e] at this
    rw [this]
    simp
  rw [e2]
  exact wordS_pre _ (by simp) l' 0 _ [] [] [] _ (.inl ⟨rfl, rfl, by simp⟩)
theorem finS_ne (ps : Wd) (tx : Bs) : finS ps tx ≠ [] := by
  unfold finS
  split
  · simp
  · rename_i h; intro e; rw [e] at h; exact h rfl
/-- The value of a token of an assignment. -/
theorem Pre.val {a : Bs} {ps ps0 : Wd} {tx tx0 : Bs} (ha : a ≠ []) (h : Pre a ps tx ps0 tx0) : ∃ b r, finS ps0 tx0 = lit (a ++ b) :: r ∧ ((b.isEmpty && !r.isEmpty) = true ∧ finS ps tx = r ∨ (b.isEmpty && !r.isEmpty) = false ∧ finS ps tx = lit b :: r) := by
  rcases h with ⟨rfl, rfl, rfl⟩ | ⟨rfl, b, rest, hr, rfl, rfl⟩
  · refine ⟨tx, [], ?_, .inr ⟨by simp, ?_⟩⟩
    · cases a with
      | nil => exact absurd rfl ha
      | cons c a => rfl
    · cases tx with
      | nil => rfl
      | cons c t => rfl
  · refine ⟨b, rest ++ flS [] tx, ?_, ?_⟩
    · unfold finS
      rw [flS_app]; rfl
    · have hne : (rest ++ flS [] tx).isEmpty = false := by
        cases rest with
        | nil => exact absurd rfl hr
        | cons c t => rfl
      rw [hne]
      have e : finS (flS [] b ++ rest) tx = flS [] b ++ (rest ++ flS [] tx) := by
        unfold finS
        rw [flS_app, if_neg (by
          rw [List.append_assoc]
          cases rest with
          | nil => exact absurd rfl hr
          | cons c t => simp), List.append_assoc]
      rw [e]
      cases b with
      | nil => exact .inl ⟨rfl, rfl⟩
      | cons c t => exact .inr ⟨rfl, rfl⟩
/-- What is known of each token. -/
def TkOk (N : Nat) (t : Tk) : Prop := t.word.length ≤ N + 1 ∧ t.name.length ≤ 16 ∧ (t.name ≠ [] → ∃ f r, t.word = f :: r ∧ t.name.length + 1 ≤ f.text.length) ∧ (t.op ≠ [] → t.word = [] ∧ t.name = []) ∧ (t.op = [] → t.word ≠ [])
theorem asgS_len (l : Bs) : (asgS l).length ≤ 16 := by
  by_cases h : asgS l = []
  · rw [h]; simp
  · obtain ⟨_, _, hv, _⟩ := asgS_form l h
    unfold isVarS at hv
    simp at hv
    omega
theorem finS_len (ps : Wd) (tx : Bs) : (finS ps tx).length ≤ ps.length + tx.length + 1 := by
  have := flS_le ps tx
  unfold finS
  split <;> simp <;> omega
theorem tok_ok (l : Bs) (p : Nat) (ps : Wd) (tx : Bs) (q : Nat) (h : wordS l 0 p [] [] = .ok (ps, tx, q)) : TkOk l.length ⟨p, [], finS ps tx, asgS l⟩ := by
  have h1 := wordS_len l 0 p [] [] ps tx q (Nat.zero_le _) h
  have h2 := wordS_pos l 0 p [] [] ps tx q h
  have h3 := finS_len ps tx
  refine ⟨by simp at h1 ⊢; omega, asgS_len l, fun hn => ?_, fun h => absurd rfl h, fun _ => finS_ne ps tx⟩
  obtain ⟨l', e, hv, hr⟩ := asg_word l p hn
  rw [h] at hr
  rcases hr with ⟨ps1, tx1, q1, ps0, tx0, e1, e2, hp⟩ | ⟨q1, e1, _, e2⟩
  · cases e2
    obtain ⟨b, r, hf, _⟩ := hp.val (by simp)
    exact ⟨lit (asgS l ++ [61] ++ b), r, hf, by simp [lit]⟩
  · cases e2
/-- The value of an assignment is the word behind its =. -/
theorem tok_val (l : Bs) (p : Nat) (ps : Wd) (tx : Bs) (q : Nat) (h : wordS l 0 p [] [] = .ok (ps, tx, q)) (hn : asgS l ≠ []) : ∃ ps1 tx1, wordS (l.drop ((asgS l).length + 1)) 0 (p + ((asgS l).length + 1)) [] [] = .ok (ps1, tx1, q) ∧ valS ⟨p, [], finS ps tx, asgS l⟩ = finS ps1 tx1 := by
  obtain ⟨l', e, hv, hr⟩ := asg_word l p hn
  have hd' : ∀ nm : Bs, l = nm ++ 61 :: l' → l.drop (nm.length + 1) = l' := by
    rintro nm rfl
    rw [show nm.length + 1 = (nm ++ [61]).length by simp, show nm ++ 61 :: l' = (nm ++ [61]) ++ l' by simp, List.drop_left]
  have hd := hd' _ e
  rw [h] at hr
  rcases hr with ⟨ps1, tx1, q1, ps0, tx0, e1, e2, hp⟩ | ⟨q1, e1, _, e2⟩
  · cases e2
    refine ⟨ps1, tx1, by rw [hd]; exact e1, ?_⟩
    obtain ⟨b, r, hf, hc⟩ := hp.val (by simp)
    unfold valS
    rw [hf]
    have e3 : (lit (asgS l ++ [61] ++ b)).text.drop ((asgS l).length + 1) = b := by
      show (asgS l ++ [61] ++ b).drop ((asgS l).length + 1) = b
      rw [show (asgS l).length + 1 = (asgS l ++ [61]).length by simp, List.drop_left]
    simp only [e3]
    rcases hc with ⟨h1, h2⟩ | ⟨h1, h2⟩
    · rw [if_pos h1, h2]
    · rw [if_neg (by rw [h1]; decide), h2]; rfl
  · cases e2
theorem cons_ok {t : Tk} {r : R (List Tk)} {ts : List Tk} (h : r.cons t = .ok ts) : ∃ ts', r = .ok ts' ∧ ts = t :: ts' := by
  cases r with
  | ok a => injection h with h; exact ⟨a, rfl, h.symm⟩
  | err p e => cases h
theorem toks_ok (N : Nat) : ∀ (l : Bs) (k p : Nat) (ts : List Tk), l.length ≤ N → toksS l k p = .ok ts → (∀ t ∈ ts, TkOk N t) ∧ ts.length ≤ l.length
  | [], k, p, ts, _, h => by
    unfold toksS at h; cases h
    exact ⟨fun t h => by simp at h, Nat.le_refl _⟩
  | b :: l, k + 1, p, ts, hl, h => by
    have := toks_ok N l k (p + 1) ts (by simp at hl; omega) h
    exact ⟨this.1, by simp; omega⟩
  | b :: l, 0, p, ts, hl, h => by
    have hl' : l.length ≤ N := by simp at hl; omega
    simp only [toksS] at h
    split at h
    · have := toks_ok N l 0 (p + 1) ts hl' h
      exact ⟨this.1, by simp; omega⟩
    split at h
    · rename_i ho
      obtain ⟨ts', h', rfl⟩ := cons_ok h
      have := toks_ok N l _ (p + 1) ts' hl' h'
      refine ⟨?_, by simp; omega⟩
      intro t ht
      rcases List.mem_cons.1 ht with rfl | ht
      · exact ⟨by simp, by simp, fun h => absurd rfl h, fun _ => ⟨rfl, rfl⟩, fun h => by simp at h; rw [h] at ho; simp at ho⟩
      · exact this.1 t ht
    · split at h
      · rename_i ps tx q hw
        obtain ⟨ts', h', rfl⟩ := cons_ok h
        have := toks_ok N l _ (p + 1) ts' hl' h'
        refine ⟨?_, by simp; omega⟩
        intro t ht
        rcases List.mem_cons.1 ht with rfl | ht
        · have ok := tok_ok (b :: l) p ps tx q hw
          exact ⟨Nat.le_trans ok.1 (by omega), ok.2⟩
        · exact this.1 t ht
      · cases h
end Go.Proofs.Ytiddchpkmcncdaa
