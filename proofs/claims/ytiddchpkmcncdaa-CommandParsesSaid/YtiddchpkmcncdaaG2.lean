/- Walks of layer 41: SameWord. -/
import Derived.Test.YtiddchpkmcncdaaX27
import Derived.Laws.StructEq
import Derived.Test.YtiddchpkmcncdaaK6
namespace Go.Proofs.Ytiddchpkmcncdaa
open Go.RowKit
set_option linter.unusedSimpArgs false
set_option linter.unusedVariables false
def pcEq (p q : Pc) : Bool := p.text == q.text && p.var == q.var && p.quo == q.quo
theorem pcEq_iff (p q : Pc) : pcEq p q = true ↔ p = q := by
  cases p; cases q
  simp [pcEq]
  constructor
  · rintro ⟨⟨h1, h2⟩, h3⟩; exact ⟨h1, h2, h3⟩
  · rintro ⟨h1, h2, h3⟩; exact ⟨⟨h1, h2⟩, h3⟩
def sameW : Wd → Wd → Bool
  | [], [] => true
  | p :: a, q :: b => pcEq p q && sameW a b
  | _, _ => false
theorem sameW_iff : ∀ a b : Wd, sameW a b = true ↔ a = b
  | [], [] => by simp [sameW]
  | [], q :: b => by simp [sameW]
  | p :: a, [] => by simp [sameW]
  | p :: a, q :: b => by
    simp only [sameW, Bool.and_eq_true, pcEq_iff, sameW_iff a b, List.cons.injEq]
theorem sameW_no {a b : Wd} (h : a ≠ b) : sameW a b = false := by
  cases hs : sameW a b with
  | false => rfl
  | true => exact absurd ((sameW_iff a b).1 hs) h
def NN : Nat := 9999
theorem eq51 (a a' : ByteArray) (b b' c c' : Bool) (w : World) : (Op.equalIn 10000 51 (.agg #[.string a, .bool b, .bool c]) (.agg #[.string a', .bool b', .bool c'])).run Try.prog w = .ok (a.toList == a'.toList && b == b' && c == c') w := by
  have u4 := Try.underlying4
  have u9 := Try.underlying9
  have hS : Try.prog.underlying 51 = some (.struct (Try.prog.fieldsOf 51)) := by kernel_rfl
  have hp : Try.prog.stoodInHeld 51 = false := by kernel_rfl
  rw [show (10000 : Nat) = 9999 + 1 from rfl, run_equalIn_agg w 9999 51 _ _ hS hp]
  simp only [Program.fieldsOf, Try.underlying51]
  go_simp
  by_cases h1 : a.toList = a'.toList <;> by_cases h2 : b = b' <;> by_cases h3 : c = c' <;> simp [h1, h2, h3]
theorem neq51 (p q : Pc) (b : Bool) (hb : pcEq p q = b) (w : World) : (binOp .neq 51 (.agg #[.string (bs p.text), .bool p.var, .bool p.quo]) (.agg #[.string (bs q.text), .bool q.var, .bool q.quo])).run Try.prog w = .ok (.bool (!b)) w := by
  subst hb
  rw [run_neq_struct, eq51, bs_tl, bs_tl]; rfl
theorem guard51 : Try.prog.eqGuardType Try.prog.depth 51 = false := by kernel_rfl
theorem eq61 (a a' : ByteArray) (b b' c c' : Bool) (w : World) : (Op.equalIn 10000 61 (.agg #[.string a, .bool b, .bool c]) (.agg #[.string a', .bool b', .bool c'])).run Try.prog w = .ok (a.toList == a'.toList && b == b' && c == c') w := by
  have u4 := Try.underlying4
  have u9 := Try.underlying9
  have hS : Try.prog.underlying 61 = some (.struct (Try.prog.fieldsOf 61)) := by kernel_rfl
  have hp : Try.prog.stoodInHeld 61 = false := by kernel_rfl
  rw [show (10000 : Nat) = 9999 + 1 from rfl, run_equalIn_agg w 9999 61 _ _ hS hp]
  simp only [Program.fieldsOf, Try.underlying61]
  go_simp
  by_cases h1 : a.toList = a'.toList <;> by_cases h2 : b = b' <;> by_cases h3 : c = c' <;> simp [h1, h2, h3]
theorem neq61 (p q : Pc) (b : Bool) (hb : pcEq p q = b) (w : World) : (binOp .neq 61 (.agg #[.string (bs p.text), .bool p.var, .bool p.quo]) (.agg #[.string (bs q.text), .bool q.var, .bool q.quo])).run Try.prog w = .ok (.bool (!b)) w := by
  subst hb
  rw [run_neq_struct, eq61, bs_tl, bs_tl]; rfl
theorem guard61 : Try.prog.eqGuardType Try.prog.depth 61 = false := by kernel_rfl
def SwRel (a b : Wd) (gk : Nat) (i : Value) (w wr : World) : Prop :=
  ∃ k, i = .int .i64 ((k : Nat) : Int) ∧ k ≤ a.length ∧ gk + k = a.length + 1 ∧ Below w.heap.size w wr ∧ a.take k = b.take k
theorem sw_all {a b : Wd} (hl : a.length = b.length) (h : a.take a.length = b.take a.length) : a = b := by
  rw [List.take_length] at h
  rw [hl, List.take_length] at h
  exact h
theorem sw_len {a b : Wd} (hl : a.length ≠ b.length) : sameW a b = false := sameW_no (fun h => hl (by rw [h]))
theorem sw_bad {a b : Wd} (k : Nat) (ha : k < a.length) (hb : k < b.length) (h : pcEq a[k] b[k] = false) : sameW a b = false := by
  refine sameW_no ?_
  rintro rfl
  rw [(pcEq_iff _ _).2 rfl] at h; cases h
theorem sw_next {a b : Wd} (k : Nat) (ha : k < a.length) (hb : k < b.length) (h : a.take k = b.take k) (he : pcEq a[k] b[k] = true) : a.take (k + 1) = b.take (k + 1) := by
  rw [List.take_succ_eq_append_getElem ha, List.take_succ_eq_append_getElem hb, h, (pcEq_iff _ _).1 he]
set_option maxRecDepth 100000 in
set_option maxHeartbeats 2000000 in
theorem SameWord_any (w : World) (va vb : Value) (a b : Wd) (ha : RdV w va a) (hb : RdV w vb b) (la : a.length ≤ 100000) (lb : b.length ≤ 100000) :
    Calls Try.prog 20 #[va, vb] w fun e w' => e = .returned (.bool (sameW a b)) ∧ Below w.heap.size w w' := by
  by_cases hl : a.length = b.length
  · rcases Nat.eq_zero_or_pos a.length with h0 | h0
    · obtain ⟨A, c, rfl, _⟩ := Rd.form ha
      obtain ⟨B, d, rfl, _⟩ := Rd.form hb
      obtain rfl := List.length_eq_zero_iff.1 h0
      obtain rfl := List.length_eq_zero_iff.1 (hl.symm.trans h0)
      clear ha hb h0 hl
      go_enter Try.func20, Try.ntmps20
      go_wp2
      go_loopg [5] 1 (fun gk i wr => i = .int .i64 0 ∧ Below w.heap.size w wr)
      case atStart => exact ⟨rfl, Below.refl _ _⟩
      case round =>
        obtain ⟨rfl, hb⟩ := hrel
        go_wp2
        go_ret
        exact ⟨rfl, hb⟩
    · obtain ⟨b1, o1, c1, rfl, _, hb1, hc1⟩ := Rd.piece ha h0
      obtain ⟨b2, o2, c2, hv2, _, hb2, hc2⟩ := Rd.piece hb (by omega)
      rw [← hl] at hv2
      subst hv2
      have HC1 := Lib.hid hc1
      have HC2 := Lib.hid hc2
      have HL := Lib.hid hl
      have hg51 := guard51
      clear ha hb hc1 hc2 hl
      go_enter Try.func20, Try.ntmps20
      go_wp2
      go_loopg [5] (a.length + 1) (fun gk i wr => SwRel a b gk i w wr)
      case atStart => exact ⟨0, rfl, Nat.zero_le _, by omega, Below.refl _ _, rfl⟩
      case round =>
        obtain ⟨k, rfl, hk, hgk, hb, ht⟩ := hrel
        have HT := Lib.hid ht
        clear ht
        by_cases hlt : k < a.length
        · have hltb : k < b.length := by have := HL.out; omega
          obtain ⟨p0, p1, p2⟩ := HC1.out k hlt
          obtain ⟨q0, q1, q2⟩ := HC2.out k hltb
          have HBAD := Lib.hid (sw_bad k hlt hltb)
          have HNXT := Lib.hid (sw_next k hlt hltb HT.out)
          obtain ⟨p, hp⟩ : ∃ p, a[k] = p := ⟨_, rfl⟩
          obtain ⟨q, hq⟩ : ∃ q, b[k] = q := ⟨_, rfl⟩
          rw [hp] at p0 p1 p2 HBAD HNXT
          rw [hq] at q0 q1 q2 HBAD HNXT
          clear hp hq
          have x0 := ((bcell hb).1 b1 (o1 + k * 3) hb1).trans p0
          have x1 := ((bcell hb).1 b1 (o1 + k * 3 + 1) hb1).trans p1
          have x2 := ((bcell hb).1 b1 (o1 + k * 3 + 2) hb1).trans p2
          have y0 := ((bcell hb).1 b2 (o2 + k * 3) hb2).trans q0
          have y1 := ((bcell hb).1 b2 (o2 + k * 3 + 1) hb2).trans q1
          have y2 := ((bcell hb).1 b2 (o2 + k * 3 + 2) hb2).trans q2
          clear p0 p1 p2 q0 q1 q2
          have i1 : (0 : Int) ≤ (k : Int) := by omega
          have i2 : (k : Int) < (a.length : Int) := by omega
          cases hpq : pcEq p q with
          | true =>
            have hn := neq51 p q true hpq
            have HX := Lib.hid (HNXT.out hpq)
            clear hpq HNXT HBAD
            go_wp2
            go_quiet (fail)
            go_wp2
            go_roundg (gk - 1)
            case rel => exact ⟨k + 1, by go_num, by omega, by omega, below_drewN hb _, HX.out⟩
            case measure => omega
          | false =>
            have hn := neq51 p q false hpq
            have HX := Lib.hid (HBAD.out hpq)
            clear hpq HNXT HBAD
            go_wp2
            go_quiet (fail)
            go_wp2
            go_ret
            exact ⟨ret_bool HX.out.symm, below_drewN hb _⟩
        · obtain rfl : k = a.length := by omega
          have HX := Lib.hid ((sameW_iff a b).2 (sw_all HL.out HT.out))
          go_wp2
          go_ret
          exact ⟨ret_bool HX.out.symm, hb⟩
  · have HX := Lib.hid (sw_len hl)
    obtain ⟨A, c, rfl, _⟩ := Rd.form ha
    obtain ⟨B, d, rfl, _⟩ := Rd.form hb
    have e1 : ((a.length : Int) == (b.length : Int)) = false := beq_false_of_ne (by omega)
    have e2 : ((a.length : Int) != (b.length : Int)) = true := by simp; omega
    have e3 : ((a.length) == (b.length)) = false := beq_false_of_ne hl
    clear ha hb
    go_enter Try.func20, Try.ntmps20
    go_wp2
    go_ret
    exact ⟨ret_bool HX.out.symm, Below.refl _ _⟩
end Go.Proofs.Ytiddchpkmcncdaa
/- Plain functions of layer 41: texts of plain bytes. -/
namespace Go.Proofs.Ytiddchpkmcncdaa
open Go.RowKit
set_option linter.unusedSimpArgs false
set_option linter.unusedVariables false
theorem wordS_stop (l : Bs) (p : Nat) (tx : Bs) (h : l = [] ∨ ∃ l', l = 32 :: l') : wordS l 0 p [] tx = .ok ([], tx, p) := by
  rcases h with rfl | ⟨l', rfl⟩
  · unfold wordS; rfl
  · simp only [wordS]
    rw [if_pos (by rfl)]
/-- A word of plain bytes. -/
theorem toks_plain (b : UInt8) (a l : Bs) (p : Nat) (ha : (b :: a).all plain8 = true) (hl : l = [] ∨ ∃ l', l = 32 :: l') : toksS ((b :: a) ++ l) 0 p = (toksS l 0 (p + (b :: a).length)).cons ⟨p, [], [lit (b :: a)], asgS ((b :: a) ++ l)⟩ := by
  have hb : plain8 b = true := by simp only [List.all_cons, Bool.and_eq_true] at ha; exact ha.1
  have hw : wordS ((b :: a) ++ l) 0 p [] [] = .ok ([], b :: a, p + (b :: a).length) := by
    rw [wordS_plains (b :: a) l p [] [] ha, List.nil_append]
    exact wordS_stop l _ _ hl
  rw [List.cons_append] at hw ⊢
  simp only [toksS]
  rw [(plain8_facts b hb).1, if_neg (by decide), opAt_plain b (a ++ l) hb, if_neg (by decide), hw]
  simp only
  rw [toksS_skip _ _ _ (by simp; omega)]
  have e1 : p + (b :: a).length - (p + 1) = a.length := by simp; omega
  rw [e1, List.drop_left]
  have e2 : p + 1 + a.length = p + (b :: a).length := by simp; omega
  rw [e2]; rfl
theorem asgS_none (l : Bs) (h : l.all neq8 = true) : asgS l = [] := by
  have : l.takeWhile neq8 = l := by
    induction l with
    | nil => rfl
    | cons b l ih =>
      simp only [List.all_cons, Bool.and_eq_true] at h
      rw [List.takeWhile_cons_of_pos h.1, ih h.2]
  unfold asgS
  rw [this, if_neg (by omega)]
theorem aln_all (c : Bs) (h : c.all aln8 = true) : c.all plain8 = true ∧ c.all neq8 = true ∧ c.all (fun b => perI (n8 b)) = true ∧ c.takeWhile aln8 = c := by
  induction c with
  | nil => exact ⟨rfl, rfl, rfl, rfl⟩
  | cons b c ih =>
    simp only [List.all_cons, Bool.and_eq_true] at h
    obtain ⟨i1, i2, i3, i4⟩ := ih h.2
    have hb := h.1
    refine ⟨by simp only [List.all_cons, Bool.and_eq_true]; exact ⟨by unfold plain8; rw [hb]; rfl, i1⟩, ?_, ?_, by rw [List.takeWhile_cons_of_pos hb, i4]⟩
    · simp only [List.all_cons, Bool.and_eq_true]
      refine ⟨?_, i2⟩
      unfold aln8 alnI ltrI digI at hb
      unfold neq8
      simp at hb ⊢
      omega
    · simp only [List.all_cons, Bool.and_eq_true]
      refine ⟨?_, i3⟩
      unfold aln8 alnI ltrI digI at hb
      unfold perI
      simp at hb ⊢
      omega
theorem badS_none (l : Bs) (h : l.all (fun b => perI (n8 b)) = true) : badS l = l.length := by
  unfold badS
  induction l with
  | nil => rfl
  | cons b l ih =>
    simp only [List.all_cons, Bool.and_eq_true] at h
    rw [List.takeWhile_cons_of_pos (p := fun b => perI (n8 b)) h.1]
    simp [ih h.2]
/-- The text echo $ .. -/
def ecS (c : Bs) : Bs := [101, 99, 104, 111, 32, 36] ++ c
def eqS (c : Bs) : Bs := c ++ [61, 49]
theorem toks_var (c : Bs) (p : Nat) (h : c.all aln8 = true) : toksS (36 :: c) 0 p = if isVarS c = true then .ok [⟨p, [], [⟨c, true, false⟩], []⟩] else .err p 3 := by
  obtain ⟨_, h2, _, h4⟩ := aln_all c h
  have hw : wordS (36 :: c) 0 p [] [] = if isVarS c = true then .ok ([⟨c, true, false⟩], [], p + 1 + c.length) else .err p 3 := by
    simp only [wordS]
    rw [if_neg (by rw [show opAt (36 :: c) = [] by simp [opAt, opsL, List.find?, List.isPrefixOf]]; decide), if_neg (by decide), if_neg (by decide), if_neg (by decide), if_pos (by decide), h4]
    by_cases hv : isVarS c = true
    · rw [if_pos hv, if_pos hv, wordS_skip _ _ _ _ _ (Nat.le_refl _), List.drop_length]
      simp [wordS, flS]
    · rw [if_neg hv, if_neg hv]
  simp only [toksS]
  rw [if_neg (by decide), if_neg (by rw [show opAt (36 :: c) = [] by simp [opAt, opsL, List.find?, List.isPrefixOf]]; decide), hw]
  by_cases hv : isVarS c = true
  · rw [if_pos hv, if_pos hv]
    simp only
    rw [toksS_skip _ _ _ (by omega)]
    have e : p + 1 + c.length - (p + 1) = c.length := by omega
    rw [e, List.drop_length]
    have ha : asgS (36 :: c) = [] := asgS_none _ (by simp only [List.all_cons, Bool.and_eq_true]; exact ⟨by decide, h2⟩)
    rw [ha]
    simp [toksS, R.cons, finS, flS]
  · rw [if_neg hv, if_neg hv]
def ecL (c : Bs) : Ln := ⟨[⟨0, [⟨[], [[lit [101, 99, 104, 111]], [⟨c, true, false⟩]], [], [], false⟩]⟩], false⟩
def eqL (c : Bs) : Ln := ⟨[⟨0, [⟨[⟨c, [lit [49]]⟩], [], [], [], false⟩]⟩], false⟩
theorem par_echo (c : Bs) (h : c.all aln8 = true) (hl : c.length ≤ 60) : parS (ecS c) = if isVarS c = true then .ok (ecL c) else .err 5 3 := by
  obtain ⟨_, h2, h3, _⟩ := aln_all c h
  have hbad : badS (ecS c) = (ecS c).length := badS_none _ (by unfold ecS; simp only [List.all_append, Bool.and_eq_true]; exact ⟨by decide, h3⟩)
  have ht : toksS (ecS c) 0 0 = (toksS (32 :: 36 :: c) 0 4).cons ⟨0, [], [lit [101, 99, 104, 111]], asgS (ecS c)⟩ := toks_plain 101 [99, 104, 111] (32 :: 36 :: c) 0 (by decide) (.inr ⟨_, rfl⟩)
  have ha : asgS (ecS c) = [] := asgS_none _ (by unfold ecS; simp only [List.all_append, Bool.and_eq_true]; exact ⟨by decide, h2⟩)
  have ht2 : toksS (32 :: 36 :: c) 0 4 = toksS (36 :: c) 0 5 := by
    rw [toksS, if_pos (by decide)]
  unfold parS
  rw [if_neg (by unfold ecS; simp; omega), hbad, if_neg (by omega), ht, ha, ht2, toks_var c 5 h]
  by_cases hv : isVarS c = true
  · rw [if_pos hv, if_pos hv]
    simp [R.cons, linS, pipS, simS, redS, smE, smNone, ecL, lit]
  · rw [if_neg hv, if_neg hv]; rfl
theorem par_eq (c : Bs) (h : c.all aln8 = true) (hl : c.length ≤ 60) (hv : isVarS c = true) : parS (eqS c) = .ok (eqL c) := by
  obtain ⟨h1, h2, h3, _⟩ := aln_all c h
  cases c with
  | nil => simp [isVarS] at hv
  | cons b c =>
    have hbad : badS (eqS (b :: c)) = (eqS (b :: c)).length := badS_none _ (by unfold eqS; simp only [List.all_append, Bool.and_eq_true]; exact ⟨h3, by decide⟩)
    have ht := toks_plain b (c ++ [61, 49]) [] 0 (by
      rw [← List.cons_append, List.all_append, h1]; decide) (.inl rfl)
    rw [List.append_nil, ← List.cons_append] at ht
    have ha : asgS (eqS (b :: c)) = b :: c := by
      have htw : (eqS (b :: c)).takeWhile neq8 = b :: c := by
        unfold eqS
        rw [List.takeWhile_append_of_pos (fun x hx => (List.all_eq_true.1 h2) x hx)]
        have : List.takeWhile neq8 [61, 49] = [] := by decide
        rw [this, List.append_nil]
      unfold asgS
      rw [htw, if_pos ⟨by unfold eqS; simp, hv⟩]
    unfold parS
    rw [if_neg (by unfold eqS; simp at hl ⊢; omega), hbad, if_neg (by omega)]
    show (match toksS (eqS (b :: c)) 0 0 with | .err p e => _ | .ok [] => _ | .ok (t :: ts) => _) = _
    have ht' : toksS (eqS (b :: c)) 0 0 = .ok [⟨0, [], [lit (eqS (b :: c))], b :: c⟩] := by
      have e : eqS (b :: c) = (b :: c) ++ [61, 49] := rfl
      rw [e, ht, ← e, ha]
      simp [toksS, R.cons]
    rw [ht']
    have hval : valS ⟨0, [], [lit (eqS (b :: c))], b :: c⟩ = [lit [49]] := by
      have e : (lit (eqS (b :: c))).text.drop ((b :: c).length + 1) = [49] := by
        show ((b :: c) ++ [61, 49]).drop ((b :: c).length + 1) = [49]
        rw [show (b :: c) ++ [61, 49] = ((b :: c) ++ [61]) ++ [49] by simp, show (b :: c).length + 1 = ((b :: c) ++ [61]).length by simp, List.drop_left]
      unfold valS
      simp only [e]
      simp [lit]
    simp [linS, pipS, simS, redS, smE, smNone, hval, eqL]
end Go.Proofs.Ytiddchpkmcncdaa
/- Plain functions of layer 41: what a word stands for. -/
namespace Go.Proofs.Ytiddchpkmcncdaa
open Go.RowKit
set_option linter.unusedSimpArgs false
set_option linter.unusedVariables false
/-- The texts that have ended, the present text, and whether it has begun. -/
structure Ex where
  out : List Bs
  tx : Bs
  bg : Bool
def addE (t : Ex) (s : Bs) : Ex := ⟨t.out, t.tx ++ s, true⟩
def endE (t : Ex) : Ex := ⟨if t.bg then t.out ++ [t.tx] else t.out, [], false⟩
def sepB (b : UInt8) : Bool := decide (n8 b = 32) || decide (n8 b = 9) || decide (n8 b = 10)
def expC (t : Ex) (b : UInt8) : Ex := if sepB b then endE t else addE t [b]
def expP (val : Bs → Bs) (t : Ex) (p : Pc) : Ex :=
  if p.var = false then addE t p.text else if p.quo then addE t (val p.text) else (val p.text).foldl expC t
def expS (val : Bs → Bs) (ps : Wd) : List Bs := (endE (ps.foldl (expP val) ⟨[], [], false⟩)).out
/-- A bound for what is held. -/
def exM (t : Ex) : Nat := t.out.length + t.tx.length
theorem exM_add (t : Ex) (s : Bs) : exM (addE t s) = exM t + s.length := by simp [exM, addE]; omega
theorem exM_end (t : Ex) : exM (endE t) ≤ exM t + 1 := by
  unfold exM endE
  cases t.bg <;> simp <;> omega
theorem exM_C (t : Ex) (b : UInt8) : exM (expC t b) ≤ exM t + 1 := by
  unfold expC
  split
  · exact exM_end t
  · rw [exM_add]; simp
theorem exM_fold : ∀ (l : Bs) (t : Ex), exM (l.foldl expC t) ≤ exM t + l.length
  | [], t => by simp
  | b :: l, t => by
    have h1 := exM_fold l (expC t b)
    have h2 := exM_C t b
    simp only [List.foldl_cons, List.length_cons]; omega
theorem exM_P (val : Bs → Bs) (N : Nat) (t : Ex) (p : Pc) (h1 : p.text.length ≤ N) (h2 : (val p.text).length ≤ N) : exM (expP val t p) ≤ exM t + N := by
  unfold expP
  split
  · rw [exM_add]; omega
  split
  · rw [exM_add]; omega
  · have := exM_fold (val p.text) t; omega
theorem exM_all (val : Bs → Bs) (N : Nat) : ∀ (ps : Wd) (t : Ex), (∀ p ∈ ps, p.text.length ≤ N ∧ (val p.text).length ≤ N) → exM (ps.foldl (expP val) t) ≤ exM t + N * ps.length
  | [], t, h => by simp
  | p :: ps, t, h => by
    have h1 := exM_all val N ps (expP val t p) (fun q hq => h q (List.mem_cons_of_mem _ hq))
    have h2 := exM_P val N t p (h p (by simp)).1 (h p (by simp)).2
    simp only [List.foldl_cons, List.length_cons, Nat.mul_add]
    omega
theorem fold_next {α β : Type} (f : β → α → β) (l : List α) (t : β) (k : Nat) (hk : k < l.length) : (l.take (k + 1)).foldl f t = f ((l.take k).foldl f t) l[k] := by
  rw [List.take_succ_eq_append_getElem hk, List.foldl_append]; rfl
end Go.Proofs.Ytiddchpkmcncdaa
/- Walks of layer 41: the two functions inside Expand. -/
namespace Go.Proofs.Ytiddchpkmcncdaa
open Go.RowKit
set_option linter.unusedSimpArgs false
set_option linter.unusedVariables false
theorem info9 : (Try.prog.info? 9).map (fun i => (i.zero, i.size, i.bytes)) = some (some (.string ⟨#[]⟩), 1, 16) := by kernel_rfl
def stC (l : List Bs) : List Value := l.map (fun t => .string (bs t))
theorem stC_len (l : List Bs) : (stC l).length = l.length := by simp [stC]
/-- The three variables of Expand from block g on. -/
def ESt (w : World) (g : Nat) (t : Ex) (wr : World) : Prop :=
  ∃ v, Blk wr g 59 #[v] ∧ Blk wr (g + 1) 9 #[.string (bs t.tx)] ∧ Blk wr (g + 2) 4 #[.bool t.bg] ∧ wr.ownsRow (g + 3) 9 1 v t.out.length (stC t.out) ∧ Below w.heap.size w wr ∧ w.heap.size ≤ g
theorem ESt.next {w : World} {g : Nat} {t : Ex} {wr w' : World} (h : ESt w g t wr) (hb : Below wr.heap.size wr w') : ESt w g t w' := by
  obtain ⟨v, h1, h2, h3, h4, h5, h6⟩ := h
  exact ⟨v, h1.next hb h1.lt, h2.next hb h2.lt, h3.next hb h3.lt, own_next h4 hb, h5.trans (hb.mono h5.size), h6⟩
theorem ESt.lt {w : World} {g : Nat} {t : Ex} {wr : World} (h : ESt w g t wr) : g + 2 < wr.heap.size := by
  obtain ⟨v, h1, h2, h3, h4, h5, h6⟩ := h
  exact h3.lt
set_option maxRecDepth 100000 in
theorem add_any (w : World) (g : Nat) (t : Ex) (s : Bs) (wr : World) (h : ESt w g t wr) (hm : exM t ≤ 100000000000) (hs : s.length ≤ 100000000000) :
    Calls Try.prog 59 #[.string (bs s), ptr (g + 1), ptr (g + 2)] wr fun e w' => e = .returned (.tuple #[]) ∧ ESt w g (addE t s) w' := by
  obtain ⟨v, h1, h2, h3, h4, h5, h6⟩ := h
  have H1 := Lib.hid h1
  have H2 := Lib.hid h2
  have H3 := Lib.hid h3
  have c1 : wr.cell? ⟨g + 1, 0, none⟩ = some (.string (bs t.tx)) := h2.cell 0
  have c2 : wr.cell? ⟨g + 2, 0, none⟩ = some (.bool t.bg) := h3.cell 0
  have f1 := h2.frozen 0
  have f2 := h3.frozen 0
  have z1 : (bs t.tx).size ≤ 100000000000 := by rw [bs_size]; unfold exM at hm; omega
  have z2 : (bs s).size ≤ 100000000000 := by rw [bs_size]; exact hs
  have HT := Lib.hid (show bs t.tx ++ bs s = bs (addE t s).tx by unfold addE; rw [bs_app])
  clear h1 h2 h3
  go_enter Try.func59, Try.ntmps59
  go_wp2
  go_end0
  refine ⟨rfl, v, ?_, ?_, ?_, ?_, ?_, h6⟩
  · exact (H1.out.far (p := ⟨g + 1, 0, none⟩) (by simp) _).far (p := ⟨g + 2, 0, none⟩) (by simp) _
  · rw [HT.out]; exact (H2.out.set_ 0 _).far (p := ⟨g + 2, 0, none⟩) (by simp) _
  · exact (H3.out.far (p := ⟨g + 1, 0, none⟩) (by simp) _).set_ 0 _
  · have g1 : wr.grownBy (wr.setCell ⟨g + 1, 0, none⟩ (.string (bs t.tx ++ bs s))) (some (g + 1)) := only_setCell (p := ⟨g + 1, 0, none⟩) (World.grownBy.refl _ _) (.inl rfl) _
    have o1 := h4.kept g1 (.inr (fun e => by have := own_ge h4 e; omega))
    exact o1.kept (only_setCell (p := ⟨g + 2, 0, none⟩) (World.grownBy.refl _ (some (g + 2))) (.inl rfl) _) (.inr (fun e => by have := own_ge h4 e; omega))
  · exact (h5.setCell (p := ⟨g + 1, 0, none⟩) (by simp; omega) _).setCell (p := ⟨g + 2, 0, none⟩) (by simp; omega) _
set_option maxRecDepth 100000 in
set_option maxHeartbeats 1000000 in
theorem end_any (w : World) (g : Nat) (t : Ex) (wr : World) (h : ESt w g t wr) (hm : exM t ≤ 1000000000000) :
    Calls Try.prog 60 #[ptr (g + 2), ptr g, ptr (g + 1)] wr fun e w' => e = .returned (.tuple #[]) ∧ ESt w g (endE t) w' := by
  obtain ⟨v, h1, h2, h3, h4, h5, h6⟩ := h
  obtain ⟨i0, hi, hz0, hz1, hz2⟩ := info_parts info9
  have H1 := Lib.hid h1
  have H2 := Lib.hid h2
  have H3 := Lib.hid h3
  obtain ⟨av, cv, rfl, _⟩ := own_len h4
  have c0 : wr.cell? ⟨g, 0, none⟩ = some (.slice av t.out.length cv) := h1.cell 0
  have c1 : wr.cell? ⟨g + 1, 0, none⟩ = some (.string (bs t.tx)) := h2.cell 0
  have c2 : wr.cell? ⟨g + 2, 0, none⟩ = some (.bool t.bg) := h3.cell 0
  have f0 := h1.frozen 0
  have f1 := h2.frozen 0
  have f2 := h3.frozen 0
  have hgl : g + 2 < wr.heap.size := h3.lt
  have hlen : t.out.length ≤ 1000000000000 := by unfold exM at hm; omega
  clear h1 h2 h3
  cases hb : t.bg with
  | false =>
    rw [hb] at c2
    have HE := Lib.hid (show endE t = ⟨t.out, [], false⟩ by unfold endE; rw [hb]; rfl)
    clear hb
    go_enter Try.func60, Try.ntmps60
    go_wp2
    go_end0
    refine ⟨rfl, ?_⟩
    rw [HE.out]
    refine ⟨.slice av t.out.length cv, ?_, ?_, ?_, ?_, ?_, h6⟩
    · exact (H1.out.far (p := ⟨g + 1, 0, none⟩) (by simp) _).far (p := ⟨g + 2, 0, none⟩) (by simp) _
    · exact (H2.out.set_ 0 _).far (p := ⟨g + 2, 0, none⟩) (by simp) _
    · exact (H3.out.far (p := ⟨g + 1, 0, none⟩) (by simp) _).set_ 0 _
    · have g1 : wr.grownBy (wr.setCell ⟨g + 1, 0, none⟩ (.string ⟨#[]⟩)) (some (g + 1)) := only_setCell (p := ⟨g + 1, 0, none⟩) (World.grownBy.refl _ _) (.inl rfl) _
      have o1 := h4.kept g1 (.inr (fun e => by have := own_ge h4 e; omega))
      exact o1.kept (only_setCell (p := ⟨g + 2, 0, none⟩) (World.grownBy.refl _ (some (g + 2))) (.inl rfl) _) (.inr (fun e => by have := own_ge h4 e; omega))
    · exact (h5.setCell (p := ⟨g + 1, 0, none⟩) (by simp; omega) _).setCell (p := ⟨g + 2, 0, none⟩) (by simp; omega) _
  | true =>
    rw [hb] at c2 H3
    have HE := Lib.hid (show endE t = ⟨t.out ++ [t.tx], [], false⟩ by unfold endE; rw [hb]; rfl)
    clear hb
    go_enter Try.func60, Try.ntmps60
    go_wp2_with (at_builtin; refine wpList_append_lies _ rfl _ _ _ rfl (g + 3) 9 i0 _ 1 16 Try.underlying59 hi hz0 hz1 hz2 rfl (by omega) (.slice av t.out.length cv) t.out.length (stC t.out) rfl (h4.alloc _) ⟨wr.heap.size, 0, none⟩ 1 1 [.string (bs t.tx)] rfl rfl (World.news_of_block (cs := #[.string (bs t.tx)]) (t := 9) (fr := (0, 0)) (heap_alloc_new wr _)) (by simp [Value.oneCell']) (by omega) (by unfold maxLen; omega) (by omega) (by simp; omega) (wr.heap.size + 1) (by simp) ?_; intro gg cap w1 hown1 hgrow hat hlt1; have B0 := Lib.hid (Blk.grown (H1.out.alloc _) hgrow (fun e => by have := own_ge h4 e.symm; omega)); have B1 := Lib.hid (Blk.grown (H2.out.alloc _) hgrow (fun e => by have := own_ge h4 e.symm; omega)); have B2 := Lib.hid (Blk.grown (H3.out.alloc _) hgrow (fun e => by have := own_ge h4 e.symm; omega)); have d0 : w1.cell? ⟨g, 0, none⟩ = some (.slice av t.out.length cv) := B0.out.cell 0; have d1 : w1.cell? ⟨g + 1, 0, none⟩ = some (.string (bs t.tx)) := B1.out.cell 0; have d2 : w1.cell? ⟨g + 2, 0, none⟩ = some (.bool true) := B2.out.cell 0; have e0 := B0.out.frozen 0; have e1 := B1.out.frozen 0; have e2 := B2.out.frozen 0; have hg1 : g + 2 < w1.heap.size := B2.out.lt)
    go_end0
    refine ⟨rfl, ?_⟩
    rw [HE.out]
    have hb1 : Below w.heap.size w w1 := below_own (h5.alloc h5.size _) (h4.alloc _) hgrow (by omega) (by simp; have := h5.size; omega)
    refine ⟨.slice (some ⟨gg, 0, none⟩) (t.out.length + 1) cap, ?_, ?_, ?_, ?_, ?_, h6⟩
    · exact ((B0.out.set_ 0 _).far (p := ⟨g + 1, 0, none⟩) (by simp) _).far (p := ⟨g + 2, 0, none⟩) (by simp) _
    · exact (((B1.out.far (p := ⟨g, 0, none⟩) (by simp) _)).set_ 0 _).far (p := ⟨g + 2, 0, none⟩) (by simp) _
    · exact ((B2.out.far (p := ⟨g, 0, none⟩) (by simp) _).far (p := ⟨g + 1, 0, none⟩) (by simp) _).set_ 0 _
    · have o0 := hown1.kept (only_setCell (p := ⟨g, 0, none⟩) (World.grownBy.refl w1 (some g)) (.inl rfl) (.slice (some ⟨gg, 0, none⟩) (t.out.length + 1) cap)) (.inr (fun e => by have := own_ge hown1 e; omega))
      have o1 := o0.kept (only_setCell (p := ⟨g + 1, 0, none⟩) (World.grownBy.refl _ (some (g + 1))) (.inl rfl) (.string ⟨#[]⟩)) (.inr (fun e => by have := own_ge hown1 e; omega))
      have o2 := o1.kept (only_setCell (p := ⟨g + 2, 0, none⟩) (World.grownBy.refl _ (some (g + 2))) (.inl rfl) (.bool false)) (.inr (fun e => by have := own_ge hown1 e; omega))
      simpa [stC] using o2
    · exact ((hb1.setCell (p := ⟨g, 0, none⟩) (by simp; omega) _).setCell (p := ⟨g + 1, 0, none⟩) (by simp; omega) _).setCell (p := ⟨g + 2, 0, none⟩) (by simp; omega) _
end Go.Proofs.Ytiddchpkmcncdaa
/- Plain functions of layer 41: parsing what was written for a text. -/
namespace Go.Proofs.Ytiddchpkmcncdaa
open Go.RowKit
set_option linter.unusedSimpArgs false
set_option linter.unusedVariables false
/-- A byte that stands for itself in a word. -/
def ord8 (b : UInt8) : Bool := !blkI (n8 b) && decide (n8 b ≠ 39) && decide (n8 b ≠ 34) && decide (n8 b ≠ 92) && decide (n8 b ≠ 36) && decide (n8 b ≠ 124) && decide (n8 b ≠ 38) && decide (n8 b ≠ 62) && decide (n8 b ≠ 59) && decide (n8 b ≠ 60)
theorem ord8_facts (b : UInt8) (h : ord8 b = true) : blkI (n8 b) = false ∧ n8 b ≠ 39 ∧ n8 b ≠ 34 ∧ n8 b ≠ 92 ∧ n8 b ≠ 36 ∧ n8 b ≠ 124 ∧ n8 b ≠ 38 ∧ n8 b ≠ 62 ∧ n8 b ≠ 59 ∧ n8 b ≠ 60 := by
  unfold ord8 at h
  simpa [Bool.and_eq_true, and_assoc] using h
theorem opAt_nine (b : UInt8) (l : Bs) (h1 : n8 b ≠ 124) (h2 : n8 b ≠ 38) (h3 : n8 b ≠ 62) (h4 : n8 b ≠ 59) (h5 : n8 b ≠ 60) : opAt (b :: l) = [] := by
  have e : ∀ c : UInt8, n8 b ≠ n8 c → (c == b) = false := by
    intro c hc
    simp only [beq_eq_false_iff_ne]
    rintro rfl
    exact hc rfl
  have e1 : ((124 : UInt8) == b) = false := e 124 (by show n8 b ≠ 124; exact h1)
  have e2 : ((38 : UInt8) == b) = false := e 38 (by show n8 b ≠ 38; exact h2)
  have e3 : ((62 : UInt8) == b) = false := e 62 (by show n8 b ≠ 62; exact h3)
  have e4 : ((59 : UInt8) == b) = false := e 59 (by show n8 b ≠ 59; exact h4)
  have e5 : ((60 : UInt8) == b) = false := e 60 (by show n8 b ≠ 60; exact h5)
  simp [opAt, opsL, List.find?, List.isPrefixOf, e1, e2, e3, e4, e5]
theorem opAt_ord (b : UInt8) (l : Bs) (h : ord8 b = true) : opAt (b :: l) = [] := by
  have f := ord8_facts b h
  exact opAt_nine b l f.2.2.2.2.2.1 f.2.2.2.2.2.2.1 f.2.2.2.2.2.2.2.1 f.2.2.2.2.2.2.2.2.1 f.2.2.2.2.2.2.2.2.2
theorem wordS_ord (b : UInt8) (l : Bs) (p : Nat) (ps : Wd) (tx : Bs) (h : ord8 b = true) : wordS (b :: l) 0 p ps tx = wordS l 0 (p + 1) ps (tx ++ [b]) := by
  have f := ord8_facts b h
  simp only [wordS]
  rw [opAt_ord b l h, f.1, if_neg (by decide), if_neg f.2.1, if_neg f.2.2.1, if_neg f.2.2.2.1, if_neg f.2.2.2.2.1]
theorem wordS_ords : ∀ (a l : Bs) (p : Nat) (ps : Wd) (tx : Bs), a.all ord8 = true → wordS (a ++ l) 0 p ps tx = wordS l 0 (p + a.length) ps (tx ++ a)
  | [], l, p, ps, tx, _ => by simp
  | b :: a, l, p, ps, tx, h => by
    simp only [List.all_cons, Bool.and_eq_true] at h
    rw [List.cons_append, wordS_ord b _ p ps tx h.1, wordS_ords a l (p + 1) ps _ h.2]
    simp [Nat.add_assoc, Nat.add_comm 1]
theorem pln_ord (b : UInt8) (h : plnB b = true) : ord8 b = true ∧ neq8 b = true ∧ perI (n8 b) = true := by
  unfold plnB at h
  rw [Bool.or_eq_true] at h
  rcases h with h | h
  · unfold aln8 alnI ltrI digI at h
    unfold ord8 neq8 perI blkI
    simp at h ⊢
    omega
  · have hm := List.contains_iff_mem.1 h
    simp only [sgnL, List.mem_cons, List.not_mem_nil, or_false] at hm
    rcases hm with rfl | rfl | rfl | rfl | rfl | rfl | rfl | rfl <;> decide
theorem all_imp (p q : UInt8 → Bool) (h : ∀ b, p b = true → q b = true) (l : Bs) (hl : l.all p = true) : l.all q = true := by
  rw [List.all_eq_true] at hl ⊢
  exact fun x hx => h x (hl x hx)
theorem isVar_head (b : UInt8) (l : Bs) (h : ltrI (n8 b) = false) : isVarS (b :: l) = false := by
  unfold isVarS
  simp [h]
theorem quoS_esc : ∀ (l rest : Bs) (p beg : Nat) (ps : Wd) (tx : Bs), quoS (l.flatMap escS ++ 34 :: rest) 0 p beg ps tx = .ok (ps, tx ++ l, p + (l.flatMap escS).length + 1)
  | [], rest, p, beg, ps, tx => by
    simp only [List.flatMap_nil, List.nil_append, quoS]
    rw [if_pos (by decide)]; simp
  | b :: l, rest, p, beg, ps, tx => by
    rw [List.flatMap_cons, List.append_assoc]
    by_cases he : escB b = true
    · have e : escS b = [92, b] := by unfold escS; rw [if_pos he]
      rw [e, List.cons_append, List.cons_append, List.nil_append]
      simp only [quoS]
      rw [if_neg (by decide), if_pos (by decide), if_neg (by simp)]
      rw [List.headD_cons, quoS_esc l rest (p + 1 + 1) beg ps (tx ++ [b])]
      simp; omega
    · have e : escS b = [b] := by unfold escS; rw [if_neg he]
      rw [e, List.cons_append, List.nil_append]
      unfold escB at he
      simp only [Bool.or_eq_true, decide_eq_true_eq, not_or] at he
      simp only [quoS]
      rw [if_neg he.1.1, if_neg he.1.2, if_neg he.2, quoS_esc l rest (p + 1) beg ps (tx ++ [b])]
      simp; omega
def litL (l : Bs) : Ln := ⟨[⟨0, [⟨[], [[lit l]], [], [], false⟩]⟩], false⟩
theorem fin_lit (l : Bs) : finS [] l = [lit l] := by cases l <;> rfl
theorem lin_lit (l : Bs) (n p : Nat) : linS n 16 [⟨p, [], [lit l], []⟩] 0 [] = .ok (litL l) := by
  simp [linS, pipS, simS, redS, smE, smNone, litL, lit]
theorem par_pln (l : Bs) (hl : l.length ≤ 200) (h : isPlnS l = true) : parS l = .ok (litL l) := by
  unfold isPlnS at h
  simp only [Bool.and_eq_true] at h
  have h1 := all_imp _ _ (fun b hb => (pln_ord b hb).1) l h.2
  have h2 := all_imp _ _ (fun b hb => (pln_ord b hb).2.1) l h.2
  have h3 := all_imp _ (fun b => perI (n8 b)) (fun b hb => (pln_ord b hb).2.2) l h.2
  cases l with
  | nil => simp at h
  | cons b l =>
    have hb : ord8 b = true := by simp only [List.all_cons, Bool.and_eq_true] at h1; exact h1.1
    have hw : wordS (b :: l) 0 0 [] [] = .ok ([], b :: l, (b :: l).length) := by
      have := wordS_ords (b :: l) [] 0 [] [] h1
      rw [List.append_nil] at this
      rw [this]
      simp [wordS]
    have ht : toksS (b :: l) 0 0 = .ok [⟨0, [], [lit (b :: l)], []⟩] := by
      simp only [toksS]
      rw [(ord8_facts b hb).1, if_neg (by decide), opAt_ord b l hb, if_neg (by decide), hw]
      simp only
      rw [toksS_skip _ _ _ (by simp), asgS_none _ h2, fin_lit]
      have e : (b :: l).length - (0 + 1) = l.length := by simp
      rw [e, List.drop_length]
      simp [toksS, R.cons]
    unfold parS
    rw [if_neg (by omega), badS_none _ h3, if_neg (by omega), ht]
    exact lin_lit _ _ _
theorem par_quo (l : Bs) (hl : l.length ≤ 200) (h : l.all (fun b => perI (n8 b)) = true) : parS (quoteS l) = .ok (litL l) := by
  have he := esc_len l
  have hq : quoteS l = 34 :: (l.flatMap escS ++ [34]) := by unfold quoteS; simp
  have hper : (quoteS l).all (fun b => perI (n8 b)) = true := by
    rw [List.all_eq_true] at h ⊢
    intro x hx
    unfold quoteS at hx
    simp only [List.mem_append, List.mem_singleton, List.mem_flatMap] at hx
    rcases hx with (rfl | ⟨y, hy, hxy⟩) | rfl
    · decide
    · unfold escS at hxy
      split at hxy
      · simp only [List.mem_cons, List.not_mem_nil, or_false] at hxy
        rcases hxy with rfl | rfl
        · decide
        · exact h _ hy
      · simp only [List.mem_singleton] at hxy
        rw [hxy]; exact h _ hy
    · decide
  have hw : wordS (quoteS l) 0 0 [] [] = .ok ([], l, (quoteS l).length) := by
    rw [hq]
    simp only [wordS]
    rw [opAt_nine 34 _ (by decide) (by decide) (by decide) (by decide) (by decide), if_neg (by decide), if_neg (by decide), if_pos (by decide), quoS_esc l [] (0 + 1) 0 [] []]
    simp only [List.nil_append]
    have e : 0 + 1 + (l.flatMap escS).length + 1 - (0 + 1) = (l.flatMap escS ++ [34]).length := by simp; omega
    rw [e, wordS_skip _ _ _ _ _ (Nat.le_refl _), List.drop_length]
    simp [wordS]; omega
  have ha : asgS (quoteS l) = [] := by
    rw [hq]
    unfold asgS
    rw [if_neg]
    rintro ⟨_, hv⟩
    rw [List.takeWhile_cons_of_pos (by decide), isVar_head _ _ (by decide)] at hv
    cases hv
  have ht : toksS (quoteS l) 0 0 = .ok [⟨0, [], [lit l], []⟩] := by
    rw [hq] at hw ha ⊢
    simp only [toksS]
    rw [if_neg (by decide), opAt_nine 34 _ (by decide) (by decide) (by decide) (by decide) (by decide), if_neg (by decide), hw]
    simp only
    rw [toksS_skip _ _ _ (by simp), ha, fin_lit]
    have e : (34 :: (l.flatMap escS ++ [34])).length - (0 + 1) = (l.flatMap escS ++ [34]).length := by simp
    rw [e, List.drop_length]
    simp [toksS, R.cons]
  have hlen : (quoteS l).length ≤ 402 := by rw [hq, List.length_cons, List.length_append, List.length_singleton]; omega
  unfold parS
  rw [if_neg (by omega), badS_none _ hper, if_neg (by omega), ht]
  exact lin_lit _ _ _
theorem txt_lit (l : Bs) : txtS false [lit l] = pcS false (lit l) := by simp [txtS]
theorem par_lit (l : Bs) (hl : l.length ≤ 200) (h : l.all (fun b => perI (n8 b)) = true) : parS (txtS false [lit l]) = .ok (litL l) := by
  rw [txt_lit]
  unfold pcS
  rw [if_neg (by simp [lit]), if_neg (by simp [lit])]
  by_cases hp : isPlnS l = true
  · rw [if_pos (by show (isPlnS l && !false) = true; rw [hp]; rfl)]
    exact par_pln l hl hp
  · rw [if_neg (by show ¬ (isPlnS l && !false) = true; rw [Bool.not_false, Bool.and_true]; exact hp)]
    exact par_quo l hl h
theorem exp_lit (val : Bs → Bs) (l : Bs) : expS val [lit l] = [l] := by
  simp [expS, expP, addE, endE, lit]
theorem txt_lit_len (l : Bs) : (txtS false [lit l]).length ≤ 2 * l.length + 3 := by
  have h1 := esc_len l
  have h2 : (quoteS l).length = 1 + (l.flatMap escS).length + 1 := by unfold quoteS; rw [List.length_append, List.length_append]; rfl
  rw [txt_lit]
  unfold pcS
  rw [if_neg (by simp [lit]), if_neg (by simp [lit])]
  split
  · show l.length ≤ _; omega
  · show (quoteS l).length ≤ _; omega
end Go.Proofs.Ytiddchpkmcncdaa
