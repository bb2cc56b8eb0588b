/- Walks of layer 41: SameWord. -/
import Derived.Test.YtiddchpkmcncdaaX27
import Derived.Laws.StructEq
namespace Go.Proofs.Ytiddchpkmcncdaa
open Go.RowKit
set_option linter.unusedSimpArgs false
set_option linter.unusedVariables false
def pcEq (p q : Pc) : Bool := p.text == q.text && p.var == q.var && p.quo == q.quo
theorem pcEq_iff (p q : Pc) : pcEq p q = true ↔ p = q := by
  cases p; cases q
  simp [pcEq]
  constructor
  · rintro ⟨⟨h1, h2⟩, h3⟩; exact ⟨h1, h2, h3⟩
  · rintro ⟨h1, h2, h3⟩; exact ⟨⟨h1, h2⟩, h3⟩
def sameW : Wd → Wd → Bool
  | [], [] => true
  | p :: a, q :: b => pcEq p q && sameW a b
  | _, _ => false
theorem sameW_iff : ∀ a b : Wd, sameW a b = true ↔ a = b
  | [], [] => by simp [sameW]
  | [], q :: b => by simp [sameW]
  | p :: a, [] => by simp [sameW]
  | p :: a, q :: b => by
    simp only [sameW, Bool.and_eq_true, pcEq_iff, sameW_iff a b, List.cons.injEq]
theorem sameW_no {a b : Wd} (h : a ≠ b) : sameW a b = false := by
  cases hs : sameW a b with
  | false => rfl
  | true => exact absurd ((sameW_iff a b).1 hs) h
def NN : Nat := 9999
theorem eq51 (a a' : ByteArray) (b b' c c' : Bool) (w : World) : (Op.equalIn 10000 51 (.agg #[.string a, .bool b, .bool c]) (.agg #[.string a', .bool b', .bool c'])).run Try.prog w = .ok (a.toList == a'.toList && b == b' && c == c') w := by
  have u4 := Try.underlying4
  have u9 := Try.underlying9
  have hS : Try.prog.underlying 51 = some (.struct (Try.prog.fieldsOf 51)) := by kernel_rfl
  have hp : Try.prog.stoodInHeld 51 = false := by kernel_rfl
  rw [show (10000 : Nat) = 9999 + 1 from rfl, run_equalIn_agg w 9999 51 _ _ hS hp]
  simp only [Program.fieldsOf, Try.underlying51]
  go_simp
  by_cases h1 : a.toList = a'.toList <;> by_cases h2 : b = b' <;> by_cases h3 : c = c' <;> simp [h1, h2, h3]
theorem neq51 (p q : Pc) (b : Bool) (hb : pcEq p q = b) (w : World) : (binOp .neq 51 (.agg #[.string (bs p.text), .bool p.var, .bool p.quo]) (.agg #[.string (bs q.text), .bool q.var, .bool q.quo])).run Try.prog w = .ok (.bool (!b)) w := by
  subst hb
  rw [run_neq_struct, eq51, bs_tl, bs_tl]; rfl
theorem guard51 : Try.prog.eqGuardType Try.prog.depth 51 = false := by kernel_rfl
theorem eq61 (a a' : ByteArray) (b b' c c' : Bool) (w : World) : (Op.equalIn 10000 61 (.agg #[.string a, .bool b, .bool c]) (.agg #[.string a', .bool b', .bool c'])).run Try.prog w = .ok (a.toList == a'.toList && b == b' && c == c') w := by
  have u4 := Try.underlying4
  have u9 := Try.underlying9
  have hS : Try.prog.underlying 61 = some (.struct (Try.prog.fieldsOf 61)) := by kernel_rfl
  have hp : Try.prog.stoodInHeld 61 = false := by kernel_rfl
  rw [show (10000 : Nat) = 9999 + 1 from rfl, run_equalIn_agg w 9999 61 _ _ hS hp]
  simp only [Program.fieldsOf, Try.underlying61]
  go_simp
  by_cases h1 : a.toList = a'.toList <;> by_cases h2 : b = b' <;> by_cases h3 : c = c' <;> simp [h1, h2, h3]
theorem neq61 (p q : Pc) (b : Bool) (hb : pcEq p q = b) (w : World) : (binOp .neq 61 (.agg #[.string (bs p.text), .bool p.var, .bool p.quo]) (.agg #[.string (bs q.text), .bool q.var, .bool q.quo])).run Try.prog w = .ok (.bool (!b)) w := by
  subst hb
  rw [run_neq_struct, eq61, bs_tl, bs_tl]; rfl
theorem guard61 : Try.prog.eqGuardType Try.prog.depth 61 = false := by kernel_rfl
def SwRel (a b : Wd) (gk : Nat) (i : Value) (w wr : World) : Prop :=
  ∃ k, i = .int .i64 ((k : Nat) : Int) ∧ k ≤ a.length ∧ gk + k = a.length + 1 ∧ Below w.heap.size w wr ∧ a.take k = b.take k
theorem sw_all {a b : Wd} (hl : a.length = b.length) (h : a.take a.length = b.take a.length) : a = b := by
  rw [List.take_length] at h
  rw [hl, List.take_length] at h
  exact h
theorem sw_len {a b : Wd} (hl : a.length ≠ b.length) : sameW a b = false := sameW_no (fun h => hl (by rw [h]))
theorem sw_bad {a b : Wd} (k : Nat) (ha : k < a.length) (hb : k < b.length) (h : pcEq a[k] b[k] = false) : sameW a b = false := by
  refine sameW_no ?_
  rintro rfl
  rw [(pcEq_iff _ _).2 rfl] at h; cases h
theorem sw_next {a b : Wd} (k : Nat) (ha : k < a.length) (hb : k < b.length) (h : a.take k = b.take k) (he : pcEq a[k] b[k] = true) : a.take (k + 1) = b.take (k + 1) := by
  rw [List.take_succ_eq_append_getElem ha, List.take_succ_eq_append_getElem hb, h, (pcEq_iff _ _).1 he]
set_option maxRecDepth 100000 in
set_option maxHeartbeats 2000000 in
theorem SameWord_any (w : World) (va vb : Value) (a b : Wd) (ha : RdV w va a) (hb : RdV w vb b) (la : a.length ≤ 100000) (lb : b.length ≤ 100000) :
    Calls Try.prog 20 #[va, vb] w fun e w' => e = .returned (.bool (sameW a b)) ∧ Below w.heap.size w w' := by
  by_cases hl : a.length = b.length
  · rcases Nat.eq_zero_or_pos a.length with h0 | h0
    · obtain ⟨A, c, rfl, _⟩ := Rd.form ha
      obtain ⟨B, d, rfl, _⟩ := Rd.form hb
      obtain rfl := List.length_eq_zero_iff.1 h0
      obtain rfl := List.length_eq_zero_iff.1 (hl.symm.trans h0)
      clear ha hb h0 hl
      go_enter Try.func20, Try.ntmps20
      go_wp2
      go_loopg [5] 1 (fun gk i wr => i = .int .i64 0 ∧ Below w.heap.size w wr)
      case atStart => exact ⟨rfl, Below.refl _ _⟩
      case round =>
        obtain ⟨rfl, hb⟩ := hrel
        go_wp2
        go_ret
        exact ⟨rfl, hb⟩
    · obtain ⟨b1, o1, c1, rfl, _, hb1, hc1⟩ := Rd.piece ha h0
      obtain ⟨b2, o2, c2, hv2, _, hb2, hc2⟩ := Rd.piece hb (by omega)
      rw [← hl] at hv2
      subst hv2
      have HC1 := Lib.hid hc1
      have HC2 := Lib.hid hc2
      have HL := Lib.hid hl
      have hg51 := guard51
      clear ha hb hc1 hc2 hl
      go_enter Try.func20, Try.ntmps20
      go_wp2
      go_loopg [5] (a.length + 1) (fun gk i wr => SwRel a b gk i w wr)
      case atStart => exact ⟨0, rfl, Nat.zero_le _, by omega, Below.refl _ _, rfl⟩
      case round =>
        obtain ⟨k, rfl, hk, hgk, hb, ht⟩ := hrel
        have HT := Lib.hid ht
        clear ht
        by_cases hlt : k < a.length
        · have hltb : k < b.length := by have := HL.out; omega
          obtain ⟨p0, p1, p2⟩ := HC1.out k hlt
          obtain ⟨q0, q1, q2⟩ := HC2.out k hltb
          have HBAD := Lib.hid (sw_bad k hlt hltb)
          have HNXT := Lib.hid (sw_next k hlt hltb HT.out)
          obtain ⟨p, hp⟩ : ∃ p, a[k] = p := ⟨_, rfl⟩
          obtain ⟨q, hq⟩ : ∃ q, b[k] = q := ⟨_, rfl⟩
          rw [hp] at p0 p1 p2 HBAD HNXT
          rw [hq] at q0 q1 q2 HBAD HNXT
          clear hp hq
          have x0 := ((bcell hb).1 b1 (o1 + k * 3) hb1).trans p0
          have x1 := ((bcell hb).1 b1 (o1 + k * 3 + 1) hb1).trans p1
          have x2 := ((bcell hb).1 b1 (o1 + k * 3 + 2) hb1).trans p2
          have y0 := ((bcell hb).1 b2 (o2 + k * 3) hb2).trans q0
          have y1 := ((bcell hb).1 b2 (o2 + k * 3 + 1) hb2).trans q1
          have y2 := ((bcell hb).1 b2 (o2 + k * 3 + 2) hb2).trans q2
          clear p0 p1 p2 q0 q1 q2
          have i1 : (0 : Int) ≤ (k : Int) := by omega
          have i2 : (k : Int) < (a.length : Int) := by omega
          cases hpq : pcEq p q with
          | true =>
            have hn := neq51 p q true hpq
            have HX := Lib.hid (HNXT.out hpq)
            clear hpq HNXT HBAD
            go_wp2
            go_quiet (fail)
            go_wp2
            go_roundg (gk - 1)
            case rel => exact ⟨k + 1, by go_num, by omega, by omega, below_drewN hb _, HX.out⟩
            case measure => omega
          | false =>
            have hn := neq51 p q false hpq
            have HX := Lib.hid (HBAD.out hpq)
            clear hpq HNXT HBAD
            go_wp2
            go_quiet (fail)
            go_wp2
            go_ret
            exact ⟨ret_bool HX.out.symm, below_drewN hb _⟩
        · obtain rfl : k = a.length := by omega
          have HX := Lib.hid ((sameW_iff a b).2 (sw_all HL.out HT.out))
          go_wp2
          go_ret
          exact ⟨ret_bool HX.out.symm, hb⟩
  · have HX := Lib.hid (sw_len hl)
    obtain ⟨A, c, rfl, _⟩ := Rd.form ha
    obtain ⟨B, d, rfl, _⟩ := Rd.form hb
    have e1 : ((a.length : Int) == (b.length : Int)) = false := beq_false_of_ne (by omega)
    have e2 : ((a.length : Int) != (b.length : Int)) = true := by simp; omega
    have e3 : ((a.length) == (b.length)) = false := beq_false_of_ne hl
    clear ha hb
    go_enter Try.func20, Try.ntmps20
    go_wp2
    go_ret
    exact ⟨ret_bool HX.out.symm, Below.refl _ _⟩
end Go.Proofs.Ytiddchpkmcncdaa
