/- Walks of layer 41: Equal. -/
import Derived.Test.YtiddchpkmcncdaaG2
import Derived.Test.YtiddchpkmcncdaaG3
namespace Go.Proofs.Ytiddchpkmcncdaa
open Go.RowKit
set_option linter.unusedSimpArgs false
set_option linter.unusedVariables false
def allB {α : Type} (f : α → α → Bool) : List α → List α → Bool
  | [], [] => true
  | a :: l, b :: m => f a b && allB f l m
  | _, _ => false
theorem allB_iff {α : Type} {f : α → α → Bool} (h : ∀ a b, f a b = true ↔ a = b) : ∀ l m : List α, allB f l m = true ↔ l = m
  | [], [] => by simp [allB]
  | [], b :: m => by simp [allB]
  | a :: l, [] => by simp [allB]
  | a :: l, b :: m => by simp only [allB, Bool.and_eq_true, h, allB_iff h l m, List.cons.injEq]
theorem allB_len {α : Type} {f : α → α → Bool} : ∀ {l m : List α}, l.length ≠ m.length → allB f l m = false
  | [], [], h => by simp at h
  | [], b :: m, _ => rfl
  | a :: l, [], _ => rfl
  | a :: l, b :: m, h => by
    rw [allB, allB_len (l := l) (m := m) (by simpa using h), Bool.and_false]
theorem allB_drop {α : Type} {f : α → α → Bool} (l m : List α) (k : Nat) (hl : k < l.length) (hm : k < m.length) : allB f (l.drop k) (m.drop k) = (f l[k] m[k] && allB f (l.drop (k + 1)) (m.drop (k + 1))) := by
  rw [List.drop_eq_getElem_cons hl, List.drop_eq_getElem_cons hm, allB]
theorem allB_end {α : Type} {f : α → α → Bool} {l m : List α} (h : l.length = m.length) : allB f (l.drop l.length) (m.drop l.length) = true := by
  rw [List.drop_length, h, List.drop_length]; rfl
def eqA (a b : Asg) : Bool := a.name == b.name && sameW a.value b.value
def eqSm (a b : Sm) : Bool := a.app == b.app && sameW a.inn b.inn && sameW a.out b.out && allB sameW a.words b.words && allB eqA a.asg b.asg
def eqP (a b : Pl) : Bool := decide (a.wh = b.wh) && allB eqSm a.stages b.stages
def eqLn (a b : Ln) : Bool := a.bg == b.bg && allB eqP a.parts b.parts
theorem eqA_iff (a b : Asg) : eqA a b = true ↔ a = b := by
  cases a; cases b
  simp [eqA, sameW_iff]
theorem eqSm_iff (a b : Sm) : eqSm a b = true ↔ a = b := by
  cases a; cases b
  simp only [eqSm, Bool.and_eq_true, sameW_iff, allB_iff sameW_iff, allB_iff eqA_iff, beq_iff_eq, Sm.mk.injEq]
  constructor
  · rintro ⟨⟨⟨⟨h1, h2⟩, h3⟩, h4⟩, h5⟩; exact ⟨h5, h4, h2, h3, h1⟩
  · rintro ⟨h5, h4, h2, h3, h1⟩; exact ⟨⟨⟨⟨h1, h2⟩, h3⟩, h4⟩, h5⟩
theorem eqP_iff (a b : Pl) : eqP a b = true ↔ a = b := by
  cases a; cases b
  simp [eqP, allB_iff eqSm_iff]
theorem eqLn_iff (a b : Ln) : eqLn a b = true ↔ a = b := by
  cases a; cases b
  simp only [eqLn, Bool.and_eq_true, allB_iff eqP_iff, beq_iff_eq, Ln.mk.injEq]
  exact ⟨fun ⟨h1, h2⟩ => ⟨h2, h1⟩, fun ⟨h2, h1⟩ => ⟨h1, h2⟩⟩
set_option maxRecDepth 100000 in
set_option maxHeartbeats 2000000 in
theorem weq_any (w : World) (va vb : Value) (a b : Wd) (ha : NWp 61 w va a) (hb : NWp 61 w vb b) (la : a.length ≤ 100000) (lb : b.length ≤ 100000) :
    Calls Try.prog 82 #[va, vb] w fun e w' => e = .returned (.bool (sameW a b)) ∧ Below w.heap.size w w' := by
  by_cases hl : a.length = b.length
  · rcases Nat.eq_zero_or_pos a.length with h0 | h0
    · obtain ⟨A, c, rfl, _⟩ := Rd.form ha
      obtain ⟨B, d, rfl, _⟩ := Rd.form hb
      obtain rfl := List.length_eq_zero_iff.1 h0
      obtain rfl := List.length_eq_zero_iff.1 (hl.symm.trans h0)
      clear ha hb h0 hl
      go_enter Try.func82, Try.ntmps82
      go_wp2
      go_loopg [13] 1 (fun gk i wr => i = .int .i64 0 ∧ Below w.heap.size w wr)
      case atStart => exact ⟨rfl, Below.refl _ _⟩
      case round =>
        obtain ⟨rfl, hb⟩ := hrel
        go_wp2
        go_ret
        exact ⟨rfl, hb⟩
    · obtain ⟨b1, o1, c1, rfl, _, hb1, hc1⟩ := Rd.piece (show Rd 61 w va a.length (pcC a) from ha) h0
      obtain ⟨b2, o2, c2, hv2, _, hb2, hc2⟩ := Rd.piece (show Rd 61 w vb b.length (pcC b) from hb) (by omega)
      rw [← hl] at hv2
      subst hv2
      have HC1 := Lib.hid hc1
      have HC2 := Lib.hid hc2
      have HL := Lib.hid hl
      have hg61 := guard61
      clear ha hb hc1 hc2 hl
      go_enter Try.func82, Try.ntmps82
      go_wp2
      go_loopg [13] (a.length + 1) (fun gk i wr => SwRel a b gk i w wr)
      case atStart => exact ⟨0, rfl, Nat.zero_le _, by omega, Below.refl _ _, rfl⟩
      case round =>
        obtain ⟨k, rfl, hk, hgk, hb, ht⟩ := hrel
        have HT := Lib.hid ht
        clear ht
        by_cases hlt : k < a.length
        · have hltb : k < b.length := by have := HL.out; omega
          obtain ⟨p0, p1, p2⟩ := HC1.out k hlt
          obtain ⟨q0, q1, q2⟩ := HC2.out k hltb
          have HBAD := Lib.hid (sw_bad k hlt hltb)
          have HNXT := Lib.hid (sw_next k hlt hltb HT.out)
          obtain ⟨p, hp⟩ : ∃ p, a[k] = p := ⟨_, rfl⟩
          obtain ⟨q, hq⟩ : ∃ q, b[k] = q := ⟨_, rfl⟩
          rw [hp] at p0 p1 p2 HBAD HNXT
          rw [hq] at q0 q1 q2 HBAD HNXT
          clear hp hq
          have x0 := ((bcell hb).1 b1 (o1 + k * 3) hb1).trans p0
          have x1 := ((bcell hb).1 b1 (o1 + k * 3 + 1) hb1).trans p1
          have x2 := ((bcell hb).1 b1 (o1 + k * 3 + 2) hb1).trans p2
          have y0 := ((bcell hb).1 b2 (o2 + k * 3) hb2).trans q0
          have y1 := ((bcell hb).1 b2 (o2 + k * 3 + 1) hb2).trans q1
          have y2 := ((bcell hb).1 b2 (o2 + k * 3 + 2) hb2).trans q2
          clear p0 p1 p2 q0 q1 q2
          have i1 : (0 : Int) ≤ (k : Int) := by omega
          have i2 : (k : Int) < (a.length : Int) := by omega
          cases hpq : pcEq p q with
          | true =>
            have hn := neq61 p q true hpq
            have HX := Lib.hid (HNXT.out hpq)
            clear hpq HNXT HBAD
            go_wp2
            go_quiet (fail)
            go_wp2
            go_roundg (gk - 1)
            case rel => exact ⟨k + 1, by go_num, by omega, by omega, below_drewN hb _, HX.out⟩
            case measure => omega
          | false =>
            have hn := neq61 p q false hpq
            have HX := Lib.hid (HBAD.out hpq)
            clear hpq HNXT HBAD
            go_wp2
            go_quiet (fail)
            go_wp2
            go_ret
            exact ⟨ret_bool HX.out.symm, below_drewN hb _⟩
        · obtain rfl : k = a.length := by omega
          have HX := Lib.hid ((sameW_iff a b).2 (sw_all HL.out HT.out))
          go_wp2
          go_ret
          exact ⟨ret_bool HX.out.symm, hb⟩
  · have HX := Lib.hid (sw_len hl)
    obtain ⟨A, c, rfl, _⟩ := Rd.form ha
    obtain ⟨B, d, rfl, _⟩ := Rd.form hb
    have e1 : ((a.length : Int) == (b.length : Int)) = false := beq_false_of_ne (by omega)
    have e2 : ((a.length : Int) != (b.length : Int)) = true := by simp; omega
    have e3 : ((a.length) == (b.length)) = false := beq_false_of_ne hl
    clear ha hb
    go_enter Try.func82, Try.ntmps82
    go_wp2
    go_ret
    exact ⟨ret_bool HX.out.symm, Below.refl _ _⟩

theorem weq_is (w : World) (va vb : Value) (a b : Wd) (r : Bool) (ha : NWp 61 w va a) (hb : NWp 61 w vb b) (la : a.length ≤ 100000) (lb : b.length ≤ 100000) (hr : sameW a b = r) :
    Calls Try.prog 82 #[va, vb] w fun e w' => e = .returned (.bool r) ∧ Below w.heap.size w w' := by
  subst hr; exact weq_any w va vb a b ha hb la lb
def WLen (ps : Wd) : Prop := ps.length ≤ 100000
theorem NSp.pa {p wt ta : TypeId} {w : World} {v : V4} {c : Sm} (h : NSp p wt ta w v c) : RowRd ta asgV (NAp p) w v.a c.asg := h.1
theorem NSp.pw {p wt ta : TypeId} {w : World} {v : V4} {c : Sm} (h : NSp p wt ta w v c) : RowRd wt wdV (NWp p) w v.b c.words := h.2.1
theorem NSp.pi {p wt ta : TypeId} {w : World} {v : V4} {c : Sm} (h : NSp p wt ta w v c) : NWp p w v.c c.inn := h.2.2.1
theorem NSp.po {p wt ta : TypeId} {w : World} {v : V4} {c : Sm} (h : NSp p wt ta w v c) : NWp p w v.d c.out := h.2.2.2
theorem weq84_is (w : World) (va vb : Value) (a b : Wd) (r : Bool) (ha : NWp 61 w va a) (hb : NWp 61 w vb b) (la : WLen a) (lb : WLen b) (hr : sameW a b = r) :
    Calls Try.prog 84 #[va, vb] w fun e w' => e = .returned (.bool r) ∧ Below w.heap.size w w' := by
  obtain ⟨A, c, rfl, _⟩ := Rd.form ha
  obtain ⟨B, d, rfl, _⟩ := Rd.form hb
  have HR := Lib.hid hr
  unfold WLen at la lb
  clear hr
  go_enter Try.func84, Try.ntmps84
  go_wp2_with (go_at_call 82; (with_reducible refine (weq_is _ _ _ a b r ha hb la lb HR.out).mono ?_); rintro e w1 ⟨rfl, hb1⟩)
  go_ret
  exact ⟨rfl, hb1⟩

def EqRel {α : Type} (f : α → α → Bool) (w : World) (a b : List α) (gk : Nat) (v : Value) (wr : World) : Prop :=
  ∃ k, v = .int .i64 ((k : Nat) : Int) ∧ k ≤ a.length ∧ gk + k = a.length + 1 ∧ Below w.heap.size w wr ∧ allB f a b = allB f (a.drop k) (b.drop k)
def ALen (a : Asg) : Prop := a.value.length ≤ 100000
def PLen (q : Pl) : Prop := q.stages.length ≤ 100000 ∧ ∀ c ∈ q.stages, SmLim c
set_option maxRecDepth 100000 in
set_option maxHeartbeats 8000000 in
theorem weqs_any (w : World) (va vb : Value) (a b : List Wd) (ha : RowRd 42 wdV (NWp 61) w va a) (hb : RowRd 42 wdV (NWp 61) w vb b) (la : a.length ≤ 100000) (lb : b.length ≤ 100000) (ha3 : ∀ x ∈ a, WLen x) (hb3 : ∀ x ∈ b, WLen x) :
    Calls Try.prog 83 #[va, vb, .func (.func 84) #[] #[]] w fun e w' => e = .returned (.bool (allB sameW a b)) ∧ Below w.heap.size w w' := by
  obtain ⟨A, ca, rfl, _, hA⟩ := ha.all wdV_len
  obtain ⟨B, cb, rfl, _, hB⟩ := hb.all wdV_len
  have HA := Lib.hid hA
  have HB := Lib.hid hB
  have HA3 := Lib.hid ha3
  have HB3 := Lib.hid hb3
  clear ha hb hA hB ha3 hb3
  by_cases hl : a.length = b.length
  · have e1 : ((a.length : Int) == (b.length : Int)) = true := beq_iff_eq.2 (by omega)
    have e2 : ((a.length : Int) != (b.length : Int)) = false := by simp [hl]
    have HL := Lib.hid hl
    clear hl
    go_enter Try.func83, Try.ntmps83
    go_wp2
    go_loopg [17] (a.length + 1) (fun gk v wr => EqRel sameW w a b gk v wr)
    case atStart => exact ⟨0, rfl, Nat.zero_le _, by omega, Below.refl _ _, rfl⟩
    case round =>
      obtain ⟨k, rfl, hk, hgk, hb, hr⟩ := hrel
      have HR := Lib.hid hr
      have HBW := Lib.hid hb
      clear hr
      by_cases hlt : k < a.length
      · have hltb : k < b.length := by have := HL.out; omega
        obtain ⟨b1, o1, u1, rfl, hb1, hN1, hx1⟩ := HA.out k hlt
        obtain ⟨b2, o2, u2, rfl, hb2, hN2, hx2⟩ := HB.out k hltb
        have hl1 := HA3.out a[k] (List.getElem_mem hlt)
        have hl2 := HB3.out b[k] (List.getElem_mem hltb)
        have HD := Lib.hid (HR.out.trans (allB_drop a b k hlt hltb))
        obtain ⟨x, hx⟩ : ∃ x, a[k] = x := ⟨_, rfl⟩
        obtain ⟨y, hy⟩ : ∃ y, b[k] = y := ⟨_, rfl⟩
        rw [hx] at hN1 hx1 hl1 HD
        rw [hy] at hN2 hx2 hl2 HD
        clear hx hy HR
        obtain ⟨A1, c1, rfl, _⟩ := Rd.form hN1
        obtain ⟨A2, c2, rfl, _⟩ := Rd.form hN2
        have p00 := hx1 0 _ rfl
        rw [Nat.mul_one, Nat.add_zero] at p00
        have e00 := ((bcell hb).1 b1 _ hb1).trans p00
        have p10 := hx2 0 _ rfl
        rw [Nat.mul_one, Nat.add_zero] at p10
        have e10 := ((bcell hb).1 b2 _ hb2).trans p10
        have i1 : (0 : Int) ≤ (k : Int) := by omega
        have i2 : (k : Int) < (a.length : Int) := by omega
        have i3 : (k : Int) < (b.length : Int) := by omega
        have hbr1 : b1 < wr.heap.size := Nat.lt_of_lt_of_le hb1 hb.size
        have hbr2 : b2 < wr.heap.size := Nat.lt_of_lt_of_le hb2 hb.size
        have HN1 := Lib.hid (NWp.next hN1 hb)
        have HN2 := Lib.hid (NWp.next hN2 hb)
        have HBA := Lib.hid HBW.out
        have HL1 := Lib.hid hl1
        have HL2 := Lib.hid hl2
        clear hx1 hx2 p00 p10 hb hN1 hN2 hl1 hl2
        cases hf : sameW x y with
        | true =>
          have HF := Lib.hid hf
          rw [hf] at HD
          clear hf
          go_wp2_with (go_at_call 84; (with_reducible refine (weq84_is _ _ _ x y true HN1.out HN2.out HL1.out HL2.out HF.out).mono ?_); rintro e w5 ⟨rfl, hb5⟩; have HB5 := Lib.hid (HBA.out.trans (hb5.mono HBA.out.size)); clear hb5)
          go_roundg (gk - 1)
          case rel => exact ⟨k + 1, by go_num, by omega, by omega, HB5.out, HD.out⟩
          case measure => omega
        | false =>
          have HF := Lib.hid hf
          rw [hf] at HD
          clear hf
          go_wp2_with (go_at_call 84; (with_reducible refine (weq84_is _ _ _ x y false HN1.out HN2.out HL1.out HL2.out HF.out).mono ?_); rintro e w5 ⟨rfl, hb5⟩; have HB5 := Lib.hid (HBA.out.trans (hb5.mono HBA.out.size)); clear hb5)
          go_ret
          exact ⟨ret_bool (by rw [HD.out]; rfl), HB5.out⟩
      · obtain rfl : k = a.length := by omega
        have HZ := Lib.hid (show allB sameW a b = true by rw [HR.out, allB_end HL.out])
        clear hb
        go_wp2
        go_ret
        exact ⟨ret_bool HZ.out.symm, HBW.out⟩
  · have e1 : ((a.length : Int) == (b.length : Int)) = false := beq_false_of_ne (by omega)
    have e2 : ((a.length : Int) != (b.length : Int)) = true := by simp; omega
    have e3 : (a.length == b.length) = false := beq_false_of_ne hl
    have HX := Lib.hid (allB_len (f := sameW) hl)
    clear HA HB HA3 HB3
    go_enter Try.func83, Try.ntmps83
    go_wp2
    go_ret
    exact ⟨ret_bool HX.out.symm, Below.refl _ _⟩
theorem weqs_is (w : World) (va vb : Value) (a b : List Wd) (r : Bool) (ha : RowRd 42 wdV (NWp 61) w va a) (hb : RowRd 42 wdV (NWp 61) w vb b) (la : a.length ≤ 100000) (lb : b.length ≤ 100000) (ha3 : ∀ x ∈ a, WLen x) (hb3 : ∀ x ∈ b, WLen x) (hr : allB sameW a b = r) :
    Calls Try.prog 83 #[va, vb, .func (.func 84) #[] #[]] w fun e w' => e = .returned (.bool r) ∧ Below w.heap.size w w' := by
  subst hr; exact weqs_any w va vb a b ha hb la lb ha3 hb3
set_option maxRecDepth 100000 in
theorem aeq_is (w : World) (va vb : Value) (a b : Asg) (r : Bool) (ha : NAp 61 w va a) (hb : NAp 61 w vb b) (la : ALen a) (lb : ALen b) (hr : eqA a b = r) :
    Calls Try.prog 86 #[.agg #[.string (bs a.name), va], .agg #[.string (bs b.name), vb]] w fun e w' => e = .returned (.bool r) ∧ Below w.heap.size w w' := by
  obtain ⟨A, c, rfl, _⟩ := Rd.form ha
  obtain ⟨B, d, rfl, _⟩ := Rd.form hb
  have HX := Lib.hid (((Below.refl w.heap.size w).alloc (Nat.le_refl _) (.cells #[.string (bs a.name), .slice A a.value.length c] 140)).alloc (by simp) (.cells #[.string (bs b.name), .slice B b.value.length d] 140))
  have HA := Lib.hid (NWp.next (show NWp 61 w _ a.value from ha) HX.out)
  have HB := Lib.hid (NWp.next (show NWp 61 w _ b.value from hb) HX.out)
  unfold eqA at hr
  clear ha hb
  unfold ALen at la lb
  by_cases hn : a.name = b.name
  · have e1 : ((bs a.name).toList == (bs b.name).toList) = true := by rw [bs_tl, bs_tl, hn]; simp
    have HR := Lib.hid (show sameW a.value b.value = r by rw [← hr, hn]; simp)
    have HN := Lib.hid hn
    clear hn hr
    go_enter Try.func86, Try.ntmps86
    go_wp2_with (go_at_call 82; (with_reducible refine (weq_is _ _ _ a.value b.value r HA.out HB.out la lb HR.out).mono ?_); rintro e w5 ⟨rfl, hb5⟩; have HB5 := Lib.hid (HX.out.trans (hb5.mono HX.out.size)); clear hb5)
    go_ret
    exact ⟨rfl, HB5.out⟩
  · have e1 : ((bs a.name).toList == (bs b.name).toList) = false := by rw [bs_tl, bs_tl]; exact beq_false_of_ne hn
    have HR := Lib.hid (show r = false by rw [← hr, beq_false_of_ne hn]; rfl)
    clear hn hr
    go_enter Try.func86, Try.ntmps86
    go_wp2
    go_ret
    exact ⟨ret_bool HR.out.symm, HX.out⟩
set_option maxRecDepth 100000 in
set_option maxHeartbeats 8000000 in
theorem aeqs_any (w : World) (va vb : Value) (a b : List Asg) (ha : RowRd 140 asgV (NAp 61) w va a) (hb : RowRd 140 asgV (NAp 61) w vb b) (la : a.length ≤ 100000) (lb : b.length ≤ 100000) (ha3 : ∀ x ∈ a, ALen x) (hb3 : ∀ x ∈ b, ALen x) :
    Calls Try.prog 85 #[va, vb, .func (.func 86) #[] #[]] w fun e w' => e = .returned (.bool (allB eqA a b)) ∧ Below w.heap.size w w' := by
  obtain ⟨A, ca, rfl, _, hA⟩ := ha.all asgV_len
  obtain ⟨B, cb, rfl, _, hB⟩ := hb.all asgV_len
  have HA := Lib.hid hA
  have HB := Lib.hid hB
  have HA3 := Lib.hid ha3
  have HB3 := Lib.hid hb3
  clear ha hb hA hB ha3 hb3
  by_cases hl : a.length = b.length
  · have e1 : ((a.length : Int) == (b.length : Int)) = true := beq_iff_eq.2 (by omega)
    have e2 : ((a.length : Int) != (b.length : Int)) = false := by simp [hl]
    have HL := Lib.hid hl
    clear hl
    go_enter Try.func85, Try.ntmps85
    go_wp2
    go_loopg [17] (a.length + 1) (fun gk v wr => EqRel eqA w a b gk v wr)
    case atStart => exact ⟨0, rfl, Nat.zero_le _, by omega, Below.refl _ _, rfl⟩
    case round =>
      obtain ⟨k, rfl, hk, hgk, hb, hr⟩ := hrel
      have HR := Lib.hid hr
      have HBW := Lib.hid hb
      clear hr
      by_cases hlt : k < a.length
      · have hltb : k < b.length := by have := HL.out; omega
        obtain ⟨b1, o1, u1, rfl, hb1, hN1, hx1⟩ := HA.out k hlt
        obtain ⟨b2, o2, u2, rfl, hb2, hN2, hx2⟩ := HB.out k hltb
        have hl1 := HA3.out a[k] (List.getElem_mem hlt)
        have hl2 := HB3.out b[k] (List.getElem_mem hltb)
        have HD := Lib.hid (HR.out.trans (allB_drop a b k hlt hltb))
        obtain ⟨x, hx⟩ : ∃ x, a[k] = x := ⟨_, rfl⟩
        obtain ⟨y, hy⟩ : ∃ y, b[k] = y := ⟨_, rfl⟩
        rw [hx] at hN1 hx1 hl1 HD
        rw [hy] at hN2 hx2 hl2 HD
        clear hx hy HR
        obtain ⟨A1, c1, rfl, _⟩ := Rd.form hN1
        obtain ⟨A2, c2, rfl, _⟩ := Rd.form hN2
        have p00 := hx1 0 _ rfl
        rw [Nat.add_zero] at p00
        have e00 := ((bcell hb).1 b1 _ hb1).trans p00
        have p01 := hx1 1 _ rfl
        rw [← Nat.add_assoc] at p01
        have e01 := ((bcell hb).1 b1 _ hb1).trans p01
        have p10 := hx2 0 _ rfl
        rw [Nat.add_zero] at p10
        have e10 := ((bcell hb).1 b2 _ hb2).trans p10
        have p11 := hx2 1 _ rfl
        rw [← Nat.add_assoc] at p11
        have e11 := ((bcell hb).1 b2 _ hb2).trans p11
        have i1 : (0 : Int) ≤ (k : Int) := by omega
        have i2 : (k : Int) < (a.length : Int) := by omega
        have i3 : (k : Int) < (b.length : Int) := by omega
        have hbr1 : b1 < wr.heap.size := Nat.lt_of_lt_of_le hb1 hb.size
        have hbr2 : b2 < wr.heap.size := Nat.lt_of_lt_of_le hb2 hb.size
        have HX1 := Lib.hid ((Below.refl wr.heap.size wr).alloc (Nat.le_refl _) (.cells #[.string (bs x.name), .slice A1 x.value.length c1] 140))
        have HX2 := Lib.hid (HX1.out.alloc HX1.out.size (.cells #[.string (bs y.name), .slice A2 y.value.length c2] 140))
        have HN1 := Lib.hid (NAp.next (NAp.next hN1 hb) HX2.out)
        have HN2 := Lib.hid (NAp.next (NAp.next hN2 hb) HX2.out)
        have HBA := Lib.hid (HBW.out.trans (HX2.out.mono HBW.out.size))
        have HL1 := Lib.hid hl1
        have HL2 := Lib.hid hl2
        clear hx1 hx2 p00 p10 p01 p11 hb hN1 hN2 hl1 hl2
        cases hf : eqA x y with
        | true =>
          have HF := Lib.hid hf
          rw [hf] at HD
          clear hf
          go_wp2_with (go_at_call 86; (with_reducible refine (aeq_is _ _ _ x y true HN1.out HN2.out HL1.out HL2.out HF.out).mono ?_); rintro e w5 ⟨rfl, hb5⟩; have HB5 := Lib.hid (HBA.out.trans (hb5.mono HBA.out.size)); clear hb5)
          go_roundg (gk - 1)
          case rel => exact ⟨k + 1, by go_num, by omega, by omega, HB5.out, HD.out⟩
          case measure => omega
        | false =>
          have HF := Lib.hid hf
          rw [hf] at HD
          clear hf
          go_wp2_with (go_at_call 86; (with_reducible refine (aeq_is _ _ _ x y false HN1.out HN2.out HL1.out HL2.out HF.out).mono ?_); rintro e w5 ⟨rfl, hb5⟩; have HB5 := Lib.hid (HBA.out.trans (hb5.mono HBA.out.size)); clear hb5)
          go_ret
          exact ⟨ret_bool (by rw [HD.out]; rfl), HB5.out⟩
      · obtain rfl : k = a.length := by omega
        have HZ := Lib.hid (show allB eqA a b = true by rw [HR.out, allB_end HL.out])
        clear hb
        go_wp2
        go_ret
        exact ⟨ret_bool HZ.out.symm, HBW.out⟩
  · have e1 : ((a.length : Int) == (b.length : Int)) = false := beq_false_of_ne (by omega)
    have e2 : ((a.length : Int) != (b.length : Int)) = true := by simp; omega
    have e3 : (a.length == b.length) = false := beq_false_of_ne hl
    have HX := Lib.hid (allB_len (f := eqA) hl)
    clear HA HB HA3 HB3
    go_enter Try.func85, Try.ntmps85
    go_wp2
    go_ret
    exact ⟨ret_bool HX.out.symm, Below.refl _ _⟩
theorem aeqs_is (w : World) (va vb : Value) (a b : List Asg) (r : Bool) (ha : RowRd 140 asgV (NAp 61) w va a) (hb : RowRd 140 asgV (NAp 61) w vb b) (la : a.length ≤ 100000) (lb : b.length ≤ 100000) (ha3 : ∀ x ∈ a, ALen x) (hb3 : ∀ x ∈ b, ALen x) (hr : allB eqA a b = r) :
    Calls Try.prog 85 #[va, vb, .func (.func 86) #[] #[]] w fun e w' => e = .returned (.bool r) ∧ Below w.heap.size w w' := by
  subst hr; exact aeqs_any w va vb a b ha hb la lb ha3 hb3
set_option maxRecDepth 100000 in
set_option maxHeartbeats 4000000 in
theorem seq_is (w : World) (va vb vi vo ua ub ui uo : Value) (a b : Sm) (r : Bool) (ha : NSp 61 42 140 w ⟨va, vb, vi, vo⟩ a) (hb : NSp 61 42 140 w ⟨ua, ub, ui, uo⟩ b) (la : SmLim a) (lb : SmLim b) (hr : eqSm a b = r) :
    Calls Try.prog 57 #[.agg #[va, vb, vi, vo, .bool a.app], .agg #[ua, ub, ui, uo, .bool b.app]] w fun e w' => e = .returned (.bool r) ∧ Below w.heap.size w w' := by
  obtain ⟨sa1, na1, sb1, nb1, si1, ni1, so1, no1, h1⟩ := ha.forms
  obtain ⟨sa2, na2, sb2, nb2, si2, ni2, so2, no2, h2⟩ := hb.forms
  injection h1 with h11 h12 h13 h14
  injection h2 with h21 h22 h23 h24
  subst h11 h12 h13 h14 h21 h22 h23 h24
  have HX := Lib.hid (((Below.refl w.heap.size w).alloc (Nat.le_refl _) (.cells #[.slice sa1 a.asg.length na1, .slice sb1 a.words.length nb1, .slice si1 a.inn.length ni1, .slice so1 a.out.length no1, .bool a.app] 46)).alloc (by simp) (.cells #[.slice sa2 b.asg.length na2, .slice sb2 b.words.length nb2, .slice si2 b.inn.length ni2, .slice so2 b.out.length no2, .bool b.app] 46))
  have HA := Lib.hid (NSp.next ha HX.out)
  have HB := Lib.hid (NSp.next hb HX.out)
  obtain ⟨l1, l2, l3, l4, l5, l6⟩ := la
  obtain ⟨m1, m2, m3, m4, m5, m6⟩ := lb
  have HL3 := Lib.hid (show ∀ x ∈ a.asg, ALen x from l3)
  have HL4 := Lib.hid (show ∀ x ∈ a.words, WLen x from l4)
  have HM3 := Lib.hid (show ∀ x ∈ b.asg, ALen x from m3)
  have HM4 := Lib.hid (show ∀ x ∈ b.words, WLen x from m4)
  have K1 := Lib.hid ((Blk.new w 46 #[.slice sa1 a.asg.length na1, .slice sb1 a.words.length nb1, .slice si1 a.inn.length ni1, .slice so1 a.out.length no1, .bool a.app]).alloc (.cells #[.slice sa2 b.asg.length na2, .slice sb2 b.words.length nb2, .slice si2 b.inn.length ni2, .slice so2 b.out.length no2, .bool b.app] 46))
  have K2 := Lib.hid (show Blk ((w.alloc (.cells #[.slice sa1 a.asg.length na1, .slice sb1 a.words.length nb1, .slice si1 a.inn.length ni1, .slice so1 a.out.length no1, .bool a.app] 46)).alloc (.cells #[.slice sa2 b.asg.length na2, .slice sb2 b.words.length nb2, .slice si2 b.inn.length ni2, .slice so2 b.out.length no2, .bool b.app] 46)) (w.heap.size + 1) 46 #[.slice sa2 b.asg.length na2, .slice sb2 b.words.length nb2, .slice si2 b.inn.length ni2, .slice so2 b.out.length no2, .bool b.app] from by have := Blk.new (w.alloc (.cells #[.slice sa1 a.asg.length na1, .slice sb1 a.words.length nb1, .slice si1 a.inn.length ni1, .slice so1 a.out.length no1, .bool a.app] 46)) 46 #[.slice sa2 b.asg.length na2, .slice sb2 b.words.length nb2, .slice si2 b.inn.length ni2, .slice so2 b.out.length no2, .bool b.app]; simpa using this)
  unfold eqSm at hr
  clear ha hb l3 l4 m3 m4
  obtain ⟨q1, hq1⟩ : ∃ q1, (a.app == b.app) = q1 := ⟨_, rfl⟩
  obtain ⟨q2, hq2⟩ : ∃ q2, sameW a.inn b.inn = q2 := ⟨_, rfl⟩
  obtain ⟨q3, hq3⟩ : ∃ q3, sameW a.out b.out = q3 := ⟨_, rfl⟩
  obtain ⟨q4, hq4⟩ : ∃ q4, allB sameW a.words b.words = q4 := ⟨_, rfl⟩
  obtain ⟨q5, hq5⟩ : ∃ q5, allB eqA a.asg b.asg = q5 := ⟨_, rfl⟩
  rw [hq1, hq2, hq3, hq4, hq5] at hr
  have H1 := Lib.hid hq1
  have H2 := Lib.hid hq2
  have H3 := Lib.hid hq3
  have H4 := Lib.hid hq4
  have H5 := Lib.hid hq5
  clear hq1 hq2 hq3 hq4 hq5
  go_enter Try.func57, Try.ntmps57
  go_upto_region 1 with (fail)
  generalize ((w.alloc (.cells #[.slice sa1 a.asg.length na1, .slice sb1 a.words.length nb1, .slice si1 a.inn.length ni1, .slice so1 a.out.length no1, .bool a.app] 46)).alloc (.cells #[.slice sa2 b.asg.length na2, .slice sb2 b.words.length nb2, .slice si2 b.inn.length ni2, .slice so2 b.out.length no2, .bool b.app] 46)) = wa at *
  have HW0 := Lib.hid (Below.refl wa.heap.size wa)
  have x4 : wa.cell? ⟨w.heap.size, 4, none⟩ = some (.bool a.app) := K1.out.cell 4
  have y4 : wa.cell? ⟨w.heap.size + 1, 4, none⟩ = some (.bool b.app) := K2.out.cell 4
  have x2 : wa.cell? ⟨w.heap.size, 2, none⟩ = some (.slice si1 a.inn.length ni1) := K1.out.cell 2
  have y2 : wa.cell? ⟨w.heap.size + 1, 2, none⟩ = some (.slice si2 b.inn.length ni2) := K2.out.cell 2
  have x3 : wa.cell? ⟨w.heap.size, 3, none⟩ = some (.slice so1 a.out.length no1) := K1.out.cell 3
  have y3 : wa.cell? ⟨w.heap.size + 1, 3, none⟩ = some (.slice so2 b.out.length no2) := K2.out.cell 3
  have x1 : wa.cell? ⟨w.heap.size, 1, none⟩ = some (.slice sb1 a.words.length nb1) := K1.out.cell 1
  have y1 : wa.cell? ⟨w.heap.size + 1, 1, none⟩ = some (.slice sb2 b.words.length nb2) := K2.out.cell 1
  have x0 : wa.cell? ⟨w.heap.size, 0, none⟩ = some (.slice sa1 a.asg.length na1) := K1.out.cell 0
  have y0 : wa.cell? ⟨w.heap.size + 1, 0, none⟩ = some (.slice sa2 b.asg.length na2) := K2.out.cell 0
  have hw0 : w.heap.size < wa.heap.size := K1.out.lt
  have hw1 : w.heap.size + 1 < wa.heap.size := K2.out.lt
  cases q1 with
  | false =>
    have e4 : (a.app == b.app) = false := H1.out
    have HR := Lib.hid (show r = false by rw [← hr]; simp)
    clear hr
    go_wp2
    go_ret
    exact ⟨ret_bool HR.out.symm, HX.out.trans (HW0.out.mono HX.out.size)⟩
  | true =>
    have e4 : (a.app == b.app) = true := H1.out
    cases q2 with
    | false =>
      have HR := Lib.hid (show r = false by rw [← hr]; simp)
      clear hr
      go_wp2_with fail
      (with_reducible refine (weq_is wa _ _ a.inn b.inn false (NWp.next HA.out.pi HW0.out) (NWp.next HB.out.pi HW0.out) l5 m5 H2.out).mono ?_); rintro e w2 ⟨rfl, hb2⟩; have HW2 := Lib.hid (HW0.out.trans (hb2.mono HW0.out.size)); clear hb2
      go_wp2
      go_ret
      exact ⟨ret_bool HR.out.symm, HX.out.trans (HW2.out.mono HX.out.size)⟩
    | true =>
      cases q3 with
      | false =>
        have HR := Lib.hid (show r = false by rw [← hr]; simp)
        clear hr
        go_wp2_with fail
        (with_reducible refine (weq_is wa _ _ a.inn b.inn true (NWp.next HA.out.pi HW0.out) (NWp.next HB.out.pi HW0.out) l5 m5 H2.out).mono ?_); rintro e w2 ⟨rfl, hb2⟩; have HW2 := Lib.hid (HW0.out.trans (hb2.mono HW0.out.size)); clear hb2
        clear x0 y0 x1 y1 x2 y2 x3 y3 x4 y4 hw0 hw1
        have x4 : w2.cell? ⟨w.heap.size, 4, none⟩ = some (.bool a.app) := (K1.out.next HW2.out K1.out.lt).cell 4
        have y4 : w2.cell? ⟨w.heap.size + 1, 4, none⟩ = some (.bool b.app) := (K2.out.next HW2.out K2.out.lt).cell 4
        have x2 : w2.cell? ⟨w.heap.size, 2, none⟩ = some (.slice si1 a.inn.length ni1) := (K1.out.next HW2.out K1.out.lt).cell 2
        have y2 : w2.cell? ⟨w.heap.size + 1, 2, none⟩ = some (.slice si2 b.inn.length ni2) := (K2.out.next HW2.out K2.out.lt).cell 2
        have x3 : w2.cell? ⟨w.heap.size, 3, none⟩ = some (.slice so1 a.out.length no1) := (K1.out.next HW2.out K1.out.lt).cell 3
        have y3 : w2.cell? ⟨w.heap.size + 1, 3, none⟩ = some (.slice so2 b.out.length no2) := (K2.out.next HW2.out K2.out.lt).cell 3
        have x1 : w2.cell? ⟨w.heap.size, 1, none⟩ = some (.slice sb1 a.words.length nb1) := (K1.out.next HW2.out K1.out.lt).cell 1
        have y1 : w2.cell? ⟨w.heap.size + 1, 1, none⟩ = some (.slice sb2 b.words.length nb2) := (K2.out.next HW2.out K2.out.lt).cell 1
        have x0 : w2.cell? ⟨w.heap.size, 0, none⟩ = some (.slice sa1 a.asg.length na1) := (K1.out.next HW2.out K1.out.lt).cell 0
        have y0 : w2.cell? ⟨w.heap.size + 1, 0, none⟩ = some (.slice sa2 b.asg.length na2) := (K2.out.next HW2.out K2.out.lt).cell 0
        have hw0 : w.heap.size < w2.heap.size := (K1.out.next HW2.out K1.out.lt).lt
        have hw1 : w.heap.size + 1 < w2.heap.size := (K2.out.next HW2.out K2.out.lt).lt
        go_wp2_with fail
        (with_reducible refine (weq_is w2 _ _ a.out b.out false (NWp.next HA.out.po HW2.out) (NWp.next HB.out.po HW2.out) l6 m6 H3.out).mono ?_); rintro e w3 ⟨rfl, hb3⟩; have HW3 := Lib.hid (HW2.out.trans (hb3.mono HW2.out.size)); clear hb3
        go_wp2
        go_ret
        exact ⟨ret_bool HR.out.symm, HX.out.trans (HW3.out.mono HX.out.size)⟩
      | true =>
        cases q4 with
        | false =>
          have HR := Lib.hid (show r = false by rw [← hr]; simp)
          clear hr
          go_wp2_with fail
          (with_reducible refine (weq_is wa _ _ a.inn b.inn true (NWp.next HA.out.pi HW0.out) (NWp.next HB.out.pi HW0.out) l5 m5 H2.out).mono ?_); rintro e w2 ⟨rfl, hb2⟩; have HW2 := Lib.hid (HW0.out.trans (hb2.mono HW0.out.size)); clear hb2
          clear x0 y0 x1 y1 x2 y2 x3 y3 x4 y4 hw0 hw1
          have x4 : w2.cell? ⟨w.heap.size, 4, none⟩ = some (.bool a.app) := (K1.out.next HW2.out K1.out.lt).cell 4
          have y4 : w2.cell? ⟨w.heap.size + 1, 4, none⟩ = some (.bool b.app) := (K2.out.next HW2.out K2.out.lt).cell 4
          have x2 : w2.cell? ⟨w.heap.size, 2, none⟩ = some (.slice si1 a.inn.length ni1) := (K1.out.next HW2.out K1.out.lt).cell 2
          have y2 : w2.cell? ⟨w.heap.size + 1, 2, none⟩ = some (.slice si2 b.inn.length ni2) := (K2.out.next HW2.out K2.out.lt).cell 2
          have x3 : w2.cell? ⟨w.heap.size, 3, none⟩ = some (.slice so1 a.out.length no1) := (K1.out.next HW2.out K1.out.lt).cell 3
          have y3 : w2.cell? ⟨w.heap.size + 1, 3, none⟩ = some (.slice so2 b.out.length no2) := (K2.out.next HW2.out K2.out.lt).cell 3
          have x1 : w2.cell? ⟨w.heap.size, 1, none⟩ = some (.slice sb1 a.words.length nb1) := (K1.out.next HW2.out K1.out.lt).cell 1
          have y1 : w2.cell? ⟨w.heap.size + 1, 1, none⟩ = some (.slice sb2 b.words.length nb2) := (K2.out.next HW2.out K2.out.lt).cell 1
          have x0 : w2.cell? ⟨w.heap.size, 0, none⟩ = some (.slice sa1 a.asg.length na1) := (K1.out.next HW2.out K1.out.lt).cell 0
          have y0 : w2.cell? ⟨w.heap.size + 1, 0, none⟩ = some (.slice sa2 b.asg.length na2) := (K2.out.next HW2.out K2.out.lt).cell 0
          have hw0 : w.heap.size < w2.heap.size := (K1.out.next HW2.out K1.out.lt).lt
          have hw1 : w.heap.size + 1 < w2.heap.size := (K2.out.next HW2.out K2.out.lt).lt
          go_wp2_with fail
          (with_reducible refine (weq_is w2 _ _ a.out b.out true (NWp.next HA.out.po HW2.out) (NWp.next HB.out.po HW2.out) l6 m6 H3.out).mono ?_); rintro e w3 ⟨rfl, hb3⟩; have HW3 := Lib.hid (HW2.out.trans (hb3.mono HW2.out.size)); clear hb3
          clear x0 y0 x1 y1 x2 y2 x3 y3 x4 y4 hw0 hw1
          have x4 : w3.cell? ⟨w.heap.size, 4, none⟩ = some (.bool a.app) := (K1.out.next HW3.out K1.out.lt).cell 4
          have y4 : w3.cell? ⟨w.heap.size + 1, 4, none⟩ = some (.bool b.app) := (K2.out.next HW3.out K2.out.lt).cell 4
          have x2 : w3.cell? ⟨w.heap.size, 2, none⟩ = some (.slice si1 a.inn.length ni1) := (K1.out.next HW3.out K1.out.lt).cell 2
          have y2 : w3.cell? ⟨w.heap.size + 1, 2, none⟩ = some (.slice si2 b.inn.length ni2) := (K2.out.next HW3.out K2.out.lt).cell 2
          have x3 : w3.cell? ⟨w.heap.size, 3, none⟩ = some (.slice so1 a.out.length no1) := (K1.out.next HW3.out K1.out.lt).cell 3
          have y3 : w3.cell? ⟨w.heap.size + 1, 3, none⟩ = some (.slice so2 b.out.length no2) := (K2.out.next HW3.out K2.out.lt).cell 3
          have x1 : w3.cell? ⟨w.heap.size, 1, none⟩ = some (.slice sb1 a.words.length nb1) := (K1.out.next HW3.out K1.out.lt).cell 1
          have y1 : w3.cell? ⟨w.heap.size + 1, 1, none⟩ = some (.slice sb2 b.words.length nb2) := (K2.out.next HW3.out K2.out.lt).cell 1
          have x0 : w3.cell? ⟨w.heap.size, 0, none⟩ = some (.slice sa1 a.asg.length na1) := (K1.out.next HW3.out K1.out.lt).cell 0
          have y0 : w3.cell? ⟨w.heap.size + 1, 0, none⟩ = some (.slice sa2 b.asg.length na2) := (K2.out.next HW3.out K2.out.lt).cell 0
          have hw0 : w.heap.size < w3.heap.size := (K1.out.next HW3.out K1.out.lt).lt
          have hw1 : w.heap.size + 1 < w3.heap.size := (K2.out.next HW3.out K2.out.lt).lt
          go_wp2_with fail
          (with_reducible refine (weqs_is w3 _ _ a.words b.words false (RowRd.next HA.out.pw HW3.out (fun _ _ h => NWp.next h HW3.out)) (RowRd.next HB.out.pw HW3.out (fun _ _ h => NWp.next h HW3.out)) l2 m2 HL4.out HM4.out H4.out).mono ?_); rintro e w4 ⟨rfl, hb4⟩; have HW4 := Lib.hid (HW3.out.trans (hb4.mono HW3.out.size)); clear hb4
          go_wp2
          go_ret
          exact ⟨ret_bool HR.out.symm, HX.out.trans (HW4.out.mono HX.out.size)⟩
        | true =>
          cases q5 with
          | false =>
            have HR := Lib.hid (show r = false by rw [← hr]; simp)
            clear hr
            go_wp2_with fail
            (with_reducible refine (weq_is wa _ _ a.inn b.inn true (NWp.next HA.out.pi HW0.out) (NWp.next HB.out.pi HW0.out) l5 m5 H2.out).mono ?_); rintro e w2 ⟨rfl, hb2⟩; have HW2 := Lib.hid (HW0.out.trans (hb2.mono HW0.out.size)); clear hb2
            clear x0 y0 x1 y1 x2 y2 x3 y3 x4 y4 hw0 hw1
            have x4 : w2.cell? ⟨w.heap.size, 4, none⟩ = some (.bool a.app) := (K1.out.next HW2.out K1.out.lt).cell 4
            have y4 : w2.cell? ⟨w.heap.size + 1, 4, none⟩ = some (.bool b.app) := (K2.out.next HW2.out K2.out.lt).cell 4
            have x2 : w2.cell? ⟨w.heap.size, 2, none⟩ = some (.slice si1 a.inn.length ni1) := (K1.out.next HW2.out K1.out.lt).cell 2
            have y2 : w2.cell? ⟨w.heap.size + 1, 2, none⟩ = some (.slice si2 b.inn.length ni2) := (K2.out.next HW2.out K2.out.lt).cell 2
            have x3 : w2.cell? ⟨w.heap.size, 3, none⟩ = some (.slice so1 a.out.length no1) := (K1.out.next HW2.out K1.out.lt).cell 3
            have y3 : w2.cell? ⟨w.heap.size + 1, 3, none⟩ = some (.slice so2 b.out.length no2) := (K2.out.next HW2.out K2.out.lt).cell 3
            have x1 : w2.cell? ⟨w.heap.size, 1, none⟩ = some (.slice sb1 a.words.length nb1) := (K1.out.next HW2.out K1.out.lt).cell 1
            have y1 : w2.cell? ⟨w.heap.size + 1, 1, none⟩ = some (.slice sb2 b.words.length nb2) := (K2.out.next HW2.out K2.out.lt).cell 1
            have x0 : w2.cell? ⟨w.heap.size, 0, none⟩ = some (.slice sa1 a.asg.length na1) := (K1.out.next HW2.out K1.out.lt).cell 0
            have y0 : w2.cell? ⟨w.heap.size + 1, 0, none⟩ = some (.slice sa2 b.asg.length na2) := (K2.out.next HW2.out K2.out.lt).cell 0
            have hw0 : w.heap.size < w2.heap.size := (K1.out.next HW2.out K1.out.lt).lt
            have hw1 : w.heap.size + 1 < w2.heap.size := (K2.out.next HW2.out K2.out.lt).lt
            go_wp2_with fail
            (with_reducible refine (weq_is w2 _ _ a.out b.out true (NWp.next HA.out.po HW2.out) (NWp.next HB.out.po HW2.out) l6 m6 H3.out).mono ?_); rintro e w3 ⟨rfl, hb3⟩; have HW3 := Lib.hid (HW2.out.trans (hb3.mono HW2.out.size)); clear hb3
            clear x0 y0 x1 y1 x2 y2 x3 y3 x4 y4 hw0 hw1
            have x4 : w3.cell? ⟨w.heap.size, 4, none⟩ = some (.bool a.app) := (K1.out.next HW3.out K1.out.lt).cell 4
            have y4 : w3.cell? ⟨w.heap.size + 1, 4, none⟩ = some (.bool b.app) := (K2.out.next HW3.out K2.out.lt).cell 4
            have x2 : w3.cell? ⟨w.heap.size, 2, none⟩ = some (.slice si1 a.inn.length ni1) := (K1.out.next HW3.out K1.out.lt).cell 2
            have y2 : w3.cell? ⟨w.heap.size + 1, 2, none⟩ = some (.slice si2 b.inn.length ni2) := (K2.out.next HW3.out K2.out.lt).cell 2
            have x3 : w3.cell? ⟨w.heap.size, 3, none⟩ = some (.slice so1 a.out.length no1) := (K1.out.next HW3.out K1.out.lt).cell 3
            have y3 : w3.cell? ⟨w.heap.size + 1, 3, none⟩ = some (.slice so2 b.out.length no2) := (K2.out.next HW3.out K2.out.lt).cell 3
            have x1 : w3.cell? ⟨w.heap.size, 1, none⟩ = some (.slice sb1 a.words.length nb1) := (K1.out.next HW3.out K1.out.lt).cell 1
            have y1 : w3.cell? ⟨w.heap.size + 1, 1, none⟩ = some (.slice sb2 b.words.length nb2) := (K2.out.next HW3.out K2.out.lt).cell 1
            have x0 : w3.cell? ⟨w.heap.size, 0, none⟩ = some (.slice sa1 a.asg.length na1) := (K1.out.next HW3.out K1.out.lt).cell 0
            have y0 : w3.cell? ⟨w.heap.size + 1, 0, none⟩ = some (.slice sa2 b.asg.length na2) := (K2.out.next HW3.out K2.out.lt).cell 0
            have hw0 : w.heap.size < w3.heap.size := (K1.out.next HW3.out K1.out.lt).lt
            have hw1 : w.heap.size + 1 < w3.heap.size := (K2.out.next HW3.out K2.out.lt).lt
            go_wp2_with fail
            (with_reducible refine (weqs_is w3 _ _ a.words b.words true (RowRd.next HA.out.pw HW3.out (fun _ _ h => NWp.next h HW3.out)) (RowRd.next HB.out.pw HW3.out (fun _ _ h => NWp.next h HW3.out)) l2 m2 HL4.out HM4.out H4.out).mono ?_); rintro e w4 ⟨rfl, hb4⟩; have HW4 := Lib.hid (HW3.out.trans (hb4.mono HW3.out.size)); clear hb4
            clear x0 y0 x1 y1 x2 y2 x3 y3 x4 y4 hw0 hw1
            have x4 : w4.cell? ⟨w.heap.size, 4, none⟩ = some (.bool a.app) := (K1.out.next HW4.out K1.out.lt).cell 4
            have y4 : w4.cell? ⟨w.heap.size + 1, 4, none⟩ = some (.bool b.app) := (K2.out.next HW4.out K2.out.lt).cell 4
            have x2 : w4.cell? ⟨w.heap.size, 2, none⟩ = some (.slice si1 a.inn.length ni1) := (K1.out.next HW4.out K1.out.lt).cell 2
            have y2 : w4.cell? ⟨w.heap.size + 1, 2, none⟩ = some (.slice si2 b.inn.length ni2) := (K2.out.next HW4.out K2.out.lt).cell 2
            have x3 : w4.cell? ⟨w.heap.size, 3, none⟩ = some (.slice so1 a.out.length no1) := (K1.out.next HW4.out K1.out.lt).cell 3
            have y3 : w4.cell? ⟨w.heap.size + 1, 3, none⟩ = some (.slice so2 b.out.length no2) := (K2.out.next HW4.out K2.out.lt).cell 3
            have x1 : w4.cell? ⟨w.heap.size, 1, none⟩ = some (.slice sb1 a.words.length nb1) := (K1.out.next HW4.out K1.out.lt).cell 1
            have y1 : w4.cell? ⟨w.heap.size + 1, 1, none⟩ = some (.slice sb2 b.words.length nb2) := (K2.out.next HW4.out K2.out.lt).cell 1
            have x0 : w4.cell? ⟨w.heap.size, 0, none⟩ = some (.slice sa1 a.asg.length na1) := (K1.out.next HW4.out K1.out.lt).cell 0
            have y0 : w4.cell? ⟨w.heap.size + 1, 0, none⟩ = some (.slice sa2 b.asg.length na2) := (K2.out.next HW4.out K2.out.lt).cell 0
            have hw0 : w.heap.size < w4.heap.size := (K1.out.next HW4.out K1.out.lt).lt
            have hw1 : w.heap.size + 1 < w4.heap.size := (K2.out.next HW4.out K2.out.lt).lt
            go_wp2_with fail
            (with_reducible refine (aeqs_is w4 _ _ a.asg b.asg false (RowRd.next HA.out.pa HW4.out (fun _ _ h => NAp.next h HW4.out)) (RowRd.next HB.out.pa HW4.out (fun _ _ h => NAp.next h HW4.out)) l1 m1 HL3.out HM3.out H5.out).mono ?_); rintro e w5 ⟨rfl, hb5⟩; have HW5 := Lib.hid (HW4.out.trans (hb5.mono HW4.out.size)); clear hb5
            go_wp2
            go_ret
            exact ⟨ret_bool HR.out.symm, HX.out.trans (HW5.out.mono HX.out.size)⟩
          | true =>
            have HR := Lib.hid (show r = true by rw [← hr]; simp)
            clear hr
            go_wp2_with fail
            (with_reducible refine (weq_is wa _ _ a.inn b.inn true (NWp.next HA.out.pi HW0.out) (NWp.next HB.out.pi HW0.out) l5 m5 H2.out).mono ?_); rintro e w2 ⟨rfl, hb2⟩; have HW2 := Lib.hid (HW0.out.trans (hb2.mono HW0.out.size)); clear hb2
            clear x0 y0 x1 y1 x2 y2 x3 y3 x4 y4 hw0 hw1
            have x4 : w2.cell? ⟨w.heap.size, 4, none⟩ = some (.bool a.app) := (K1.out.next HW2.out K1.out.lt).cell 4
            have y4 : w2.cell? ⟨w.heap.size + 1, 4, none⟩ = some (.bool b.app) := (K2.out.next HW2.out K2.out.lt).cell 4
            have x2 : w2.cell? ⟨w.heap.size, 2, none⟩ = some (.slice si1 a.inn.length ni1) := (K1.out.next HW2.out K1.out.lt).cell 2
            have y2 : w2.cell? ⟨w.heap.size + 1, 2, none⟩ = some (.slice si2 b.inn.length ni2) := (K2.out.next HW2.out K2.out.lt).cell 2
            have x3 : w2.cell? ⟨w.heap.size, 3, none⟩ = some (.slice so1 a.out.length no1) := (K1.out.next HW2.out K1.out.lt).cell 3
            have y3 : w2.cell? ⟨w.heap.size + 1, 3, none⟩ = some (.slice so2 b.out.length no2) := (K2.out.next HW2.out K2.out.lt).cell 3
            have x1 : w2.cell? ⟨w.heap.size, 1, none⟩ = some (.slice sb1 a.words.length nb1) := (K1.out.next HW2.out K1.out.lt).cell 1
            have y1 : w2.cell? ⟨w.heap.size + 1, 1, none⟩ = some (.slice sb2 b.words.length nb2) := (K2.out.next HW2.out K2.out.lt).cell 1
            have x0 : w2.cell? ⟨w.heap.size, 0, none⟩ = some (.slice sa1 a.asg.length na1) := (K1.out.next HW2.out K1.out.lt).cell 0
            have y0 : w2.cell? ⟨w.heap.size + 1, 0, none⟩ = some (.slice sa2 b.asg.length na2) := (K2.out.next HW2.out K2.out.lt).cell 0
            have hw0 : w.heap.size < w2.heap.size := (K1.out.next HW2.out K1.out.lt).lt
            have hw1 : w.heap.size + 1 < w2.heap.size := (K2.out.next HW2.out K2.out.lt).lt
            go_wp2_with fail
            (with_reducible refine (weq_is w2 _ _ a.out b.out true (NWp.next HA.out.po HW2.out) (NWp.next HB.out.po HW2.out) l6 m6 H3.out).mono ?_); rintro e w3 ⟨rfl, hb3⟩; have HW3 := Lib.hid (HW2.out.trans (hb3.mono HW2.out.size)); clear hb3
            clear x0 y0 x1 y1 x2 y2 x3 y3 x4 y4 hw0 hw1
            have x4 : w3.cell? ⟨w.heap.size, 4, none⟩ = some (.bool a.app) := (K1.out.next HW3.out K1.out.lt).cell 4
            have y4 : w3.cell? ⟨w.heap.size + 1, 4, none⟩ = some (.bool b.app) := (K2.out.next HW3.out K2.out.lt).cell 4
            have x2 : w3.cell? ⟨w.heap.size, 2, none⟩ = some (.slice si1 a.inn.length ni1) := (K1.out.next HW3.out K1.out.lt).cell 2
            have y2 : w3.cell? ⟨w.heap.size + 1, 2, none⟩ = some (.slice si2 b.inn.length ni2) := (K2.out.next HW3.out K2.out.lt).cell 2
            have x3 : w3.cell? ⟨w.heap.size, 3, none⟩ = some (.slice so1 a.out.length no1) := (K1.out.next HW3.out K1.out.lt).cell 3
            have y3 : w3.cell? ⟨w.heap.size + 1, 3, none⟩ = some (.slice so2 b.out.length no2) := (K2.out.next HW3.out K2.out.lt).cell 3
            have x1 : w3.cell? ⟨w.heap.size, 1, none⟩ = some (.slice sb1 a.words.length nb1) := (K1.out.next HW3.out K1.out.lt).cell 1
            have y1 : w3.cell? ⟨w.heap.size + 1, 1, none⟩ = some (.slice sb2 b.words.length nb2) := (K2.out.next HW3.out K2.out.lt).cell 1
            have x0 : w3.cell? ⟨w.heap.size, 0, none⟩ = some (.slice sa1 a.asg.length na1) := (K1.out.next HW3.out K1.out.lt).cell 0
            have y0 : w3.cell? ⟨w.heap.size + 1, 0, none⟩ = some (.slice sa2 b.asg.length na2) := (K2.out.next HW3.out K2.out.lt).cell 0
            have hw0 : w.heap.size < w3.heap.size := (K1.out.next HW3.out K1.out.lt).lt
            have hw1 : w.heap.size + 1 < w3.heap.size := (K2.out.next HW3.out K2.out.lt).lt
            go_wp2_with fail
            (with_reducible refine (weqs_is w3 _ _ a.words b.words true (RowRd.next HA.out.pw HW3.out (fun _ _ h => NWp.next h HW3.out)) (RowRd.next HB.out.pw HW3.out (fun _ _ h => NWp.next h HW3.out)) l2 m2 HL4.out HM4.out H4.out).mono ?_); rintro e w4 ⟨rfl, hb4⟩; have HW4 := Lib.hid (HW3.out.trans (hb4.mono HW3.out.size)); clear hb4
            clear x0 y0 x1 y1 x2 y2 x3 y3 x4 y4 hw0 hw1
            have x4 : w4.cell? ⟨w.heap.size, 4, none⟩ = some (.bool a.app) := (K1.out.next HW4.out K1.out.lt).cell 4
            have y4 : w4.cell? ⟨w.heap.size + 1, 4, none⟩ = some (.bool b.app) := (K2.out.next HW4.out K2.out.lt).cell 4
            have x2 : w4.cell? ⟨w.heap.size, 2, none⟩ = some (.slice si1 a.inn.length ni1) := (K1.out.next HW4.out K1.out.lt).cell 2
            have y2 : w4.cell? ⟨w.heap.size + 1, 2, none⟩ = some (.slice si2 b.inn.length ni2) := (K2.out.next HW4.out K2.out.lt).cell 2
            have x3 : w4.cell? ⟨w.heap.size, 3, none⟩ = some (.slice so1 a.out.length no1) := (K1.out.next HW4.out K1.out.lt).cell 3
            have y3 : w4.cell? ⟨w.heap.size + 1, 3, none⟩ = some (.slice so2 b.out.length no2) := (K2.out.next HW4.out K2.out.lt).cell 3
            have x1 : w4.cell? ⟨w.heap.size, 1, none⟩ = some (.slice sb1 a.words.length nb1) := (K1.out.next HW4.out K1.out.lt).cell 1
            have y1 : w4.cell? ⟨w.heap.size + 1, 1, none⟩ = some (.slice sb2 b.words.length nb2) := (K2.out.next HW4.out K2.out.lt).cell 1
            have x0 : w4.cell? ⟨w.heap.size, 0, none⟩ = some (.slice sa1 a.asg.length na1) := (K1.out.next HW4.out K1.out.lt).cell 0
            have y0 : w4.cell? ⟨w.heap.size + 1, 0, none⟩ = some (.slice sa2 b.asg.length na2) := (K2.out.next HW4.out K2.out.lt).cell 0
            have hw0 : w.heap.size < w4.heap.size := (K1.out.next HW4.out K1.out.lt).lt
            have hw1 : w.heap.size + 1 < w4.heap.size := (K2.out.next HW4.out K2.out.lt).lt
            go_wp2_with fail
            (with_reducible refine (aeqs_is w4 _ _ a.asg b.asg true (RowRd.next HA.out.pa HW4.out (fun _ _ h => NAp.next h HW4.out)) (RowRd.next HB.out.pa HW4.out (fun _ _ h => NAp.next h HW4.out)) l1 m1 HL3.out HM3.out H5.out).mono ?_); rintro e w5 ⟨rfl, hb5⟩; have HW5 := Lib.hid (HW4.out.trans (hb5.mono HW4.out.size)); clear hb5
            go_wp2
            go_ret
            exact ⟨ret_bool HR.out.symm, HX.out.trans (HW5.out.mono HX.out.size)⟩
set_option maxRecDepth 100000 in
set_option maxHeartbeats 8000000 in
theorem seqs_any (w : World) (va vb : Value) (a b : List Sm) (ha : RowRd 46 smV (NSp 61 42 140) w va a) (hb : RowRd 46 smV (NSp 61 42 140) w vb b) (la : a.length ≤ 100000) (lb : b.length ≤ 100000) (ha3 : ∀ x ∈ a, SmLim x) (hb3 : ∀ x ∈ b, SmLim x) :
    Calls Try.prog 56 #[va, vb, .func (.func 57) #[] #[]] w fun e w' => e = .returned (.bool (allB eqSm a b)) ∧ Below w.heap.size w w' := by
  obtain ⟨A, ca, rfl, _, hA⟩ := ha.all smV_len
  obtain ⟨B, cb, rfl, _, hB⟩ := hb.all smV_len
  have HA := Lib.hid hA
  have HB := Lib.hid hB
  have HA3 := Lib.hid ha3
  have HB3 := Lib.hid hb3
  clear ha hb hA hB ha3 hb3
  by_cases hl : a.length = b.length
  · have e1 : ((a.length : Int) == (b.length : Int)) = true := beq_iff_eq.2 (by omega)
    have e2 : ((a.length : Int) != (b.length : Int)) = false := by simp [hl]
    have HL := Lib.hid hl
    clear hl
    go_enter Try.func56, Try.ntmps56
    go_wp2
    go_loopg [17] (a.length + 1) (fun gk v wr => EqRel eqSm w a b gk v wr)
    case atStart => exact ⟨0, rfl, Nat.zero_le _, by omega, Below.refl _ _, rfl⟩
    case round =>
      obtain ⟨k, rfl, hk, hgk, hb, hr⟩ := hrel
      have HR := Lib.hid hr
      have HBW := Lib.hid hb
      clear hr
      by_cases hlt : k < a.length
      · have hltb : k < b.length := by have := HL.out; omega
        obtain ⟨b1, o1, u1, rfl, hb1, hN1, hx1⟩ := HA.out k hlt
        obtain ⟨b2, o2, u2, rfl, hb2, hN2, hx2⟩ := HB.out k hltb
        have hl1 := HA3.out a[k] (List.getElem_mem hlt)
        have hl2 := HB3.out b[k] (List.getElem_mem hltb)
        have HD := Lib.hid (HR.out.trans (allB_drop a b k hlt hltb))
        obtain ⟨x, hx⟩ : ∃ x, a[k] = x := ⟨_, rfl⟩
        obtain ⟨y, hy⟩ : ∃ y, b[k] = y := ⟨_, rfl⟩
        rw [hx] at hN1 hx1 hl1 HD
        rw [hy] at hN2 hx2 hl2 HD
        clear hx hy HR
        obtain ⟨sa1, na1, sb1, nb1, si1, ni1, so1, no1, rfl⟩ := hN1.forms
        obtain ⟨sa2, na2, sb2, nb2, si2, ni2, so2, no2, rfl⟩ := hN2.forms
        have p00 := hx1 0 _ rfl
        rw [Nat.add_zero] at p00
        have e00 := ((bcell hb).1 b1 _ hb1).trans p00
        have p01 := hx1 1 _ rfl
        rw [← Nat.add_assoc] at p01
        have e01 := ((bcell hb).1 b1 _ hb1).trans p01
        have p02 := hx1 2 _ rfl
        rw [← Nat.add_assoc] at p02
        have e02 := ((bcell hb).1 b1 _ hb1).trans p02
        have p03 := hx1 3 _ rfl
        rw [← Nat.add_assoc] at p03
        have e03 := ((bcell hb).1 b1 _ hb1).trans p03
        have p04 := hx1 4 _ rfl
        rw [← Nat.add_assoc] at p04
        have e04 := ((bcell hb).1 b1 _ hb1).trans p04
        have p10 := hx2 0 _ rfl
        rw [Nat.add_zero] at p10
        have e10 := ((bcell hb).1 b2 _ hb2).trans p10
        have p11 := hx2 1 _ rfl
        rw [← Nat.add_assoc] at p11
        have e11 := ((bcell hb).1 b2 _ hb2).trans p11
        have p12 := hx2 2 _ rfl
        rw [← Nat.add_assoc] at p12
        have e12 := ((bcell hb).1 b2 _ hb2).trans p12
        have p13 := hx2 3 _ rfl
        rw [← Nat.add_assoc] at p13
        have e13 := ((bcell hb).1 b2 _ hb2).trans p13
        have p14 := hx2 4 _ rfl
        rw [← Nat.add_assoc] at p14
        have e14 := ((bcell hb).1 b2 _ hb2).trans p14
        have i1 : (0 : Int) ≤ (k : Int) := by omega
        have i2 : (k : Int) < (a.length : Int) := by omega
        have i3 : (k : Int) < (b.length : Int) := by omega
        have hbr1 : b1 < wr.heap.size := Nat.lt_of_lt_of_le hb1 hb.size
        have hbr2 : b2 < wr.heap.size := Nat.lt_of_lt_of_le hb2 hb.size
        have HX1 := Lib.hid ((Below.refl wr.heap.size wr).alloc (Nat.le_refl _) (.cells #[.slice sa1 x.asg.length na1, .slice sb1 x.words.length nb1, .slice si1 x.inn.length ni1, .slice so1 x.out.length no1, .bool x.app] 46))
        have HX2 := Lib.hid (HX1.out.alloc HX1.out.size (.cells #[.slice sa2 y.asg.length na2, .slice sb2 y.words.length nb2, .slice si2 y.inn.length ni2, .slice so2 y.out.length no2, .bool y.app] 46))
        have HN1 := Lib.hid (NSp.next (NSp.next hN1 hb) HX2.out)
        have HN2 := Lib.hid (NSp.next (NSp.next hN2 hb) HX2.out)
        have HBA := Lib.hid (HBW.out.trans (HX2.out.mono HBW.out.size))
        have HL1 := Lib.hid hl1
        have HL2 := Lib.hid hl2
        clear hx1 hx2 p00 p10 p01 p11 p02 p12 p03 p13 p04 p14 hb hN1 hN2 hl1 hl2
        cases hf : eqSm x y with
        | true =>
          have HF := Lib.hid hf
          rw [hf] at HD
          clear hf
          go_wp2_with (go_at_call 57; (with_reducible refine (seq_is _ _ _ _ _ _ _ _ _ x y true HN1.out HN2.out HL1.out HL2.out HF.out).mono ?_); rintro e w5 ⟨rfl, hb5⟩; have HB5 := Lib.hid (HBA.out.trans (hb5.mono HBA.out.size)); clear hb5)
          go_roundg (gk - 1)
          case rel => exact ⟨k + 1, by go_num, by omega, by omega, HB5.out, HD.out⟩
          case measure => omega
        | false =>
          have HF := Lib.hid hf
          rw [hf] at HD
          clear hf
          go_wp2_with (go_at_call 57; (with_reducible refine (seq_is _ _ _ _ _ _ _ _ _ x y false HN1.out HN2.out HL1.out HL2.out HF.out).mono ?_); rintro e w5 ⟨rfl, hb5⟩; have HB5 := Lib.hid (HBA.out.trans (hb5.mono HBA.out.size)); clear hb5)
          go_ret
          exact ⟨ret_bool (by rw [HD.out]; rfl), HB5.out⟩
      · obtain rfl : k = a.length := by omega
        have HZ := Lib.hid (show allB eqSm a b = true by rw [HR.out, allB_end HL.out])
        clear hb
        go_wp2
        go_ret
        exact ⟨ret_bool HZ.out.symm, HBW.out⟩
  · have e1 : ((a.length : Int) == (b.length : Int)) = false := beq_false_of_ne (by omega)
    have e2 : ((a.length : Int) != (b.length : Int)) = true := by simp; omega
    have e3 : (a.length == b.length) = false := beq_false_of_ne hl
    have HX := Lib.hid (allB_len (f := eqSm) hl)
    clear HA HB HA3 HB3
    go_enter Try.func56, Try.ntmps56
    go_wp2
    go_ret
    exact ⟨ret_bool HX.out.symm, Below.refl _ _⟩
theorem seqs_is (w : World) (va vb : Value) (a b : List Sm) (r : Bool) (ha : RowRd 46 smV (NSp 61 42 140) w va a) (hb : RowRd 46 smV (NSp 61 42 140) w vb b) (la : a.length ≤ 100000) (lb : b.length ≤ 100000) (ha3 : ∀ x ∈ a, SmLim x) (hb3 : ∀ x ∈ b, SmLim x) (hr : allB eqSm a b = r) :
    Calls Try.prog 56 #[va, vb, .func (.func 57) #[] #[]] w fun e w' => e = .returned (.bool r) ∧ Below w.heap.size w w' := by
  subst hr; exact seqs_any w va vb a b ha hb la lb ha3 hb3
set_option maxRecDepth 100000 in
theorem peq_is (w : World) (va vb : Value) (a b : Pl) (r : Bool) (ha : NPp 61 42 140 46 w va a) (hb : NPp 61 42 140 46 w vb b) (la : PLen a) (lb : PLen b) (hr : eqP a b = r) :
    Calls Try.prog 55 #[.agg #[.int .i64 a.wh, va], .agg #[.int .i64 b.wh, vb]] w fun e w' => e = .returned (.bool r) ∧ Below w.heap.size w w' := by
  obtain ⟨A, c, rfl, _⟩ := RowRd.form ha
  obtain ⟨B, d, rfl, _⟩ := RowRd.form hb
  have HX := Lib.hid (((Below.refl w.heap.size w).alloc (Nat.le_refl _) (.cells #[.int .i64 a.wh, .slice A a.stages.length c] 49)).alloc (by simp) (.cells #[.int .i64 b.wh, .slice B b.stages.length d] 49))
  have HA := Lib.hid (show RowRd 46 smV (NSp 61 42 140) _ _ a.stages from NPp.next ha HX.out)
  have HB := Lib.hid (show RowRd 46 smV (NSp 61 42 140) _ _ b.stages from NPp.next hb HX.out)
  unfold eqP at hr
  have HL := Lib.hid la.2
  have HM := Lib.hid lb.2
  have hl1 := la.1
  have hm1 := lb.1
  clear ha hb la lb
  by_cases hn : a.wh = b.wh
  · have e1 : (a.wh == b.wh) = true := by rw [hn]; simp
    have HR := Lib.hid (show allB eqSm a.stages b.stages = r by rw [← hr, hn]; simp)
    have HN := Lib.hid hn
    clear hn hr
    go_enter Try.func55, Try.ntmps55
    go_wp2_with (go_at_call 56; (with_reducible refine (seqs_is _ _ _ a.stages b.stages r HA.out HB.out hl1 hm1 HL.out HM.out HR.out).mono ?_); rintro e w5 ⟨rfl, hb5⟩; have HB5 := Lib.hid (HX.out.trans (hb5.mono HX.out.size)); clear hb5)
    go_ret
    exact ⟨rfl, HB5.out⟩
  · have e1 : (a.wh == b.wh) = false := beq_false_of_ne hn
    have HR := Lib.hid (show r = false by rw [← hr, decide_eq_false hn]; rfl)
    clear hn hr
    go_enter Try.func55, Try.ntmps55
    go_wp2
    go_ret
    exact ⟨ret_bool HR.out.symm, HX.out⟩
set_option maxRecDepth 100000 in
set_option maxHeartbeats 8000000 in
theorem peqs_any (w : World) (va vb : Value) (a b : List Pl) (ha : RowRd 49 plV (NPp 61 42 140 46) w va a) (hb : RowRd 49 plV (NPp 61 42 140 46) w vb b) (la : a.length ≤ 100000) (lb : b.length ≤ 100000) (ha3 : ∀ x ∈ a, PLen x) (hb3 : ∀ x ∈ b, PLen x) :
    Calls Try.prog 54 #[va, vb, .func (.func 55) #[] #[]] w fun e w' => e = .returned (.bool (allB eqP a b)) ∧ Below w.heap.size w w' := by
  obtain ⟨A, ca, rfl, _, hA⟩ := ha.all plV_len
  obtain ⟨B, cb, rfl, _, hB⟩ := hb.all plV_len
  have HA := Lib.hid hA
  have HB := Lib.hid hB
  have HA3 := Lib.hid ha3
  have HB3 := Lib.hid hb3
  clear ha hb hA hB ha3 hb3
  by_cases hl : a.length = b.length
  · have e1 : ((a.length : Int) == (b.length : Int)) = true := beq_iff_eq.2 (by omega)
    have e2 : ((a.length : Int) != (b.length : Int)) = false := by simp [hl]
    have HL := Lib.hid hl
    clear hl
    go_enter Try.func54, Try.ntmps54
    go_wp2
    go_loopg [17] (a.length + 1) (fun gk v wr => EqRel eqP w a b gk v wr)
    case atStart => exact ⟨0, rfl, Nat.zero_le _, by omega, Below.refl _ _, rfl⟩
    case round =>
      obtain ⟨k, rfl, hk, hgk, hb, hr⟩ := hrel
      have HR := Lib.hid hr
      have HBW := Lib.hid hb
      clear hr
      by_cases hlt : k < a.length
      · have hltb : k < b.length := by have := HL.out; omega
        obtain ⟨b1, o1, u1, rfl, hb1, hN1, hx1⟩ := HA.out k hlt
        obtain ⟨b2, o2, u2, rfl, hb2, hN2, hx2⟩ := HB.out k hltb
        have hl1 := HA3.out a[k] (List.getElem_mem hlt)
        have hl2 := HB3.out b[k] (List.getElem_mem hltb)
        have HD := Lib.hid (HR.out.trans (allB_drop a b k hlt hltb))
        obtain ⟨x, hx⟩ : ∃ x, a[k] = x := ⟨_, rfl⟩
        obtain ⟨y, hy⟩ : ∃ y, b[k] = y := ⟨_, rfl⟩
        rw [hx] at hN1 hx1 hl1 HD
        rw [hy] at hN2 hx2 hl2 HD
        clear hx hy HR
        obtain ⟨A1, c1, rfl, _⟩ := RowRd.form hN1
        obtain ⟨A2, c2, rfl, _⟩ := RowRd.form hN2
        have p00 := hx1 0 _ rfl
        rw [Nat.add_zero] at p00
        have e00 := ((bcell hb).1 b1 _ hb1).trans p00
        have p01 := hx1 1 _ rfl
        rw [← Nat.add_assoc] at p01
        have e01 := ((bcell hb).1 b1 _ hb1).trans p01
        have p10 := hx2 0 _ rfl
        rw [Nat.add_zero] at p10
        have e10 := ((bcell hb).1 b2 _ hb2).trans p10
        have p11 := hx2 1 _ rfl
        rw [← Nat.add_assoc] at p11
        have e11 := ((bcell hb).1 b2 _ hb2).trans p11
        have i1 : (0 : Int) ≤ (k : Int) := by omega
        have i2 : (k : Int) < (a.length : Int) := by omega
        have i3 : (k : Int) < (b.length : Int) := by omega
        have hbr1 : b1 < wr.heap.size := Nat.lt_of_lt_of_le hb1 hb.size
        have hbr2 : b2 < wr.heap.size := Nat.lt_of_lt_of_le hb2 hb.size
        have HX1 := Lib.hid ((Below.refl wr.heap.size wr).alloc (Nat.le_refl _) (.cells #[.int .i64 x.wh, .slice A1 x.stages.length c1] 49))
        have HX2 := Lib.hid (HX1.out.alloc HX1.out.size (.cells #[.int .i64 y.wh, .slice A2 y.stages.length c2] 49))
        have HN1 := Lib.hid (NPp.next (NPp.next hN1 hb) HX2.out)
        have HN2 := Lib.hid (NPp.next (NPp.next hN2 hb) HX2.out)
        have HBA := Lib.hid (HBW.out.trans (HX2.out.mono HBW.out.size))
        have HL1 := Lib.hid hl1
        have HL2 := Lib.hid hl2
        clear hx1 hx2 p00 p10 p01 p11 hb hN1 hN2 hl1 hl2
        cases hf : eqP x y with
        | true =>
          have HF := Lib.hid hf
          rw [hf] at HD
          clear hf
          go_wp2_with (go_at_call 55; (with_reducible refine (peq_is _ _ _ x y true HN1.out HN2.out HL1.out HL2.out HF.out).mono ?_); rintro e w5 ⟨rfl, hb5⟩; have HB5 := Lib.hid (HBA.out.trans (hb5.mono HBA.out.size)); clear hb5)
          go_roundg (gk - 1)
          case rel => exact ⟨k + 1, by go_num, by omega, by omega, HB5.out, HD.out⟩
          case measure => omega
        | false =>
          have HF := Lib.hid hf
          rw [hf] at HD
          clear hf
          go_wp2_with (go_at_call 55; (with_reducible refine (peq_is _ _ _ x y false HN1.out HN2.out HL1.out HL2.out HF.out).mono ?_); rintro e w5 ⟨rfl, hb5⟩; have HB5 := Lib.hid (HBA.out.trans (hb5.mono HBA.out.size)); clear hb5)
          go_ret
          exact ⟨ret_bool (by rw [HD.out]; rfl), HB5.out⟩
      · obtain rfl : k = a.length := by omega
        have HZ := Lib.hid (show allB eqP a b = true by rw [HR.out, allB_end HL.out])
        clear hb
        go_wp2
        go_ret
        exact ⟨ret_bool HZ.out.symm, HBW.out⟩
  · have e1 : ((a.length : Int) == (b.length : Int)) = false := beq_false_of_ne (by omega)
    have e2 : ((a.length : Int) != (b.length : Int)) = true := by simp; omega
    have e3 : (a.length == b.length) = false := beq_false_of_ne hl
    have HX := Lib.hid (allB_len (f := eqP) hl)
    clear HA HB HA3 HB3
    go_enter Try.func54, Try.ntmps54
    go_wp2
    go_ret
    exact ⟨ret_bool HX.out.symm, Below.refl _ _⟩
theorem peqs_is (w : World) (va vb : Value) (a b : List Pl) (r : Bool) (ha : RowRd 49 plV (NPp 61 42 140 46) w va a) (hb : RowRd 49 plV (NPp 61 42 140 46) w vb b) (la : a.length ≤ 100000) (lb : b.length ≤ 100000) (ha3 : ∀ x ∈ a, PLen x) (hb3 : ∀ x ∈ b, PLen x) (hr : allB eqP a b = r) :
    Calls Try.prog 54 #[va, vb, .func (.func 55) #[] #[]] w fun e w' => e = .returned (.bool r) ∧ Below w.heap.size w w' := by
  subst hr; exact peqs_any w va vb a b ha hb la lb ha3 hb3
def LLen (l : Ln) : Prop := l.parts.length ≤ 100000 ∧ ∀ q ∈ l.parts, PLen q
set_option maxRecDepth 100000 in
theorem Equal_is (w : World) (va vb : Value) (a b : Ln) (r : Bool) (ha : RowRd 49 plV (NPp 61 42 140 46) w va a.parts) (hb : RowRd 49 plV (NPp 61 42 140 46) w vb b.parts) (la : LLen a) (lb : LLen b) (hr : eqLn a b = r) :
    Calls Try.prog 23 #[.agg #[va, .bool a.bg], .agg #[vb, .bool b.bg]] w fun e w' => e = .returned (.bool r) ∧ Below w.heap.size w w' := by
  obtain ⟨A, c, rfl, _⟩ := RowRd.form ha
  obtain ⟨B, d, rfl, _⟩ := RowRd.form hb
  have HX := Lib.hid (((Below.refl w.heap.size w).alloc (Nat.le_refl _) (.cells #[.slice A a.parts.length c, .bool a.bg] 24)).alloc (by simp) (.cells #[.slice B b.parts.length d, .bool b.bg] 24))
  have HA := Lib.hid (ha.next HX.out (fun _ _ h => NPp.next h HX.out))
  have HB := Lib.hid (hb.next HX.out (fun _ _ h => NPp.next h HX.out))
  unfold eqLn at hr
  have HL := Lib.hid la.2
  have HM := Lib.hid lb.2
  have hl1 := la.1
  have hm1 := lb.1
  clear ha hb la lb
  by_cases hn : a.bg = b.bg
  · have e1 : (a.bg == b.bg) = true := by rw [hn]; simp
    have HR := Lib.hid (show allB eqP a.parts b.parts = r by rw [← hr, hn]; simp)
    have HN := Lib.hid hn
    clear hn hr
    go_enter Try.func23, Try.ntmps23
    go_wp2_with (go_at_call 54; (with_reducible refine (peqs_is _ _ _ a.parts b.parts r HA.out HB.out hl1 hm1 HL.out HM.out HR.out).mono ?_); rintro e w5 ⟨rfl, hb5⟩; have HB5 := Lib.hid (HX.out.trans (hb5.mono HX.out.size)); clear hb5)
    go_ret
    exact ⟨rfl, HB5.out⟩
  · have e1 : (a.bg == b.bg) = false := by simpa using hn
    have HR := Lib.hid (show r = false by rw [← hr, e1]; rfl)
    clear hn hr
    go_enter Try.func23, Try.ntmps23
    go_wp2
    go_ret
    exact ⟨ret_bool HR.out.symm, HX.out⟩
end Go.Proofs.Ytiddchpkmcncdaa
