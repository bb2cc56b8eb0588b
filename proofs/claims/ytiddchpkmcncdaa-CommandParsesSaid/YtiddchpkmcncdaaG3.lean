/- Plain functions of layer 41: which command lines are valid, and their texts. -/
import Derived.Test.YtiddchpkmcncdaaK6
import Derived.Test.YtiddchpkmcncdaaM4
import Derived.Test.YtiddchpkmcncdaaX27
import Derived.Test.YtiddchpkmcncdaaG1
import Derived.Deep.DeepCutAuto
namespace Go.Proofs.Ytiddchpkmcncdaa
open Go.RowKit
set_option linter.unusedSimpArgs false
set_option linter.unusedVariables false
/-- The error of a word of n pieces from a piece on; pv: a text may stand here. -/
def wchkP (n : Nat) : Bool → Wd → Int
  | _, [] => 0
  | pv, p :: r =>
    if p.var then (if isVarS p.text then wchkP n true r else 12)
    else if badS p.text < p.text.length then 6
    else if p.quo || (p.text.isEmpty && decide (1 < n)) || !pv then 3 else wchkP n false r
def wchk (w : Wd) : Int := if w.isEmpty then 1 else wchkP w.length true w
/-- The first error of a list. -/
def frst : List Int → Int
  | [] => 0
  | e :: r => if e = 0 then frst r else e
def achk (a : Asg) : Int := if isVarS a.name then wchk a.value else 12
def ochk (w : Wd) : Int := if w.isEmpty then 0 else wchk w
def schk (c : Sm) : Int :=
  if smNone c then 1 else if 32 < c.asg.length ∨ 32 < c.words.length then 9
  else if frst (c.asg.map achk) ≠ 0 then frst (c.asg.map achk)
  else if frst (c.words.map wchk) ≠ 0 then frst (c.words.map wchk)
  else if ochk c.inn ≠ 0 then ochk c.inn
  else if ochk c.out ≠ 0 then ochk c.out
  else if c.app && c.out.isEmpty then 10 else 0
/-- The error of a pipeline; f: it is the first one. -/
def pchk (f : Bool) (q : Pl) : Int :=
  if q.wh < 0 ∨ 2 < q.wh ∨ (f = true ∧ q.wh ≠ 0) then 2 else if q.stages.length = 0 then 1 else if 8 < q.stages.length then 9 else frst (q.stages.map schk)
def pchks : Bool → List Pl → Int
  | _, [] => 0
  | f, q :: r => if pchk f q = 0 then pchks false r else pchk f q
def lchk (l : Ln) : Int := if l.bg = true ∧ l.parts.length = 0 then 1 else if 16 < l.parts.length then 9 else pchks true l.parts
/-- Texts with blanks between them. -/
def joinB : List Bs → Bs
  | [] => []
  | [a] => a
  | a :: b :: r => a ++ 32 :: joinB (b :: r)
def asgT (a : Asg) : Bs := a.name ++ 61 :: txtS false a.value
def redT (c : Sm) : List Bs := (if c.inn.isEmpty then [] else [[60], txtS false c.inn]) ++ (if c.out.isEmpty then [] else [if c.app then [62, 62] else [62], txtS false c.out])
def smL (c : Sm) : List Bs := c.asg.map asgT ++ c.words.map (txtS false) ++ redT c
def smT (c : Sm) : Bs := joinB (smL c)
/-- The stages of a pipeline from one on; f: it is the first one. -/
def stT : Bool → List Sm → Bs
  | _, [] => []
  | f, c :: r => (if f then [] else [32, 124, 32]) ++ smT c ++ stT false r
def sepT (wh : Int) : Bs := if wh = 0 then [59, 32] else if wh = 1 then [32, 38, 38, 32] else [32, 124, 124, 32]
def ptT : Bool → List Pl → Bs
  | _, [] => []
  | f, q :: r => (if f then [] else sepT q.wh) ++ stT true q.stages ++ ptT false r
def lnT (l : Ln) : Bs := ptT true l.parts ++ if l.bg then [32, 38] else []
/-- The text and the error that Print returns. -/
def prtS (l : Ln) : Bs × Int := if lchk l ≠ 0 then ([], lchk l) else if 1024 < (lnT l).length then ([], 5) else (lnT l, 0)
theorem wchkP_drop (n : Nat) (pv : Bool) (w : Wd) (k : Nat) (hk : k < w.length) : wchkP n pv (w.drop k) =
    if (w[k]).var then (if isVarS (w[k]).text then wchkP n true (w.drop (k + 1)) else 12)
    else if badS (w[k]).text < (w[k]).text.length then 6
    else if (w[k]).quo || ((w[k]).text.isEmpty && decide (1 < n)) || !pv then 3 else wchkP n false (w.drop (k + 1)) := by
  rw [List.drop_eq_getElem_cons hk, wchkP]
/-- Whether a text may stand at piece k. -/
def pvA (w : Wd) (k : Nat) : Bool := if k = 0 then true else ((w.getD (k - 1) (lit [])).var)
theorem pvA_succ (w : Wd) (k : Nat) (hk : k < w.length) : pvA w (k + 1) = (w[k]).var := by
  unfold pvA
  rw [if_neg (by omega), Nat.add_sub_cancel, List.getD_eq_getElem?_getD, List.getElem?_eq_getElem hk]; rfl
theorem frst_drop {α : Type} (f : α → Int) (l : List α) (k : Nat) (hk : k < l.length) : frst ((l.drop k).map f) = if f l[k] = 0 then frst ((l.drop (k + 1)).map f) else f l[k] := by
  rw [List.drop_eq_getElem_cons hk, List.map_cons, frst]
theorem pchks_drop (f : Bool) (l : List Pl) (k : Nat) (hk : k < l.length) : pchks f (l.drop k) = if pchk f l[k] = 0 then pchks false (l.drop (k + 1)) else pchk f l[k] := by
  rw [List.drop_eq_getElem_cons hk, pchks]
end Go.Proofs.Ytiddchpkmcncdaa
/- Walks of layer 41: check of a word. -/
namespace Go.Proofs.Ytiddchpkmcncdaa
open Go.RowKit
set_option linter.unusedSimpArgs false
set_option linter.unusedVariables false
/-- The cells of every piece. -/
theorem Rd.pall {e : TypeId} {w : World} {v : Value} {ps : Wd} (h : Rd e w v ps.length (pcC ps)) : ∃ A c, v = .slice A ps.length c ∧ ps.length ≤ c ∧ ∀ k (hk : k < ps.length), ∃ b o, A = some ⟨b, o, none⟩ ∧ b < w.heap.size ∧ ∀ j (hj : j < ps.length), w.cell? ⟨b, o + j * 3, none⟩ = some (.string (bs ps[j].text)) ∧ w.cell? ⟨b, o + j * 3 + 1, none⟩ = some (.bool ps[j].var) ∧ w.cell? ⟨b, o + j * 3 + 2, none⟩ = some (.bool ps[j].quo) := by
  obtain ⟨A, c, rfl, hc⟩ := Rd.form h
  refine ⟨A, c, rfl, hc, fun k hk => ?_⟩
  obtain ⟨b, o, c', hv, _, hb, hx⟩ := Rd.piece h (by omega)
  injection hv with hA
  exact ⟨b, o, hA, hb, hx⟩
theorem IsVariable_is (l : Bs) (w : World) (b : Bool) (h : isVarS l = b) (hs : (bs l).size ≤ 100000) : Calls Try.prog 18 #[.string (bs l)] w fun e w' => e = .returned (.bool b) ∧ w = w' := by
  refine (IsVariable_any (bs l) w hs).mono ?_
  rintro e w' ⟨rfl, rfl⟩
  exact ⟨ret_bool (by unfold isVarB; rw [bs_list, h]), rfl⟩
theorem badByte_yes (l : Bs) (w : World) (h : badS l < l.length) (hs : (bs l).size ≤ 100000) : Calls Try.prog 39 #[.string (bs l)] w fun e w' => e = .returned (.int .i64 ((badS l : Nat) : Int)) ∧ w = w' := by
  refine (badByte_any (bs l) w hs).mono ?_
  rintro e w' ⟨rfl, rfl⟩
  exact ⟨ret_int (by rw [badB_ge _ (by rw [bs_list, bs_size]; exact h), bs_list]), rfl⟩
theorem badByte_no (l : Bs) (w : World) (h : ¬ badS l < l.length) (hs : (bs l).size ≤ 100000) : Calls Try.prog 39 #[.string (bs l)] w fun e w' => e = .returned (.int .i64 (-1)) ∧ w = w' := by
  refine (badByte_any (bs l) w hs).mono ?_
  rintro e w' ⟨rfl, rfl⟩
  exact ⟨ret_int (by rw [badB_no _ (by rw [bs_list, bs_size]; exact h)]), rfl⟩
theorem pvA_pos (w : Wd) (k : Nat) (h0 : 0 < k) (hk : k < w.length) : pvA w k = (w[k - 1]'(by omega)).var := by
  unfold pvA
  rw [if_neg (by omega), List.getD_eq_getElem?_getD, List.getElem?_eq_getElem (by omega)]; rfl
def WcRel (w : World) (ps : Wd) (gk : Nat) (v : Value) (wr : World) : Prop :=
  ∃ k, v = .int .i64 ((k : Nat) : Int) ∧ k ≤ ps.length ∧ gk + k = ps.length + 1 ∧ Below w.heap.size w wr ∧ wchk ps = wchkP ps.length (pvA ps k) (ps.drop k)
theorem wchk_ret {ps : Wd} {a b : Int} (h : wchk ps = a) (h2 : a = b) : Ending.returned (.int .i64 b) = .returned (.int .i64 (wchk ps)) := by rw [h, h2]
set_option maxRecDepth 100000 in
set_option maxHeartbeats 8000000 in
theorem wcheck_any (w : World) (v : Value) (ps : Wd) (h : NWp 61 w v ps) (hl : ps.length ≤ 100000) (hpl : ∀ p ∈ ps, p.text.length ≤ 100000) :
    Calls Try.prog 92 #[v] w fun e w' => e = .returned (.int .i64 (wchk ps)) ∧ Below w.heap.size w w' := by
  obtain ⟨A, c, rfl, hc, hcell⟩ := Rd.pall h
  have HC := Lib.hid hcell
  have HPL := Lib.hid hpl
  clear h hcell hpl
  rcases Nat.eq_zero_or_pos ps.length with h0 | h0
  · obtain rfl := List.length_eq_zero_iff.1 h0
    clear h0 HC HPL
    go_enter Try.func92, Try.ntmps92
    go_wp2
    go_ret
    exact ⟨rfl, Below.refl _ _⟩
  · have e1 : ((ps.length : Int) == 0) = false := beq_false_of_ne (by omega)
    have HW0 := Lib.hid (show wchk ps = wchkP ps.length (pvA ps 0) (ps.drop 0) by
      unfold wchk pvA
      rw [if_neg (by cases ps with | nil => simp at h0 | cons a l => simp), if_pos rfl, List.drop_zero])
    go_enter Try.func92, Try.ntmps92
    go_wp2
    go_loopg [10] (ps.length + 1) (fun gk v wr => WcRel w ps gk v wr)
    case atStart => exact ⟨0, rfl, Nat.zero_le _, by omega, Below.refl _ _, HW0.out⟩
    case round =>
      obtain ⟨k, rfl, hk, hgk, hb, hr⟩ := hrel
      have HR := Lib.hid hr
      have HB := Lib.hid hb
      clear hr HW0
      by_cases hlt : k < ps.length
      · obtain ⟨b, o, rfl, hb0, hx⟩ := HC.out k hlt
        obtain ⟨p0, p1, p2⟩ := hx k hlt
        have HPV := Lib.hid (fun (hk0 : 0 < k) => hx (k - 1) (by omega))
        have HS := Lib.hid (pvA_succ ps k hlt)
        have HD := Lib.hid (HR.out.trans (wchkP_drop ps.length (pvA ps k) ps k hlt))
        have htl := HPL.out ps[k] (List.getElem_mem hlt)
        obtain ⟨p, hp⟩ : ∃ p, ps[k] = p := ⟨_, rfl⟩
        rw [hp] at p0 p1 p2 HS HD htl
        clear hp hx HR
        have hz : (bs p.text).size ≤ 100000 := by rw [bs_size]; exact htl
        have hbr : b < wr.heap.size := Nat.lt_of_lt_of_le hb0 hb.size
        have b0 := ((bcell hb).1 b (o + k * 3) hb0).trans p0
        have b1 := ((bcell hb).1 b (o + k * 3 + 1) hb0).trans p1
        have b2 := ((bcell hb).1 b (o + k * 3 + 2) hb0).trans p2
        clear p0 p1 p2
        have i1 : (0 : Int) ≤ (k : Int) := by omega
        have i2 : (k : Int) < (ps.length : Int) := by omega
        cases hv : p.var with
        | true =>
          rw [hv] at b1 HS
          rw [hv, if_pos rfl] at HD
          clear hv
          cases hn : isVarS p.text with
          | true =>
            have HN := Lib.hid hn
            rw [hn, if_pos rfl] at HD
            clear hn hb
            go_wp2_with (go_at_call 18; refine (IsVariable_is p.text _ true HN.out hz).mono ?_; rintro e w' ⟨rfl, rfl⟩)
            go_roundg (gk - 1)
            case rel => exact ⟨k + 1, by go_num, by omega, by omega, HB.out.alloc HB.out.size _, by rw [HS.out]; exact HD.out⟩
            case measure => omega
          | false =>
            have HN := Lib.hid hn
            rw [hn, if_neg (by simp)] at HD
            clear hn hb
            go_wp2_with (go_at_call 18; refine (IsVariable_is p.text _ false HN.out hz).mono ?_; rintro e w' ⟨rfl, rfl⟩)
            go_ret
            exact ⟨wchk_ret HD.out rfl, HB.out.alloc HB.out.size _⟩
        | false =>
          rw [hv] at b1 HS
          rw [hv, if_neg (by simp)] at HD
          clear hv
          by_cases hbad : badS p.text < p.text.length
          · have HN := Lib.hid hbad
            rw [if_pos hbad] at HD
            have q1 : (0 : Int) ≤ ((badS p.text : Nat) : Int) := by omega
            have q2 : decide ((0 : Int) ≤ ((badS p.text : Nat) : Int)) = true := by simp
            clear hbad hb
            go_wp2_with (go_at_call 39; refine (badByte_yes p.text _ HN.out hz).mono ?_; rintro e w' ⟨rfl, rfl⟩)
            go_ret
            exact ⟨wchk_ret HD.out rfl, HB.out.alloc HB.out.size _⟩
          · have HN := Lib.hid hbad
            rw [if_neg hbad] at HD
            clear hbad
            cases hq : p.quo with
            | true =>
              rw [hq] at b2
              rw [hq] at HD
              clear hq hb
              go_wp2_with (go_at_call 39; refine (badByte_no p.text _ HN.out hz).mono ?_; rintro e w' ⟨rfl, rfl⟩)
              go_ret
              exact ⟨wchk_ret HD.out rfl, HB.out.alloc HB.out.size _⟩
            | false =>
              rw [hq] at b2
              rw [hq] at HD
              clear hq
              have HT := Lib.hid (show (bs p.text).toList.isEmpty = p.text.isEmpty by rw [bs_tl])
              cases ht : (p.text.isEmpty && decide (1 < ps.length)) with
              | true =>
                have hte : p.text.isEmpty = true := by cases h : p.text.isEmpty with | true => rfl | false => rw [h] at ht; simp at ht
                have htl1 : 1 < ps.length := by rw [hte] at ht; simpa using ht
                have t1 : (bs p.text).toList = [] := by rw [bs_tl]; exact List.isEmpty_iff.1 hte
                have t2 : decide ((1 : Int) < (ps.length : Int)) = true := by simp; omega
                rw [ht] at HD
                clear ht hte hb HT
                go_wp2_with (go_at_call 39; refine (badByte_no p.text _ HN.out hz).mono ?_; rintro e w' ⟨rfl, rfl⟩)
                go_ret
                exact ⟨wchk_ret HD.out rfl, HB.out.alloc HB.out.size _⟩
              | false =>
                rw [ht] at HD
                rcases Nat.eq_zero_or_pos k with hk0 | hk0
                · have HK0 := Lib.hid hk0
                  rw [show pvA ps k = true by rw [hk0]; rfl, if_neg (by simp)] at HD
                  have f1 : decide ((0 : Int) < (k : Int)) = false := by simp; omega
                  have f2 : ¬ 0 < k := by omega
                  clear hk0
                  cases hte : p.text.isEmpty with
                  | false =>
                    have t1 : (bs p.text).toList.isEmpty = false := by rw [bs_tl]; exact hte
                    have t2 : ¬ (bs p.text).toList = [] := by rw [bs_tl]; intro h; rw [h] at hte; cases hte
                    clear hte ht HT
                    clear hb
                    go_wp2_with (go_at_call 39; refine (badByte_no p.text _ HN.out hz).mono ?_; rintro e w' ⟨rfl, rfl⟩)
                    go_roundg (gk - 1)
                    case rel => exact ⟨k + 1, by go_num, by omega, by omega, HB.out.alloc HB.out.size _, by rw [HS.out]; exact HD.out⟩
                    case measure => omega
                  | true =>
                    have t1 : (bs p.text).toList = [] := by rw [bs_tl]; exact List.isEmpty_iff.1 hte
                    have t3 : decide ((1 : Int) < (ps.length : Int)) = false := by rw [hte] at ht; simp at ht; simp; omega
                    have t4 : ¬ 1 < ps.length := by rw [hte] at ht; simpa using ht
                    clear hte ht HT
                    clear hb
                    go_wp2_with (go_at_call 39; refine (badByte_no p.text _ HN.out hz).mono ?_; rintro e w' ⟨rfl, rfl⟩)
                    go_roundg (gk - 1)
                    case rel => exact ⟨k + 1, by go_num, by omega, by omega, HB.out.alloc HB.out.size _, by rw [HS.out]; exact HD.out⟩
                    case measure => omega
                · have hpv := pvA_pos ps k hk0 hlt
                  obtain ⟨c0, c1, c3⟩ := HPV.out hk0
                  rw [← hpv] at c1
                  have c2 := ((bcell hb).1 b (o + (k - 1) * 3 + 1) hb0).trans c1
                  have L1 : IntKind.i64.wrap ((k : Int) - 1) = (k : Int) - 1 := IntWalk.i64_in _ (by omega)
                  have L2 : (1 : Int) ≤ (k : Int) := by omega
                  have L3 : (k : Int) - 1 < (ps.length : Int) := by omega
                  have L4 : ((k : Int) - 1).toNat = k - 1 := by omega
                  have f1 : decide ((0 : Int) < (k : Int)) = true := by simp; omega
                  have f2 : 0 < k := hk0
                  clear hpv c0 c1 c3
                  cases hpv : pvA ps k with
                  | true =>
                    rw [hpv] at c2
                    rw [hpv, if_neg (by simp)] at HD
                    clear hpv
                    cases hte : p.text.isEmpty with
                    | false =>
                      have t1 : (bs p.text).toList.isEmpty = false := by rw [bs_tl]; exact hte
                      have t2 : ¬ (bs p.text).toList = [] := by rw [bs_tl]; intro h; rw [h] at hte; cases hte
                      clear hte ht HT
                      clear hb
                      go_wp2_with (go_at_call 39; refine (badByte_no p.text _ HN.out hz).mono ?_; rintro e w' ⟨rfl, rfl⟩)
                      go_roundg (gk - 1)
                      case rel => exact ⟨k + 1, by go_num, by omega, by omega, HB.out.alloc HB.out.size _, by rw [HS.out]; exact HD.out⟩
                      case measure => omega
                    | true =>
                      have t4 : ¬ 1 < ps.length := by rw [hte] at ht; simpa using ht
                      omega
                  | false =>
                    rw [hpv] at c2
                    rw [hpv, if_pos (by simp)] at HD
                    clear hpv
                    cases hte : p.text.isEmpty with
                    | false =>
                      have t1 : (bs p.text).toList.isEmpty = false := by rw [bs_tl]; exact hte
                      have t2 : ¬ (bs p.text).toList = [] := by rw [bs_tl]; intro h; rw [h] at hte; cases hte
                      clear hte ht HT
                      clear hb
                      go_wp2_with (go_at_call 39; refine (badByte_no p.text _ HN.out hz).mono ?_; rintro e w' ⟨rfl, rfl⟩)
                      go_ret
                      exact ⟨wchk_ret HD.out rfl, HB.out.alloc HB.out.size _⟩
                    | true =>
                      have t4 : ¬ 1 < ps.length := by rw [hte] at ht; simpa using ht
                      omega
      · obtain rfl : k = ps.length := by omega
        have HZ := Lib.hid (show wchk ps = 0 by rw [HR.out, List.drop_length]; rfl)
        clear hb
        go_wp2
        go_ret
        exact ⟨wchk_ret HZ.out rfl, HB.out⟩
end Go.Proofs.Ytiddchpkmcncdaa
/- Walks of layer 41: toSimple, ofSimple. -/
namespace Go.Proofs.Ytiddchpkmcncdaa
open Go.RowKit
set_option linter.unusedSimpArgs false
set_option linter.unusedVariables false
theorem below_of_grown' {w W w' : World} {g : Nat} (h : Below w.heap.size w W) (k : W.grownBy w' (some g)) (hg : w.heap.size ≤ g) : Below w.heap.size w w' :=
  ⟨k.os.trans h.os, k.tape.trans h.tape, k.output.trans h.output, Nat.le_trans h.size k.size, fun i hi => (k.block i (Nat.lt_of_lt_of_le hi h.size) (by intro e; injection e with e; omega)).trans (h.block i hi)⟩
/-- The cells of every element. -/
theorem RowRd.all {α β : Type} {e : TypeId} {f : α → β → List Value} {N : World → β → α → Prop} {w : World} {v : Value} {l : List α} {size : Nat} (h : RowRd e f N w v l) (hf : ∀ x u, (f x u).length = size) :
    ∃ A c, v = .slice A l.length c ∧ l.length ≤ c ∧ ∀ i (hi : i < l.length), ∃ b o u, A = some ⟨b, o, none⟩ ∧ b < w.heap.size ∧ N w u l[i] ∧ ∀ j y, (f l[i] u)[j]? = some y → w.cell? ⟨b, o + (i * size + j), none⟩ = some y := by
  obtain ⟨A, c, hv, hc⟩ := h.form
  refine ⟨A, c, hv, hc, fun i hi => ?_⟩
  obtain ⟨b, o, c', u, hv', _, hb, hN, hx⟩ := h.at_ hf (List.getElem?_eq_getElem hi)
  rw [hv] at hv'
  injection hv' with hA
  exact ⟨b, o, u, hA, hb, hN, hx⟩
/-- What bounds a simple command. -/
def SmLim (c : Sm) : Prop := c.asg.length ≤ 100000 ∧ c.words.length ≤ 100000 ∧ (∀ a ∈ c.asg, a.value.length ≤ 100000) ∧ (∀ x ∈ c.words, x.length ≤ 100000) ∧ c.inn.length ≤ 100000 ∧ c.out.length ≤ 100000
theorem info112 : (Try.prog.info? 112).map (fun i => (i.zero, i.size, i.bytes)) = some (some (.agg #[.string ⟨#[]⟩, .slice none 0 0]), 2, 40) := by kernel_rfl
theorem info39 : (Try.prog.info? 39).map (fun i => (i.zero, i.size, i.bytes)) = some (some (.slice none 0 0), 1, 24) := by kernel_rfl
theorem info109 : (Try.prog.info? 109).map (fun i => (i.zero, i.size, i.bytes)) = some (some (.agg #[.slice none 0 0, .slice none 0 0, .slice none 0 0, .slice none 0 0, .bool false]), 5, 104) := by kernel_rfl
theorem info101 : (Try.prog.info? 101).map (fun i => (i.zero, i.size, i.bytes)) = some (some (.agg #[.int .i64 0, .slice none 0 0]), 2, 32) := by kernel_rfl

theorem set5 {w : World} {g : Nat} {t : TypeId} {z0 z1 z2 z3 z4 : Value} (h : Blk w g t #[z0, z1, z2, z3, z4]) (a b c d e : Value) :
    Blk (((((w.setCell ⟨g, 0, none⟩ a).setCell ⟨g, 1, none⟩ b).setCell ⟨g, 2, none⟩ c).setCell ⟨g, 3, none⟩ d).setCell ⟨g, 4, none⟩ e) g t #[a, b, c, d, e] ∧
    w.grownBy (((((w.setCell ⟨g, 0, none⟩ a).setCell ⟨g, 1, none⟩ b).setCell ⟨g, 2, none⟩ c).setCell ⟨g, 3, none⟩ d).setCell ⟨g, 4, none⟩ e) (some g) := by
  refine ⟨blk_cast (((((h.set_ 0 a).set_ 1 b).set_ 2 c).set_ 3 d).set_ 4 e) rfl, ?_⟩
  exact only_setCell (p := ⟨g, 4, none⟩) (only_setCell (p := ⟨g, 3, none⟩) (only_setCell (p := ⟨g, 2, none⟩) (only_setCell (p := ⟨g, 1, none⟩) (only_setCell (p := ⟨g, 0, none⟩) (World.grownBy.refl _ _) (.inl rfl) _) (.inl rfl) _) (.inl rfl) _) (.inl rfl) _) (.inl rfl) _
/-- A simple command at the beginning of its rows. -/
def CvS (ip is_ p wt ta st : TypeId) (w : World) (g : Nat) (cs zs : Array Value) (c : Sm) (wr : World) : Prop :=
  Below w.heap.size w wr ∧ Blk wr w.heap.size is_ cs ∧ Blk wr (w.heap.size + 1) st zs ∧ SmB p wt ta st w.heap.size g c wr ∧ w.heap.size + 1 < g
theorem cv_set {ip is_ p wt ta st : TypeId} {w w2 : World} {g : Nat} {cs zs : Array Value} {inn out : Wd} {ap : Bool} {z0 z1 z2 z3 z4 vi vo : Value} (d1 : p ≠ st) (d2 : is_ ≠ st)
    (hb : Below w.heap.size w w2) (hx : Blk w2 w.heap.size is_ cs) (hz : Blk w2 (w.heap.size + 1) st zs) (hd : Blk w2 g st #[z0, z1, z2, z3, z4]) (hi : Rd p w2 vi inn.length (pcC inn)) (ho : Rd p w2 vo out.length (pcC out)) (hg : w.heap.size + 1 < g) :
    CvS ip is_ p wt ta st w g cs zs ⟨[], [], inn, out, ap⟩ (((((w2.setCell ⟨g, 0, none⟩ (.slice none 0 0)).setCell ⟨g, 1, none⟩ (.slice none 0 0)).setCell ⟨g, 2, none⟩ vi).setCell ⟨g, 3, none⟩ vo).setCell ⟨g, 4, none⟩ (.bool ap)) := by
  obtain ⟨B, G⟩ := set5 hd (.slice none 0 0) (.slice none 0 0) vi vo (.bool ap)
  have K := Kept.of_blk [st] hd G (by simp)
  have cS : ∀ t, t ≠ st → [st].contains t = false := fun t h => by simpa using h
  refine ⟨below_of_grown' hb G (by omega), hx.keep K (cS _ d2), hz.grown G (by intro e; injection e with e; omega), SmB.new B (Rd.keep hi K (cS _ d1)) (Rd.keep ho K (cS _ d1)), hg⟩
theorem cv_new {ip is_ p wt ta st : TypeId} {w w2 : World} {cs zs : Array Value} {inn out : Wd} {ap : Bool} {vi vo : Value}
    (hb : Below w.heap.size w w2) (hx : Blk w2 w.heap.size is_ cs) (hz : Blk w2 (w.heap.size + 1) st zs) (hi : Rd p w2 vi inn.length (pcC inn)) (ho : Rd p w2 vo out.length (pcC out)) :
    CvS ip is_ p wt ta st w w2.heap.size cs zs ⟨[], [], inn, out, ap⟩ (w2.alloc (.cells #[.slice none 0 0, .slice none 0 0, vi, vo, .bool ap] st)) := by
  have B := Blk.new w2 st #[.slice none 0 0, .slice none 0 0, vi, vo, .bool ap]
  have hn : Below w2.heap.size w2 (w2.alloc (.cells #[.slice none 0 0, .slice none 0 0, vi, vo, .bool ap] st)) := (Below.refl _ _).alloc (Nat.le_refl _) _
  exact ⟨hb.alloc hb.size _, hx.alloc _, hz.alloc _, SmB.new B (Rd.next hi hn) (Rd.next ho hn), hz.lt⟩

def CvA (ip is_ p wt ta st : TypeId) (w : World) (g : Nat) (cs zs : Array Value) (c : Sm) (gk : Nat) (v : Value) (wr : World) : Prop :=
  ∃ k, v = .int .i64 ((k : Nat) : Int) ∧ k ≤ c.asg.length ∧ gk + k = c.asg.length + 1 ∧ CvS ip is_ p wt ta st w g cs zs ⟨c.asg.take k, [], c.inn, c.out, c.app⟩ wr
def CvW (ip is_ p wt ta st : TypeId) (w : World) (g : Nat) (cs zs : Array Value) (c : Sm) (gk : Nat) (v : Value) (wr : World) : Prop :=
  ∃ k, v = .int .i64 ((k : Nat) : Int) ∧ k ≤ c.words.length ∧ gk + k = c.words.length + 1 ∧ CvS ip is_ p wt ta st w g cs zs ⟨c.asg, c.words.take k, c.inn, c.out, c.app⟩ wr
theorem take_next {α : Type} (l : List α) (k : Nat) (h : k < l.length) : l.take (k + 1) = l.take k ++ [l[k]] := List.take_succ_eq_append_getElem h

set_option maxRecDepth 100000 in
set_option maxHeartbeats 8000000 in
theorem toSimple_any (w : World) (va vb vi vo : Value) (c : Sm) (h : NSp 51 39 112 w ⟨va, vb, vi, vo⟩ c) (hlim : SmLim c) :
    Calls Try.prog 58 #[.agg #[va, vb, vi, vo, .bool c.app]] w fun e w' => ∃ va' vb' vi' vo', e = .returned (.agg #[va', vb', vi', vo', .bool c.app]) ∧ NSp 61 42 140 w' ⟨va', vb', vi', vo'⟩ c ∧ Below w.heap.size w w' := by
  obtain ⟨ja, hja, hja0, hja1, hja2⟩ := info_parts info140
  obtain ⟨jw, hjw, hjw0, hjw1, hjw2⟩ := info_parts info42
  obtain ⟨hA, hW, hI, hO⟩ := h
  obtain ⟨l1, l2, l3, l4, l5, l6⟩ := hlim
  obtain ⟨Aa, ca, hva, xa, hA2⟩ := hA.all asgV_len
  obtain ⟨Ab, cb, hvb, xb, hW2⟩ := hW.all wdV_len
  obtain ⟨Ai, ci, hvi, _⟩ := Rd.form hI
  obtain ⟨Ao, co, hvo, _⟩ := Rd.form hO
  simp only at hva hvb hvi hvo hI hO
  subst hva hvb hvi hvo
  have HA := Lib.hid hA2
  have HW := Lib.hid hW2
  have HI := Lib.hid (show Rd 51 w _ c.inn.length (pcC c.inn) from hI)
  have HO := Lib.hid (show Rd 51 w _ c.out.length (pcC c.out) from hO)
  have HL3 := Lib.hid l3
  have HL4 := Lib.hid l4
  clear hA hW hI hO l3 l4 hA2 hW2
  go_enter Try.func58, Try.ntmps58
  go_upto_region 1 with (fail)
  have HB0 := Lib.hid (((Below.refl w.heap.size w).alloc (Nat.le_refl _) (.cells #[.slice Aa c.asg.length ca, .slice Ab c.words.length cb, .slice Ai c.inn.length ci, .slice Ao c.out.length co, .bool c.app] 109)).alloc (by simp) (.cells #[.slice none 0 0, .slice none 0 0, .slice none 0 0, .slice none 0 0, .bool false] 46))
  have HX0 := Lib.hid ((Blk.new w 109 #[.slice Aa c.asg.length ca, .slice Ab c.words.length cb, .slice Ai c.inn.length ci, .slice Ao c.out.length co, .bool c.app]).alloc (.cells #[.slice none 0 0, .slice none 0 0, .slice none 0 0, .slice none 0 0, .bool false] 46))
  have HR0 := Lib.hid (show Blk ((w.alloc (.cells #[.slice Aa c.asg.length ca, .slice Ab c.words.length cb, .slice Ai c.inn.length ci, .slice Ao c.out.length co, .bool c.app] 109)).alloc (.cells #[.slice none 0 0, .slice none 0 0, .slice none 0 0, .slice none 0 0, .bool false] 46)) (w.heap.size + 1) 46 #[.slice none 0 0, .slice none 0 0, .slice none 0 0, .slice none 0 0, .bool false] from by have := Blk.new (w.alloc (.cells #[.slice Aa c.asg.length ca, .slice Ab c.words.length cb, .slice Ai c.inn.length ci, .slice Ao c.out.length co, .bool c.app] 109)) 46 #[.slice none 0 0, .slice none 0 0, .slice none 0 0, .slice none 0 0, .bool false]; simpa using this)
  have RI0 := Lib.hid (Rd.drew (Rd.next HI.out HB0.out))
  have RO0 := Lib.hid (Rd.drew (Rd.next HO.out HB0.out))
  have HBD := Lib.hid (HB0.out.drew)
  generalize ((w.alloc (.cells #[.slice Aa c.asg.length ca, .slice Ab c.words.length cb, .slice Ai c.inn.length ci, .slice Ao c.out.length co, .bool c.app] 109)).alloc (.cells #[.slice none 0 0, .slice none 0 0, .slice none 0 0, .slice none 0 0, .bool false] 46)) = wa at *
  have x2 : wa.cell? ⟨w.heap.size, 2, none⟩ = some (.slice Ai c.inn.length ci) := HX0.out.cell 2
  have x3 : wa.cell? ⟨w.heap.size, 3, none⟩ = some (.slice Ao c.out.length co) := HX0.out.cell 3
  have x4 : wa.cell? ⟨w.heap.size, 4, none⟩ = some (.bool c.app) := HX0.out.cell 4
  have hxl : w.heap.size < wa.drew.heap.size := HX0.out.lt
  have hrl : w.heap.size + 1 < wa.drew.heap.size := HR0.out.lt
  have hrl' : w.heap.size + 1 < wa.heap.size := HR0.out.lt
  have hwl : w.heap.size < wa.heap.size := by omega
  have hq0 : wa.heap.size ≠ w.heap.size := by omega
  have HBZ := Lib.hid (show Below wa.drew.heap.size wa.drew ((wa.alloc (.cells #[.slice none 0 0, .slice none 0 0, .slice none 0 0, .slice none 0 0, .bool false] 46)).drew) from (Below.refl wa.drew.heap.size wa.drew).alloc (Nat.le_refl _) (.cells #[.slice none 0 0, .slice none 0 0, .slice none 0 0, .slice none 0 0, .bool false] 46))
  have DZ := Lib.hid (show Blk ((wa.alloc (.cells #[.slice none 0 0, .slice none 0 0, .slice none 0 0, .slice none 0 0, .bool false] 46)).drew) wa.heap.size 46 #[.slice none 0 0, .slice none 0 0, .slice none 0 0, .slice none 0 0, .bool false] from Blk.new wa 46 #[.slice none 0 0, .slice none 0 0, .slice none 0 0, .slice none 0 0, .bool false])
  have ND1 : Hid ((61 : TypeId) ≠ 46) := Lib.hid (by decide)
  have ND2 : Hid ((109 : TypeId) ≠ 46) := Lib.hid (by decide)
  go_cut [3] (fun s3 wx => ∃ g : Nat, s3 = .pointer (some ⟨g, 0, none⟩) ∧ CvS 51 109 61 42 140 46 w g #[.slice Aa c.asg.length ca, .slice Ab c.words.length cb, .slice Ai c.inn.length ci, .slice Ao c.out.length co, .bool c.app] #[.slice none 0 0, .slice none 0 0, .slice none 0 0, .slice none 0 0, .bool false] ⟨[], [], c.inn, c.out, c.app⟩ wx)
  case first =>
    go_region_held3 (fun w' => w'.cell? ⟨w.heap.size, 2, none⟩ = some (.slice Ai c.inn.length ci) ∧ w'.cell? ⟨w.heap.size, 3, none⟩ = some (.slice Ao c.out.length co) ∧ w'.cell? ⟨w.heap.size, 4, none⟩ = some (.bool c.app))
      (first | (with_reducible exact ⟨y2, y3, y4⟩) | go_keep)
      (first | (go_at_call 32; (with_reducible refine (toWord_any wa.drew _ c.inn RI0.out l5).mono ?_); rintro e w1 ⟨v1, rfl, ho1, hb1⟩; obtain ⟨AI, cI, rfl, _⟩ := own_len ho1; have QI := Lib.hid (Rd.of_own ho1); have HB1 := Lib.hid hb1; have HB1Z := Lib.hid (HB1.out.alloc HB1.out.size (.cells #[.slice none 0 0, .slice none 0 0, .slice none 0 0, .slice none 0 0, .bool false] 46)); have X1 := Lib.hid (HX0.out.drew.next HB1.out hxl); have D1Z := Lib.hid (Blk.new w1 46 #[.slice none 0 0, .slice none 0 0, .slice none 0 0, .slice none 0 0, .bool false]); have hl1 : wa.heap.size ≤ w1.heap.size := HB1.out.size; have hq1 : w1.heap.size ≠ w.heap.size := Nat.ne_of_gt (Nat.lt_of_lt_of_le hwl hl1); have y2 := X1.out.cell 2; have y3 := X1.out.cell 3; have y4 := X1.out.cell 4; simp only [List.getElem?_toArray, List.getElem?_cons_zero, List.getElem?_cons_succ] at y2 y3 y4; clear ho1 hb1) | (go_at_call 32; (with_reducible refine (toWord_any ((wa.alloc (.cells #[.slice none 0 0, .slice none 0 0, .slice none 0 0, .slice none 0 0, .bool false] 46)).drew) _ c.inn (Rd.next RI0.out HBZ.out) l5).mono ?_); rintro e w1 ⟨v1, rfl, ho1, hb1⟩; obtain ⟨AI, cI, rfl, _⟩ := own_len ho1; have QI := Lib.hid (Rd.of_own ho1); have HB1 := Lib.hid (HBZ.out.trans (hb1.mono HBZ.out.size)); have D1 := Lib.hid (DZ.out.next hb1 DZ.out.lt); have HB1Z := Lib.hid (HB1.out.alloc HB1.out.size (.cells #[.slice none 0 0, .slice none 0 0, .slice none 0 0, .slice none 0 0, .bool false] 46)); have X1 := Lib.hid (HX0.out.drew.next HB1.out hxl); have D1Z := Lib.hid (Blk.new w1 46 #[.slice none 0 0, .slice none 0 0, .slice none 0 0, .slice none 0 0, .bool false]); have hl1 : wa.heap.size ≤ w1.heap.size := HB1.out.size; have hq1 : w1.heap.size ≠ w.heap.size := Nat.ne_of_gt (Nat.lt_of_lt_of_le hwl hl1); have y2 := X1.out.cell 2; have y3 := X1.out.cell 3; have y4 := X1.out.cell 4; simp only [List.getElem?_toArray, List.getElem?_cons_zero, List.getElem?_cons_succ] at y2 y3 y4; clear ho1 hb1) | (go_at_call 32; (with_reducible refine (toWord_any wa.drew _ c.out RO0.out l6).mono ?_); rintro e w1 ⟨v1, rfl, ho1, hb1⟩; obtain ⟨AO, cO, rfl, _⟩ := own_len ho1; have QO := Lib.hid (Rd.of_own ho1); have HB1 := Lib.hid hb1; have HB1Z := Lib.hid (HB1.out.alloc HB1.out.size (.cells #[.slice none 0 0, .slice none 0 0, .slice none 0 0, .slice none 0 0, .bool false] 46)); have X1 := Lib.hid (HX0.out.drew.next HB1.out hxl); have D1Z := Lib.hid (Blk.new w1 46 #[.slice none 0 0, .slice none 0 0, .slice none 0 0, .slice none 0 0, .bool false]); have hl1 : wa.heap.size ≤ w1.heap.size := HB1.out.size; have hq1 : w1.heap.size ≠ w.heap.size := Nat.ne_of_gt (Nat.lt_of_lt_of_le hwl hl1); have y2 := X1.out.cell 2; have y3 := X1.out.cell 3; have y4 := X1.out.cell 4; simp only [List.getElem?_toArray, List.getElem?_cons_zero, List.getElem?_cons_succ] at y2 y3 y4; clear ho1 hb1) | (go_at_call 32; (with_reducible refine (toWord_any ((wa.alloc (.cells #[.slice none 0 0, .slice none 0 0, .slice none 0 0, .slice none 0 0, .bool false] 46)).drew) _ c.out (Rd.next RO0.out HBZ.out) l6).mono ?_); rintro e w1 ⟨v1, rfl, ho1, hb1⟩; obtain ⟨AO, cO, rfl, _⟩ := own_len ho1; have QO := Lib.hid (Rd.of_own ho1); have HB1 := Lib.hid (HBZ.out.trans (hb1.mono HBZ.out.size)); have D1 := Lib.hid (DZ.out.next hb1 DZ.out.lt); have HB1Z := Lib.hid (HB1.out.alloc HB1.out.size (.cells #[.slice none 0 0, .slice none 0 0, .slice none 0 0, .slice none 0 0, .bool false] 46)); have X1 := Lib.hid (HX0.out.drew.next HB1.out hxl); have D1Z := Lib.hid (Blk.new w1 46 #[.slice none 0 0, .slice none 0 0, .slice none 0 0, .slice none 0 0, .bool false]); have hl1 : wa.heap.size ≤ w1.heap.size := HB1.out.size; have hq1 : w1.heap.size ≠ w.heap.size := Nat.ne_of_gt (Nat.lt_of_lt_of_le hwl hl1); have y2 := X1.out.cell 2; have y3 := X1.out.cell 3; have y4 := X1.out.cell 4; simp only [List.getElem?_toArray, List.getElem?_cons_zero, List.getElem?_cons_succ] at y2 y3 y4; clear ho1 hb1) | (go_at_call 32; (with_reducible refine (toWord_any w1 _ c.inn (Rd.next RI0.out HB1.out) l5).mono ?_); rintro e w2 ⟨v2, rfl, ho2, hb2⟩; obtain ⟨AI, cI, rfl, _⟩ := own_len ho2; have QI := Lib.hid (Rd.of_own ho2); have HB2 := Lib.hid (HB1.out.trans (hb2.mono HB1.out.size)); have X2 := Lib.hid (HX0.out.drew.next HB2.out hxl); have PO := Lib.hid (Rd.next (QO.out) hb2); have PI := Lib.hid (QI.out); have RZ := Lib.hid (HR0.out.drew.next HB2.out hrl); have hl2 : w1.heap.size ≤ w2.heap.size := Nat.le_trans (Nat.le_refl _) hb2.size; have hq2 : w2.heap.size ≠ w.heap.size := Nat.ne_of_gt (Nat.lt_of_lt_of_le hwl (Nat.le_trans hl1 hl2)); (try (have D2 := Lib.hid (D1.out.next hb2 D1.out.lt); have d0 := D2.out.cell 0; have d1 := D2.out.cell 1; have d2 := D2.out.cell 2; have d3 := D2.out.cell 3; have d4 := D2.out.cell 4; have df0 := D2.out.frozen 0; have df1 := D2.out.frozen 1; have df2 := D2.out.frozen 2; have df3 := D2.out.frozen 3; have df4 := D2.out.frozen 4; have hdl := D2.out.lt; simp only [List.getElem?_toArray, List.getElem?_cons_zero, List.getElem?_cons_succ] at d0 d1 d2 d3 d4)); have y2 := X2.out.cell 2; have y3 := X2.out.cell 3; have y4 := X2.out.cell 4; simp only [List.getElem?_toArray, List.getElem?_cons_zero, List.getElem?_cons_succ] at y2 y3 y4; clear ho2 hb2) | (go_at_call 32; (with_reducible refine (toWord_any (w1.alloc (.cells #[.slice none 0 0, .slice none 0 0, .slice none 0 0, .slice none 0 0, .bool false] 46)) _ c.inn (Rd.next RI0.out HB1Z.out) l5).mono ?_); rintro e w2 ⟨v2, rfl, ho2, hb2⟩; obtain ⟨AI, cI, rfl, _⟩ := own_len ho2; have QI := Lib.hid (Rd.of_own ho2); have HB2 := Lib.hid (HB1Z.out.trans (hb2.mono HB1Z.out.size)); have X2 := Lib.hid (HX0.out.drew.next HB2.out hxl); have PO := Lib.hid (Rd.next (QO.out.next ((Below.refl _ _).alloc (Nat.le_refl _) (.cells #[.slice none 0 0, .slice none 0 0, .slice none 0 0, .slice none 0 0, .bool false] 46))) hb2); have PI := Lib.hid (QI.out); have RZ := Lib.hid (HR0.out.drew.next HB2.out hrl); have hl2 : w1.heap.size ≤ w2.heap.size := Nat.le_trans (by simp) hb2.size; have hq2 : w2.heap.size ≠ w.heap.size := Nat.ne_of_gt (Nat.lt_of_lt_of_le hwl (Nat.le_trans hl1 hl2)); have D2 := Lib.hid (D1Z.out.next hb2 D1Z.out.lt); have d0 := D2.out.cell 0; have d1 := D2.out.cell 1; have d2 := D2.out.cell 2; have d3 := D2.out.cell 3; have d4 := D2.out.cell 4; have df0 := D2.out.frozen 0; have df1 := D2.out.frozen 1; have df2 := D2.out.frozen 2; have df3 := D2.out.frozen 3; have df4 := D2.out.frozen 4; have hdl := D2.out.lt; simp only [List.getElem?_toArray, List.getElem?_cons_zero, List.getElem?_cons_succ] at d0 d1 d2 d3 d4; have y2 := X2.out.cell 2; have y3 := X2.out.cell 3; have y4 := X2.out.cell 4; simp only [List.getElem?_toArray, List.getElem?_cons_zero, List.getElem?_cons_succ] at y2 y3 y4; clear ho2 hb2) | (go_at_call 32; (with_reducible refine (toWord_any w1 _ c.out (Rd.next RO0.out HB1.out) l6).mono ?_); rintro e w2 ⟨v2, rfl, ho2, hb2⟩; obtain ⟨AO, cO, rfl, _⟩ := own_len ho2; have QO := Lib.hid (Rd.of_own ho2); have HB2 := Lib.hid (HB1.out.trans (hb2.mono HB1.out.size)); have X2 := Lib.hid (HX0.out.drew.next HB2.out hxl); have PI := Lib.hid (Rd.next (QI.out) hb2); have PO := Lib.hid (QO.out); have RZ := Lib.hid (HR0.out.drew.next HB2.out hrl); have hl2 : w1.heap.size ≤ w2.heap.size := Nat.le_trans (Nat.le_refl _) hb2.size; have hq2 : w2.heap.size ≠ w.heap.size := Nat.ne_of_gt (Nat.lt_of_lt_of_le hwl (Nat.le_trans hl1 hl2)); (try (have D2 := Lib.hid (D1.out.next hb2 D1.out.lt); have d0 := D2.out.cell 0; have d1 := D2.out.cell 1; have d2 := D2.out.cell 2; have d3 := D2.out.cell 3; have d4 := D2.out.cell 4; have df0 := D2.out.frozen 0; have df1 := D2.out.frozen 1; have df2 := D2.out.frozen 2; have df3 := D2.out.frozen 3; have df4 := D2.out.frozen 4; have hdl := D2.out.lt; simp only [List.getElem?_toArray, List.getElem?_cons_zero, List.getElem?_cons_succ] at d0 d1 d2 d3 d4)); have y2 := X2.out.cell 2; have y3 := X2.out.cell 3; have y4 := X2.out.cell 4; simp only [List.getElem?_toArray, List.getElem?_cons_zero, List.getElem?_cons_succ] at y2 y3 y4; clear ho2 hb2) | (go_at_call 32; (with_reducible refine (toWord_any (w1.alloc (.cells #[.slice none 0 0, .slice none 0 0, .slice none 0 0, .slice none 0 0, .bool false] 46)) _ c.out (Rd.next RO0.out HB1Z.out) l6).mono ?_); rintro e w2 ⟨v2, rfl, ho2, hb2⟩; obtain ⟨AO, cO, rfl, _⟩ := own_len ho2; have QO := Lib.hid (Rd.of_own ho2); have HB2 := Lib.hid (HB1Z.out.trans (hb2.mono HB1Z.out.size)); have X2 := Lib.hid (HX0.out.drew.next HB2.out hxl); have PI := Lib.hid (Rd.next (QI.out.next ((Below.refl _ _).alloc (Nat.le_refl _) (.cells #[.slice none 0 0, .slice none 0 0, .slice none 0 0, .slice none 0 0, .bool false] 46))) hb2); have PO := Lib.hid (QO.out); have RZ := Lib.hid (HR0.out.drew.next HB2.out hrl); have hl2 : w1.heap.size ≤ w2.heap.size := Nat.le_trans (by simp) hb2.size; have hq2 : w2.heap.size ≠ w.heap.size := Nat.ne_of_gt (Nat.lt_of_lt_of_le hwl (Nat.le_trans hl1 hl2)); have D2 := Lib.hid (D1Z.out.next hb2 D1Z.out.lt); have d0 := D2.out.cell 0; have d1 := D2.out.cell 1; have d2 := D2.out.cell 2; have d3 := D2.out.cell 3; have d4 := D2.out.cell 4; have df0 := D2.out.frozen 0; have df1 := D2.out.frozen 1; have df2 := D2.out.frozen 2; have df3 := D2.out.frozen 3; have df4 := D2.out.frozen 4; have hdl := D2.out.lt; simp only [List.getElem?_toArray, List.getElem?_cons_zero, List.getElem?_cons_succ] at d0 d1 d2 d3 d4; have y2 := X2.out.cell 2; have y3 := X2.out.cell 3; have y4 := X2.out.cell 4; simp only [List.getElem?_toArray, List.getElem?_cons_zero, List.getElem?_cons_succ] at y2 y3 y4; clear ho2 hb2))
    all_goals
      have HBW := Lib.hid (HBD.out.trans (HB2.out.mono HBD.out.size))
      go_wp2_with fail
      go_meet
      refine ⟨_, rfl, ?_⟩
      first
        | with_reducible exact cv_new HBW.out X2.out RZ.out PI.out PO.out
        | with_reducible exact cv_set ND1.out ND2.out HBW.out X2.out RZ.out D2.out PI.out PO.out hrl'
        | with_reducible exact cv_set ND1.out ND2.out HBW.out X2.out RZ.out D2.out PI.out PO.out (Nat.lt_of_lt_of_le hrl' hl1)
  case rest =>
    obtain ⟨gg, rfl, hC⟩ := hcut
    have HC := Lib.hid hC
    clear hC HB0 HX0 HR0 RI0 RO0 HBD x2 x3 x4 hxl hrl hrl' hwl hq0 HBZ DZ
    go_wp2
    go_loopg [4] (c.asg.length + 1) (fun gk v wr => CvA 51 109 61 42 140 46 w gg #[.slice Aa c.asg.length ca, .slice Ab c.words.length cb, .slice Ai c.inn.length ci, .slice Ao c.out.length co, .bool c.app] #[.slice none 0 0, .slice none 0 0, .slice none 0 0, .slice none 0 0, .bool false] c gk v wr)
    case atStart => exact ⟨0, rfl, Nat.zero_le _, by omega, HC.out⟩
    case round =>
      obtain ⟨k, rfl, hk, hgk, hcs⟩ := hrel
      have HS := Lib.hid hcs
      clear hcs HC
      by_cases hlt : k < c.asg.length
      · obtain ⟨b, o, u, rfl, hb0, hN, hx⟩ := HA.out k hlt
        have hlv := HL3.out c.asg[k] (List.getElem_mem hlt)
        have HTK := Lib.hid (take_next c.asg k hlt)
        obtain ⟨a, ha⟩ : ∃ a, c.asg[k] = a := ⟨_, rfl⟩
        rw [ha] at hN hx hlv HTK
        clear ha
        obtain ⟨Au, cu, rfl, _⟩ := Rd.form hN
        have p0 := hx 0 _ rfl
        have p1 := hx 1 _ rfl
        obtain ⟨hb, hX, hZ, ⟨ga, gb, gi, go, B, ⟨vsa, hwa, hoa⟩, rb, ri, ro⟩, hgg⟩ := HS.out
        simp only at B hwa hoa rb ri ro
        have hlk : (c.asg.take k).length = k := by rw [List.length_take]; omega
        have HLK := Lib.hid hlk
        rw [hlk] at hoa
        obtain ⟨Ga, ca', rfl, _⟩ := own_len hoa
        have hbr : b < wr.heap.size := Nat.lt_of_lt_of_le hb0 hb.size
        have E0 := Lib.hid (show w.cell? ⟨b, o + k * 2, none⟩ = some (.string (bs a.name)) by simpa using p0)
        have E1 := Lib.hid (show w.cell? ⟨b, o + k * 2 + 1, none⟩ = some (.slice Au a.value.length cu) by rw [Nat.add_assoc]; exact p1)
        have e0 : wr.cell? ⟨b, o + k * 2, none⟩ = some (.string (bs a.name)) := ((bcell hb).1 b (o + k * 2) hb0).trans E0.out
        have e1 : wr.cell? ⟨b, o + k * 2 + 1, none⟩ = some (.slice Au a.value.length cu) := ((bcell hb).1 b (o + k * 2 + 1) hb0).trans E1.out
        have x0 : wr.cell? ⟨w.heap.size, 0, none⟩ = some (.slice (some ⟨b, o, none⟩) c.asg.length ca) := hX.cell 0
        have g0 : wr.cell? ⟨gg, 0, none⟩ = some (.slice Ga k ca') := B.cell 0
        have gf0 := B.frozen 0
        have hgl := B.lt
        have HRD := Lib.hid (show Rd 51 wr.drew _ a.value.length (pcC a.value) from Rd.drew (Rd.next hN hb))
        have HX := Lib.hid hX
        have HZ := Lib.hid hZ
        have HB := Lib.hid B
        have HWA := Lib.hid hwa
        have HOA := Lib.hid hoa
        have HRB := Lib.hid rb
        have HRI := Lib.hid ri
        have HRO := Lib.hid ro
        have HBW := Lib.hid hb
        have hxl := hX.lt
        have hxl' : w.heap.size < wr.drew.heap.size := hX.lt
        have hgl' : gg < wr.drew.heap.size := hgl
        have hbr' : b < wr.drew.heap.size := hbr
        have hne := Lib.hid (own_blk_ne hoa B (by decide))
        have hq0 : gg ≠ w.heap.size := by omega
        have hq1 : gg ≠ b := by omega
        have i1 : (0 : Int) ≤ (k : Int) := by omega
        have i2 : (k : Int) < (c.asg.length : Int) := by omega
        have hbase := hb.size
        clear hN hx p0 p1 hX hZ B hwa hoa rb ri ro hb hlk HS
        have hq2 : gg ≠ w.heap.size + 1 := by omega
        have hbs : w.heap.size ≤ gg := by omega
        go_upto_region 5 with (fail)
        refine wp_region_noPanic ?_
        refine wp_region_last (S := (fun w' => w'.cell? ⟨w.heap.size, 0, none⟩ = some (.slice (some ⟨b, o, none⟩) c.asg.length ca) ∧ w'.cell? ⟨b, o + k * 2, none⟩ = some (.string (bs a.name)) ∧ w'.cell? ⟨b, o + k * 2 + 1, none⟩ = some (.slice Au a.value.length cu) ∧ w'.cell? ⟨gg, 0, none⟩ = some (.slice Ga k ca'))) 19 19 rfl (by kernel_rfl) (by kernel_rfl) ?_ (fun hHeld => ?_)
        · exact ⟨x0, e0, e1, g0⟩
        refine wpAnyH_take (i := 0) (v := ?_) rfl (by kernel_rfl) (by kernel_rfl) (by kernel_rfl) (fun _ _ _ h => h) (Or.inl ⟨by rfl, ?_⟩) hHeld ?_
        rotate_left
        · (intro w hSw; (try dsimp only at hSw); go_simp; try with_reducible rfl)
        try simp only [Act.put, List.setIfInBounds_toArray, List.set_cons_zero, List.set_cons_succ]
        refine wpAnyH_take (i := 1) (v := ?_) rfl (by kernel_rfl) (by kernel_rfl) (by kernel_rfl) (fun _ _ _ h => h) (Or.inl ⟨by rfl, ?_⟩) hHeld ?_
        rotate_left
        · (intro w hSw; (try dsimp only at hSw); go_simp; try with_reducible rfl)
        try simp only [Act.put, List.setIfInBounds_toArray, List.set_cons_zero, List.set_cons_succ]
        refine wpAnyH_take (i := 2) (v := ?_) rfl (by kernel_rfl) (by kernel_rfl) (by kernel_rfl) (fun _ _ _ h => h) (Or.inl ⟨by rfl, ?_⟩) hHeld ?_
        rotate_left
        · (intro w hSw; (try dsimp only at hSw); go_simp; try with_reducible rfl)
        try simp only [Act.put, List.setIfInBounds_toArray, List.set_cons_zero, List.set_cons_succ]
        refine wpAnyH_take (i := 3) (v := ?_) rfl (by kernel_rfl) (by kernel_rfl) (by kernel_rfl) (fun _ _ _ h => h) (Or.inl ⟨by rfl, ?_⟩) hHeld ?_
        rotate_left
        · (intro w hSw; (try dsimp only at hSw); go_simp; try with_reducible rfl)
        try simp only [Act.put, List.setIfInBounds_toArray, List.set_cons_zero, List.set_cons_succ]
        refine wpAnyH_take (i := 4) (v := ?_) rfl (by kernel_rfl) (by kernel_rfl) (by kernel_rfl) (fun _ _ _ h => h) (Or.inl ⟨by rfl, ?_⟩) hHeld ?_
        rotate_left
        · (intro w hSw; (try dsimp only at hSw); go_simp; try with_reducible rfl)
        try simp only [Act.put, List.setIfInBounds_toArray, List.set_cons_zero, List.set_cons_succ]
        refine wpAnyH_take (i := 5) (v := ?_) rfl (by kernel_rfl) (by kernel_rfl) (by kernel_rfl) (fun _ _ _ h => h) (Or.inl ⟨by rfl, ?_⟩) hHeld ?_
        rotate_left
        · (intro w hSw; (try dsimp only at hSw); go_simp; try with_reducible rfl)
        try simp only [Act.put, List.setIfInBounds_toArray, List.set_cons_zero, List.set_cons_succ]
        refine wpAnyH_take (i := 6) (v := ?_) rfl (by kernel_rfl) (by kernel_rfl) (by kernel_rfl) (fun _ _ _ h => h) (Or.inl ⟨by rfl, ?_⟩) hHeld ?_
        rotate_left
        · (intro w hSw; (try dsimp only at hSw); go_simp; try with_reducible rfl)
        try simp only [Act.put, List.setIfInBounds_toArray, List.set_cons_zero, List.set_cons_succ]
        refine wpAnyH_take (i := 7) (v := ?_) rfl (by kernel_rfl) (by kernel_rfl) (by kernel_rfl) (fun _ _ _ h => h) (Or.inl ⟨by rfl, ?_⟩) hHeld ?_
        rotate_left
        · (intro w hSw; (try dsimp only at hSw); go_simp; try with_reducible rfl)
        try simp only [Act.put, List.setIfInBounds_toArray, List.set_cons_zero, List.set_cons_succ]
        refine wpAnyH_take (i := 8) (v := ?_) rfl (by kernel_rfl) (by kernel_rfl) (by kernel_rfl) (fun _ _ _ h => h) (Or.inl ⟨by rfl, ?_⟩) hHeld ?_
        rotate_left
        · (intro w hSw; (try dsimp only at hSw); go_simp; try with_reducible rfl)
        try simp only [Act.put, List.setIfInBounds_toArray, List.set_cons_zero, List.set_cons_succ]
        refine wpAnyH_take (i := 9) (v := ?_) rfl (by kernel_rfl) (by kernel_rfl) (by kernel_rfl) (fun _ _ _ h => h) (Or.inl ⟨by rfl, ?_⟩) hHeld ?_
        rotate_left
        · (intro w hSw; (try dsimp only at hSw); go_simp; try with_reducible rfl)
        try simp only [Act.put, List.setIfInBounds_toArray, List.set_cons_zero, List.set_cons_succ]
        refine wpAnyH_take (i := 10) (v := ?_) rfl (by kernel_rfl) (by kernel_rfl) (by kernel_rfl) (fun _ _ _ h => h) (Or.inl ⟨by rfl, ?_⟩) hHeld ?_
        rotate_left
        · (intro w hSw; (try dsimp only at hSw); go_simp; try with_reducible rfl)
        try simp only [Act.put, List.setIfInBounds_toArray, List.set_cons_zero, List.set_cons_succ]
        refine wpAnyH_take (i := 11) (v := ?_) rfl (by kernel_rfl) (by kernel_rfl) (by kernel_rfl) (fun _ _ _ h => h) (Or.inl ⟨by rfl, ?_⟩) hHeld ?_
        rotate_left
        · (intro w hSw; (try dsimp only at hSw); go_simp; try with_reducible rfl)
        try simp only [Act.put, List.setIfInBounds_toArray, List.set_cons_zero, List.set_cons_succ]
        refine wpAnyH_take (i := 12) (v := ?_) rfl (by kernel_rfl) (by kernel_rfl) (by kernel_rfl) (fun _ _ _ h => h) (Or.inl ⟨by rfl, ?_⟩) hHeld ?_
        rotate_left
        · (intro w hSw; (try dsimp only at hSw); go_simp; try with_reducible rfl)
        try simp only [Act.put, List.setIfInBounds_toArray, List.set_cons_zero, List.set_cons_succ]
        refine wpAnyH_take (i := 13) (v := ?_) rfl (by kernel_rfl) (by kernel_rfl) (by kernel_rfl) (fun _ _ _ h => h) (Or.inl ⟨by rfl, ?_⟩) hHeld ?_
        rotate_left
        · (intro w hSw; (try dsimp only at hSw); go_simp; try with_reducible rfl)
        try simp only [Act.put, List.setIfInBounds_toArray, List.set_cons_zero, List.set_cons_succ]
        refine wpAnyH_ready (rs := [14]) (by kernel_rfl) (by simp) ?_
        refine AllReadyH.cons rfl (fun K hK => ?_) AllReadyH.nil
        go_simp
        go_at_call 32; (with_reducible refine (toWord_any wr.drew _ a.value HRD.out hlv).mono ?_); rintro e w2 ⟨v2, rfl, ho2, hb2⟩; have HB2 := Lib.hid hb2; obtain ⟨Av, cv, rfl, _⟩ := own_len ho2; have HVV := Lib.hid (Rd.of_own ho2); have B2 := Lib.hid (HB.out.drew.next hb2 hgl'); have X2 := Lib.hid (HX.out.drew.next hb2 hxl'); have z0 : w2.cell? ⟨gg, 0, none⟩ = some (.slice Ga k ca') := B2.out.cell 0; have zf0 := B2.out.frozen 0; have hgl2 : gg < w2.heap.size := B2.out.lt; have HBW2 := Lib.hid (HBW.out.drew.trans (hb2.mono HBW.out.size)); have hs2 : w.heap.size ≤ w2.heap.size := HBW2.out.size; have y0 := X2.out.cell 0; simp only [List.getElem?_toArray, List.getElem?_cons_zero] at y0; have y1 := ((bcell hb2).1 b (o + k * 2) hbr').trans e0; have y2 := ((bcell hb2).1 b (o + k * 2 + 1) hbr').trans e1; have hbr2 : b < w2.heap.size := Nat.lt_of_lt_of_le hbr' hb2.size; clear ho2 hb2
        try (go_wp2_with fail)
        refine hK.out _ _ ?_ (fun hNew => ?_)
        · exact ⟨y0, y1, y2, z0⟩
        clear hK K hHeld
        have hHeld := hNew
        clear hNew
        try simp only [Act.put, List.setIfInBounds_toArray, List.set_cons_zero, List.set_cons_succ]
        refine wpAnyH_take (i := 15) (v := ?_) rfl (by kernel_rfl) (by kernel_rfl) (by kernel_rfl) (fun _ _ _ h => h) (Or.inl ⟨by rfl, ?_⟩) hHeld ?_
        rotate_left
        · (intro w hSw; (try dsimp only at hSw); go_simp; try with_reducible rfl)
        try simp only [Act.put, List.setIfInBounds_toArray, List.set_cons_zero, List.set_cons_succ]
        refine wpAnyH_ready (rs := [16]) (by kernel_rfl) (by simp) ?_
        refine AllReadyH.cons rfl (fun K hK => ?_) AllReadyH.nil
        go_simp
        refine hK.out _ _ ?_ (fun hNew => ?_)
        · go_keep
        clear hK K hHeld
        have hHeld := hNew
        clear hNew
        try simp only [Act.put, List.setIfInBounds_toArray, List.set_cons_zero, List.set_cons_succ]
        refine wpAnyH_ready (rs := [17]) (by kernel_rfl) (by simp) ?_
        refine AllReadyH.cons rfl (fun K hK => ?_) AllReadyH.nil
        refine step_append_lies _ (by rfl) _ _ _ (by rfl) w.heap.size 140 ja _ 2 40 Try.underlying43 hja hja0 hja1 hja2 rfl (by omega) (.slice Ga k ca') k (rowC asgV (c.asg.take k) vsa) (by rfl) ((own_next HOA.out.drew HB2.out).alloc _) ⟨w2.heap.size, 0, none⟩ 1 1 [.string (bs a.name), .slice Av a.value.length cv] (by rfl) (by rfl) (World.news_of_block (cs := #[.string (bs a.name), .slice Av a.value.length cv]) (t := 140) (fr := (0, 0)) (heap_alloc_new w2 _)) (by simp [Value.oneCell']) (by omega) (by unfold maxLen; omega) (by omega) (by simp; omega) (w2.heap.size + 1) (by simp) ?_; intro gz cap w3 hown3 hgrow3 hat hlt3; have B3 := Lib.hid (Blk.grown (Blk.alloc B2.out _) hgrow3 (Ne.symm hne.out)); have d0 : w3.cell? ⟨gg, 0, none⟩ = some (.slice Ga k ca') := B3.out.cell 0; have df0 := B3.out.frozen 0; have hgl3 : gg < w3.heap.size := B3.out.lt; have HB3 := Lib.hid (below_own (B := w.heap.size) (HBW2.out.alloc hs2 _) ((own_next HOA.out.drew HB2.out).alloc _) hgrow3 (Nat.le_refl _) (by simp; omega)); have y0 := ((X2.out.alloc _).grown hgrow3 (Ne.symm (own_blk_ne HOA.out.drew HX.out.drew (by decide)))).cell 0; simp only [List.getElem?_toArray, List.getElem?_cons_zero] at y0; have y1 := ((bcell HB3.out).1 b (o + k * 2) hb0).trans E0.out; have y2 := ((bcell HB3.out).1 b (o + k * 2 + 1) hb0).trans E1.out
        refine hK.out _ _ ?_ (fun hNew => ?_)
        · exact ⟨y0, y1, y2, d0⟩
        clear hK K hHeld
        have hHeld := hNew
        clear hNew
        try simp only [Act.put, List.setIfInBounds_toArray, List.set_cons_zero, List.set_cons_succ]
        refine wpAnyH_take (i := 18) (v := ?_) rfl (by kernel_rfl) (by kernel_rfl) (by kernel_rfl) (fun _ _ _ h => h) (Or.inl ⟨by rfl, ?_⟩) hHeld ?_
        rotate_left
        · (intro w hSw; (try dsimp only at hSw); go_simp; try with_reducible rfl)
        try simp only [Act.put, List.setIfInBounds_toArray, List.set_cons_zero, List.set_cons_succ]
        refine wpAnyH_done (by kernel_rfl) ?_ _
        refine lastQ_step rfl (fun K hK => ?_)
        clear hHeld
        go_simp
        refine hK _ _ ?_
        clear hK K
        refine NoPanic.normal ?_
        all_goals
          have HN2 := Lib.hid ((Below.refl w2.heap.size w2).alloc (Nat.le_refl _) (.cells #[.string (bs a.name), .slice Av a.value.length cv] 140))
          have h3' : w2.ownsRow w.heap.size 140 2 (.slice Ga k ca') (c.asg.take k).length (rowC asgV (c.asg.take k) vsa) := by rw [HLK.out]; exact own_next HOA.out.drew HB2.out
          have h4' : w3.ownsRow w.heap.size 140 2 (.slice (some ⟨gz, 0, none⟩) (k + 1) cap) ((c.asg.take k).length + 1) (rowC asgV (c.asg.take k) vsa ++ [.string (bs a.name), .slice Av a.value.length cv]) := by rw [HLK.out]; exact hown3
          have HP := Lib.hid (SmB.pushA (c := ⟨c.asg.take k, [], c.inn, c.out, c.app⟩) (nm := a.name) (val := a.value) (by decide) (by decide) (by decide) (by decide) (by decide) B2.out (HWA.out.imp (fun _ _ h => NAp.next (w := wr.drew) h HB2.out)) h3' (RowOwn.next (w := wr.drew) HRB.out HB2.out (fun _ _ h => NWp.next (w := wr.drew) h HB2.out)) (NWp.next (w := wr.drew) HRI.out HB2.out) (NWp.next (w := wr.drew) HRO.out HB2.out) HN2.out hgrow3 h4' (Rd.next HVV.out HN2.out))
          have HX3 := Lib.hid ((((X2.out.alloc (.cells #[.string (bs a.name), .slice Av a.value.length cv] 140)).grown hgrow3 (Ne.symm (own_blk_ne HOA.out.drew HX.out.drew (by decide)))).far (p := ⟨gg, 0, none⟩) (Ne.symm hq0) (.slice (some ⟨gz, 0, none⟩) (k + 1) cap)))
          have HZ3 := Lib.hid (((((HZ.out.drew.next HB2.out HZ.out.lt).alloc (.cells #[.string (bs a.name), .slice Av a.value.length cv] 140)).grown hgrow3 (Ne.symm (own_blk_ne HOA.out.drew HZ.out.drew (by decide)))).far (p := ⟨gg, 0, none⟩) (Ne.symm hq2) (.slice (some ⟨gz, 0, none⟩) (k + 1) cap)))
          have HB4 := Lib.hid (HB3.out.setCell (p := ⟨gg, 0, none⟩) hbs (.slice (some ⟨gz, 0, none⟩) (k + 1) cap))
          clear h3' h4' hown3 hgrow3 y0 y1 y2 d0 df0 hgl3 z0 zf0 hgl2 hbr2 hs2 hat hlt3 e0 e1 x0 g0 gf0 hgl hbr hne hxl hxl' hgl' hbr'
          generalize (w3.setCell ⟨gg, 0, none⟩ (.slice (some ⟨gz, 0, none⟩) (k + 1) cap)) = wz at *
          go_wp2
          go_roundg (gk - 1)
          case rel => exact ⟨k + 1, by go_num, by omega, by omega, HB4.out, HX3.out, HZ3.out, by rw [HTK.out]; exact HP.out.1, hgg⟩
          case measure => omega
      · obtain rfl : k = c.asg.length := by omega
        rw [List.take_length] at HS
        have x0 : wr.cell? ⟨w.heap.size, 0, none⟩ = some (.slice Aa c.asg.length ca) := HS.out.2.1.cell 0
        have hxl := HS.out.2.1.lt
        go_wp2
        clear hk hlt hgk x0 hxl
        go_loopg [5] (c.words.length + 1) (fun gk v wr => CvW 51 109 61 42 140 46 w gg #[.slice Aa c.asg.length ca, .slice Ab c.words.length cb, .slice Ai c.inn.length ci, .slice Ao c.out.length co, .bool c.app] #[.slice none 0 0, .slice none 0 0, .slice none 0 0, .slice none 0 0, .bool false] c gk v wr)
        case atStart => exact ⟨0, rfl, Nat.zero_le _, by omega, HS.out⟩
        case round =>
          obtain ⟨k, rfl, hk, hgk, hcs⟩ := hrel
          have HS := Lib.hid hcs
          clear hcs
          by_cases hlt : k < c.words.length
          · obtain ⟨b, o, u, rfl, hb0, hN, hx⟩ := HW.out k hlt
            have hlv := HL4.out c.words[k] (List.getElem_mem hlt)
            have HTK := Lib.hid (take_next c.words k hlt)
            obtain ⟨a, ha⟩ : ∃ a, c.words[k] = a := ⟨_, rfl⟩
            rw [ha] at hN hx hlv HTK
            clear ha
            obtain ⟨Au, cu, rfl, _⟩ := Rd.form hN
            have p0 := hx 0 _ rfl
            obtain ⟨hb, hX, hZ, ⟨ga, gb, gi, go, B, ra, ⟨vsa, hwa, hoa⟩, ri, ro⟩, hgg⟩ := HS.out
            simp only at B hwa hoa ra ri ro
            have hlk : (c.words.take k).length = k := by rw [List.length_take]; omega
            have HLK := Lib.hid hlk
            rw [hlk] at hoa
            obtain ⟨Ga, ca', rfl, _⟩ := own_len hoa
            have hbr : b < wr.heap.size := Nat.lt_of_lt_of_le hb0 hb.size
            have E0 := Lib.hid (show w.cell? ⟨b, o + k, none⟩ = some (.slice Au a.length cu) by simpa using p0)
            have e0 : wr.cell? ⟨b, o + k, none⟩ = some (.slice Au a.length cu) := ((bcell hb).1 b (o + k) hb0).trans E0.out
            have x0 : wr.cell? ⟨w.heap.size, 1, none⟩ = some (.slice (some ⟨b, o, none⟩) c.words.length cb) := hX.cell 1
            have g0 : wr.cell? ⟨gg, 1, none⟩ = some (.slice Ga k ca') := B.cell 1
            have gf0 := B.frozen 1
            have hgl := B.lt
            have HRD := Lib.hid (show Rd 51 wr.drew _ a.length (pcC a) from Rd.drew (Rd.next hN hb))
            have HX := Lib.hid hX
            have HZ := Lib.hid hZ
            have HB := Lib.hid B
            have HWA := Lib.hid hwa
            have HOA := Lib.hid hoa
            have HRA := Lib.hid ra
            have HRI := Lib.hid ri
            have HRO := Lib.hid ro
            have HBW := Lib.hid hb
            have hxl := hX.lt
            have hxl' : w.heap.size < wr.drew.heap.size := hX.lt
            have hgl' : gg < wr.drew.heap.size := hgl
            have hbr' : b < wr.drew.heap.size := hbr
            have hne := Lib.hid (own_blk_ne hoa B (by decide))
            have hq0 : gg ≠ w.heap.size := by omega
            have hq1 : gg ≠ b := by omega
            have i1 : (0 : Int) ≤ (k : Int) := by omega
            have i2 : (k : Int) < (c.words.length : Int) := by omega
            have hbase := hb.size
            clear hN hx p0 hX hZ B hwa hoa ra ri ro hb hlk HS
            have hq2 : gg ≠ w.heap.size + 1 := by omega
            have hbs : w.heap.size ≤ gg := by omega
            go_upto_region 9 with (fail)
            refine wp_region_noPanic ?_
            refine wp_region_last (S := (fun w' => w'.cell? ⟨w.heap.size, 1, none⟩ = some (.slice (some ⟨b, o, none⟩) c.words.length cb) ∧ w'.cell? ⟨b, o + k, none⟩ = some (.slice Au a.length cu) ∧ w'.cell? ⟨gg, 1, none⟩ = some (.slice Ga k ca'))) 11 11 rfl (by kernel_rfl) (by kernel_rfl) ?_ (fun hHeld => ?_)
            · exact ⟨x0, e0, g0⟩
            refine wpAnyH_take (i := 0) (v := ?_) rfl (by kernel_rfl) (by kernel_rfl) (by kernel_rfl) (fun _ _ _ h => h) (Or.inl ⟨by rfl, ?_⟩) hHeld ?_
            rotate_left
            · (intro w hSw; (try dsimp only at hSw); go_simp; try with_reducible rfl)
            try simp only [Act.put, List.setIfInBounds_toArray, List.set_cons_zero, List.set_cons_succ]
            refine wpAnyH_take (i := 1) (v := ?_) rfl (by kernel_rfl) (by kernel_rfl) (by kernel_rfl) (fun _ _ _ h => h) (Or.inl ⟨by rfl, ?_⟩) hHeld ?_
            rotate_left
            · (intro w hSw; (try dsimp only at hSw); go_simp; try with_reducible rfl)
            try simp only [Act.put, List.setIfInBounds_toArray, List.set_cons_zero, List.set_cons_succ]
            refine wpAnyH_take (i := 2) (v := ?_) rfl (by kernel_rfl) (by kernel_rfl) (by kernel_rfl) (fun _ _ _ h => h) (Or.inl ⟨by rfl, ?_⟩) hHeld ?_
            rotate_left
            · (intro w hSw; (try dsimp only at hSw); go_simp; try with_reducible rfl)
            try simp only [Act.put, List.setIfInBounds_toArray, List.set_cons_zero, List.set_cons_succ]
            refine wpAnyH_take (i := 3) (v := ?_) rfl (by kernel_rfl) (by kernel_rfl) (by kernel_rfl) (fun _ _ _ h => h) (Or.inl ⟨by rfl, ?_⟩) hHeld ?_
            rotate_left
            · (intro w hSw; (try dsimp only at hSw); go_simp; try with_reducible rfl)
            try simp only [Act.put, List.setIfInBounds_toArray, List.set_cons_zero, List.set_cons_succ]
            refine wpAnyH_take (i := 4) (v := ?_) rfl (by kernel_rfl) (by kernel_rfl) (by kernel_rfl) (fun _ _ _ h => h) (Or.inl ⟨by rfl, ?_⟩) hHeld ?_
            rotate_left
            · (intro w hSw; (try dsimp only at hSw); go_simp; try with_reducible rfl)
            try simp only [Act.put, List.setIfInBounds_toArray, List.set_cons_zero, List.set_cons_succ]
            refine wpAnyH_take (i := 5) (v := ?_) rfl (by kernel_rfl) (by kernel_rfl) (by kernel_rfl) (fun _ _ _ h => h) (Or.inl ⟨by rfl, ?_⟩) hHeld ?_
            rotate_left
            · (intro w hSw; (try dsimp only at hSw); go_simp; try with_reducible rfl)
            try simp only [Act.put, List.setIfInBounds_toArray, List.set_cons_zero, List.set_cons_succ]
            refine wpAnyH_take (i := 6) (v := ?_) rfl (by kernel_rfl) (by kernel_rfl) (by kernel_rfl) (fun _ _ _ h => h) (Or.inl ⟨by rfl, ?_⟩) hHeld ?_
            rotate_left
            · (intro w hSw; (try dsimp only at hSw); go_simp; try with_reducible rfl)
            try simp only [Act.put, List.setIfInBounds_toArray, List.set_cons_zero, List.set_cons_succ]
            refine wpAnyH_ready (rs := [7]) (by kernel_rfl) (by simp) ?_
            refine AllReadyH.cons rfl (fun K hK => ?_) AllReadyH.nil
            go_simp
            go_at_call 32; (with_reducible refine (toWord_any wr.drew _ a HRD.out hlv).mono ?_); rintro e w2 ⟨v2, rfl, ho2, hb2⟩; have HB2 := Lib.hid hb2; obtain ⟨Av, cv, rfl, _⟩ := own_len ho2; have HVV := Lib.hid (Rd.of_own ho2); have B2 := Lib.hid (HB.out.drew.next hb2 hgl'); have X2 := Lib.hid (HX.out.drew.next hb2 hxl'); have z0 : w2.cell? ⟨gg, 1, none⟩ = some (.slice Ga k ca') := B2.out.cell 1; have zf0 := B2.out.frozen 1; have hgl2 : gg < w2.heap.size := B2.out.lt; have HBW2 := Lib.hid (HBW.out.drew.trans (hb2.mono HBW.out.size)); have hs2 : w.heap.size ≤ w2.heap.size := HBW2.out.size; have y0 := X2.out.cell 1; simp only [List.getElem?_toArray, List.getElem?_cons_zero, List.getElem?_cons_succ] at y0; have y1 := ((bcell hb2).1 b (o + k) hbr').trans e0; have hbr2 : b < w2.heap.size := Nat.lt_of_lt_of_le hbr' hb2.size; clear ho2 hb2
            try (go_wp2_with fail)
            refine hK.out _ _ ?_ (fun hNew => ?_)
            · exact ⟨y0, y1, z0⟩
            clear hK K hHeld
            have hHeld := hNew
            clear hNew
            try simp only [Act.put, List.setIfInBounds_toArray, List.set_cons_zero, List.set_cons_succ]
            refine wpAnyH_ready (rs := [8]) (by kernel_rfl) (by simp) ?_
            refine AllReadyH.cons rfl (fun K hK => ?_) AllReadyH.nil
            go_simp
            refine hK.out _ _ ?_ (fun hNew => ?_)
            · go_keep
            clear hK K hHeld
            have hHeld := hNew
            clear hNew
            try simp only [Act.put, List.setIfInBounds_toArray, List.set_cons_zero, List.set_cons_succ]
            refine wpAnyH_ready (rs := [9]) (by kernel_rfl) (by simp) ?_
            refine AllReadyH.cons rfl (fun K hK => ?_) AllReadyH.nil
            refine step_append_lies _ (by rfl) _ _ _ (by rfl) w.heap.size 42 jw _ 1 24 Try.underlying44 hjw hjw0 hjw1 hjw2 rfl (by omega) (.slice Ga k ca') k (rowC wdV (c.words.take k) vsa) (by rfl) ((own_next HOA.out.drew HB2.out).alloc _) ⟨w2.heap.size, 0, none⟩ 1 1 [.slice Av a.length cv] (by rfl) (by rfl) (World.news_of_block (cs := #[.slice Av a.length cv]) (t := 42) (fr := (0, 0)) (heap_alloc_new w2 _)) (by simp [Value.oneCell']) (by omega) (by unfold maxLen; omega) (by omega) (by simp; omega) (w2.heap.size + 1) (by simp) ?_; intro gz cap w3 hown3 hgrow3 hat hlt3; have B3 := Lib.hid (Blk.grown (Blk.alloc B2.out _) hgrow3 (Ne.symm hne.out)); have d0 : w3.cell? ⟨gg, 1, none⟩ = some (.slice Ga k ca') := B3.out.cell 1; have df0 := B3.out.frozen 1; have hgl3 : gg < w3.heap.size := B3.out.lt; have HB3 := Lib.hid (below_own (B := w.heap.size) (HBW2.out.alloc hs2 _) ((own_next HOA.out.drew HB2.out).alloc _) hgrow3 (Nat.le_refl _) (by simp; omega)); have y0 := ((X2.out.alloc _).grown hgrow3 (Ne.symm (own_blk_ne HOA.out.drew HX.out.drew (by decide)))).cell 1; simp only [List.getElem?_toArray, List.getElem?_cons_zero, List.getElem?_cons_succ] at y0; have y1 := ((bcell HB3.out).1 b (o + k) hb0).trans E0.out
            refine hK.out _ _ ?_ (fun hNew => ?_)
            · exact ⟨y0, y1, d0⟩
            clear hK K hHeld
            have hHeld := hNew
            clear hNew
            try simp only [Act.put, List.setIfInBounds_toArray, List.set_cons_zero, List.set_cons_succ]
            refine wpAnyH_take (i := 10) (v := ?_) rfl (by kernel_rfl) (by kernel_rfl) (by kernel_rfl) (fun _ _ _ h => h) (Or.inl ⟨by rfl, ?_⟩) hHeld ?_
            rotate_left
            · (intro w hSw; (try dsimp only at hSw); go_simp; try with_reducible rfl)
            try simp only [Act.put, List.setIfInBounds_toArray, List.set_cons_zero, List.set_cons_succ]
            refine wpAnyH_done (by kernel_rfl) ?_ _
            refine lastQ_step rfl (fun K hK => ?_)
            clear hHeld
            go_simp
            refine hK _ _ ?_
            clear hK K
            refine NoPanic.normal ?_
            all_goals
              have HN2 := Lib.hid ((Below.refl w2.heap.size w2).alloc (Nat.le_refl _) (.cells #[.slice Av a.length cv] 42))
              have h3' : w2.ownsRow w.heap.size 42 1 (.slice Ga k ca') (c.words.take k).length (rowC wdV (c.words.take k) vsa) := by rw [HLK.out]; exact own_next HOA.out.drew HB2.out
              have h4' : w3.ownsRow w.heap.size 42 1 (.slice (some ⟨gz, 0, none⟩) (k + 1) cap) ((c.words.take k).length + 1) (rowC wdV (c.words.take k) vsa ++ [.slice Av a.length cv]) := by rw [HLK.out]; exact hown3
              have HP := Lib.hid (SmB.pushW (c := ⟨c.asg, c.words.take k, c.inn, c.out, c.app⟩) (val := a) (by decide) (by decide) (by decide) (by decide) (by decide) B2.out (HWA.out.imp (fun _ _ h => NWp.next (w := wr.drew) h HB2.out)) h3' (RowOwn.next (w := wr.drew) HRA.out HB2.out (fun _ _ h => NAp.next (w := wr.drew) h HB2.out)) (NWp.next (w := wr.drew) HRI.out HB2.out) (NWp.next (w := wr.drew) HRO.out HB2.out) HN2.out hgrow3 h4' (Rd.next HVV.out HN2.out))
              have HX3 := Lib.hid ((((X2.out.alloc (.cells #[.slice Av a.length cv] 42)).grown hgrow3 (Ne.symm (own_blk_ne HOA.out.drew HX.out.drew (by decide)))).far (p := ⟨gg, 1, none⟩) (Ne.symm hq0) (.slice (some ⟨gz, 0, none⟩) (k + 1) cap)))
              have HZ3 := Lib.hid (((((HZ.out.drew.next HB2.out HZ.out.lt).alloc (.cells #[.slice Av a.length cv] 42)).grown hgrow3 (Ne.symm (own_blk_ne HOA.out.drew HZ.out.drew (by decide)))).far (p := ⟨gg, 1, none⟩) (Ne.symm hq2) (.slice (some ⟨gz, 0, none⟩) (k + 1) cap)))
              have HB4 := Lib.hid (HB3.out.setCell (p := ⟨gg, 1, none⟩) hbs (.slice (some ⟨gz, 0, none⟩) (k + 1) cap))
              clear h3' h4' hown3 hgrow3 y0 y1 d0 df0 hgl3 z0 zf0 hgl2 hbr2 hs2 hat hlt3 e0 x0 g0 gf0 hgl hbr hne hxl hxl' hgl' hbr'
              generalize (w3.setCell ⟨gg, 1, none⟩ (.slice (some ⟨gz, 0, none⟩) (k + 1) cap)) = wz at *
              go_wp2
              go_roundg (gk - 1)
              case rel => exact ⟨k + 1, by go_num, by omega, by omega, HB4.out, HX3.out, HZ3.out, by rw [HTK.out]; exact HP.out.1, hgg⟩
              case measure => omega
          · obtain rfl : k = c.words.length := by omega
            rw [List.take_length] at HS
            obtain ⟨hb, hX, hZ, hS, hgg⟩ := HS.out
            have x1 : wr.cell? ⟨w.heap.size, 1, none⟩ = some (.slice Ab c.words.length cb) := hX.cell 1
            have hxl := hX.lt
            obtain ⟨⟨ga, gb, gi, go⟩, B, hN⟩ := hS.cells
            have HN := Lib.hid hN
            obtain ⟨na, nb, ni, no⟩ := hN
            obtain ⟨Ba, ba, hga, _⟩ := na.form
            obtain ⟨Bb, bb, hgb, _⟩ := nb.form
            obtain ⟨Bi, bi, hgi, _⟩ := Rd.form ni
            obtain ⟨Bo, bo, hgo, _⟩ := Rd.form no
            simp only at hga hgb hgi hgo
            subst hga hgb hgi hgo
            have HZ := Lib.hid hZ
            have HBW := Lib.hid hb
            have hl := B.lt
            have b0 := B.cell 0
            have b1 := B.cell 1
            have b2 := B.cell 2
            have b3 := B.cell 3
            have b4 := B.cell 4
            have r0 := hZ.cell 0
            have r1 := hZ.cell 1
            have r2 := hZ.cell 2
            have r3 := hZ.cell 3
            have r4 := hZ.cell 4
            simp only [smV, List.getElem?_toArray, List.getElem?_cons_zero, List.getElem?_cons_succ] at b0 b1 b2 b3 b4 r0 r1 r2 r3 r4
            have rf0 := hZ.frozen 0
            have rf1 := hZ.frozen 1
            have rf2 := hZ.frozen 2
            have rf3 := hZ.frozen 3
            have rf4 := hZ.frozen 4
            have hrb := hZ.lt
            have K := Lib.hid (Kept.of_blk [46] hZ (set5 hZ (.slice Ba c.asg.length ba) (.slice Bb c.words.length bb) (.slice Bi c.inn.length bi) (.slice Bo c.out.length bo) (.bool c.app)).2 rfl)
            have HG := Lib.hid (below_of_grown' hb (set5 hZ (.slice Ba c.asg.length ba) (.slice Bb c.words.length bb) (.slice Bi c.inn.length bi) (.slice Bo c.out.length bo) (.bool c.app)).2 (by omega))
            clear na nb ni no hX hZ hS B hb HS
            go_wp2
            refine bodyPost_ret (v := .agg #[.slice Ba c.asg.length ba, .slice Bb c.words.length bb, .slice Bi c.inn.length bi, .slice Bo c.out.length bo, .bool c.app]) (by simp [results, Try.results58, go_sem, hrb, r0, r1, r2, r3, r4]) rfl ?_
            exact ⟨_, _, _, _, rfl, HN.out.keep K.out rfl rfl rfl, HG.out⟩
end Go.Proofs.Ytiddchpkmcncdaa
/- Walks of layer 41: check of a simple command. -/
namespace Go.Proofs.Ytiddchpkmcncdaa
open Go.RowKit
set_option linter.unusedSimpArgs false
set_option linter.unusedVariables false
def WdLim (ps : Wd) : Prop := ps.length ≤ 100000 ∧ ∀ p ∈ ps, p.text.length ≤ 100000
def SmBig (c : Sm) : Prop := c.asg.length ≤ 100000 ∧ c.words.length ≤ 100000 ∧ (∀ a ∈ c.asg, a.name.length ≤ 100000 ∧ WdLim a.value) ∧ (∀ x ∈ c.words, WdLim x) ∧ WdLim c.inn ∧ WdLim c.out
theorem schk_1 {c : Sm} (h : smNone c = true) : schk c = 1 := by unfold schk; rw [if_pos h]
theorem schk_2 {c : Sm} (h : ¬ smNone c = true) (h2 : 32 < c.asg.length ∨ 32 < c.words.length) : schk c = 9 := by unfold schk; rw [if_neg h, if_pos h2]
theorem schk_3 {c : Sm} {e : Int} (h : ¬ smNone c = true) (h2 : ¬ (32 < c.asg.length ∨ 32 < c.words.length)) (h3 : frst (c.asg.map achk) = e) (he : e ≠ 0) : schk c = e := by unfold schk; rw [if_neg h, if_neg h2, h3, if_pos he]
theorem schk_4 {c : Sm} {e : Int} (h : ¬ smNone c = true) (h2 : ¬ (32 < c.asg.length ∨ 32 < c.words.length)) (h3 : frst (c.asg.map achk) = 0) (h4 : frst (c.words.map wchk) = e) (he : e ≠ 0) : schk c = e := by unfold schk; rw [if_neg h, if_neg h2, h3, h4]; simp [he]
theorem schk_5 {c : Sm} {e : Int} (h : ¬ smNone c = true) (h2 : ¬ (32 < c.asg.length ∨ 32 < c.words.length)) (h3 : frst (c.asg.map achk) = 0) (h4 : frst (c.words.map wchk) = 0) (h5 : ochk c.inn = e) (he : e ≠ 0) : schk c = e := by unfold schk; rw [if_neg h, if_neg h2, h3, h4, h5]; simp [he]
theorem schk_6 {c : Sm} {e : Int} (h : ¬ smNone c = true) (h2 : ¬ (32 < c.asg.length ∨ 32 < c.words.length)) (h3 : frst (c.asg.map achk) = 0) (h4 : frst (c.words.map wchk) = 0) (h5 : ochk c.inn = 0) (h6 : ochk c.out = e) (he : e ≠ 0) : schk c = e := by unfold schk; rw [if_neg h, if_neg h2, h3, h4, h5, h6]; simp [he]
theorem schk_7 {c : Sm} (h : ¬ smNone c = true) (h2 : ¬ (32 < c.asg.length ∨ 32 < c.words.length)) (h3 : frst (c.asg.map achk) = 0) (h4 : frst (c.words.map wchk) = 0) (h5 : ochk c.inn = 0) (h6 : ochk c.out = 0) : schk c = if c.app && c.out.isEmpty then 10 else 0 := by unfold schk; rw [if_neg h, if_neg h2, h3, h4, h5, h6]; simp
def ScA (w : World) (cs : Array Value) (c : Sm) (gk : Nat) (v : Value) (wr : World) : Prop :=
  ∃ k, v = .int .i64 ((k : Nat) : Int) ∧ k ≤ c.asg.length ∧ gk + k = c.asg.length + 1 ∧ Below w.heap.size w wr ∧ Blk wr w.heap.size 46 cs ∧ frst (c.asg.map achk) = frst ((c.asg.drop k).map achk)
def ScW (w : World) (cs : Array Value) (c : Sm) (gk : Nat) (v : Value) (wr : World) : Prop :=
  ∃ k, v = .int .i64 ((k : Nat) : Int) ∧ k ≤ c.words.length ∧ gk + k = c.words.length + 1 ∧ Below w.heap.size w wr ∧ Blk wr w.heap.size 46 cs ∧ frst (c.words.map wchk) = frst ((c.words.drop k).map wchk)
def io (c : Sm) (k : Nat) : Wd := if k = 0 then c.inn else c.out
def ScO (w : World) (g : Nat) (cs rs : Array Value) (c : Sm) (gk : Nat) (v : Value) (wr : World) : Prop :=
  ∃ k, v = .int .i64 ((k : Nat) : Int) ∧ k ≤ 2 ∧ gk + k = 3 ∧ Below w.heap.size w wr ∧ Blk wr w.heap.size 46 cs ∧ Blk wr g 42 rs ∧ w.heap.size ≤ g ∧ ∀ j, j < k → ochk (io c j) = 0
theorem ochk_of {x : Wd} (h : x.length ≠ 0) : ochk x = wchk x := by unfold ochk; rw [if_neg (by cases x with | nil => simp at h | cons a l => simp)]
theorem ochk_nil {x : Wd} (h : x.length = 0) : ochk x = 0 := by obtain rfl := List.length_eq_zero_iff.1 h; rfl
theorem wcheck_is (w : World) (v : Value) (ps : Wd) (e0 : Int) (h : NWp 61 w v ps) (hl : WdLim ps) (he : wchk ps = e0) :
    Calls Try.prog 92 #[v] w fun e w' => e = .returned (.int .i64 e0) ∧ Below w.heap.size w w' := by
  subst he; exact wcheck_any w v ps h hl.1 hl.2
theorem schk_io {c : Sm} {e : Int} {k : Nat} (h : ¬ smNone c = true) (h2 : ¬ (32 < c.asg.length ∨ 32 < c.words.length)) (h3 : frst (c.asg.map achk) = 0) (h4 : frst (c.words.map wchk) = 0) (hk : k < 2) (hp : ∀ j, j < k → ochk (io c j) = 0) (h6 : ochk (io c k) = e) (he : e ≠ 0) : schk c = e := by
  rcases Nat.eq_zero_or_pos k with h0 | h0
  · subst h0
    exact schk_5 h h2 h3 h4 h6 he
  · obtain rfl : k = 1 := by omega
    exact schk_6 h h2 h3 h4 (hp 0 (by omega)) h6 he
set_option maxRecDepth 100000 in
set_option maxHeartbeats 8000000 in
theorem scheck_any (w : World) (va vb vi vo : Value) (c : Sm) (h : NSp 61 42 140 w ⟨va, vb, vi, vo⟩ c) (hlim : SmBig c) :
    Calls Try.prog 67 #[.agg #[va, vb, vi, vo, .bool c.app]] w fun e w' => e = .returned (.int .i64 (schk c)) ∧ Below w.heap.size w w' := by
  obtain ⟨hA, hW, hI, hO⟩ := h
  obtain ⟨l1, l2, l3, l4, l5, l6⟩ := hlim
  obtain ⟨Aa, ca, hva, xa, hA2⟩ := hA.all asgV_len
  obtain ⟨Ab, cb, hvb, xb, hW2⟩ := hW.all wdV_len
  obtain ⟨Ai, ci, hvi, _⟩ := Rd.form hI
  obtain ⟨Ao, co, hvo, _⟩ := Rd.form hO
  simp only at hva hvb hvi hvo hI hO
  subst hva hvb hvi hvo
  have HA := Lib.hid hA2
  have HW := Lib.hid hW2
  have HI := Lib.hid hI
  have HO := Lib.hid hO
  have HL3 := Lib.hid l3
  have HL4 := Lib.hid l4
  have HL5 := Lib.hid l5
  have HL6 := Lib.hid l6
  clear hA hW hI hO l3 l4 hA2 hW2 l5 l6
  by_cases hnone : smNone c = true
  · have hh : c.asg.length = 0 ∧ c.words.length = 0 := by
      unfold smNone at hnone
      cases h1 : c.asg <;> cases h2 : c.words <;> simp_all
    have m1 : ((c.asg.length : Int) == 0) = true := beq_iff_eq.2 (by omega)
    have m2 : ((c.words.length : Int) == 0) = true := beq_iff_eq.2 (by omega)
    have HS := Lib.hid (schk_1 hnone)
    clear hnone hh
    go_enter Try.func67, Try.ntmps67
    go_wp2
    go_ret
    exact ⟨ret_int HS.out.symm, (Below.refl _ _).alloc (Nat.le_refl _) _⟩
  have HN := Lib.hid hnone
  have hn : c.asg.length ≠ 0 ∨ c.words.length ≠ 0 := by
    unfold smNone at hnone
    cases h1 : c.asg <;> cases h2 : c.words <;> simp_all
  clear hnone
  go_enter Try.func67, Try.ntmps67
  have HX0 := Lib.hid (Blk.new w 46 #[.slice Aa c.asg.length ca, .slice Ab c.words.length cb, .slice Ai c.inn.length ci, .slice Ao c.out.length co, .bool c.app])
  have HB0 := Lib.hid ((Below.refl w.heap.size w).alloc (Nat.le_refl _) (.cells #[.slice Aa c.asg.length ca, .slice Ab c.words.length cb, .slice Ai c.inn.length ci, .slice Ao c.out.length co, .bool c.app] 46))
  go_upto_region 1 with (fail)
  generalize (w.alloc (.cells #[.slice Aa c.asg.length ca, .slice Ab c.words.length cb, .slice Ai c.inn.length ci, .slice Ao c.out.length co, .bool c.app] 46)) = wa at *
  have x0 := HX0.out.cell 0
  have x1 := HX0.out.cell 1
  simp only [List.getElem?_toArray, List.getElem?_cons_zero, List.getElem?_cons_succ] at x0 x1
  have hxl := HX0.out.lt
  by_cases h32 : 32 < c.asg.length ∨ 32 < c.words.length
  · have HS := Lib.hid (schk_2 HN.out h32)
    rcases Nat.lt_or_ge 32 c.asg.length with h1 | h1
    · have m1 : ((c.asg.length : Int) == 0) = false := beq_false_of_ne (by omega)
      have m2 : decide ((32 : Int) < (c.asg.length : Int)) = true := by simp; omega
      clear h32 hn
      go_wp2
      go_ret
      exact ⟨ret_int HS.out.symm, HB0.out⟩
    · have h2 : 32 < c.words.length := by omega
      have m2 : decide ((32 : Int) < (c.asg.length : Int)) = false := by simp; omega
      have m3 : ¬ 32 < c.asg.length := by omega
      have m4 : decide ((32 : Int) < (c.words.length : Int)) = true := by simp; omega
      have m5 : ((c.words.length : Int) == 0) = false := beq_false_of_ne (by omega)
      clear h32 hn
      rcases Nat.eq_zero_or_pos c.asg.length with h3 | h3
      · have m1 : ((c.asg.length : Int) == 0) = true := beq_iff_eq.2 (by omega)
        have H3 := Lib.hid h3
        clear h3
        go_wp2
        go_ret
        exact ⟨ret_int HS.out.symm, HB0.out⟩
      · have m1 : ((c.asg.length : Int) == 0) = false := beq_false_of_ne (by omega)
        go_wp2
        go_ret
        exact ⟨ret_int HS.out.symm, HB0.out⟩
  have H32 := Lib.hid h32
  have k1 : ¬ 32 < c.asg.length := fun h => h32 (.inl h)
  have k2 : ¬ 32 < c.words.length := fun h => h32 (.inr h)
  have k3 : decide ((32 : Int) < (c.asg.length : Int)) = false := by simp; omega
  have k4 : decide ((32 : Int) < (c.words.length : Int)) = false := by simp; omega
  clear h32
  have hcs : ((c.asg.length : Int) == 0) = false ∨ (((c.asg.length : Int) == 0) = true ∧ ((c.words.length : Int) == 0) = false) := by
    rcases Nat.eq_zero_or_pos c.asg.length with h3 | h3
    · exact .inr ⟨beq_iff_eq.2 (by omega), beq_false_of_ne (by omega)⟩
    · exact .inl (beq_false_of_ne (by omega))
  clear hn
  rcases hcs with m1 | ⟨m1, m5⟩
  all_goals
    go_wp2
    try clear m5
    clear m1 k1 k2 k3 k4
    go_loopg [35] (c.asg.length + 1) (fun gk v wr => ScA w #[.slice Aa c.asg.length ca, .slice Ab c.words.length cb, .slice Ai c.inn.length ci, .slice Ao c.out.length co, .bool c.app] c gk v wr)
    case atStart => exact ⟨0, rfl, Nat.zero_le _, by omega, HB0.out, HX0.out, rfl⟩
    case round =>
      obtain ⟨k, rfl, hk, hgk, hb, hX, hr⟩ := hrel
      have HX := Lib.hid hX
      have HB := Lib.hid hb
      have HR := Lib.hid hr
      clear hX hr x0 x1 hxl HX0 HB0
      by_cases hlt : k < c.asg.length
      · obtain ⟨b, o, u, rfl, hb0, hN, hx⟩ := HA.out k hlt
        have hlv := HL3.out c.asg[k] (List.getElem_mem hlt)
        have HD := Lib.hid (HR.out.trans (frst_drop achk c.asg k hlt))
        obtain ⟨a, ha⟩ : ∃ a, c.asg[k] = a := ⟨_, rfl⟩
        rw [ha] at hN hx hlv HD
        clear ha HR
        obtain ⟨Au, cu, rfl, _⟩ := Rd.form hN
        have p0 := hx 0 _ rfl
        have p1 := hx 1 _ rfl
        have hbr : b < wr.heap.size := Nat.lt_of_lt_of_le hb0 hb.size
        have e0 : wr.cell? ⟨b, o + k * 2, none⟩ = some (.string (bs a.name)) := ((bcell hb).1 b (o + k * 2) hb0).trans (by simpa using p0)
        have e1 : wr.cell? ⟨b, o + k * 2 + 1, none⟩ = some (.slice Au a.value.length cu) := ((bcell hb).1 b (o + k * 2 + 1) hb0).trans (by rw [Nat.add_assoc]; exact p1)
        have i1 : (0 : Int) ≤ (k : Int) := by omega
        have i2 : (k : Int) < (c.asg.length : Int) := by omega
        have hz : (bs a.name).size ≤ 100000 := by rw [bs_size]; exact hlv.1
        have HLV := Lib.hid hlv.2
        have HNV := Lib.hid (NWp.next (NWp.next hN hb) ((Below.refl _ _).alloc (Nat.le_refl _) (.cells #[.string (bs a.name), .slice Au a.value.length cu] 140)))
        have HB2 := Lib.hid (hb.alloc hb.size (.cells #[.string (bs a.name), .slice Au a.value.length cu] 140))
        have HX2 := Lib.hid (HX.out.alloc (.cells #[.string (bs a.name), .slice Au a.value.length cu] 140))
        have HT := Lib.hid (Blk.new wr 140 #[.string (bs a.name), .slice Au a.value.length cu])
        go_upto_region 8 with (fail)
        clear hx p0 p1 hb hlv hN e0 e1 hbr i1 i2 HX HB
        generalize (wr.alloc (.cells #[.string (bs a.name), .slice Au a.value.length cu] 140)) = wb at *
        generalize wr.heap.size = tb at *
        have t0 := HT.out.cell 0
        have t1 := HT.out.cell 1
        simp only [List.getElem?_toArray, List.getElem?_cons_zero, List.getElem?_cons_succ] at t0 t1
        cases hn : isVarS a.name with
        | false =>
          have HN2 := Lib.hid hn
          have h12 : achk a = 12 := by unfold achk; rw [hn]; rfl
          have HS := Lib.hid (schk_3 (e := 12) HN.out H32.out (by rw [HD.out, h12]; rfl) (by decide))
          clear h12
          clear hn
          go_wp2_with (go_at_call 18; refine (IsVariable_is a.name _ false HN2.out hz).mono ?_; rintro e w' ⟨rfl, rfl⟩)
          go_ret
          exact ⟨ret_int HS.out.symm, HB2.out⟩
        | true =>
          have HN2 := Lib.hid hn
          have HD2 := Lib.hid (show frst (c.asg.map achk) = if wchk a.value = 0 then frst ((c.asg.drop (k + 1)).map achk) else wchk a.value by rw [HD.out]; unfold achk; rw [hn, if_pos rfl])
          clear hn HD
          obtain ⟨ev, hev⟩ : ∃ ev, wchk a.value = ev := ⟨_, rfl⟩
          have HEV := Lib.hid hev
          rw [hev] at HD2
          clear hev
          by_cases hz0 : ev = 0
          · subst hz0
            rw [if_pos rfl] at HD2
            go_wp2_with (first | (go_at_call 18; refine (IsVariable_is a.name _ true HN2.out hz).mono ?_; rintro e w' ⟨rfl, rfl⟩) | (go_at_call 92; refine (wcheck_is _ _ a.value 0 HNV.out HLV.out HEV.out).mono ?_; rintro e w5 ⟨rfl, hb5⟩; have HB5 := Lib.hid (HB2.out.trans (hb5.mono HB2.out.size)); have HX5 := Lib.hid (HX2.out.next hb5 HX2.out.lt); clear hb5))
            go_roundg (gk - 1)
            case rel => exact ⟨k + 1, by go_num, by omega, by omega, HB5.out, HX5.out, HD2.out⟩
            case measure => omega
          · rw [if_neg hz0] at HD2
            have HS := Lib.hid (schk_3 HN.out H32.out HD2.out hz0)
            have n1 : (ev == 0) = false := beq_false_of_ne hz0
            have n2 : (ev != 0) = true := by simpa using hz0
            clear hz0
            go_wp2_with (first | (go_at_call 18; refine (IsVariable_is a.name _ true HN2.out hz).mono ?_; rintro e w' ⟨rfl, rfl⟩) | (go_at_call 92; refine (wcheck_is _ _ a.value ev HNV.out HLV.out HEV.out).mono ?_; rintro e w5 ⟨rfl, hb5⟩; have HB5 := Lib.hid (HB2.out.trans (hb5.mono HB2.out.size)); clear hb5))
            go_ret
            exact ⟨ret_int HS.out.symm, HB5.out⟩
      · obtain rfl : k = c.asg.length := by omega
        have HZA := Lib.hid (show frst (c.asg.map achk) = 0 by rw [HR.out, List.drop_length]; rfl)
        have x1 : wr.cell? ⟨w.heap.size, 1, none⟩ = some (.slice Ab c.words.length cb) := HX.out.cell 1
        have hxl := HX.out.lt
        clear hb HR
        go_wp2
        clear hk hlt hgk x1 hxl
        go_loopg [53] (c.words.length + 1) (fun gk v wr => ScW w #[.slice Aa c.asg.length ca, .slice Ab c.words.length cb, .slice Ai c.inn.length ci, .slice Ao c.out.length co, .bool c.app] c gk v wr)
        case atStart => exact ⟨0, rfl, Nat.zero_le _, by omega, HB.out, HX.out, rfl⟩
        case round =>
          obtain ⟨k, rfl, hk, hgk, hb, hX, hr⟩ := hrel
          have HX := Lib.hid hX
          have HB := Lib.hid hb
          have HR := Lib.hid hr
          clear hX hr
          by_cases hlt : k < c.words.length
          · obtain ⟨b, o, u, rfl, hb0, hN, hx⟩ := HW.out k hlt
            have hlv := HL4.out c.words[k] (List.getElem_mem hlt)
            have HD := Lib.hid (HR.out.trans (frst_drop wchk c.words k hlt))
            obtain ⟨a, ha⟩ : ∃ a, c.words[k] = a := ⟨_, rfl⟩
            rw [ha] at hN hx hlv HD
            clear ha HR
            obtain ⟨Au, cu, rfl, _⟩ := Rd.form hN
            have p0 := hx 0 _ rfl
            have e0 : wr.cell? ⟨b, o + k, none⟩ = some (.slice Au a.length cu) := ((bcell hb).1 b (o + k) hb0).trans (by simpa using p0)
            have i1 : (0 : Int) ≤ (k : Int) := by omega
            have i2 : (k : Int) < (c.words.length : Int) := by omega
            have HLV := Lib.hid hlv
            have HNV := Lib.hid (NWp.next hN hb)
            clear hx p0 hlv hN hb
            obtain ⟨ev, hev⟩ : ∃ ev, wchk a = ev := ⟨_, rfl⟩
            have HEV := Lib.hid hev
            rw [hev] at HD
            clear hev
            by_cases hz0 : ev = 0
            · subst hz0
              rw [if_pos rfl] at HD
              go_wp2_with (go_at_call 92; refine (wcheck_is _ _ a 0 HNV.out HLV.out HEV.out).mono ?_; rintro e w5 ⟨rfl, hb5⟩; have HB5 := Lib.hid (HB.out.trans (hb5.mono HB.out.size)); have HX5 := Lib.hid (HX.out.next hb5 HX.out.lt); clear hb5)
              go_roundg (gk - 1)
              case rel => exact ⟨k + 1, by go_num, by omega, by omega, HB5.out, HX5.out, HD.out⟩
              case measure => omega
            · rw [if_neg hz0] at HD
              have HS := Lib.hid (schk_4 HN.out H32.out HZA.out HD.out hz0)
              have n1 : (ev == 0) = false := beq_false_of_ne hz0
              have n2 : (ev != 0) = true := by simpa using hz0
              clear hz0
              go_wp2_with (go_at_call 92; refine (wcheck_is _ _ a ev HNV.out HLV.out HEV.out).mono ?_; rintro e w5 ⟨rfl, hb5⟩; have HB5 := Lib.hid (HB.out.trans (hb5.mono HB.out.size)); clear hb5)
              go_ret
              exact ⟨ret_int HS.out.symm, HB5.out⟩
          · obtain rfl : k = c.words.length := by omega
            have HZW := Lib.hid (show frst (c.words.map wchk) = 0 by rw [HR.out, List.drop_length]; rfl)
            have x2 : wr.cell? ⟨w.heap.size, 2, none⟩ = some (.slice Ai c.inn.length ci) := HX.out.cell 2
            have x3 : wr.cell? ⟨w.heap.size, 3, none⟩ = some (.slice Ao c.out.length co) := HX.out.cell 3
            have hxl := HX.out.lt
            have HB2 := Lib.hid (hb.alloc hb.size (.cells #[.slice Ai c.inn.length ci, .slice Ao c.out.length co] 42))
            have HX2 := Lib.hid (HX.out.alloc (.cells #[.slice Ai c.inn.length ci, .slice Ao c.out.length co] 42))
            have HT := Lib.hid (Blk.new wr 42 #[.slice Ai c.inn.length ci, .slice Ao c.out.length co])
            have HGE := Lib.hid hb.size
            clear hb HR
            have HIOC := Lib.hid (show ∀ k, k < 2 → ∃ Ak ck, (wr.alloc (.cells #[.slice Ai c.inn.length ci, .slice Ao c.out.length co] 42)).cell? ⟨wr.heap.size, k, none⟩ = some (.slice Ak (io c k).length ck) ∧ NWp 61 w (.slice Ak (io c k).length ck) (io c k) ∧ WdLim (io c k) from by
              intro k hk
              rcases Nat.eq_zero_or_pos k with h0 | h0
              · subst h0
                exact ⟨Ai, ci, HT.out.cell 0, HI.out, HL5.out⟩
              · obtain rfl : k = 1 := by omega
                exact ⟨Ao, co, HT.out.cell 1, HO.out, HL6.out⟩)
            go_wp2
            clear x2 x3 hxl hk hlt hgk
            generalize (wr.alloc (.cells #[.slice Ai c.inn.length ci, .slice Ao c.out.length co] 42)) = wb at *
            generalize wr.heap.size = tb at *
            go_loopg [69] 3 (fun gk v wr => ScO w tb #[.slice Aa c.asg.length ca, .slice Ab c.words.length cb, .slice Ai c.inn.length ci, .slice Ao c.out.length co, .bool c.app] #[.slice Ai c.inn.length ci, .slice Ao c.out.length co] c gk v wr)
            case atStart => exact ⟨0, rfl, by omega, by omega, HB2.out, HX2.out, HT.out, HGE.out, fun j hj => absurd hj (by omega)⟩
            case round =>
              obtain ⟨k, rfl, hk, hgk, hb, hX, hT, hge, hpr⟩ := hrel
              have HX := Lib.hid hX
              have HB := Lib.hid hb
              have HT3 := Lib.hid hT
              have HP := Lib.hid hpr
              clear hX hT hpr
              by_cases hlt : k < 2
              · obtain ⟨Ak, ck, hck, hN, hlv⟩ := HIOC.out k hlt
                have e0 : wr.cell? ⟨tb, k, none⟩ = some (.slice Ak (io c k).length ck) := by rw [HT3.out.cell k, ← HT.out.cell k]; exact hck
                have HNV := Lib.hid (NWp.next hN hb)
                have HLV := Lib.hid hlv
                have HIO := Lib.hid (fun (ev : Int) (h1 : ochk (io c k) = ev) (h2 : ev ≠ 0) => schk_io HN.out H32.out HZA.out HZW.out hlt HP.out h1 h2)
                have HPN := Lib.hid (fun (h1 : ochk (io c k) = 0) => (fun j (hj : j < k + 1) => by
                  rcases Nat.lt_or_ge j k with h | h
                  · exact HP.out j h
                  · obtain rfl : j = k := by omega
                    exact h1 : ∀ j, j < k + 1 → ochk (io c j) = 0))
                obtain ⟨x, hx⟩ : ∃ x, io c k = x := ⟨_, rfl⟩
                rw [hx] at e0 HNV HLV HIO HPN
                have i1 : (0 : Int) ≤ (k : Int) := by omega
                have i2 : (k : Int) < 2 := by omega
                clear hck hN hlv hx hb
                rcases Nat.eq_zero_or_pos x.length with h0 | h0
                · have n0 : ((x.length : Int) == 0) = true := beq_iff_eq.2 (by omega)
                  have HQ := Lib.hid (HPN.out (ochk_nil h0))
                  have H0 := Lib.hid h0
                  clear h0
                  go_wp2
                  go_roundg (gk - 1)
                  case rel => exact ⟨k + 1, by go_num, by omega, by omega, HB.out, HX.out, HT3.out, hge, HQ.out⟩
                  case measure => omega
                · have n0 : ((x.length : Int) == 0) = false := beq_false_of_ne (by omega)
                  have hoc := ochk_of (x := x) (by omega)
                  obtain ⟨ev, hev⟩ : ∃ ev, wchk x = ev := ⟨_, rfl⟩
                  have HEV := Lib.hid hev
                  rw [hev] at hoc
                  have HOC := Lib.hid hoc
                  clear hev hoc
                  by_cases hz0 : ev = 0
                  · subst hz0
                    have HQ := Lib.hid (HPN.out HOC.out)
                    go_wp2_with (go_at_call 92; refine (wcheck_is _ _ x 0 HNV.out HLV.out HEV.out).mono ?_; rintro e w5 ⟨rfl, hb5⟩; have HB5 := Lib.hid (HB.out.trans (hb5.mono HB.out.size)); have HX5 := Lib.hid (HX.out.next hb5 HX.out.lt); have HT5 := Lib.hid (HT3.out.next hb5 HT3.out.lt); clear hb5)
                    go_roundg (gk - 1)
                    case rel => exact ⟨k + 1, by go_num, by omega, by omega, HB5.out, HX5.out, HT5.out, hge, HQ.out⟩
                    case measure => omega
                  · have HS := Lib.hid (HIO.out ev HOC.out hz0)
                    have n1 : (ev == 0) = false := beq_false_of_ne hz0
                    have n2 : (ev != 0) = true := by simpa using hz0
                    clear hz0
                    go_wp2_with (go_at_call 92; refine (wcheck_is _ _ x ev HNV.out HLV.out HEV.out).mono ?_; rintro e w5 ⟨rfl, hb5⟩; have HB5 := Lib.hid (HB.out.trans (hb5.mono HB.out.size)); clear hb5)
                    go_ret
                    exact ⟨ret_int HS.out.symm, HB5.out⟩
              · obtain rfl : k = 2 := by omega
                have HS := Lib.hid (schk_7 HN.out H32.out HZA.out HZW.out (HP.out 0 (by omega)) (HP.out 1 (by omega)))
                have x3 : wr.cell? ⟨w.heap.size, 3, none⟩ = some (.slice Ao c.out.length co) := HX.out.cell 3
                have x4 : wr.cell? ⟨w.heap.size, 4, none⟩ = some (.bool c.app) := HX.out.cell 4
                have hxl := HX.out.lt
                clear hb
                cases hap : c.app with
                | false =>
                  rw [hap] at x4 HS
                  clear hap
                  go_wp2
                  go_ret
                  exact ⟨ret_int (by rw [HS.out]; rfl), HB.out⟩
                | true =>
                  rw [hap] at x4 HS
                  clear hap
                  rcases Nat.eq_zero_or_pos c.out.length with h0 | h0
                  · have n0 : ((c.out.length : Int) == 0) = true := beq_iff_eq.2 (by omega)
                    have HE := Lib.hid (show c.out.isEmpty = true by rw [List.length_eq_zero_iff.1 h0]; rfl)
                    have H0 := Lib.hid h0
                    clear h0
                    go_wp2
                    go_ret
                    exact ⟨ret_int (by rw [HS.out, HE.out]; rfl), HB.out⟩
                  · have n0 : ((c.out.length : Int) == 0) = false := beq_false_of_ne (by omega)
                    have HE := Lib.hid (show c.out.isEmpty = false by cases h : c.out with | nil => rw [h] at h0; simp at h0 | cons a l => rfl)
                    go_wp2
                    go_ret
                    exact ⟨ret_int (by rw [HS.out, HE.out]; rfl), HB.out⟩
end Go.Proofs.Ytiddchpkmcncdaa
/- Walks of layer 41: Check. -/
namespace Go.Proofs.Ytiddchpkmcncdaa
open Go.RowKit
set_option linter.unusedSimpArgs false
set_option linter.unusedVariables false
def PlBig (q : Pl) : Prop := q.stages.length ≤ 100000 ∧ ∀ c ∈ q.stages, SmBig c
def LnBig (l : Ln) : Prop := l.parts.length ≤ 100000 ∧ ∀ q ∈ l.parts, PlBig q
theorem lchk_1 {l : Ln} (h : l.bg = true) (h2 : l.parts.length = 0) : lchk l = 1 := by unfold lchk; rw [if_pos ⟨h, h2⟩]
theorem lchk_2 {l : Ln} (h : 16 < l.parts.length) : lchk l = 9 := by unfold lchk; rw [if_neg (by omega), if_pos h]
theorem lchk_3 {l : Ln} (h : ¬ (l.bg = true ∧ l.parts.length = 0)) (h2 : ¬ 16 < l.parts.length) : lchk l = pchks true l.parts := by unfold lchk; rw [if_neg h, if_neg h2]
theorem pchk_1 {f : Bool} {q : Pl} (h : q.wh < 0 ∨ 2 < q.wh ∨ (f = true ∧ q.wh ≠ 0)) : pchk f q = 2 := by unfold pchk; rw [if_pos h]
theorem pchk_2 {f : Bool} {q : Pl} (h : ¬ (q.wh < 0 ∨ 2 < q.wh ∨ (f = true ∧ q.wh ≠ 0))) (h2 : q.stages.length = 0) : pchk f q = 1 := by unfold pchk; rw [if_neg h, if_pos h2]
theorem pchk_3 {f : Bool} {q : Pl} (h : ¬ (q.wh < 0 ∨ 2 < q.wh ∨ (f = true ∧ q.wh ≠ 0))) (h2 : q.stages.length ≠ 0) (h3 : 8 < q.stages.length) : pchk f q = 9 := by unfold pchk; rw [if_neg h, if_neg h2, if_pos h3]
theorem pchk_4 {f : Bool} {q : Pl} (h : ¬ (q.wh < 0 ∨ 2 < q.wh ∨ (f = true ∧ q.wh ≠ 0))) (h2 : q.stages.length ≠ 0) (h3 : ¬ 8 < q.stages.length) : pchk f q = frst (q.stages.map schk) := by unfold pchk; rw [if_neg h, if_neg h2, if_neg h3]
def CkP (w : World) (l : Ln) (gk : Nat) (v : Value) (wr : World) : Prop :=
  ∃ k, v = .int .i64 ((k : Nat) : Int) ∧ k ≤ l.parts.length ∧ gk + k = l.parts.length + 1 ∧ Below w.heap.size w wr ∧ pchks true l.parts = pchks (decide (k = 0)) (l.parts.drop k)
def CkS (w : World) (q : Pl) (gk : Nat) (v : Value) (wr : World) : Prop :=
  ∃ k, v = .int .i64 ((k : Nat) : Int) ∧ k ≤ q.stages.length ∧ gk + k = q.stages.length + 1 ∧ Below w.heap.size w wr ∧ frst (q.stages.map schk) = frst ((q.stages.drop k).map schk)
theorem scheck_is (w : World) (va vb vi vo : Value) (c : Sm) (ap : Bool) (e0 : Int) (h : NSp 61 42 140 w ⟨va, vb, vi, vo⟩ c) (hl : SmBig c) (ha : c.app = ap) (he : schk c = e0) :
    Calls Try.prog 67 #[.agg #[va, vb, vi, vo, .bool ap]] w fun e w' => e = .returned (.int .i64 e0) ∧ Below w.heap.size w w' := by
  subst he ha; exact scheck_any w va vb vi vo c h hl
/-- The four slices of a simple command, written out. -/
theorem NSp.forms {p wt ta : TypeId} {w : World} {u : V4} {c : Sm} (h : NSp p wt ta w u c) : ∃ A ca B cb I ci O co, u = ⟨.slice A c.asg.length ca, .slice B c.words.length cb, .slice I c.inn.length ci, .slice O c.out.length co⟩ := by
  obtain ⟨a, b, i, o⟩ := u
  obtain ⟨hA, hW, hI, hO⟩ := h
  obtain ⟨A, ca, h1, _⟩ := hA.form
  obtain ⟨B, cb, h2, _⟩ := hW.form
  obtain ⟨I, ci, h3, _⟩ := Rd.form hI
  obtain ⟨O, co, h4, _⟩ := Rd.form hO
  simp only at h1 h2 h3 h4
  subst h1 h2 h3 h4
  exact ⟨_, _, _, _, _, _, _, _, rfl⟩
set_option maxRecDepth 100000 in
set_option maxHeartbeats 8000000 in
theorem Check_any (w : World) (v : Value) (l : Ln) (h : RowRd 49 plV (NPp 61 42 140 46) w v l.parts) (hlim : LnBig l) :
    Calls Try.prog 37 #[.agg #[v, .bool l.bg]] w fun e w' => e = .returned (.int .i64 (lchk l)) ∧ Below w.heap.size w w' := by
  obtain ⟨A, c, rfl, xa, hA2⟩ := h.all plV_len
  have HA := Lib.hid hA2
  obtain ⟨l1, l2⟩ := hlim
  have HL2 := Lib.hid l2
  clear h hA2 l2
  by_cases h16 : 16 < l.parts.length
  · have HS := Lib.hid (lchk_2 h16)
    have m1 : ((l.parts.length : Int) == 0) = false := beq_false_of_ne (by omega)
    have m2 : decide ((16 : Int) < (l.parts.length : Int)) = true := by simp; omega
    cases hbg : l.bg with
    | true =>
      clear hbg
      go_enter Try.func37, Try.ntmps37
      go_wp2
      go_ret
      exact ⟨ret_int HS.out.symm, (Below.refl _ _).alloc (Nat.le_refl _) _⟩
    | false =>
      clear hbg
      go_enter Try.func37, Try.ntmps37
      go_wp2
      go_ret
      exact ⟨ret_int HS.out.symm, (Below.refl _ _).alloc (Nat.le_refl _) _⟩
  have m2 : decide ((16 : Int) < (l.parts.length : Int)) = false := by simp; omega
  by_cases hnb : l.bg = true ∧ l.parts.length = 0
  · have HS := Lib.hid (lchk_1 hnb.1 hnb.2)
    have m1 : ((l.parts.length : Int) == 0) = true := beq_iff_eq.2 (by omega)
    obtain ⟨hbg, h0⟩ := hnb
    rw [hbg]
    have H0 := Lib.hid h0
    clear hbg h0
    go_enter Try.func37, Try.ntmps37
    go_wp2
    go_ret
    exact ⟨ret_int HS.out.symm, (Below.refl _ _).alloc (Nat.le_refl _) _⟩
  have HS := Lib.hid (lchk_3 hnb h16)
  have hcs : l.bg = false ∨ (l.bg = true ∧ ((l.parts.length : Int) == 0) = false) := by
    cases hbg : l.bg with
    | false => exact .inl rfl
    | true => exact .inr ⟨rfl, beq_false_of_ne (by intro h; exact hnb ⟨hbg, by omega⟩)⟩
  clear hnb
  have H16 := Lib.hid h16
  clear h16
  rcases hcs with hbg | ⟨hbg, m1⟩
  all_goals
    rw [hbg]
    clear hbg
    go_enter Try.func37, Try.ntmps37
    go_wp2
    try clear m1
    clear m2
    go_loopg [23] (l.parts.length + 1) (fun gk v wr => CkP w l gk v wr)
    case atStart => exact ⟨0, rfl, Nat.zero_le _, by omega, (Below.refl _ _).alloc (Nat.le_refl _) _, rfl⟩
    case round =>
      obtain ⟨k, rfl, hk, hgk, hb, hr⟩ := hrel
      have HB := Lib.hid hb
      have HR := Lib.hid (HS.out.trans hr)
      clear hr
      by_cases hlt : k < l.parts.length
      · obtain ⟨b, o, u, rfl, hb0, hN, hx⟩ := HA.out k hlt
        have hlv := HL2.out l.parts[k] (List.getElem_mem hlt)
        have HD := Lib.hid (HR.out.trans (pchks_drop (decide (k = 0)) l.parts k hlt))
        obtain ⟨q, hq⟩ : ∃ q, l.parts[k] = q := ⟨_, rfl⟩
        rw [hq] at hN hx hlv HD
        clear hq HR
        obtain ⟨Au, cu, rfl, _⟩ := RowRd.form hN
        have p0 := hx 0 _ rfl
        have p1 := hx 1 _ rfl
        have hbr : b < wr.heap.size := Nat.lt_of_lt_of_le hb0 hb.size
        have e0 : wr.cell? ⟨b, o + k * 2, none⟩ = some (.int .i64 q.wh) := ((bcell hb).1 b (o + k * 2) hb0).trans (by simpa using p0)
        have e1 : wr.cell? ⟨b, o + k * 2 + 1, none⟩ = some (.slice Au q.stages.length cu) := ((bcell hb).1 b (o + k * 2 + 1) hb0).trans (by rw [Nat.add_assoc]; exact p1)
        have i1 : (0 : Int) ≤ (k : Int) := by omega
        have i2 : (k : Int) < (l.parts.length : Int) := by omega
        have HNV := Lib.hid hN
        have HLV := Lib.hid hlv
        have HB2 := Lib.hid (hb.alloc hb.size (.cells #[.int .i64 q.wh, .slice Au q.stages.length cu] 49))
        have HT := Lib.hid (Blk.new wr 49 #[.int .i64 q.wh, .slice Au q.stages.length cu])
        go_upto_region 8 with (fail)
        clear hx p0 p1 hb hlv hN e0 e1 hbr i1 i2 HB
        generalize (wr.alloc (.cells #[.int .i64 q.wh, .slice Au q.stages.length cu] 49)) = wb at *
        generalize wr.heap.size = tb at *
        have t0 := HT.out.cell 0
        have t1 := HT.out.cell 1
        simp only [List.getElem?_toArray, List.getElem?_cons_zero, List.getElem?_cons_succ] at t0 t1
        by_cases hbad : q.wh < 0 ∨ 2 < q.wh ∨ (decide (k = 0) = true ∧ q.wh ≠ 0)
        · have h2 := pchk_1 (f := decide (k = 0)) hbad
          have HZ := Lib.hid (show lchk l = 2 by rw [HD.out, h2]; rfl)
          clear h2
          by_cases c1 : q.wh < 0
          · have d1 : decide (q.wh < 0) = true := by simpa using c1
            clear hbad c1
            go_wp2
            go_ret
            exact ⟨ret_int HZ.out.symm, HB2.out⟩
          · have d1 : decide (q.wh < 0) = false := by simpa using c1
            by_cases c2 : 2 < q.wh
            · have d2 : decide (2 < q.wh) = true := by simpa using c2
              clear hbad c1 c2
              go_wp2
              go_ret
              exact ⟨ret_int HZ.out.symm, HB2.out⟩
            · have d2 : decide (2 < q.wh) = false := by simpa using c2
              have h3 : k = 0 ∧ q.wh ≠ 0 := by
                rcases hbad with h | h | ⟨h, h'⟩
                · exact absurd h c1
                · exact absurd h c2
                · exact ⟨by simpa using h, h'⟩
              have d3 : ((k : Int) == 0) = true := beq_iff_eq.2 (by omega)
              have d4 : (q.wh == 0) = false := beq_false_of_ne h3.2
              have d5 : (q.wh != 0) = true := by simpa using h3.2
              have H3 := Lib.hid h3
              clear hbad c1 c2 h3
              go_wp2
              go_ret
              exact ⟨ret_int HZ.out.symm, HB2.out⟩
        · have d1 : decide (q.wh < 0) = false := by simp; omega
          have d2 : decide (2 < q.wh) = false := by simp; omega
          have hcs : ((k : Int) == 0) = false ∨ (((k : Int) == 0) = true ∧ (q.wh == 0) = true ∧ (q.wh != 0) = false) := by
            rcases Nat.eq_zero_or_pos k with h0 | h0
            · have : q.wh = 0 := by
                by_cases h : q.wh = 0
                · exact h
                · exact absurd (.inr (.inr ⟨by simp [h0], h⟩)) hbad
              exact .inr ⟨beq_iff_eq.2 (by omega), by simp [this], by simp [this]⟩
            · exact .inl (beq_false_of_ne (by omega))
          have HBAD := Lib.hid hbad
          clear hbad
          rcases hcs with n1 | ⟨n1, n2, n3⟩
          all_goals
            rcases Nat.eq_zero_or_pos q.stages.length with h0 | h0
            · have h2 := pchk_2 HBAD.out h0
              have HZ := Lib.hid (show lchk l = 1 by rw [HD.out, h2]; rfl)
              have m0 : ((q.stages.length : Int) == 0) = true := beq_iff_eq.2 (by omega)
              have H0 := Lib.hid h0
              clear h2 h0
              go_wp2
              go_ret
              exact ⟨ret_int HZ.out.symm, HB2.out⟩
            have m0 : ((q.stages.length : Int) == 0) = false := beq_false_of_ne (by omega)
            by_cases h8 : 8 < q.stages.length
            · have h2 := pchk_3 HBAD.out (by omega) h8
              have HZ := Lib.hid (show lchk l = 9 by rw [HD.out, h2]; rfl)
              have m1 : decide ((8 : Int) < (q.stages.length : Int)) = true := by simp; omega
              clear h2
              go_wp2
              go_ret
              exact ⟨ret_int HZ.out.symm, HB2.out⟩
            have m1 : decide ((8 : Int) < (q.stages.length : Int)) = false := by simp; omega
            have h2 := pchk_4 HBAD.out (by omega) h8
            have HD2 := Lib.hid (show lchk l = if frst (q.stages.map schk) = 0 then pchks false (l.parts.drop (k + 1)) else frst (q.stages.map schk) by rw [HD.out, h2])
            obtain ⟨Aq, cq, hAq, xq, hS2⟩ := RowRd.all (show RowRd 46 smV (NSp 61 42 140) w _ q.stages from HNV.out) smV_len
            injection hAq with hA1 _ hA3
            subst hA1 hA3
            have HSS := Lib.hid hS2
            have HSB := Lib.hid HLV.out.2
            clear h2 HD hS2 HNV h8
            go_wp2
            clear m0 m1 n1 d1 d2 t0 t1
            try clear n2 n3
            obtain ⟨gk0, rfl⟩ : ∃ gk0 : Nat, gk0 = gk := ⟨_, rfl⟩
            go_loopg [56] (q.stages.length + 1) (fun gi v wr => CkS w q gi v wr)
            case atStart => exact ⟨0, rfl, Nat.zero_le _, by omega, HB2.out, rfl⟩
            case round =>
              obtain ⟨j, rfl, hj, hgi, hb, hr⟩ := hrel
              have HB3 := Lib.hid hb
              have HR3 := Lib.hid hr
              clear hr
              by_cases hjl : j < q.stages.length
              · obtain ⟨b, o, u4, rfl, hb0, hN, hx⟩ := HSS.out j hjl
                have hlv := HSB.out q.stages[j] (List.getElem_mem hjl)
                have HD3 := Lib.hid (HR3.out.trans (frst_drop schk q.stages j hjl))
                obtain ⟨c, hc⟩ : ∃ c, q.stages[j] = c := ⟨_, rfl⟩
                rw [hc] at hN hx hlv HD3
                clear hc HR3
                obtain ⟨sa, ca, sb, cb, si, ci, so, co, rfl⟩ := hN.forms
                have p0 := hx 0 _ rfl
                have p1 := hx 1 _ rfl
                have p2 := hx 2 _ rfl
                have p3 := hx 3 _ rfl
                have p4 := hx 4 _ rfl
                rw [← Nat.add_assoc] at p1 p2 p3 p4
                rw [Nat.add_zero] at p0
                have e0 := ((bcell hb).1 b _ hb0).trans p0
                have e1 := ((bcell hb).1 b _ hb0).trans p1
                have e2 := ((bcell hb).1 b _ hb0).trans p2
                have e3 := ((bcell hb).1 b _ hb0).trans p3
                have e4 := ((bcell hb).1 b _ hb0).trans p4
                have i1 : (0 : Int) ≤ (j : Int) := by omega
                have i2 : (j : Int) < (q.stages.length : Int) := by omega
                have HLC := Lib.hid hlv
                have hq1 : q.stages.length ≤ 100000 := HLV.out.1
                have HNC := Lib.hid (NSp.next hN hb)
                have HBX := Lib.hid ((Below.refl wr.heap.size wr).alloc (Nat.le_refl _) (.cells #[.slice sa c.asg.length ca, .slice sb c.words.length cb, .slice si c.inn.length ci, .slice so c.out.length co, .bool c.app] 46))
                have HB4 := Lib.hid (hb.alloc hb.size (.cells #[.slice sa c.asg.length ca, .slice sb c.words.length cb, .slice si c.inn.length ci, .slice so c.out.length co, .bool c.app] 46))
                clear hx p0 p1 p2 p3 p4 hb hlv hN
                obtain ⟨ev, hev⟩ : ∃ ev, schk c = ev := ⟨_, rfl⟩
                have HEV := Lib.hid hev
                rw [hev] at HD3
                clear hev
                by_cases hz0 : ev = 0
                · subst hz0
                  rw [if_pos rfl] at HD3
                  go_wp2_with (go_at_call 67; refine (scheck_is _ _ _ _ _ c c.app 0 (NSp.next HNC.out HBX.out) HLC.out rfl HEV.out).mono ?_; rintro e w5 ⟨rfl, hb5⟩; have HB5 := Lib.hid (HB4.out.trans (hb5.mono HB4.out.size)); clear hb5)
                  go_roundg (gk - 1)
                  case rel => exact ⟨j + 1, by go_num, by omega, by omega, HB5.out, HD3.out⟩
                  case measure => omega
                · rw [if_neg hz0] at HD3
                  have HZ := Lib.hid (show lchk l = ev by rw [HD2.out, HD3.out, if_neg hz0])
                  have n1 : (ev == 0) = false := beq_false_of_ne hz0
                  have n2 : (ev != 0) = true := by simpa using hz0
                  clear hz0
                  go_wp2_with (go_at_call 67; refine (scheck_is _ _ _ _ _ c c.app ev (NSp.next HNC.out HBX.out) HLC.out rfl HEV.out).mono ?_; rintro e w5 ⟨rfl, hb5⟩; have HB5 := Lib.hid (HB4.out.trans (hb5.mono HB4.out.size)); clear hb5)
                  go_ret
                  exact ⟨ret_int HZ.out.symm, HB5.out⟩
              · obtain rfl : j = q.stages.length := by omega
                have hq0 : frst (q.stages.map schk) = 0 := by rw [HR3.out, List.drop_length]; rfl
                have HZ := Lib.hid (show lchk l = pchks false (l.parts.drop (k + 1)) by rw [HD2.out, hq0]; rfl)
                clear hb hq0
                go_wp2
                go_roundg (gk0 - 1)
                case rel => exact ⟨k + 1, by go_num, by omega, by omega, HB3.out, by rw [← HS.out, HZ.out]; congr 1⟩
                case measure => omega
      · obtain rfl : k = l.parts.length := by omega
        have HZ := Lib.hid (show lchk l = 0 by rw [HR.out, List.drop_length]; rfl)
        clear hb
        go_wp2
        go_ret
        exact ⟨ret_int HZ.out.symm, HB.out⟩
end Go.Proofs.Ytiddchpkmcncdaa
