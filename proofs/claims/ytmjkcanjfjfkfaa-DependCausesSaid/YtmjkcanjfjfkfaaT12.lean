/- Walks of layer 47: the reference writer. -/
import Derived.Test.YtmjkcanjfjfkfaaT10
import Derived.Test.YtmjkcanjfjfkfaaB9
namespace Go.Proofs.Ytmjkcanjfjfkfaa
open Go.RowKit
set_option linter.unusedSimpArgs false
set_option linter.unusedVariables false
attribute [local go_sem ↓] Go.wp_at_zero Go.wp_at_succ
def hasW (l : List Ac) (n : Nm) (m : Nat) : Bool := match l[m]? with
  | some a => a.writes.any fun c => decide (c.name = n)
  | none => false
/-- The last action before m that writes n. -/
def wrB (l : List Ac) (n : Nm) : Nat → Int
  | 0 => -1
  | m + 1 => if hasW l n m then (m : Int) else wrB l n m
def woRel (w : World) (l : List Ac) (n : Nm) (M : Nat) (v7 : Value) (wr : World) : Prop := ∃ (m : Nat) (i : Int), m ≤ M ∧ i = (m : Int) - 1 ∧ v7 = .int .i64 i ∧ wrB l n M = wrB l n m ∧ Below w.heap.size w wr
def wiRel (w : World) (a : Ac) (n : Nm) (v8 : Value) (wr : World) : Prop := ∃ k : Nat, k ≤ a.writes.length ∧ v8 = .int .i64 (k : Int) ∧ (∀ j (h : j < a.writes.length), j < k → a.writes[j].name ≠ n) ∧ Below w.heap.size w wr
set_option maxRecDepth 100000 in
set_option maxHeartbeats 4000000 in
theorem rwriter_is {w : World} {v : Value} {l : List Ac} (n : Nm) (t : Int) (h : RdAc w v l) (hl : l.length ≤ 100) (hw : ∀ a ∈ l, a.writes.length ≤ 10) :
    Calls Try.prog 20 #[v, nmV n, .int .i64 t] w fun e w' => e = .returned (.int .i64 (wrB l n (min t l.length).toNat)) ∧ Below w.heap.size w w' := by
  obtain ⟨A, c, rfl, hc⟩ := RowRd.form h
  have ha := (Below.refl w.heap.size w).alloc (Nat.le_refl _) (.cells #[.int .i64 n.kind, .string (bs n.owner), .int .i64 n.num, .int .i64 n.idx, .string (bs n.text)] 41)
  have zb := Blk.new w 41 #[.int .i64 n.kind, .string (bs n.owner), .int .i64 n.num, .int .i64 n.idx, .string (bs n.text)]
  obtain ⟨M, hM⟩ : ∃ M, (min t (l.length : Int)).toNat = M := ⟨_, rfl⟩
  have HMv : Hid (max (min t (l.length : Int)) 0 - 1 = (M : Int) - 1) := Lib.hid (by omega)
  have HM := Lib.hid (show M ≤ l.length by omega)
  have HR := Lib.hid (h.next ha)
  have ZB := Lib.hid zb
  have HA := Lib.hid ha
  have HWL := Lib.hid hw
  rw [hM]
  clear h ha zb hM hw
  go_enter Try.func20, Try.ntmps20
  simp only [nmV, nmA]
  go_upto_region 1 with (fail)
  generalize (w.alloc (.cells #[.int .i64 n.kind, .string (bs n.owner), .int .i64 n.num, .int .i64 n.idx, .string (bs n.text)] 41)) = W0 at *
  go_cut [7] (fun v7 wx => v7 = .int .i64 ((M : Int) - 1) ∧ W0 = wx)
  case first =>
    go_wp2_with fail
    go_meet
    case rel => exact ⟨by rw [HMv.out], rfl⟩
  case rest =>
    obtain ⟨rfl, rfl⟩ := hcut
    have hws : w.heap.size < W0.heap.size := ZB.out.lt
    have H0 : Hid (woRel W0 l n M (.int .i64 ((M : Int) - 1)) W0) := Lib.hid ⟨M, _, Nat.le_refl _, rfl, rfl, rfl, Below.refl _ _⟩
    go_wp2_with fail
    go_loopw [7] (fun v7 wr => woRel W0 l n M v7 wr) (fun v7 _ => (intOf v7 + 1).toNat)
    case atStart => exact H0.out
    case round =>
      clear H0
      obtain ⟨m, i, hm, hi, rfl, hwb, hB⟩ := hrel
      have HB := Lib.hid hB
      have HWB := Lib.hid hwb
      clear hB hwb
      by_cases hm0 : m = 0
      · have e1 : decide (0 ≤ i) = false := decide_eq_false (by omega)
        have HE := Lib.hid (show wrB l n M = -1 by rw [HWB.out, hm0]; rfl)
        have hHB := HA.out.trans (HB.out.mono HA.out.size)
        have HF := Lib.hid hHB
        clear hHB
        go_wp2_with fail
        go_ret
        exact ⟨by rw [HE.out]; rfl, HF.out⟩
      · obtain ⟨q, hq⟩ : ∃ q : Nat, m = q + 1 := ⟨m - 1, by omega⟩
        have hiq : i = (q : Int) := by omega
        subst hiq
        have HQ := Lib.hid hq
        rw [hq] at HWB
        have hqM : q < M := by omega
        have HQM := Lib.hid hqM
        have hql : q < l.length := by have := HM.out; omega
        clear hm hi hm0 hq hqM
        have e1 : decide (0 ≤ (q : Int)) = true := decide_eq_true (by omega)
        have e2 : (0 : Int) ≤ (q : Int) := by omega
        have e3 : (q : Int) < (l.length : Int) := by omega
        obtain ⟨a, haq⟩ : ∃ a, l[q] = a := ⟨_, rfl⟩
        have HAQ : Hid (l[q]? = some a) := Lib.hid (by rw [List.getElem?_eq_getElem hql, haq])
        have hwa : a.writes.length ≤ 10 := HWL.out a (by rw [← haq]; exact List.getElem_mem hql)
        have HQL := Lib.hid hql
        have HAE := Lib.hid haq
        have H1 : Hid (wiRel W0 a n (.int .i64 (0 : Nat)) wr) := Lib.hid ⟨0, Nat.zero_le _, rfl, fun _ _ h => absurd h (Nat.not_lt_zero _), HB.out⟩
        clear haq
        go_wp2_with fail
        go_loopw [8] (fun v8 wr => wiRel W0 a n v8 wr) (fun v8 _ => 10 - (intOf v8).toNat)
        case atStart => exact H1.out
        case round =>
          clear H1
          obtain ⟨k, hk, rfl, hno, hB2⟩ := hrel
          have HB2 := Lib.hid hB2
          have HNO := Lib.hid hno
          obtain ⟨xb, xo, u1, u2, rfl, hxb, _, hw2, _, _, _, _, _, y5⟩ := RdAc.piece (HR.out.next HB2.out) HQL.out
          have z0 := (ZB.out.next HB2.out ZB.out.lt).cell 0
          have z1 := (ZB.out.next HB2.out ZB.out.lt).cell 1
          have z2 := (ZB.out.next HB2.out ZB.out.lt).cell 2
          have z3 := (ZB.out.next HB2.out ZB.out.lt).cell 3
          have z4 := (ZB.out.next HB2.out ZB.out.lt).cell 4
          simp only [List.getElem?_toArray, List.getElem?_cons_zero, List.getElem?_cons_succ] at z0 z1 z2 z3 z4
          rw [HAE.out] at hw2
          obtain ⟨A2, c2, rfl, hc2⟩ := RdP.form hw2
          have HW2 := Lib.hid hw2
          clear hB2 hno hw2
          by_cases hkl : k < a.writes.length
          · have j1 : decide ((k : Int) < (a.writes.length : Int)) = true := decide_eq_true (by omega)
            have j2 : (0 : Int) ≤ (k : Int) := by omega
            have j3 : (k : Int) < (a.writes.length : Int) := by omega
            obtain ⟨cb, co, rfl, hcb, v0, v1, v2, v3, v4, _, _⟩ := RdCh.piece HW2.out hkl
            obtain ⟨p, hp⟩ : ∃ p, a.writes[k].name = p := ⟨_, rfl⟩
            have HP := Lib.hid hp
            rw [hp] at v0 v1 v2 v3 v4
            clear hp
            by_cases hpn : p = n
            · have he := fun W => eqlNm p n true (by simp [hpn]) W
              unfold nmV nmA at he
              have HPN := Lib.hid hpn
              have hkl2 := Lib.hid hkl
              have HHW : Hid (wrB l n M = (q : Int)) := Lib.hid (by
                rw [HWB.out]
                unfold wrB hasW
                rw [HAQ.out]
                exact if_pos (List.any_eq_true.2 ⟨_, List.getElem_mem hkl2.out, decide_eq_true (by rw [HP.out, HPN.out])⟩))
              have hHB := HA.out.trans (HB2.out.mono HA.out.size)
              have HF := Lib.hid hHB
              clear hpn hHB
              go_wp2_with fail
              go_quiet (fail)
              clear z0 z1 z2 z3 z4 v0 v1 v2 v3 v4 he
              have HFF := Lib.hid (HF.out.trans ((below_drewN (Below.refl _ wr) nq).mono HF.out.size))
              generalize World.drewN wr nq = w3 at *
              go_wp2_with fail
              go_ret
              exact ⟨by rw [HHW.out]; rfl, HFF.out⟩
            · have he := fun W => eqlNm p n false (by simp [hpn]) W
              unfold nmV nmA at he
              have HPN := Lib.hid hpn
              clear hpn
              go_wp2_with fail
              go_quiet (fail)
              clear z0 z1 z2 z3 z4 v0 v1 v2 v3 v4 he
              have HFF := Lib.hid (HB2.out.trans ((below_drewN (Below.refl _ wr) nq).mono HB2.out.size))
              generalize World.drewN wr nq = w3 at *
              go_wp2_with fail
              go_roundw
              case rel => exact ⟨k + 1, by omega, by go_num, fun j hj hjk => by
                rcases Nat.lt_succ_iff_lt_or_eq.1 hjk with h | h
                · exact HNO.out j hj h
                · subst h; rw [HP.out]; exact HPN.out, HFF.out⟩
              case measure => simp [intOf]; omega
          · have j1 : decide ((k : Int) < (a.writes.length : Int)) = false := decide_eq_false (by omega)
            have HHW : Hid (wrB l n M = wrB l n q) := Lib.hid (by
              rw [HWB.out]
              show (if hasW l n q then (q : Int) else wrB l n q) = _
              refine if_neg ?_
              unfold hasW
              rw [HAQ.out]
              intro h
              obtain ⟨x, hx, he⟩ := List.any_eq_true.1 h
              obtain ⟨j, hj, rfl⟩ := List.getElem_of_mem hx
              exact HNO.out j hj (by omega) (of_decide_eq_true he))
            clear z0 z1 z2 z3 z4
            go_wp2_with fail
            exact ⟨⟨q, (q : Int) - 1, by have := HQM.out; omega, rfl, rfl, HHW.out, HB2.out⟩, by simp [intOf]⟩
end Go.Proofs.Ytmjkcanjfjfkfaa
