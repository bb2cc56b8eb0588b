/- Walks of layer 46: the law of readers. -/
import Derived.Test.YtobkmkplhbaepaaDoorW33
import Derived.Test.YtobkmkplhbaepaaDoorGF
import Derived.Test.YtobkmkplhbaepaaDoorGK
import Derived.Test.YtobkmkplhbaepaaDoorGC
namespace Go.Proofs.YtobkmkplhbaepaaDoor
open Go.RowKit
set_option linter.unusedSimpArgs false
set_option linter.unusedVariables false
attribute [local go_sem ↓] Go.wp_at_zero Go.wp_at_succ
theorem RaAct.ok {B : Nat} {w : World} {v : Value} {l : List Act} (h : RaAct B w v l) : ∀ a ∈ l, ActOk a := by
  obtain ⟨vs, h1, _⟩ := h
  intro a ha
  obtain ⟨i, hi, rfl⟩ := List.getElem_of_mem ha
  have hiv : i < vs.length := by rw [h1.1]; exact hi
  have := h1.2 i _ _ (List.getElem?_eq_getElem hi) (List.getElem?_eq_getElem hiv)
  exact ⟨this.2.2.1, this.2.2.2.2.1, this.2.2.2.2.2.1⟩
theorem RaIt.len {B : Nat} {w : World} {v : Value} {l : List It} (h : RaIt B w v l) : l.length ≤ 9223372036854775807 := by
  obtain ⟨A, c, _, h1, h2⟩ := h.form
  unfold maxLen at h2
  omega
theorem RaAct.next_ {B B' : Nat} {w : World} {v : Value} {l : List Act} (h : RaAct B w v l) (hb : B ≤ B') : RaAct B' w v l := by
  obtain ⟨vs, h1, ⟨A, c, hv, hc, hm, h0⟩⟩ := h
  refine ⟨vs, ⟨h1.1, fun i x v e1 e2 => by have h := h1.2 i x v e1 e2; exact ⟨h.1.next_ hb, h.2.1.next_ hb, h.2.2⟩⟩, ⟨A, c, hv, hc, hm, ?_⟩⟩
  rcases h0 with h0 | ⟨b, o, hA, hlt, hx⟩
  · exact .inl h0
  · exact .inr ⟨b, o, hA, Nat.lt_of_lt_of_le hlt hb, hx⟩
def LwRel (w : World) (i : Value) (wr : World) : Prop := ∃ k : Nat, k ≤ 6 ∧ i = .int .i64 k ∧ Below w.heap.size w wr
def LwIn (n : Nat) (w : World) (i : Value) (wr : World) : Prop := ∃ k : Nat, k ≤ n ∧ i = .int .i64 k ∧ Below w.heap.size w wr
theorem objs_len : objs.length = 6 := rfl
theorem rdrA_len (l : List Ac) (n : Nm) (t : Int) : (rdrA l n t).2.length ≤ (rdrs n 0 l).length := by
  unfold rdrA
  split
  · simp
  · split
    · exact List.length_filter_le _ _
    · split
      · split
        · exact List.length_filter_le _ _
        · simp
      · simp
set_option maxRecDepth 100000 in
set_option maxHeartbeats 2000000 in
theorem law_readers {w : World} {v1 v2 : Value} {r : Rn} (t : Int) (hit : RaIt w.heap.size w v1 r.base) (hac : RaAct w.heap.size w v2 r.acts) (hu : UseAt w) : Calls Tryd.prog 3 #[.agg #[v1, v2], .int .i64 t] w fun e w' => e = .returned (.bool true) ∧ Below w.heap.size w w' := by
  have ha := (Below.refl w.heap.size w).alloc (Nat.le_refl _) (.cells #[v1, v2] 25)
  have hz : w.heap.size < (w.alloc (.cells #[v1, v2] 25)).heap.size := by simp
  have zb := Blk.new w 25 #[v1, v2]
  have z0 := zb.cell 0
  have z1 := zb.cell 1
  simp only [List.getElem?_toArray, List.getElem?_cons_zero, List.getElem?_cons_succ] at z0 z1
  obtain ⟨A1, c1, rfl, _, _⟩ := hit.form
  obtain ⟨A2, c2, rfl, _, _⟩ := RowRa.form hac
  have HA := Lib.hid ha
  have HU := Lib.hid (hu.next ha hu.1)
  have HLB := Lib.hid hit.len
  have HOK := Lib.hid hac.ok
  have HIT := Lib.hid ((hit.below ha).next_ (Nat.le_of_lt hz))
  have HAC := Lib.hid ((hac.below ha).next_ (Nat.le_of_lt hz))
  clear hit hac hu ha zb
  go_enter Tryd.func3, Tryd.ntmps3
  go_upto_region 1 with (fail)
  generalize w.alloc (.cells #[.slice A1 r.base.length c1, .slice A2 r.acts.length c2] 25) = W at *
  generalize hcb : w.heap.size = cb at *
  have HCB := Lib.hid hcb
  clear hcb
  go_upto_region 3 with (go_at_call 7; refine (known_is HU.out).mono ?_; rintro e w1 ⟨rfl, hb1⟩; have HB1 := Lib.hid hb1; clear hb1)
  have hc1 : cb < w1.heap.size := Nat.lt_of_lt_of_le hz HB1.out.size
  have HU1 := Lib.hid (HU.out.next HB1.out HU.out.1)
  have HIT1 := Lib.hid ((HIT.out.below HB1.out).next_ HB1.out.size)
  have HAC1 := Lib.hid ((HAC.out.below HB1.out).next_ HB1.out.size)
  replace z0 := (HB1.out.cell (p := ⟨cb, 0, none⟩) hz).trans z0
  replace z1 := (HB1.out.cell (p := ⟨cb, 1, none⟩) hz).trans z1
  refine wp_region_noPanic ?_
  refine wp_region_held_drew (S := (fun (w' : World) => w'.cell? ⟨cb, 0, none⟩ = some (.slice A1 r.base.length c1) ∧ w'.cell? ⟨cb, 1, none⟩ = some (.slice A2 r.acts.length c2))) (by kernel_rfl) ?_ (fun hHeld => ?_)
  · exact ⟨z0, z1⟩
  refine wpAnyH_take (i := 0) (v := ?_) rfl (by kernel_rfl) (by kernel_rfl) (by kernel_rfl) (fun _ _ _ h => h) (Or.inl ⟨by kernel_rfl, ?_⟩) hHeld ?_
  rotate_left
  · (intro w hSw; (try dsimp only at hSw); go_simp; try with_reducible rfl)
  try simp only [Act.put, List.setIfInBounds_toArray, List.set_cons_zero, List.set_cons_succ]
  refine wpAnyH_take (i := 2) (v := ?_) rfl (by kernel_rfl) (by kernel_rfl) (by kernel_rfl) (fun _ _ _ h => h) (Or.inl ⟨by kernel_rfl, ?_⟩) hHeld ?_
  rotate_left
  · (intro w hSw; (try dsimp only at hSw); go_simp; try with_reducible rfl)
  try simp only [Act.put, List.setIfInBounds_toArray, List.set_cons_zero, List.set_cons_succ]
  refine wpAnyH_ready (rs := [1]) (by kernel_rfl) (by simp) ?_
  refine AllReadyH.cons rfl (fun K hK => ?_) AllReadyH.nil
  go_simp
  refine (base_is (w := w1.drew) (r := r) (HIT1.out.below (Below.refl _ _).drew) HLB.out (HU1.out.next (Below.refl w1.heap.size w1).drew HU1.out.1)).mono ?_; rintro e w2 ⟨p, rfl, hp, hb2'⟩; have hb2 := (Below.refl w1.heap.size w1).drew.trans hb2'; have HB2 := Lib.hid hb2; have HP2 := Lib.hid hp; clear hb2' hp
  try (go_wp2_with fail)
  refine hK.out _ _ ?_ (fun hNew => ?_)
  · exact ⟨(hb2.cell (p := ⟨cb, 0, none⟩) hc1).trans z0, (hb2.cell (p := ⟨cb, 1, none⟩) hc1).trans z1⟩
  clear hK K hHeld
  have hHeld := hNew
  clear hNew
  try simp only [Act.put, List.setIfInBounds_toArray, List.set_cons_zero, List.set_cons_succ]
  refine wpAnyH_ready (rs := [3]) (by kernel_rfl) (by simp) ?_
  refine AllReadyH.cons rfl (fun K hK => ?_) AllReadyH.nil
  go_simp
  refine (actions_is (r := r) ((HAC1.out.below HB2.out).next_ HB2.out.size)).mono ?_; rintro e w3 ⟨vl, rfl, hl, hb3'⟩; have HB3 := Lib.hid hb3'; have HL3 := Lib.hid hl; clear hb3' hl
  try (go_wp2_with fail)
  refine hK.out _ _ ?_ (fun hNew => ?_)
  · exact ⟨(HB3.out.cell (p := ⟨cb, 0, none⟩) (Nat.lt_of_lt_of_le hc1 HB2.out.size)).trans ((HB2.out.cell (p := ⟨cb, 0, none⟩) hc1).trans z0), (HB3.out.cell (p := ⟨cb, 1, none⟩) (Nat.lt_of_lt_of_le hc1 HB2.out.size)).trans ((HB2.out.cell (p := ⟨cb, 1, none⟩) hc1).trans z1)⟩
  clear hK K hHeld
  have hHeld := hNew
  clear hNew
  try simp only [Act.put, List.setIfInBounds_toArray, List.set_cons_zero, List.set_cons_succ]
  refine wpAnyH_take (i := 4) (v := ?_) rfl (by kernel_rfl) (by kernel_rfl) (by kernel_rfl) (fun _ _ _ h => h) (Or.inl ⟨by kernel_rfl, ?_⟩) hHeld ?_
  rotate_left
  · (intro w hSw; (try dsimp only at hSw); go_simp; try with_reducible rfl)
  try simp only [Act.put, List.setIfInBounds_toArray, List.set_cons_zero, List.set_cons_succ]
  refine wpAnyH_take (i := 5) (v := ?_) rfl (by kernel_rfl) (by kernel_rfl) (by kernel_rfl) (fun _ _ _ h => h) (Or.inl ⟨by kernel_rfl, ?_⟩) hHeld ?_
  rotate_left
  · (intro w hSw; (try dsimp only at hSw); go_simp; try with_reducible rfl)
  try simp only [Act.put, List.setIfInBounds_toArray, List.set_cons_zero, List.set_cons_succ]
  refine wpAnyH_done (by kernel_rfl) ?_ _
  clear hHeld
  try simp only [List.getElem_toArray, List.getElem_cons_zero, List.getElem_cons_succ, Act.put, List.setIfInBounds_toArray, List.set_cons_zero, List.set_cons_succ]
  refine NoPanic.normal ?_
  obtain ⟨s0, hs0⟩ : ∃ s, baseS r = s := ⟨_, rfl⟩
  obtain ⟨l, hl⟩ : ∃ l, actsS r = l := ⟨_, rfl⟩
  have HAR : Hid (∀ a ∈ l, AcR a) := Lib.hid (by rw [← hl]; exact acts_r HOK.out)
  have HSV : Hid (StV s0) := Lib.hid (by rw [← hs0]; exact base_v r)
  have hll : l.length ≤ 20 := by rw [← hl]; exact acts_len r
  rw [hs0] at HP2
  rw [hl] at HL3
  have HP3 := Lib.hid (HP2.out.next HB3.out)
  have HLR3 := Lib.hid (RowOwn.rd HL3.out)
  have HB13 := Lib.hid (HB2.out.trans (HB3.out.mono HB2.out.size))
  have HU3 := Lib.hid (HU1.out.next HB13.out HU1.out.1)
  have HB03 := Lib.hid (HA.out.trans ((HB1.out.trans (HB13.out.mono HB1.out.size)).mono (Nat.le_of_lt hz)))
  have hsz3 : cb ≤ w3.heap.size := Nat.le_trans (Nat.le_of_lt hc1) HB13.out.size
  have HSZ : Hid (cb ≤ w3.heap.size) := Lib.hid hsz3
  obtain ⟨Al, cl, rfl, hcl⟩ := RowRd.form HLR3.out
  clear hs0 hl hb2 HB2 HB3 HP2 HL3 HIT HAC HIT1 HAC1 HU HU1 HA HB1 z0 z1 HB13 HLB HOK hc1
  go_wp2_with (go_at_call 10; refine (build_is HP3.out HLR3.out HU3.out HAR.out HSV.out (by omega)).mono ?_)
  rintro e w4 ⟨hb4, ⟨hok, g, F, rfl, hv4, _⟩ | ⟨hbad, rfl⟩⟩
  · have HB4 := Lib.hid hb4
    have HV4 := Lib.hid hv4
    have HVO : Hid (VOk l) := Lib.hid ⟨ok_all hok, HAR.out, by omega⟩
    have HLO : Hid (LOk l) := Lib.hid ⟨HAR.out, by omega⟩
    have HP4 := Lib.hid (HP3.out.next hb4)
    have HLR4 := Lib.hid (RdAc.next HLR3.out hb4)
    have HB04 := Lib.hid (HB03.out.trans (hb4.mono hsz3))
    have hsz4 : cb ≤ w4.heap.size := Nat.le_trans hsz3 hb4.size
    clear hb4 hv4 hok HB03 HP3 HLR3 HB4
    have H0 : Hid (LwRel w4 (.int .i64 (0 : Nat)) w4) := Lib.hid ⟨0, by omega, rfl, Below.refl _ _⟩
    go_wp2_with fail
    go_loopw [9] (fun i wr => LwRel w4 i wr) (fun i _ => 6 - (intOf i).toNat)
    case atStart => exact H0.out
    case round =>
      clear H0
      obtain ⟨k, hk6, rfl, hbw⟩ := hrel
      have HBW := Lib.hid hbw
      clear hbw
      by_cases hk : k < 6
      · have j1 : (0 : Int) ≤ (k : Int) := by omega
        have j2 : (k : Int) < 6 := by omega
        have j3 : decide ((k : Int) < 6) = true := decide_eq_true j2
        have ONCE : True := trivial
        go_wp2_with (clear ONCE; go_at_call 12; refine (objects_is wr).mono ?_)
        rintro e w5 ⟨go, co, rfl, how5, hb5⟩
        have HB5 := Lib.hid (HBW.out.trans (hb5.mono HBW.out.size))
        clear how5 hb5
        have ONCE : True := trivial
        go_wp2_with (clear ONCE; go_at_call 12; refine (objects_is w5).mono ?_)
        rintro e w6 ⟨go, co, rfl, how6, hb6⟩
        have HB6 := Lib.hid (HB5.out.trans (hb6.mono HB5.out.size))
        obtain ⟨b, o, hbe, hbr, y0, y1, y2, y3, y4⟩ := RdNm.piece (show RdNm w6 (.slice (some ⟨go, 0, none⟩) 6 co) objs from Rd.of_own how6) (k := k) (by rw [objs_len]; exact hk)
        injection hbe with hbe
        injection hbe with e1 e2
        subst e1 e2
        simp only [Nat.zero_add] at y0 y1 y2 y3 y4
        obtain ⟨n, hn⟩ : ∃ n, objs[k]'(by rw [objs_len]; exact hk) = n := ⟨_, rfl⟩
        have HNO : Hid (OwnE n) := Lib.hid (by rw [← hn]; exact IsOb.own (List.getElem_mem _))
        rw [hn] at y0 y1 y2 y3 y4
        clear hn how6 hb6
        go_upto_region 11 with (fail)
        have hbd := (Below.refl w6.heap.size w6).alloc (Nat.le_refl _) (.cells #[.int .i64 n.kind, .string (bs n.owner), .int .i64 n.num, .int .i64 n.idx, .string (bs n.text)] 40)
        have zb := Blk.new w6 40 #[.int .i64 n.kind, .string (bs n.owner), .int .i64 n.num, .int .i64 n.idx, .string (bs n.text)]
        have hzz : w6.heap.size < (w6.alloc (.cells #[.int .i64 n.kind, .string (bs n.owner), .int .i64 n.num, .int .i64 n.idx, .string (bs n.text)] 40)).heap.size := by simp
        have z0 := zb.cell 0
        have z1 := zb.cell 1
        have z2 := zb.cell 2
        have z3 := zb.cell 3
        have z4 := zb.cell 4
        simp only [List.getElem?_toArray, List.getElem?_cons_zero, List.getElem?_cons_succ] at z0 z1 z2 z3 z4
        have HB7 := Lib.hid (HB6.out.trans (hbd.mono HB6.out.size))
        clear y0 y1 y2 y3 y4 hbd zb
        generalize w6.alloc (.cells #[.int .i64 n.kind, .string (bs n.owner), .int .i64 n.num, .int .i64 n.idx, .string (bs n.text)] 40) = w7 at *
        generalize w6.heap.size = cn at *
        have HV7 := Lib.hid (HV4.out.next HB7.out)
        have HP7 := Lib.hid (HP4.out.next HB7.out)
        have HLR7 := Lib.hid (RdAc.next HLR4.out HB7.out)
        go_wp2_with (go_at_call 13; refine (readers_is (n := n) t HV7.out HNO.out HVO.out).mono ?_)
        rintro e w8 ⟨vr, rfl, hor, hb8⟩
        have HB8 := Lib.hid hb8
        have HOR := Lib.hid (OwnP.rd hor)
        obtain ⟨Ar, cr, rfl, hcr⟩ := own_len hor
        have q0 := (hb8.cell (p := ⟨cn, 0, none⟩) hzz).trans z0
        have q1 := (hb8.cell (p := ⟨cn, 1, none⟩) hzz).trans z1
        have q2 := (hb8.cell (p := ⟨cn, 2, none⟩) hzz).trans z2
        have q3 := (hb8.cell (p := ⟨cn, 3, none⟩) hzz).trans z3
        have q4 := (hb8.cell (p := ⟨cn, 4, none⟩) hzz).trans z4
        have HP8 := Lib.hid (HP7.out.next hb8)
        have HLR8 := Lib.hid (RdAc.next HLR7.out hb8)
        clear hor hb8 z0 z1 z2 z3 z4
        have HRE := Lib.hid (refR_eq s0 l n t fun a ha => (ok_ch (HVO.out.ok a ha)).2)
        go_wp2_with (go_at_call 14; refine (rreaders_is (n := n) t HP8.out HLR8.out HNO.out HLO.out).mono ?_)
        rintro e w9 ⟨vr, rfl, hor, hb9⟩
        rw [HRE.out] at hor ⊢
        have HB9 := Lib.hid hb9
        have HOR9 := Lib.hid (OwnP.rd hor)
        have HOR8 := Lib.hid (RdP.next HOR.out hb9)
        obtain ⟨As, cs, rfl, hcs⟩ := own_len hor
        have HB49 := Lib.hid (HB7.out.trans ((HB8.out.trans (hb9.mono HB8.out.size)).mono HB7.out.size))
        obtain ⟨e0, he0⟩ : ∃ x, (rdrA l n t).1 = x := ⟨_, rfl⟩
        obtain ⟨rl, hrl⟩ : ∃ x, (rdrA l n t).2 = x := ⟨_, rfl⟩
        rw [hrl] at HOR9 HOR8 hcs hcr
        rw [hrl, he0]
        have hrlen : rl.length ≤ 1000 := by
          rw [← hrl]
          have h1 := HVO.out.rlen n
          have h2 : (rdrA l n t).2.length ≤ (rdrs n 0 l).length := rdrA_len l n t
          omega
        clear hor hb9 q0 q1 q2 q3 q4 he0 hrl HOR HB8 HB9 HRE HP8 HLR8 HV7 HP7 HLR7 HB7 HB6 HB5
        have H0 : Hid (LwIn rl.length w9 (.int .i64 (0 : Nat)) w9) := Lib.hid ⟨0, by omega, rfl, Below.refl _ _⟩
        go_wp2_with fail
        go_loopw [15] (fun i wr => LwIn rl.length w9 i wr) (fun i _ => rl.length - (intOf i).toNat)
        case atStart => exact H0.out
        case round =>
          clear H0
          obtain ⟨m, hml, rfl, hbw⟩ := hrel
          have HBI := Lib.hid hbw
          clear hbw
          by_cases hm : m < rl.length
          · have i1 : (0 : Int) ≤ (m : Int) := by omega
            have i2 : (m : Int) < (rl.length : Int) := by omega
            have i3 : decide ((m : Int) < (rl.length : Int)) = true := decide_eq_true i2
            obtain ⟨b1, o1, hbe, hbr1, yy⟩ := RdP.at_ (RdP.next HOR8.out HBI.out) inC_len hm
            subst hbe
            obtain ⟨b2, o2, hbe, hbr2, yz⟩ := RdP.at_ (RdP.next HOR9.out HBI.out) inC_len hm
            subst hbe
            have y0 : wr.cell? ⟨b1, o1 + m, none⟩ = some (.int .i64 rl[m]) := by simpa using yy 0 _ rfl
            have x0 : wr.cell? ⟨b2, o2 + m, none⟩ = some (.int .i64 rl[m]) := by simpa using yz 0 _ rfl
            clear yy yz
            obtain ⟨xi, hxi⟩ : ∃ x, rl[m] = x := ⟨_, rfl⟩
            rw [hxi] at y0 x0
            clear hxi
            go_wp2_with fail
            refine wp_region_noPanic ?_
            refine wp_region_held_drew (S := (fun (w' : World) => w'.cell? ⟨b1, o1 + m, none⟩ = some (.int .i64 xi) ∧ w'.cell? ⟨b2, o2 + m, none⟩ = some (.int .i64 xi))) (by kernel_rfl) ?_ (fun hHeld => ?_)
            · exact ⟨y0, x0⟩
            refine wpAnyH_take (i := 0) (v := ?_) rfl (by kernel_rfl) (by kernel_rfl) (by kernel_rfl) (fun _ _ _ h => h) (Or.inl ⟨by kernel_rfl, ?_⟩) hHeld ?_
            rotate_left
            · (intro w hSw; (try dsimp only at hSw); go_simp; try with_reducible rfl)
            try simp only [Act.put, List.setIfInBounds_toArray, List.set_cons_zero, List.set_cons_succ]
            refine wpAnyH_take (i := 1) (v := ?_) rfl (by kernel_rfl) (by kernel_rfl) (by kernel_rfl) (fun _ _ _ h => h) (Or.inl ⟨by kernel_rfl, ?_⟩) hHeld ?_
            rotate_left
            · (intro w hSw; (try dsimp only at hSw); go_simp; try with_reducible rfl)
            try simp only [Act.put, List.setIfInBounds_toArray, List.set_cons_zero, List.set_cons_succ]
            refine wpAnyH_take (i := 2) (v := ?_) rfl (by kernel_rfl) (by kernel_rfl) (by kernel_rfl) (fun _ _ _ h => h) (Or.inl ⟨by kernel_rfl, ?_⟩) hHeld ?_
            rotate_left
            · (intro w hSw; (try dsimp only at hSw); go_simp; try with_reducible rfl)
            try simp only [Act.put, List.setIfInBounds_toArray, List.set_cons_zero, List.set_cons_succ]
            refine wpAnyH_take (i := 3) (v := ?_) rfl (by kernel_rfl) (by kernel_rfl) (by kernel_rfl) (fun _ _ _ h => h) (Or.inl ⟨by kernel_rfl, ?_⟩) hHeld ?_
            rotate_left
            · (intro w hSw; (try dsimp only at hSw); go_simp; try with_reducible rfl)
            try simp only [Act.put, List.setIfInBounds_toArray, List.set_cons_zero, List.set_cons_succ]
            refine wpAnyH_take (i := 4) (v := ?_) rfl (by kernel_rfl) (by kernel_rfl) (by kernel_rfl) (fun _ _ _ h => h) (Or.inl ⟨by kernel_rfl, ?_⟩) hHeld ?_
            rotate_left
            · (intro w hSw; (try dsimp only at hSw); go_simp; try with_reducible rfl)
            try simp only [Act.put, List.setIfInBounds_toArray, List.set_cons_zero, List.set_cons_succ]
            refine wpAnyH_take (i := 5) (v := ?_) rfl (by kernel_rfl) (by kernel_rfl) (by kernel_rfl) (fun _ _ _ h => h) (Or.inl ⟨by kernel_rfl, ?_⟩) hHeld ?_
            rotate_left
            · (intro w hSw; (try dsimp only at hSw); go_simp; try with_reducible rfl)
            try simp only [Act.put, List.setIfInBounds_toArray, List.set_cons_zero, List.set_cons_succ]
            refine wpAnyH_take (i := 6) (v := ?_) rfl (by kernel_rfl) (by kernel_rfl) (by kernel_rfl) (fun _ _ _ h => h) (Or.inl ⟨by kernel_rfl, ?_⟩) hHeld ?_
            rotate_left
            · (intro w hSw; (try dsimp only at hSw); go_simp; try with_reducible rfl)
            try simp only [Act.put, List.setIfInBounds_toArray, List.set_cons_zero, List.set_cons_succ]
            refine wpAnyH_take (i := 7) (v := ?_) rfl (by kernel_rfl) (by kernel_rfl) (by kernel_rfl) (fun _ _ _ h => h) (Or.inl ⟨by kernel_rfl, ?_⟩) hHeld ?_
            rotate_left
            · (intro w hSw; (try dsimp only at hSw); go_simp; try with_reducible rfl)
            try simp only [Act.put, List.setIfInBounds_toArray, List.set_cons_zero, List.set_cons_succ]
            refine wpAnyH_take (i := 8) (v := ?_) rfl (by kernel_rfl) (by kernel_rfl) (by kernel_rfl) (fun _ _ _ h => h) (Or.inl ⟨by kernel_rfl, ?_⟩) hHeld ?_
            rotate_left
            · (intro w hSw; (try dsimp only at hSw); go_simp; try with_reducible rfl)
            try simp only [Act.put, List.setIfInBounds_toArray, List.set_cons_zero, List.set_cons_succ]
            refine wpAnyH_done (by kernel_rfl) ?_ _
            clear hHeld
            try simp only [List.getElem_toArray, List.getElem_cons_zero, List.getElem_cons_succ, Act.put, List.setIfInBounds_toArray, List.set_cons_zero, List.set_cons_succ]
            refine NoPanic.normal ?_
            go_wp2_with fail
            go_roundw
            case rel => exact ⟨m + 1, by omega, by go_num, HBI.out.drew⟩
            case measure => simp [intOf]; omega
          · have i3 : decide ((m : Int) < (rl.length : Int)) = false := decide_eq_false (by omega)
            go_wp2_with fail
            go_roundw
            case rel => exact ⟨k + 1, by omega, by go_num, HB49.out.trans (HBI.out.mono HB49.out.size)⟩
            case measure => simp [intOf]; omega
      · have j3 : decide ((k : Int) < 6) = false := decide_eq_false (by omega)
        have ONCE : True := trivial
        go_wp2_with (clear ONCE; go_at_call 12; refine (objects_is wr).mono ?_)
        rintro e w5 ⟨go, co, rfl, how5, hb5⟩
        have HB5 := Lib.hid (HBW.out.trans (hb5.mono HBW.out.size))
        clear how5 hb5
        go_wp2_with fail
        go_ret
        exact ⟨rfl, by rw [HCB.out]; exact HB04.out.trans (HB5.out.mono hsz4)⟩
  · have HB4 := Lib.hid hb4
    have HLR4 := Lib.hid (RdAc.next HLR3.out hb4)
    have HU4 := Lib.hid (HU3.out.next hb4 HU3.out.1)
    obtain ⟨E, hE⟩ : ∃ E, bldR [] l = E := ⟨_, rfl⟩
    rw [hE] at hbad ⊢
    have HE := Lib.hid hE
    have n1 : (E == 0) = false := by rw [beq_eq_false_iff_ne]; exact hbad
    have n2 : (E != 0) = true := by rw [bne_iff_ne]; exact hbad
    clear hb4 hE
    go_wp2_with (go_at_call 11; refine (rcheck_is HLR4.out HU4.out HAR.out (by omega)).mono ?_; rintro e w5 ⟨rfl, hb5⟩; rw [HE.out]; have HB5 := Lib.hid hb5; clear hb5)
    go_ret
    exact ⟨rfl, by rw [HCB.out]; exact HB03.out.trans ((HB4.out.trans (HB5.out.mono HB4.out.size)).mono HSZ.out)⟩
end Go.Proofs.YtobkmkplhbaepaaDoor
