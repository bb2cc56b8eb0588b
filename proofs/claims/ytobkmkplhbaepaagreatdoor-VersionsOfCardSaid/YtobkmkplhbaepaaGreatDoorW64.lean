/- Walks of layer 46: the law of names and versions. -/
import Derived.Test.YtobkmkplhbaepaaGreatDoorHZ
import Derived.Test.YtobkmkplhbaepaaGreatDoorW47
import Derived.Test.YtobkmkplhbaepaaGreatDoorW63
namespace Go.Proofs.YtobkmkplhbaepaaGreatDoor
open Go.RowKit
set_option linter.unusedSimpArgs false
set_option linter.unusedVariables false
attribute [local go_sem ↓] Go.wp_at_zero Go.wp_at_succ
def OfLoop (F : Nm → Bool) (w : World) (v i : Value) (wr : World) : Prop := ∃ k : Nat, k ≤ 6 ∧ i = .int .i64 k ∧ OwnP 40 5 nmC wr w.heap.size v ((objs.take k).filter F) ∧ Below w.heap.size w wr
set_option maxRecDepth 100000 in
set_option maxHeartbeats 4000000 in
theorem law_of {w : World} {v1 v2 : Value} {r : Rn} (ta : Int) (hit : RaIt w.heap.size w v1 r.base) (hac : RaAct w.heap.size w v2 r.acts) (hu : UseAt w) : Calls Tryz.prog 3 #[.agg #[v1, v2], .int .i64 ta] w fun e w' => e = .returned (.bool true) ∧ Below w.heap.size w w' := by
  have ha := (Below.refl w.heap.size w).alloc (Nat.le_refl _) (.cells #[v1, v2] 25)
  have hz : w.heap.size < (w.alloc (.cells #[v1, v2] 25)).heap.size := by simp
  have zb := Blk.new w 25 #[v1, v2]
  have z0 := zb.cell 0
  have z1 := zb.cell 1
  simp only [List.getElem?_toArray, List.getElem?_cons_zero, List.getElem?_cons_succ] at z0 z1
  obtain ⟨A1, c1, rfl, _, _⟩ := hit.form
  obtain ⟨A2, c2, rfl, _, _⟩ := RowRa.form hac
  have HA := Lib.hid ha
  have HU := Lib.hid (hu.next ha hu.1)
  have HLB := Lib.hid hit.len
  have HOK := Lib.hid hac.ok
  have HIT := Lib.hid ((hit.below ha).next_ (Nat.le_of_lt hz))
  have HAC := Lib.hid ((hac.below ha).next_ (Nat.le_of_lt hz))
  clear hit hac hu ha zb
  go_enter Tryz.func3, Tryz.ntmps3
  go_upto_region 1 with (fail)
  generalize w.alloc (.cells #[.slice A1 r.base.length c1, .slice A2 r.acts.length c2] 25) = W at *
  generalize hcb : w.heap.size = cb at *
  have HCB := Lib.hid hcb
  clear hcb
  go_upto_region 3 with (go_at_call 8; refine (known_is HU.out).mono ?_; rintro e w1 ⟨rfl, hb1⟩; have HB1 := Lib.hid hb1; clear hb1)
  have hc1 : cb < w1.heap.size := Nat.lt_of_lt_of_le hz HB1.out.size
  have HU1 := Lib.hid (HU.out.next HB1.out HU.out.1)
  have HIT1 := Lib.hid ((HIT.out.below HB1.out).next_ HB1.out.size)
  have HAC1 := Lib.hid ((HAC.out.below HB1.out).next_ HB1.out.size)
  replace z0 := (HB1.out.cell (p := ⟨cb, 0, none⟩) hz).trans z0
  replace z1 := (HB1.out.cell (p := ⟨cb, 1, none⟩) hz).trans z1
  refine wp_region_noPanic ?_
  refine wp_region_held_drew (S := (fun (w' : World) => w'.cell? ⟨cb, 0, none⟩ = some (.slice A1 r.base.length c1) ∧ w'.cell? ⟨cb, 1, none⟩ = some (.slice A2 r.acts.length c2))) (by kernel_rfl) ?_ (fun hHeld => ?_)
  · exact ⟨z0, z1⟩
  refine wpAnyH_take (i := 0) (v := ?_) rfl (by kernel_rfl) (by kernel_rfl) (by kernel_rfl) (fun _ _ _ h => h) (Or.inl ⟨by kernel_rfl, ?_⟩) hHeld ?_
  rotate_left
  · (intro w hSw; (try dsimp only at hSw); go_simp; try with_reducible rfl)
  try simp only [Act.put, List.setIfInBounds_toArray, List.set_cons_zero, List.set_cons_succ]
  refine wpAnyH_take (i := 2) (v := ?_) rfl (by kernel_rfl) (by kernel_rfl) (by kernel_rfl) (fun _ _ _ h => h) (Or.inl ⟨by kernel_rfl, ?_⟩) hHeld ?_
  rotate_left
  · (intro w hSw; (try dsimp only at hSw); go_simp; try with_reducible rfl)
  try simp only [Act.put, List.setIfInBounds_toArray, List.set_cons_zero, List.set_cons_succ]
  refine wpAnyH_ready (rs := [1]) (by kernel_rfl) (by simp) ?_
  refine AllReadyH.cons rfl (fun K hK => ?_) AllReadyH.nil
  go_simp
  refine (base_is (w := w1.drew) (r := r) (HIT1.out.below (Below.refl _ _).drew) HLB.out (HU1.out.next (Below.refl w1.heap.size w1).drew HU1.out.1)).mono ?_; rintro e w2 ⟨p, rfl, hp, hb2'⟩; have hb2 := (Below.refl w1.heap.size w1).drew.trans hb2'; have HB2 := Lib.hid hb2; have HP2 := Lib.hid hp; clear hb2' hp
  try (go_wp2_with fail)
  refine hK.out _ _ ?_ (fun hNew => ?_)
  · exact ⟨(hb2.cell (p := ⟨cb, 0, none⟩) hc1).trans z0, (hb2.cell (p := ⟨cb, 1, none⟩) hc1).trans z1⟩
  clear hK K hHeld
  have hHeld := hNew
  clear hNew
  try simp only [Act.put, List.setIfInBounds_toArray, List.set_cons_zero, List.set_cons_succ]
  refine wpAnyH_ready (rs := [3]) (by kernel_rfl) (by simp) ?_
  refine AllReadyH.cons rfl (fun K hK => ?_) AllReadyH.nil
  go_simp
  refine (actions_is (r := r) ((HAC1.out.below HB2.out).next_ HB2.out.size)).mono ?_; rintro e w3 ⟨vl, rfl, hl, hb3'⟩; have HB3 := Lib.hid hb3'; have HL3 := Lib.hid hl; clear hb3' hl
  try (go_wp2_with fail)
  refine hK.out _ _ ?_ (fun hNew => ?_)
  · exact ⟨(HB3.out.cell (p := ⟨cb, 0, none⟩) (Nat.lt_of_lt_of_le hc1 HB2.out.size)).trans ((HB2.out.cell (p := ⟨cb, 0, none⟩) hc1).trans z0), (HB3.out.cell (p := ⟨cb, 1, none⟩) (Nat.lt_of_lt_of_le hc1 HB2.out.size)).trans ((HB2.out.cell (p := ⟨cb, 1, none⟩) hc1).trans z1)⟩
  clear hK K hHeld
  have hHeld := hNew
  clear hNew
  try simp only [Act.put, List.setIfInBounds_toArray, List.set_cons_zero, List.set_cons_succ]
  refine wpAnyH_take (i := 4) (v := ?_) rfl (by kernel_rfl) (by kernel_rfl) (by kernel_rfl) (fun _ _ _ h => h) (Or.inl ⟨by kernel_rfl, ?_⟩) hHeld ?_
  rotate_left
  · (intro w hSw; (try dsimp only at hSw); go_simp; try with_reducible rfl)
  try simp only [Act.put, List.setIfInBounds_toArray, List.set_cons_zero, List.set_cons_succ]
  refine wpAnyH_take (i := 5) (v := ?_) rfl (by kernel_rfl) (by kernel_rfl) (by kernel_rfl) (fun _ _ _ h => h) (Or.inl ⟨by kernel_rfl, ?_⟩) hHeld ?_
  rotate_left
  · (intro w hSw; (try dsimp only at hSw); go_simp; try with_reducible rfl)
  try simp only [Act.put, List.setIfInBounds_toArray, List.set_cons_zero, List.set_cons_succ]
  refine wpAnyH_done (by kernel_rfl) ?_ _
  clear hHeld
  try simp only [List.getElem_toArray, List.getElem_cons_zero, List.getElem_cons_succ, Act.put, List.setIfInBounds_toArray, List.set_cons_zero, List.set_cons_succ]
  refine NoPanic.normal ?_
  obtain ⟨s0, hs0⟩ : ∃ s, baseS r = s := ⟨_, rfl⟩
  obtain ⟨l, hl⟩ : ∃ l, actsS r = l := ⟨_, rfl⟩
  have HAR : Hid (∀ a ∈ l, AcR a) := Lib.hid (by rw [← hl]; exact acts_r HOK.out)
  have HSV : Hid (StV s0) := Lib.hid (by rw [← hs0]; exact base_v r)
  have hll : l.length ≤ 20 := by rw [← hl]; exact acts_len r
  rw [hs0] at HP2
  rw [hl] at HL3
  have HP3 := Lib.hid (HP2.out.next HB3.out)
  have HLR3 := Lib.hid (RowOwn.rd HL3.out)
  have HB13 := Lib.hid (HB2.out.trans (HB3.out.mono HB2.out.size))
  have HU3 := Lib.hid (HU1.out.next HB13.out HU1.out.1)
  have HB03 := Lib.hid (HA.out.trans ((HB1.out.trans (HB13.out.mono HB1.out.size)).mono (Nat.le_of_lt hz)))
  have hsz3 : cb ≤ w3.heap.size := Nat.le_trans (Nat.le_of_lt hc1) HB13.out.size
  have HSZ : Hid (cb ≤ w3.heap.size) := Lib.hid hsz3
  obtain ⟨Al, cl, rfl, hcl⟩ := RowRd.form HLR3.out
  clear hs0 hl hb2 HB2 HB3 HP2 HL3 HIT HAC HIT1 HAC1 HU HU1 HA HB1 z0 z1 HB13 HLB HOK hc1
  go_wp2_with (go_at_call 11; refine (build_is HP3.out HLR3.out HU3.out HAR.out HSV.out (by omega)).mono ?_)
  rintro e w4 ⟨hb4, ⟨hok, g, F, rfl, hv4, _⟩ | ⟨hbad, rfl⟩⟩
  · have HB4 := Lib.hid hb4
    have HV4 := Lib.hid hv4
    have HVO : Hid (VOk l) := Lib.hid ⟨ok_all hok, HAR.out, by omega⟩
    have HLO : Hid (LOk l) := Lib.hid ⟨HAR.out, by omega⟩
    have HP4 := Lib.hid (HP3.out.next hb4)
    have HLR4 := Lib.hid (RdAc.next HLR3.out hb4)
    have HB04 := Lib.hid (HB03.out.trans (hb4.mono hsz3))
    have hsz4 : cb ≤ w4.heap.size := Nat.le_trans hsz3 hb4.size
    clear hb4 hv4 hok HB03 HP3 HLR3 HB4
    obtain ⟨F, hF⟩ : ∃ F, hasF s0 l = F := ⟨_, rfl⟩
    have HFF := Lib.hid hF
    obtain ⟨i0, hi, hz0, hz1, hz2⟩ := info_parts infoNm
    have H0 : Hid (OfLoop F w4 (.slice none 0 0) (.int .i64 (0 : Nat)) w4) := Lib.hid ⟨0, by omega, rfl, OwnP.nil, Below.refl _ _⟩
    clear hF
    go_wp2_with fail
    go_loopw [9, 10] (fun v i wr => OfLoop F w4 v i wr) (fun _ i _ => 6 - (intOf i).toNat)
    case atStart => exact H0.out
    case round =>
      clear H0
      obtain ⟨k, hk6, rfl, how, hbw⟩ := hrel
      have HBW := Lib.hid hbw
      have HOW := Lib.hid how
      obtain ⟨A5, c5, rfl, hc5⟩ := own_len how
      clear how hbw
      by_cases hk : k < 6
      · have j1 : (0 : Int) ≤ (k : Int) := by omega
        have j2 : (k : Int) < 6 := by omega
        have j3 : decide ((k : Int) < 6) = true := decide_eq_true j2
        obtain ⟨n, hn⟩ : ∃ n, objs[k]'(by rw [objs_len]; exact hk) = n := ⟨_, rfl⟩
        have HNN := Lib.hid hn
        have HNB : Hid (IsOb n) := Lib.hid (by rw [← hn]; exact List.getElem_mem _)
        have HFT := Lib.hid (filter_take F objs k (by rw [objs_len]; exact hk))
        rw [hn] at HFT
        obtain ⟨nl, hnl⟩ : ∃ nl, (objs.take k).filter F = nl := ⟨_, rfl⟩
        have hnle : nl.length ≤ 6 := by rw [← hnl]; exact Nat.le_trans (List.length_filter_le _ _) (by rw [List.length_take, objs_len]; omega)
        rw [hnl] at HOW HFT hc5 ⊢
        clear hn hnl
        have ONCE : True := trivial
        go_wp2_with (clear ONCE; go_at_call 13; refine (objects_is wr).mono ?_)
        rintro e w6 ⟨go, co, rfl, how6, hb6⟩
        have HB6 := Lib.hid (HBW.out.trans (hb6.mono HBW.out.size))
        have HBR6 := Lib.hid hb6
        clear how6 hb6
        have ONCE : True := trivial
        go_wp2_with (clear ONCE; go_at_call 13; refine (objects_is w6).mono ?_)
        rintro e w7 ⟨go, co, rfl, how7, hb7⟩
        have HB7 := Lib.hid (HB6.out.trans (hb7.mono HB6.out.size))
        have HBR7 := Lib.hid (HBR6.out.trans (hb7.mono HBR6.out.size))
        obtain ⟨b, o, hbe, hbr, y0, y1, y2, y3, y4⟩ := RdNm.piece (show RdNm w7 (.slice (some ⟨go, 0, none⟩) 6 co) objs from Rd.of_own how7) (k := k) (by rw [objs_len]; exact hk)
        injection hbe with hbe
        injection hbe with e1 e2
        subst e1 e2
        simp only [Nat.zero_add] at y0 y1 y2 y3 y4
        rw [HNN.out] at y0 y1 y2 y3 y4
        have HBX := Lib.hid (HB7.out.alloc HB7.out.size (.cells #[.int .i64 n.kind, .string (bs n.owner), .int .i64 n.num, .int .i64 n.idx, .string (bs n.text)] 40))
        have HBRX := Lib.hid (HBR7.out.alloc HBR7.out.size (.cells #[.int .i64 n.kind, .string (bs n.owner), .int .i64 n.num, .int .i64 n.idx, .string (bs n.text)] 40))
        have zb := Blk.new w7 40 #[.int .i64 n.kind, .string (bs n.owner), .int .i64 n.num, .int .i64 n.idx, .string (bs n.text)]
        have t0 := zb.cell 0
        have t1 := zb.cell 1
        have t2 := zb.cell 2
        have t3 := zb.cell 3
        have t4 := zb.cell 4
        simp only [List.getElem?_toArray, List.getElem?_cons_zero, List.getElem?_cons_succ] at t0 t1 t2 t3 t4
        have hxb : w7.heap.size < (w7.alloc (.cells #[.int .i64 n.kind, .string (bs n.owner), .int .i64 n.num, .int .i64 n.idx, .string (bs n.text)] 40)).heap.size := by simp
        have HXB : Hid (∀ gg, (Value.slice A5 nl.length c5).ownBlock = some gg → gg < w7.heap.size) := Lib.hid fun gg h => Nat.lt_of_lt_of_le (World.ownsRow.lt HOW.out gg h).2 HBR7.out.size
        clear how7 hb7 zb
        go_upto_region 12 with (fail)
        clear y0 y1 y2 y3 y4
        generalize w7.alloc (.cells #[.int .i64 n.kind, .string (bs n.owner), .int .i64 n.num, .int .i64 n.idx, .string (bs n.text)] 40) = wx at *
        generalize w7.heap.size = xb at *
        have HPX := Lib.hid (HP4.out.next HBX.out)
        have HLRX := Lib.hid (RdAc.next HLR4.out HBX.out)
        go_upto_region 13 with (go_at_call 14; refine (rof_is (n := n) HPX.out HLRX.out HNB.out.own HLO.out).mono ?_; rintro e w8 ⟨vv, rfl, hov, hb8⟩; have HB8 := Lib.hid (HBX.out.trans (hb8.mono HBX.out.size)); have HBR8 := Lib.hid (HBRX.out.trans (hb8.mono HBRX.out.size)); have HRV := Lib.hid (show RdVe w8 vv (ver0 s0 n :: vers n 0 l) from OwnP.rd hov); replace t0 := (hb8.cell (p := ⟨xb, 0, none⟩) hxb).trans t0; replace t1 := (hb8.cell (p := ⟨xb, 1, none⟩) hxb).trans t1; replace t2 := (hb8.cell (p := ⟨xb, 2, none⟩) hxb).trans t2; replace t3 := (hb8.cell (p := ⟨xb, 3, none⟩) hxb).trans t3; replace t4 := (hb8.cell (p := ⟨xb, 4, none⟩) hxb).trans t4; replace hxb := Nat.lt_of_lt_of_le hxb hb8.size; clear hov hb8)
        have HVL := Lib.hid (show (vers n 0 l).length ≤ 100000 from Nat.le_trans (HVO.out.vlen n) (by omega))
        obtain ⟨Av, cv, rfl, hcv⟩ := RdP.form HRV.out
        obtain ⟨bv, ov, hbe, hbv, u0, u1, u2⟩ := RdVe.piece HRV.out (k := 0) (by simp)
        subst hbe
        simp only [List.getElem_cons_zero, Nat.zero_mul, Nat.add_zero] at u0 u1 u2
        obtain ⟨q, hq⟩ : ∃ q, F n = q := ⟨_, rfl⟩
        have HQF := Lib.hid hq
        have HFD : Hid (F n = (decide (1 < (verL s0 l n).length) || !(ver0 s0 n).absent)) := Lib.hid (by rw [← HFF.out]; rfl)
        obtain ⟨m, hm⟩ : ∃ m, (ver0 s0 n :: vers n 0 l).length = m := ⟨_, rfl⟩
        have HM := Lib.hid hm
        have hml : m ≤ 1001 := by rw [← hm, List.length_cons]; have := HVO.out.vlen n; omega
        have hmp : 0 < m := by rw [← hm]; simp
        rw [hm] at hcv HRV
        simp only [hm]
        obtain ⟨ab, hab⟩ : ∃ ab, (ver0 s0 n).absent = ab := ⟨_, rfl⟩
        have HAB := Lib.hid hab
        rw [hab] at u2
        clear u0 u1 hq hm hab
        go_cut [56] (fun v56 wz => v56 = .bool q ∧ wz = w8)
        case first =>
          by_cases h1 : 1 < m
          · have g1 : decide ((1 : Int) < (m : Int)) = true := decide_eq_true (by omega)
            have g2 : decide (1 < m) = true := decide_eq_true h1
            have HH1 := Lib.hid h1
            go_wp2_with fail
            go_meet
            case rel => exact ⟨by rw [← HQF.out, HFD.out, show (verL s0 l n).length = m from HM.out, decide_eq_true HH1.out]; rfl, rfl⟩
          · have g1 : decide ((1 : Int) < (m : Int)) = false := decide_eq_false (by omega)
            have g2 : decide (1 < m) = false := decide_eq_false h1
            have j1 : (0 : Int) < (m : Int) := by omega
            have HH1 := Lib.hid h1
            go_wp2_with fail
            go_meet
            case rel => exact ⟨by rw [← HQF.out, HFD.out, show (verL s0 l n).length = m from HM.out, decide_eq_false HH1.out, HAB.out]; rfl, rfl⟩
        case rest =>
          obtain ⟨rfl, hwz⟩ := hcut
          have hwz2 := hwz.symm
          clear hwz
          subst hwz2
          clear u2
          have HO8 := Lib.hid (OwnP.next HOW.out HBR8.out)
          go_upto_if 56 with (fail)
          go_cut [9] (fun v9 wz => OwnP 40 5 nmC wz w4.heap.size v9 ((objs.take (k + 1)).filter F) ∧ Below w4.heap.size w8 wz ∧ RdVe wz (.slice (some ⟨bv, ov, none⟩) m cv) (ver0 s0 n :: vers n 0 l) ∧ wz.cell? ⟨xb, 0, none⟩ = some (.int .i64 n.kind) ∧ wz.cell? ⟨xb, 1, none⟩ = some (.string (bs n.owner)) ∧ wz.cell? ⟨xb, 2, none⟩ = some (.int .i64 n.num) ∧ wz.cell? ⟨xb, 3, none⟩ = some (.int .i64 n.idx) ∧ wz.cell? ⟨xb, 4, none⟩ = some (.string (bs n.text)) ∧ xb < wz.heap.size)
          case first =>
            cases q with
            | true =>
              go_wp2_with (at_builtin; refine wpList_append_w _ rfl _ _ _ rfl w4.heap.size 40 i0 _ 5 56 Tryz.underlying36 hi hz0 hz1 hz2 rfl (by omega) (.slice A5 nl.length c5) nl.length (nl.flatMap nmC) rfl (own_next HO8.out ((Below.refl _ _).alloc (Nat.le_refl _) _)) (.slice (some ⟨w8.heap.size, 0, none⟩) 1 1) 1 [.int .i64 n.kind, .string (bs n.owner), .int .i64 n.num, .int .i64 n.idx, .string (bs n.text)] rfl (Rd.of_own (own_new w8 0 40 5 [.int .i64 n.kind, .string (bs n.owner), .int .i64 n.num, .int .i64 n.idx, .string (bs n.text)] rfl (Nat.zero_le _))) (by omega) rfl (by simp [Value.oneCell']) (by unfold maxLen; omega) (by omega) (by have := HB8.out.size; simp at this ⊢; omega) ?_; intro v5 w10 hown5 hg5 hat5; have HOW5 := Lib.hid hown5; have HG5 := Lib.hid hg5; clear hown5 hg5 hat5)
              go_meet
              case rel =>
                have hba := (Below.refl w8.heap.size w8).alloc (Nat.le_refl _) (.cells #[.int .i64 n.kind, .string (bs n.owner), .int .i64 n.num, .int .i64 n.idx, .string (bs n.text)] 40)
                have hoo := own_next HO8.out hba
                have hbk : w10.heap[xb]? = (w8.alloc (.cells #[.int .i64 n.kind, .string (bs n.owner), .int .i64 n.num, .int .i64 n.idx, .string (bs n.text)] 40)).heap[xb]? := HG5.out.block xb (Nat.lt_of_lt_of_le hxb hba.size) (fun e => by have := HXB.out xb e.symm; omega)
                have hkp : Kept [40] w8 w10 := (Kept.of_below _ hba).trans (Kept.of_own _ hoo HG5.out rfl)
                refine ⟨?_, below_own (hba.mono HB8.out.size) hoo HG5.out (Nat.le_refl _) (by have := HB8.out.size; simp; omega), RdP.keep HRV.out hkp rfl, (World.cell?_of_block (a := ⟨xb, 0, none⟩) hbk).trans ((World.cell?_alloc_lt w8 _ _ hxb).trans t0), (World.cell?_of_block (a := ⟨xb, 1, none⟩) hbk).trans ((World.cell?_alloc_lt w8 _ _ hxb).trans t1), (World.cell?_of_block (a := ⟨xb, 2, none⟩) hbk).trans ((World.cell?_alloc_lt w8 _ _ hxb).trans t2), (World.cell?_of_block (a := ⟨xb, 3, none⟩) hbk).trans ((World.cell?_alloc_lt w8 _ _ hxb).trans t3), (World.cell?_of_block (a := ⟨xb, 4, none⟩) hbk).trans ((World.cell?_alloc_lt w8 _ _ hxb).trans t4), Nat.lt_of_lt_of_le hxb (Nat.le_trans hba.size HG5.out.size)⟩
                rw [HFT.out, if_pos HQF.out]
                exact OwnP.snoc HOW5.out
            | false =>
              go_wp2_with fail
              go_meet
              case rel => exact ⟨by rw [HFT.out, if_neg (by rw [HQF.out]; exact Bool.false_ne_true), List.append_nil]; exact HO8.out, Below.refl _ _, HRV.out, t0, t1, t2, t3, t4, hxb⟩
          case rest =>
            clear t0 t1 t2 t3 t4 hxb
            obtain ⟨hox, hbz, hrvz, t0, t1, t2, t3, t4, hxb⟩ := hcut
            obtain ⟨wz, hwz⟩ : ∃ W, W = wc := ⟨_, rfl⟩
            subst hwz
            have HOZ := Lib.hid hox
            have HBZ := Lib.hid (HB8.out.trans hbz)
            have HRVz := Lib.hid hrvz
            have HVZ := Lib.hid (HV4.out.next HBZ.out)
            clear hox hbz hrvz
            go_upto_region 17 with (first
              | (go_at_call 16; refine (of_is (n := n) HVZ.out HNB.out.own HVO.out).mono ?_; rintro e wa ⟨va, rfl, hoa, hba⟩; have HRa := Lib.hid (show RdVe wa va (ver0 s0 n :: vers n 0 l) from OwnP.rd hoa); have HBRa := Lib.hid hba; have HRWa := Lib.hid (RdP.next HRVz.out hba); replace t0 := (hba.cell (p := ⟨xb, 0, none⟩) hxb).trans t0; replace t1 := (hba.cell (p := ⟨xb, 1, none⟩) hxb).trans t1; replace t2 := (hba.cell (p := ⟨xb, 2, none⟩) hxb).trans t2; replace t3 := (hba.cell (p := ⟨xb, 3, none⟩) hxb).trans t3; replace t4 := (hba.cell (p := ⟨xb, 4, none⟩) hxb).trans t4; replace hxb := Nat.lt_of_lt_of_le hxb hba.size; clear hoa hba)
              | (go_at_call 15; refine (rsame_is HRa.out HRWa.out (by rw [HM.out]; omega) (by rw [HM.out]; omega)).mono ?_; rintro e wb ⟨rfl, hbb⟩; rw [decide_eq_true rfl]; have HBRb0 := Lib.hid (HBRa.out.trans (hbb.mono HBRa.out.size)); replace t0 := (hbb.cell (p := ⟨xb, 0, none⟩) hxb).trans t0; replace t1 := (hbb.cell (p := ⟨xb, 1, none⟩) hxb).trans t1; replace t2 := (hbb.cell (p := ⟨xb, 2, none⟩) hxb).trans t2; replace t3 := (hbb.cell (p := ⟨xb, 3, none⟩) hxb).trans t3; replace t4 := (hbb.cell (p := ⟨xb, 4, none⟩) hxb).trans t4; replace hxb := Nat.lt_of_lt_of_le hxb hbb.size; clear hbb))
            have HBb := Lib.hid (HBZ.out.trans (HBRb0.out.mono HBZ.out.size))
            have HBRb := HBRb0
            have HVB := Lib.hid (HV4.out.next HBb.out)
            have HOX := Lib.hid (OwnP.next HOZ.out HBRb.out)
            have HRV2 := Lib.hid (RdP.next HRVz.out HBRb.out)
            by_cases hir : 0 ≤ ta ∧ ta ≤ (l.length : Int)
            · have HIR := Lib.hid hir
              have a1 : decide (ta < 0) = false := decide_eq_false (by omega)
              have a2 : decide ((l.length : Int) < ta) = false := decide_eq_false (by omega)
              obtain ⟨p0, hp0⟩ : ∃ x, befr ta (ver0 s0 n) (vers n 0 l) = x := ⟨_, rfl⟩
              obtain ⟨pi, pv, pb⟩ := p0
              have HPE := Lib.hid hp0
              clear hir hp0
              go_upto_region 18 with (go_at_call 17; refine (before_is (n := n) ta HVB.out HNB.out.own HVO.out).mono ?_; rintro e wc ⟨rfl, hbc⟩; rw [if_pos HIR.out, HPE.out]; simp only [veV]; have HBc := Lib.hid (HBb.out.trans (hbc.mono HBb.out.size)); have HBRc := Lib.hid (HBRb.out.trans (hbc.mono HBRb.out.size)); clear hbc)
              have zb := Blk.new wc 44 #[.int .i64 pi, .string (bs pv), .bool pb]
              have q0 := zb.cell 0
              have q1 := zb.cell 1
              have q2 := zb.cell 2
              simp only [List.getElem?_toArray, List.getElem?_cons_zero, List.getElem?_cons_succ] at q0 q1 q2
              have hyb : wc.heap.size < (wc.alloc (.cells #[.int .i64 pi, .string (bs pv), .bool pb] 44)).heap.size := by simp
              have hev := fun W => neqVe ⟨pi, pv, pb⟩ ⟨pi, pv, pb⟩ true (by simp) W
              have hgv := guardVe
              unfold veV at hev
              clear zb
              go_upto_region 21 with (fail)
              have HBd := Lib.hid (HBc.out.alloc HBc.out.size (.cells #[.int .i64 pi, .string (bs pv), .bool pb] 44))
              have HBRd := Lib.hid (HBRc.out.alloc HBRc.out.size (.cells #[.int .i64 pi, .string (bs pv), .bool pb] 44))
              have HRVd := Lib.hid (RdP.next HRVz.out HBRd.out)
              generalize wc.alloc (.cells #[.int .i64 pi, .string (bs pv), .bool pb] 44) = wd at *
              generalize wc.heap.size = yb at *
              refine wp_region_noPanic ?_
              refine wp_region_held_drew (S := (fun (w' : World) => w'.cell? ⟨yb, 0, none⟩ = some (.int .i64 pi) ∧ w'.cell? ⟨yb, 1, none⟩ = some (.string (bs pv)) ∧ w'.cell? ⟨yb, 2, none⟩ = some (.bool pb))) (by kernel_rfl) ?_ (fun hHeld => ?_)
              · exact ⟨q0, q1, q2⟩
              refine wpAnyH_take (i := 0) (v := ?_) rfl (by kernel_rfl) (by kernel_rfl) (by kernel_rfl) (fun _ _ _ h => h) (Or.inl ⟨by kernel_rfl, ?_⟩) hHeld ?_
              rotate_left
              · (intro w hSw; (try dsimp only at hSw); go_simp; try with_reducible rfl)
              try simp only [Act.put, List.setIfInBounds_toArray, List.set_cons_zero, List.set_cons_succ]
              refine wpAnyH_take (i := 1) (v := ?_) rfl (by kernel_rfl) (by kernel_rfl) (by kernel_rfl) (fun _ _ _ h => h) (Or.inl ⟨by kernel_rfl, ?_⟩) hHeld ?_
              rotate_left
              · (intro w hSw; (try dsimp only at hSw); go_simp; try with_reducible rfl)
              try simp only [Act.put, List.setIfInBounds_toArray, List.set_cons_zero, List.set_cons_succ]
              refine wpAnyH_take (i := 2) (v := ?_) rfl (by kernel_rfl) (by kernel_rfl) (by kernel_rfl) (fun _ _ _ h => h) (Or.inl ⟨by kernel_rfl, ?_⟩) hHeld ?_
              rotate_left
              · (intro w hSw; (try dsimp only at hSw); go_simp; try with_reducible rfl)
              try simp only [Act.put, List.setIfInBounds_toArray, List.set_cons_zero, List.set_cons_succ]
              refine wpAnyH_take (i := 3) (v := ?_) rfl (by kernel_rfl) (by kernel_rfl) (by kernel_rfl) (fun _ _ _ h => h) (Or.inl ⟨by kernel_rfl, ?_⟩) hHeld ?_
              rotate_left
              · (intro w hSw; (try dsimp only at hSw); go_simp; try with_reducible rfl)
              try simp only [Act.put, List.setIfInBounds_toArray, List.set_cons_zero, List.set_cons_succ]
              refine wpAnyH_take (i := 4) (v := ?_) rfl (by kernel_rfl) (by kernel_rfl) (by kernel_rfl) (fun _ _ _ h => h) (Or.inl ⟨by kernel_rfl, ?_⟩) hHeld ?_
              rotate_left
              · (intro w hSw; (try dsimp only at hSw); go_simp; try with_reducible rfl)
              try simp only [Act.put, List.setIfInBounds_toArray, List.set_cons_zero, List.set_cons_succ]
              refine wpAnyH_take (i := 5) (v := ?_) rfl (by kernel_rfl) (by kernel_rfl) (by kernel_rfl) (fun _ _ _ h => h) (Or.inl ⟨by kernel_rfl, ?_⟩) hHeld ?_
              rotate_left
              · (intro w hSw; (try dsimp only at hSw); go_simp; try with_reducible rfl)
              try simp only [Act.put, List.setIfInBounds_toArray, List.set_cons_zero, List.set_cons_succ]
              refine wpAnyH_ready (rs := [6]) (by kernel_rfl) (by simp) ?_
              refine AllReadyH.cons rfl (fun K hK => ?_) AllReadyH.nil
              go_simp
              refine (rbefore_is (v0 := ver0 s0 n) (vs := vers n 0 l) ta (RdP.drew HRVd.out) HVL.out).mono ?_; rintro e we ⟨rfl, hbe⟩; rw [HPE.out]; (try simp only [veV]); have HBe := Lib.hid ((Below.refl wd.heap.size wd).drew.trans hbe); clear hbe
              try (go_wp2_with fail)
              refine hK.out _ _ ?_ (fun hNew => ?_)
              · exact ⟨(HBe.out.cell (p := ⟨yb, 0, none⟩) hyb).trans q0, (HBe.out.cell (p := ⟨yb, 1, none⟩) hyb).trans q1, (HBe.out.cell (p := ⟨yb, 2, none⟩) hyb).trans q2⟩
              clear hK K hHeld
              have hHeld := hNew
              clear hNew
              try simp only [Act.put, List.setIfInBounds_toArray, List.set_cons_zero, List.set_cons_succ]
              refine wpAnyH_take (i := 7) (v := ?_) rfl (by kernel_rfl) (by kernel_rfl) (by kernel_rfl) (fun _ _ _ h => h) (Or.inl ⟨by kernel_rfl, ?_⟩) hHeld ?_
              rotate_left
              · (intro w hSw; (try dsimp only at hSw); go_simp; try with_reducible rfl)
              try simp only [Act.put, List.setIfInBounds_toArray, List.set_cons_zero, List.set_cons_succ]
              refine wpAnyH_take (i := 8) (v := ?_) rfl (by kernel_rfl) (by kernel_rfl) (by kernel_rfl) (fun _ _ _ h => h) (Or.inl ⟨by kernel_rfl, ?_⟩) hHeld ?_
              rotate_left
              · (intro w hSw; (try dsimp only at hSw); go_simp; try with_reducible rfl)
              try simp only [Act.put, List.setIfInBounds_toArray, List.set_cons_zero, List.set_cons_succ]
              refine wpAnyH_done (by kernel_rfl) ?_ _
              clear hHeld
              try simp only [List.getElem_toArray, List.getElem_cons_zero, List.getElem_cons_succ, Act.put, List.setIfInBounds_toArray, List.set_cons_zero, List.set_cons_succ]
              refine NoPanic.normal ?_
              clear q0 q1 q2 hev
              go_wp2_with fail
              go_roundw
              case rel =>
                exact ⟨k + 1, by omega, by go_num, OwnP.next HOZ.out (HBRd.out.trans (HBe.out.mono HBRd.out.size)), HBd.out.trans (HBe.out.mono HBd.out.size)⟩
              case measure => simp [intOf]; omega
            · have HIR := Lib.hid hir
              by_cases h1 : ta < 0
              · have a1 : decide (ta < 0) = true := decide_eq_true h1
                go_upto_region 18 with (go_at_call 17; refine (before_is (n := n) ta HVB.out HNB.out.own HVO.out).mono ?_; rintro e wc ⟨rfl, hbc⟩; rw [if_neg HIR.out]; simp only [veV]; rw [show bs [] = ⟨#[]⟩ from rfl]; have HBc := Lib.hid (HBb.out.trans (hbc.mono HBb.out.size)); have HBRc := Lib.hid (HBRb.out.trans (hbc.mono HBRb.out.size)); clear hbc)
                have zb := Blk.new wc 44 #[.int .i64 0, .string ⟨#[]⟩, .bool false]
                have q0 := zb.cell 0
                have q1 := zb.cell 1
                have q2 := zb.cell 2
                simp only [List.getElem?_toArray, List.getElem?_cons_zero, List.getElem?_cons_succ] at q0 q1 q2
                have hev : ∀ W, (binOp .neq 44 (.agg #[.int .i64 0, .string ⟨#[]⟩, .bool false]) (.agg #[.int .i64 0, .string ⟨#[]⟩, .bool false])).run Tryz.prog W = .ok (.bool false) W := fun W => neqVe ⟨0, [], false⟩ ⟨0, [], false⟩ true (by decide) W
                have hgv := guardVe
                clear zb
                go_wp2_with fail
                clear q0 q1 q2 hev
                go_roundw
                case rel =>
                  have ha := (HBc.out.alloc HBc.out.size (.cells #[.int .i64 0, .string ⟨#[]⟩, .bool false] 44))
                  have hr := (HBRc.out.alloc HBRc.out.size (.cells #[.int .i64 0, .string ⟨#[]⟩, .bool false] 44))
                  exact ⟨k + 1, by omega, by go_num, OwnP.next HOZ.out hr, ha⟩
                case measure => simp [intOf]; omega
              · have a1 : decide (ta < 0) = false := decide_eq_false h1
                have h2 : (l.length : Int) < ta := by omega
                have a2 : decide ((l.length : Int) < ta) = true := decide_eq_true h2
                go_upto_region 18 with (go_at_call 17; refine (before_is (n := n) ta HVB.out HNB.out.own HVO.out).mono ?_; rintro e wc ⟨rfl, hbc⟩; rw [if_neg HIR.out]; simp only [veV]; rw [show bs [] = ⟨#[]⟩ from rfl]; have HBc := Lib.hid (HBb.out.trans (hbc.mono HBb.out.size)); have HBRc := Lib.hid (HBRb.out.trans (hbc.mono HBRb.out.size)); clear hbc)
                have zb := Blk.new wc 44 #[.int .i64 0, .string ⟨#[]⟩, .bool false]
                have q0 := zb.cell 0
                have q1 := zb.cell 1
                have q2 := zb.cell 2
                simp only [List.getElem?_toArray, List.getElem?_cons_zero, List.getElem?_cons_succ] at q0 q1 q2
                have hev : ∀ W, (binOp .neq 44 (.agg #[.int .i64 0, .string ⟨#[]⟩, .bool false]) (.agg #[.int .i64 0, .string ⟨#[]⟩, .bool false])).run Tryz.prog W = .ok (.bool false) W := fun W => neqVe ⟨0, [], false⟩ ⟨0, [], false⟩ true (by decide) W
                have hgv := guardVe
                clear zb
                go_wp2_with fail
                clear q0 q1 q2 hev
                go_roundw
                case rel =>
                  have ha := (HBc.out.alloc HBc.out.size (.cells #[.int .i64 0, .string ⟨#[]⟩, .bool false] 44))
                  have hr := (HBRc.out.alloc HBRc.out.size (.cells #[.int .i64 0, .string ⟨#[]⟩, .bool false] 44))
                  exact ⟨k + 1, by omega, by go_num, OwnP.next HOZ.out hr, ha⟩
                case measure => simp [intOf]; omega
      · have j3 : decide ((k : Int) < 6) = false := decide_eq_false (by omega)
        have hkf : objs.take k = objs := List.take_of_length_le (by rw [objs_len]; omega)
        have HOB : Hid (∀ a ∈ objs.filter F, OwnE a) := Lib.hid fun a ha => IsOb.own (List.mem_filter.1 ha).1
        have HND : Hid ((objs.filter F).Nodup) := Lib.hid (objs_nodup.sublist List.filter_sublist)
        have HSO : Hid (sortU cmpN (objs.filter F) = objs.filter F) := Lib.hid (sortU_strict ordN HOB.out (filt_strict' F))
        have hfl : (objs.filter F).length ≤ 6 := by rw [← objs_len]; exact List.length_filter_le _ _
        rw [hkf] at HOW hc5 ⊢
        have HFE := Lib.hid (show objs.filter (hasF s0 l) = objs.filter F by rw [HFF.out])
        obtain ⟨nl, hnl⟩ : ∃ nl, objs.filter F = nl := ⟨_, rfl⟩
        rw [hnl] at HOW hc5 HOB HND HSO HFE hfl ⊢
        clear hkf hnl
        go_wp2_with (go_at_call 13; refine (objects_is wr).mono ?_)
        rintro e w6 ⟨go, co, rfl, how6, hb6⟩
        have HB6 := Lib.hid (HBW.out.trans (hb6.mono HBW.out.size))
        have HR6 := Lib.hid (OwnP.next HOW.out hb6)
        have HV6 := Lib.hid (HV4.out.next HB6.out)
        clear how6 hb6
        go_wp2_with (go_at_call 20; refine (vnames_is HV6.out HVO.out HSV.out).mono ?_)
        rintro e w7 ⟨vn, rfl, how7, hb7⟩
        rw [HFE.out] at how7
        have HB7 := Lib.hid (HB6.out.trans (hb7.mono HB6.out.size))
        have HR7 := Lib.hid (OwnP.rd (OwnP.next HR6.out hb7))
        have HN7 := Lib.hid (show RdNm w7 vn nl from Rd.of_own how7)
        clear how7 hb7
        go_wp2_with (go_at_call 21; refine (sort_is HR7.out (by omega) HND.out HOB.out).mono ?_)
        rintro e w8 ⟨vs, rfl, how8, hb8⟩
        rw [HSO.out] at how8
        have HB8 := Lib.hid (HB7.out.trans (hb8.mono HB7.out.size))
        have HR8 := Lib.hid (show RdNm w8 vs nl from Rd.of_own how8)
        have HN8 := Lib.hid (RdP.next HN7.out hb8)
        clear how8 hb8
        go_wp2_with (go_at_call 19; refine (requal_is HN8.out HR8.out (by omega) (by omega)).mono ?_; rintro e w9 ⟨rfl, hb9⟩; rw [decide_eq_true rfl]; have HB9 := Lib.hid (HB8.out.trans (hb9.mono HB8.out.size)); clear hb9)
        go_ret
        exact ⟨rfl, by rw [HCB.out]; exact HB04.out.trans (HB9.out.mono hsz4)⟩
  · have HB4 := Lib.hid hb4
    have HLR4 := Lib.hid (RdAc.next HLR3.out hb4)
    have HU4 := Lib.hid (HU3.out.next hb4 HU3.out.1)
    obtain ⟨E, hE⟩ : ∃ E, bldR [] l = E := ⟨_, rfl⟩
    rw [hE] at hbad ⊢
    have HE := Lib.hid hE
    have n1 : (E == 0) = false := by rw [beq_eq_false_iff_ne]; exact hbad
    have n2 : (E != 0) = true := by rw [bne_iff_ne]; exact hbad
    clear hb4 hE
    go_wp2_with (go_at_call 12; refine (rcheck_is HLR4.out HU4.out HAR.out (by omega)).mono ?_; rintro e w5 ⟨rfl, hb5⟩; rw [HE.out]; have HB5 := Lib.hid hb5; clear hb5)
    go_ret
    exact ⟨rfl, by rw [HCB.out]; exact HB03.out.trans ((HB4.out.trans (HB5.out.mono HB4.out.size)).mono HSZ.out)⟩
end Go.Proofs.YtobkmkplhbaepaaGreatDoor
