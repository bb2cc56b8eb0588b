/- Walks of layer 46: the law of changes. -/
import Derived.Test.YtobkmkplhbaepaaGreatDoorHZ
import Derived.Test.YtobkmkplhbaepaaGreatDoorW47
import Derived.Test.YtobkmkplhbaepaaGreatDoorW48
namespace Go.Proofs.YtobkmkplhbaepaaGreatDoor
open Go.RowKit
set_option linter.unusedSimpArgs false
set_option linter.unusedVariables false
attribute [local go_sem ↓] Go.wp_at_zero Go.wp_at_succ
def difF (sa sb : St) (n : Nm) : Bool := decide (look cmpN n sa ≠ look cmpN n sb)
def ChLoop (F : Nm → Bool) (w : World) (v i : Value) (wr : World) : Prop := ∃ k : Nat, k ≤ 6 ∧ i = .int .i64 k ∧ OwnP 40 5 nmC wr w.heap.size v ((objs.take k).filter F) ∧ Below w.heap.size w wr
theorem objs_ob : ∀ n ∈ objs, IsOb n := fun n hn => hn
theorem filt_strict (F : Nm → Bool) : Strict cmpN (objs.filter F) := List.Pairwise.sublist List.filter_sublist objs_strict
theorem dif_is {s0 : St} {l : List Ac} (h0 : StOk s0) (ho : ∀ a ∈ l, ordCh a.writes = true) {ta tb : Int} (ha : InR l ta) (hb : InR l tb) {n : Nm} (hn : IsOb n) :
    difF (stS s0 (l.take ta.toNat)) (stS s0 (l.take tb.toNat)) n = true ↔ ((befr ta (ver0 s0 n) (vers n 0 l)).value ≠ (befr tb (ver0 s0 n) (vers n 0 l)).value ∨ (befr ta (ver0 s0 n) (vers n 0 l)).absent ≠ (befr tb (ver0 s0 n) (vers n 0 l)).absent) := by
  obtain ⟨ka, rfl⟩ := Int.eq_ofNat_of_zero_le ha.1
  obtain ⟨kb, rfl⟩ := Int.eq_ofNat_of_zero_le hb.1
  have h1 := (befr_says hn h0 ho ka (by have := ha.2; omega)).1
  have h2 := (befr_says hn h0 ho kb (by have := hb.2; omega)).1
  rw [← says_eq h1 h2]
  simp [difF]
theorem dif_list {s0 : St} {l : List Ac} (h0 : StOk s0) (ho : ∀ a ∈ l, ordCh a.writes = true) {ta tb : Int} (ha : InR l ta) (hb : InR l tb) :
    (diffL (stS s0 (l.take ta.toNat)) (stS s0 (l.take tb.toNat))).map Ch.name = objs.filter (difF (stS s0 (l.take ta.toNat)) (stS s0 (l.take tb.toNat))) := by
  obtain ⟨ka, rfl⟩ := Int.eq_ofNat_of_zero_le ha.1
  obtain ⟨kb, rfl⟩ := Int.eq_ofNat_of_zero_le hb.1
  have hn : IsOb obC := (by unfold IsOb; decide +kernel)
  exact diff_objs (befr_says hn h0 ho ka (by have := ha.2; omega)).2 (befr_says hn h0 ho kb (by have := hb.2; omega)).2
set_option maxRecDepth 100000 in
set_option maxHeartbeats 4000000 in
theorem law_changes {w : World} {v1 v2 : Value} {r : Rn} (ta tb : Int) (hit : RaIt w.heap.size w v1 r.base) (hac : RaAct w.heap.size w v2 r.acts) (hu : UseAt w) : Calls Tryz.prog 4 #[.agg #[v1, v2], .int .i64 ta, .int .i64 tb] w fun e w' => e = .returned (.bool true) ∧ Below w.heap.size w w' := by
  have ha := (Below.refl w.heap.size w).alloc (Nat.le_refl _) (.cells #[v1, v2] 25)
  have hz : w.heap.size < (w.alloc (.cells #[v1, v2] 25)).heap.size := by simp
  have zb := Blk.new w 25 #[v1, v2]
  have z0 := zb.cell 0
  have z1 := zb.cell 1
  simp only [List.getElem?_toArray, List.getElem?_cons_zero, List.getElem?_cons_succ] at z0 z1
  obtain ⟨A1, c1, rfl, _, _⟩ := hit.form
  obtain ⟨A2, c2, rfl, _, _⟩ := RowRa.form hac
  have HA := Lib.hid ha
  have HU := Lib.hid (hu.next ha hu.1)
  have HLB := Lib.hid hit.len
  have HOK := Lib.hid hac.ok
  have HIT := Lib.hid ((hit.below ha).next_ (Nat.le_of_lt hz))
  have HAC := Lib.hid ((hac.below ha).next_ (Nat.le_of_lt hz))
  clear hit hac hu ha zb
  go_enter Tryz.func4, Tryz.ntmps4
  go_upto_region 1 with (fail)
  generalize w.alloc (.cells #[.slice A1 r.base.length c1, .slice A2 r.acts.length c2] 25) = W at *
  generalize hcb : w.heap.size = cb at *
  have HCB := Lib.hid hcb
  clear hcb
  go_upto_region 3 with (go_at_call 8; refine (known_is HU.out).mono ?_; rintro e w1 ⟨rfl, hb1⟩; have HB1 := Lib.hid hb1; clear hb1)
  have hc1 : cb < w1.heap.size := Nat.lt_of_lt_of_le hz HB1.out.size
  have HU1 := Lib.hid (HU.out.next HB1.out HU.out.1)
  have HIT1 := Lib.hid ((HIT.out.below HB1.out).next_ HB1.out.size)
  have HAC1 := Lib.hid ((HAC.out.below HB1.out).next_ HB1.out.size)
  replace z0 := (HB1.out.cell (p := ⟨cb, 0, none⟩) hz).trans z0
  replace z1 := (HB1.out.cell (p := ⟨cb, 1, none⟩) hz).trans z1
  refine wp_region_noPanic ?_
  refine wp_region_held_drew (S := (fun (w' : World) => w'.cell? ⟨cb, 0, none⟩ = some (.slice A1 r.base.length c1) ∧ w'.cell? ⟨cb, 1, none⟩ = some (.slice A2 r.acts.length c2))) (by kernel_rfl) ?_ (fun hHeld => ?_)
  · exact ⟨z0, z1⟩
  refine wpAnyH_take (i := 0) (v := ?_) rfl (by kernel_rfl) (by kernel_rfl) (by kernel_rfl) (fun _ _ _ h => h) (Or.inl ⟨by kernel_rfl, ?_⟩) hHeld ?_
  rotate_left
  · (intro w hSw; (try dsimp only at hSw); go_simp; try with_reducible rfl)
  try simp only [Act.put, List.setIfInBounds_toArray, List.set_cons_zero, List.set_cons_succ]
  refine wpAnyH_take (i := 2) (v := ?_) rfl (by kernel_rfl) (by kernel_rfl) (by kernel_rfl) (fun _ _ _ h => h) (Or.inl ⟨by kernel_rfl, ?_⟩) hHeld ?_
  rotate_left
  · (intro w hSw; (try dsimp only at hSw); go_simp; try with_reducible rfl)
  try simp only [Act.put, List.setIfInBounds_toArray, List.set_cons_zero, List.set_cons_succ]
  refine wpAnyH_ready (rs := [1]) (by kernel_rfl) (by simp) ?_
  refine AllReadyH.cons rfl (fun K hK => ?_) AllReadyH.nil
  go_simp
  refine (base_is (w := w1.drew) (r := r) (HIT1.out.below (Below.refl _ _).drew) HLB.out (HU1.out.next (Below.refl w1.heap.size w1).drew HU1.out.1)).mono ?_; rintro e w2 ⟨p, rfl, hp, hb2'⟩; have hb2 := (Below.refl w1.heap.size w1).drew.trans hb2'; have HB2 := Lib.hid hb2; have HP2 := Lib.hid hp; clear hb2' hp
  try (go_wp2_with fail)
  refine hK.out _ _ ?_ (fun hNew => ?_)
  · exact ⟨(hb2.cell (p := ⟨cb, 0, none⟩) hc1).trans z0, (hb2.cell (p := ⟨cb, 1, none⟩) hc1).trans z1⟩
  clear hK K hHeld
  have hHeld := hNew
  clear hNew
  try simp only [Act.put, List.setIfInBounds_toArray, List.set_cons_zero, List.set_cons_succ]
  refine wpAnyH_ready (rs := [3]) (by kernel_rfl) (by simp) ?_
  refine AllReadyH.cons rfl (fun K hK => ?_) AllReadyH.nil
  go_simp
  refine (actions_is (r := r) ((HAC1.out.below HB2.out).next_ HB2.out.size)).mono ?_; rintro e w3 ⟨vl, rfl, hl, hb3'⟩; have HB3 := Lib.hid hb3'; have HL3 := Lib.hid hl; clear hb3' hl
  try (go_wp2_with fail)
  refine hK.out _ _ ?_ (fun hNew => ?_)
  · exact ⟨(HB3.out.cell (p := ⟨cb, 0, none⟩) (Nat.lt_of_lt_of_le hc1 HB2.out.size)).trans ((HB2.out.cell (p := ⟨cb, 0, none⟩) hc1).trans z0), (HB3.out.cell (p := ⟨cb, 1, none⟩) (Nat.lt_of_lt_of_le hc1 HB2.out.size)).trans ((HB2.out.cell (p := ⟨cb, 1, none⟩) hc1).trans z1)⟩
  clear hK K hHeld
  have hHeld := hNew
  clear hNew
  try simp only [Act.put, List.setIfInBounds_toArray, List.set_cons_zero, List.set_cons_succ]
  refine wpAnyH_take (i := 4) (v := ?_) rfl (by kernel_rfl) (by kernel_rfl) (by kernel_rfl) (fun _ _ _ h => h) (Or.inl ⟨by kernel_rfl, ?_⟩) hHeld ?_
  rotate_left
  · (intro w hSw; (try dsimp only at hSw); go_simp; try with_reducible rfl)
  try simp only [Act.put, List.setIfInBounds_toArray, List.set_cons_zero, List.set_cons_succ]
  refine wpAnyH_take (i := 5) (v := ?_) rfl (by kernel_rfl) (by kernel_rfl) (by kernel_rfl) (fun _ _ _ h => h) (Or.inl ⟨by kernel_rfl, ?_⟩) hHeld ?_
  rotate_left
  · (intro w hSw; (try dsimp only at hSw); go_simp; try with_reducible rfl)
  try simp only [Act.put, List.setIfInBounds_toArray, List.set_cons_zero, List.set_cons_succ]
  refine wpAnyH_done (by kernel_rfl) ?_ _
  clear hHeld
  try simp only [List.getElem_toArray, List.getElem_cons_zero, List.getElem_cons_succ, Act.put, List.setIfInBounds_toArray, List.set_cons_zero, List.set_cons_succ]
  refine NoPanic.normal ?_
  obtain ⟨s0, hs0⟩ : ∃ s, baseS r = s := ⟨_, rfl⟩
  obtain ⟨l, hl⟩ : ∃ l, actsS r = l := ⟨_, rfl⟩
  have HAR : Hid (∀ a ∈ l, AcR a) := Lib.hid (by rw [← hl]; exact acts_r HOK.out)
  have HSV : Hid (StV s0) := Lib.hid (by rw [← hs0]; exact base_v r)
  have hll : l.length ≤ 20 := by rw [← hl]; exact acts_len r
  rw [hs0] at HP2
  rw [hl] at HL3
  have HP3 := Lib.hid (HP2.out.next HB3.out)
  have HLR3 := Lib.hid (RowOwn.rd HL3.out)
  have HB13 := Lib.hid (HB2.out.trans (HB3.out.mono HB2.out.size))
  have HU3 := Lib.hid (HU1.out.next HB13.out HU1.out.1)
  have HB03 := Lib.hid (HA.out.trans ((HB1.out.trans (HB13.out.mono HB1.out.size)).mono (Nat.le_of_lt hz)))
  have hsz3 : cb ≤ w3.heap.size := Nat.le_trans (Nat.le_of_lt hc1) HB13.out.size
  have HSZ : Hid (cb ≤ w3.heap.size) := Lib.hid hsz3
  obtain ⟨Al, cl, rfl, hcl⟩ := RowRd.form HLR3.out
  clear hs0 hl hb2 HB2 HB3 HP2 HL3 HIT HAC HIT1 HAC1 HU HU1 HA HB1 z0 z1 HB13 HLB HOK hc1
  go_wp2_with (go_at_call 11; refine (build_is HP3.out HLR3.out HU3.out HAR.out HSV.out (by omega)).mono ?_)
  rintro e w4 ⟨hb4, ⟨hok, g, F, rfl, hv4, _⟩ | ⟨hbad, rfl⟩⟩
  · have HB4 := Lib.hid hb4
    have HV4 := Lib.hid hv4
    have HVO : Hid (VOk l) := Lib.hid ⟨ok_all hok, HAR.out, by omega⟩
    have HLO : Hid (LOk l) := Lib.hid ⟨HAR.out, by omega⟩
    have HP4 := Lib.hid (HP3.out.next hb4)
    have HLR4 := Lib.hid (RdAc.next HLR3.out hb4)
    have HB04 := Lib.hid (HB03.out.trans (hb4.mono hsz3))
    have hsz4 : cb ≤ w4.heap.size := Nat.le_trans hsz3 hb4.size
    have HU4 := Lib.hid (HU3.out.next hb4 HU3.out.1)
    clear hb4 hv4 hok HB03 HP3 HLR3 HB4
    have HWO : Hid (∀ a ∈ l, ordCh a.writes = true) := Lib.hid fun a ha => (ok_ch (HVO.out.ok a ha)).2
    go_upto_region 8 with (go_at_call 22; refine (changed_is ta tb HV4.out HVO.out HSV.out HU4.out).mono ?_; intro e w5 h5; rcases h5 with ⟨hb5, ⟨hia, hib, vc, rfl, how5⟩ | ⟨hno, rfl⟩⟩)
    · have HB5 := Lib.hid hb5
      have HDF := Lib.hid (fun (n : Nm) (hn : IsOb n) => dif_is HSV.out.1 HWO.out hia hib hn)
      rw [dif_list HSV.out.1 HWO.out hia hib] at how5
      obtain ⟨F, hF⟩ : ∃ F, difF (stS s0 (l.take ta.toNat)) (stS s0 (l.take tb.toNat)) = F := ⟨_, rfl⟩
      rw [hF] at how5 HDF
      have HW5 := Lib.hid how5
      have hfl : (objs.filter F).length ≤ 6 := by rw [← objs_len]; exact List.length_filter_le _ _
      obtain ⟨Ac, cc, rfl, hcc⟩ := own_len how5
      have a1 : decide (ta < 0) = false := decide_eq_false (by have := hia.1; omega)
      have a2 : decide ((l.length : Int) < ta) = false := decide_eq_false (by have := hia.2; omega)
      have a3 : decide (tb < 0) = false := decide_eq_false (by have := hib.1; omega)
      have a4 : decide ((l.length : Int) < tb) = false := decide_eq_false (by have := hib.2; omega)
      have HP5 := Lib.hid (HP4.out.next hb5)
      have HLR5 := Lib.hid (RdAc.next HLR4.out hb5)
      obtain ⟨i0, hi, hz0, hz1, hz2⟩ := info_parts infoNm
      have H0 : Hid (ChLoop F w5 (.slice none 0 0) (.int .i64 (0 : Nat)) w5) := Lib.hid ⟨0, by omega, rfl, OwnP.nil, Below.refl _ _⟩
      clear hb5 how5 hF hia hib
      go_wp2_with fail
      clear a1 a2 a3 a4
      go_loopw [13, 14] (fun v i wr => ChLoop F w5 v i wr) (fun _ i _ => 6 - (intOf i).toNat)
      case atStart => exact H0.out
      case round =>
        clear H0
        obtain ⟨k, hk6, rfl, how, hbw⟩ := hrel
        have HBW := Lib.hid hbw
        have HOW := Lib.hid how
        obtain ⟨A5, c5, rfl, hc5⟩ := own_len how
        clear how hbw
        by_cases hk : k < 6
        · have j1 : (0 : Int) ≤ (k : Int) := by omega
          have j2 : (k : Int) < 6 := by omega
          have j3 : decide ((k : Int) < 6) = true := decide_eq_true j2
          obtain ⟨n, hn⟩ : ∃ n, objs[k]'(by rw [objs_len]; exact hk) = n := ⟨_, rfl⟩
          have HNN := Lib.hid hn
          have HNB : Hid (IsOb n) := Lib.hid (by rw [← hn]; exact List.getElem_mem _)
          have HFT := Lib.hid (filter_take F objs k (by rw [objs_len]; exact hk))
          rw [hn] at HFT
          obtain ⟨nl, hnl⟩ : ∃ nl, (objs.take k).filter F = nl := ⟨_, rfl⟩
          have hnle : nl.length ≤ 6 := by rw [← hnl]; exact Nat.le_trans (List.length_filter_le _ _) (by rw [List.length_take, objs_len]; omega)
          rw [hnl] at HOW HFT hc5 ⊢
          clear hn hnl
          have ONCE : True := trivial
          go_wp2_with (clear ONCE; go_at_call 13; refine (objects_is wr).mono ?_)
          rintro e w6 ⟨go, co, rfl, how6, hb6⟩
          have HB6 := Lib.hid (HBW.out.trans (hb6.mono HBW.out.size))
          have HBR6 := Lib.hid hb6
          clear how6 hb6
          have ONCE : True := trivial
          go_wp2_with (clear ONCE; go_at_call 13; refine (objects_is w6).mono ?_)
          rintro e w7 ⟨go, co, rfl, how7, hb7⟩
          have HB7 := Lib.hid (HB6.out.trans (hb7.mono HB6.out.size))
          have HBR7 := Lib.hid (HBR6.out.trans (hb7.mono HBR6.out.size))
          obtain ⟨b, o, hbe, hbr, y0, y1, y2, y3, y4⟩ := RdNm.piece (show RdNm w7 (.slice (some ⟨go, 0, none⟩) 6 co) objs from Rd.of_own how7) (k := k) (by rw [objs_len]; exact hk)
          injection hbe with hbe
          injection hbe with e1 e2
          subst e1 e2
          simp only [Nat.zero_add] at y0 y1 y2 y3 y4
          rw [HNN.out] at y0 y1 y2 y3 y4
          have HP7 := Lib.hid (HP5.out.next HB7.out)
          have HLR7 := Lib.hid (RdAc.next HLR5.out HB7.out)
          clear how7 hb7
          go_wp2_with (go_at_call 14; refine (rof_is (n := n) HP7.out HLR7.out HNB.out.own HLO.out).mono ?_)
          rintro e w8 ⟨vv, rfl, hov, hb8⟩
          have HB8 := Lib.hid (HB7.out.trans (hb8.mono HB7.out.size))
          have HBR8 := Lib.hid (HBR7.out.trans (hb8.mono HBR7.out.size))
          have hvl := HVO.out.vlen n
          have HRV := Lib.hid (show RdVe w8 vv (ver0 s0 n :: vers n 0 l) from OwnP.rd hov)
          clear hov hb8 y0 y1 y2 y3 y4
          have ONCE : True := trivial
          go_wp2_with (clear ONCE; go_at_call 18; refine (rbefore_is (v0 := ver0 s0 n) (vs := vers n 0 l) ta HRV.out (by omega)).mono ?_)
          rintro e wa ⟨rfl, hba⟩
          have HBa := Lib.hid (HB8.out.trans (hba.mono HB8.out.size))
          have HBRa := Lib.hid (HBR8.out.trans (hba.mono HBR8.out.size))
          have HRVa := Lib.hid (RdP.next HRV.out hba)
          clear hba
          have ONCE : True := trivial
          go_wp2_with (clear ONCE; go_at_call 18; refine (rbefore_is (v0 := ver0 s0 n) (vs := vers n 0 l) tb HRVa.out (by omega)).mono ?_)
          rintro e wb ⟨rfl, hbb⟩
          have HBb := Lib.hid (HBa.out.trans (hbb.mono HBa.out.size))
          have HBRb := Lib.hid (HBRa.out.trans (hbb.mono HBRa.out.size))
          have HDN := Lib.hid (HDF.out n HNB.out)
          obtain ⟨p, hp⟩ : ∃ x, befr ta (ver0 s0 n) (vers n 0 l) = x := ⟨_, rfl⟩
          obtain ⟨q, hq⟩ : ∃ x, befr tb (ver0 s0 n) (vers n 0 l) = x := ⟨_, rfl⟩
          rw [hp, hq] at HDN
          rw [hp, hq]
          obtain ⟨pi, pv, pb⟩ := p
          obtain ⟨qi, qv, qb⟩ := q
          simp only [veV]
          clear hbb hp hq hvl HBa HBRa
          by_cases hvv : pv = qv
          · have b0 : ((bs pv).toList == (bs qv).toList) = true := by rw [hvv]; exact beq_self_eq_true _
            have b0' : (bs pv).toList = (bs qv).toList := by rw [hvv]
            have HVV := Lib.hid hvv
            clear hvv
            by_cases hab : pb = qb
            · have b1 : (pb != qb) = false := by rw [hab]; cases qb <;> rfl
              have b2 : (pb == qb) = true := by rw [hab]; cases qb <;> rfl
              have HCF : Hid (¬ F n = true) := Lib.hid (by rw [HDN.out]; simp [hab, HVV.out])
              clear hab
              go_wp2_with fail
              go_roundw
              case rel =>
                have HBXa := (HBb.out.alloc HBb.out.size (.cells #[.int .i64 pi, .string (bs pv), .bool pb] 44)).alloc (by have := HBb.out.size; simp; omega) (.cells #[.int .i64 qi, .string (bs qv), .bool qb] 44)
                have HBRa := (HBRb.out.alloc HBRb.out.size (.cells #[.int .i64 pi, .string (bs pv), .bool pb] 44)).alloc (by have := HBRb.out.size; simp; omega) (.cells #[.int .i64 qi, .string (bs qv), .bool qb] 44)
                exact ⟨k + 1, by omega, by go_num, by rw [HFT.out, if_neg HCF.out, List.append_nil]; exact OwnP.next HOW.out HBRa, HBXa⟩
              case measure => simp [intOf]; omega
            · have b1 : (pb != qb) = true := by rw [bne_iff_ne]; exact hab
              have b2 : (pb == qb) = false := by rw [beq_eq_false_iff_ne]; exact hab
              have HCF : Hid (F n = true) := Lib.hid (by rw [HDN.out]; simp [hab])
              clear hab
              go_upto_region 17 with (fail)
              have HBXa := Lib.hid ((HBb.out.alloc HBb.out.size (.cells #[.int .i64 pi, .string (bs pv), .bool pb] 44)).alloc (by have := HBb.out.size; simp; omega) (.cells #[.int .i64 qi, .string (bs qv), .bool qb] 44))
              have HBRa := Lib.hid ((HBRb.out.alloc HBRb.out.size (.cells #[.int .i64 pi, .string (bs pv), .bool pb] 44)).alloc (by have := HBRb.out.size; simp; omega) (.cells #[.int .i64 qi, .string (bs qv), .bool qb] 44))
              generalize ((wb.alloc (.cells #[.int .i64 pi, .string (bs pv), .bool pb] 44)).alloc (.cells #[.int .i64 qi, .string (bs qv), .bool qb] 44)) = wx at *
              go_wp2_with (go_at_call 13; refine (objects_is wx).mono ?_)
              rintro e w9 ⟨go, co, rfl, how9, hb9⟩
              have HB9 := Lib.hid (HBXa.out.trans (hb9.mono HBXa.out.size))
              have HOD := Lib.hid (OwnP.next HOW.out (HBRa.out.trans (hb9.mono HBRa.out.size)))
              obtain ⟨b, o, hbe, hbr, y0, y1, y2, y3, y4⟩ := RdNm.piece (show RdNm w9 (.slice (some ⟨go, 0, none⟩) 6 co) objs from Rd.of_own how9) (k := k) (by rw [objs_len]; exact hk)
              injection hbe with hbe
              injection hbe with e1 e2
              subst e1 e2
              simp only [Nat.zero_add] at y0 y1 y2 y3 y4
              rw [HNN.out] at y0 y1 y2 y3 y4
              clear how9 hb9
              go_wp2_with (at_builtin; refine wpList_append_w _ rfl _ _ _ rfl w5.heap.size 40 i0 _ 5 56 Tryz.underlying36 hi hz0 hz1 hz2 rfl (by omega) (.slice A5 nl.length c5) nl.length (nl.flatMap nmC) rfl (own_next HOD.out ((Below.refl _ _).alloc (Nat.le_refl _) _)) (.slice (some ⟨w9.heap.size, 0, none⟩) 1 1) 1 [.int .i64 n.kind, .string (bs n.owner), .int .i64 n.num, .int .i64 n.idx, .string (bs n.text)] rfl (Rd.of_own (own_new w9 0 40 5 [.int .i64 n.kind, .string (bs n.owner), .int .i64 n.num, .int .i64 n.idx, .string (bs n.text)] rfl (Nat.zero_le _))) (by omega) rfl (by simp [Value.oneCell']) (by unfold maxLen; omega) (by omega) (by have := HB9.out.size; simp at this ⊢; omega) ?_; intro v5 w10 hown5 hg5 hat5; have HOW5 := Lib.hid hown5; have HG5 := Lib.hid hg5; clear hown5 hg5 hat5)
              go_roundw
              case rel =>
                have hbe : Below w5.heap.size w5 w10 := below_own (HB9.out.alloc HB9.out.size (.cells #[.int .i64 n.kind, .string (bs n.owner), .int .i64 n.num, .int .i64 n.idx, .string (bs n.text)] 40)) (own_next HOD.out ((Below.refl _ _).alloc (Nat.le_refl _) _)) HG5.out (Nat.le_refl _) (by have := HB9.out.size; simp at this ⊢; omega)
                refine ⟨k + 1, by omega, by go_num, ?_, hbe⟩
                rw [HFT.out, if_pos HCF.out]
                exact OwnP.snoc HOW5.out
              case measure => simp [intOf]; omega
          · have b1 : ¬ (bs pv).toList = (bs qv).toList := by rw [bs_tl, bs_tl]; exact hvv
            have b2 : ((bs pv).toList == (bs qv).toList) = false := by rw [beq_eq_false_iff_ne]; exact b1
            have HCF : Hid (F n = true) := Lib.hid (by rw [HDN.out]; simp [hvv])
            clear hvv
            go_upto_region 17 with (fail)
            have HBXa := Lib.hid ((HBb.out.alloc HBb.out.size (.cells #[.int .i64 pi, .string (bs pv), .bool pb] 44)).alloc (by have := HBb.out.size; simp; omega) (.cells #[.int .i64 qi, .string (bs qv), .bool qb] 44))
            have HBRa := Lib.hid ((HBRb.out.alloc HBRb.out.size (.cells #[.int .i64 pi, .string (bs pv), .bool pb] 44)).alloc (by have := HBRb.out.size; simp; omega) (.cells #[.int .i64 qi, .string (bs qv), .bool qb] 44))
            generalize ((wb.alloc (.cells #[.int .i64 pi, .string (bs pv), .bool pb] 44)).alloc (.cells #[.int .i64 qi, .string (bs qv), .bool qb] 44)) = wx at *
            go_wp2_with (go_at_call 13; refine (objects_is wx).mono ?_)
            rintro e w9 ⟨go, co, rfl, how9, hb9⟩
            have HB9 := Lib.hid (HBXa.out.trans (hb9.mono HBXa.out.size))
            have HOD := Lib.hid (OwnP.next HOW.out (HBRa.out.trans (hb9.mono HBRa.out.size)))
            obtain ⟨b, o, hbe, hbr, y0, y1, y2, y3, y4⟩ := RdNm.piece (show RdNm w9 (.slice (some ⟨go, 0, none⟩) 6 co) objs from Rd.of_own how9) (k := k) (by rw [objs_len]; exact hk)
            injection hbe with hbe
            injection hbe with e1 e2
            subst e1 e2
            simp only [Nat.zero_add] at y0 y1 y2 y3 y4
            rw [HNN.out] at y0 y1 y2 y3 y4
            clear how9 hb9
            go_wp2_with (at_builtin; refine wpList_append_w _ rfl _ _ _ rfl w5.heap.size 40 i0 _ 5 56 Tryz.underlying36 hi hz0 hz1 hz2 rfl (by omega) (.slice A5 nl.length c5) nl.length (nl.flatMap nmC) rfl (own_next HOD.out ((Below.refl _ _).alloc (Nat.le_refl _) _)) (.slice (some ⟨w9.heap.size, 0, none⟩) 1 1) 1 [.int .i64 n.kind, .string (bs n.owner), .int .i64 n.num, .int .i64 n.idx, .string (bs n.text)] rfl (Rd.of_own (own_new w9 0 40 5 [.int .i64 n.kind, .string (bs n.owner), .int .i64 n.num, .int .i64 n.idx, .string (bs n.text)] rfl (Nat.zero_le _))) (by omega) rfl (by simp [Value.oneCell']) (by unfold maxLen; omega) (by omega) (by have := HB9.out.size; simp at this ⊢; omega) ?_; intro v5 w10 hown5 hg5 hat5; have HOW5 := Lib.hid hown5; have HG5 := Lib.hid hg5; clear hown5 hg5 hat5)
            go_roundw
            case rel =>
              have hbe : Below w5.heap.size w5 w10 := below_own (HB9.out.alloc HB9.out.size (.cells #[.int .i64 n.kind, .string (bs n.owner), .int .i64 n.num, .int .i64 n.idx, .string (bs n.text)] 40)) (own_next HOD.out ((Below.refl _ _).alloc (Nat.le_refl _) _)) HG5.out (Nat.le_refl _) (by have := HB9.out.size; simp at this ⊢; omega)
              refine ⟨k + 1, by omega, by go_num, ?_, hbe⟩
              rw [HFT.out, if_pos HCF.out]
              exact OwnP.snoc HOW5.out
            case measure => simp [intOf]; omega
        · have j3 : decide ((k : Int) < 6) = false := decide_eq_false (by omega)
          have hkf : objs.take k = objs := List.take_of_length_le (by rw [objs_len]; omega)
          have HOB : Hid (∀ a ∈ objs.filter F, OwnE a) := Lib.hid fun a ha => IsOb.own ((List.mem_filter.1 ha).1)
          have HND : Hid ((objs.filter F).Nodup) := Lib.hid (objs_nodup.sublist List.filter_sublist)
          have HSO : Hid (sortU cmpN (objs.filter F) = objs.filter F) := Lib.hid (sortU_strict ordN HOB.out (filt_strict F))
          rw [hkf] at HOW hc5 ⊢
          obtain ⟨nl, hnl⟩ : ∃ nl, objs.filter F = nl := ⟨_, rfl⟩
          rw [hnl] at HOW hc5 HOB HND HSO HW5 hfl hcc ⊢
          clear hkf hnl
          go_wp2_with (go_at_call 13; refine (objects_is wr).mono ?_)
          rintro e w6 ⟨go, co, rfl, how6, hb6⟩
          have HB6 := Lib.hid (HBW.out.trans (hb6.mono HBW.out.size))
          have HR6 := Lib.hid (OwnP.rd (OwnP.next HOW.out hb6))
          clear how6 hb6
          go_wp2_with (go_at_call 21; refine (sort_is HR6.out (by omega) HND.out HOB.out).mono ?_)
          rintro e w7 ⟨vs, rfl, how7, hb7⟩
          rw [HSO.out] at how7
          have HB7 := Lib.hid (HB6.out.trans (hb7.mono HB6.out.size))
          have HR7 := Lib.hid (show RdNm w7 vs nl from Rd.of_own how7)
          have HC7 := Lib.hid (OwnP.rd (OwnP.next HW5.out HB7.out))
          clear how7 hb7
          go_wp2_with (go_at_call 19; refine (requal_is HC7.out HR7.out (by omega) (by omega)).mono ?_; rintro e w8 ⟨rfl, hb8⟩; rw [decide_eq_true rfl]; have HB8 := Lib.hid (HB7.out.trans (hb8.mono HB7.out.size)); clear hb8)
          go_ret
          exact ⟨rfl, by rw [HCB.out]; exact HB04.out.trans ((HB5.out.trans (HB8.out.mono HB5.out.size)).mono hsz4)⟩
    · have HB5 := Lib.hid hb5
      clear hb5
      by_cases h1 : ta < 0
      · have a1 : decide (ta < 0) = true := decide_eq_true h1
        go_wp2_with fail
        go_ret
        exact ⟨rfl, by rw [HCB.out]; exact HB04.out.trans (HB5.out.mono hsz4)⟩
      · have a1 : decide (ta < 0) = false := decide_eq_false h1
        by_cases h2 : (l.length : Int) < ta
        · have a2 : decide ((l.length : Int) < ta) = true := decide_eq_true h2
          go_wp2_with fail
          go_ret
          exact ⟨rfl, by rw [HCB.out]; exact HB04.out.trans (HB5.out.mono hsz4)⟩
        · have a2 : decide ((l.length : Int) < ta) = false := decide_eq_false h2
          by_cases h3 : tb < 0
          · have a3 : decide (tb < 0) = true := decide_eq_true h3
            go_wp2_with fail
            go_ret
            exact ⟨rfl, by rw [HCB.out]; exact HB04.out.trans (HB5.out.mono hsz4)⟩
          · have a3 : decide (tb < 0) = false := decide_eq_false h3
            have h4 : (l.length : Int) < tb := by
              refine Classical.byContradiction fun h4 => hno ⟨⟨?_, ?_⟩, ⟨?_, ?_⟩⟩ <;> omega
            have a4 : decide ((l.length : Int) < tb) = true := decide_eq_true h4
            go_wp2_with fail
            go_ret
            exact ⟨rfl, by rw [HCB.out]; exact HB04.out.trans (HB5.out.mono hsz4)⟩
  · have HB4 := Lib.hid hb4
    have HLR4 := Lib.hid (RdAc.next HLR3.out hb4)
    have HU4 := Lib.hid (HU3.out.next hb4 HU3.out.1)
    obtain ⟨E, hE⟩ : ∃ E, bldR [] l = E := ⟨_, rfl⟩
    rw [hE] at hbad ⊢
    have HE := Lib.hid hE
    have n1 : (E == 0) = false := by rw [beq_eq_false_iff_ne]; exact hbad
    have n2 : (E != 0) = true := by rw [bne_iff_ne]; exact hbad
    clear hb4 hE
    go_wp2_with (go_at_call 12; refine (rcheck_is HLR4.out HU4.out HAR.out (by omega)).mono ?_; rintro e w5 ⟨rfl, hb5⟩; rw [HE.out]; have HB5 := Lib.hid hb5; clear hb5)
    go_ret
    exact ⟨rfl, by rw [HCB.out]; exact HB03.out.trans ((HB4.out.trans (HB5.out.mono HB4.out.size)).mono HSZ.out)⟩
end Go.Proofs.YtobkmkplhbaepaaGreatDoor
