/- Walks of layer 46: the law of states. -/
import Derived.Test.YtobkmkplhbaepaaDoorW39
import Derived.Test.YtobkmkplhbaepaaDoorW44
import Derived.Test.YtobkmkplhbaepaaDoorW45
namespace Go.Proofs.YtobkmkplhbaepaaDoor
open Go.RowKit
set_option linter.unusedSimpArgs false
set_option linter.unusedVariables false
attribute [local go_sem ↓] Go.wp_at_zero Go.wp_at_succ
def SLoop (s0 : St) (l : List Ac) (w : World) (v i : Value) (wr : World) : Prop := ∃ (k : Nat) (q : Option Addr), k ≤ l.length + 1 ∧ i = .int .i64 k ∧ v = .pointer q ∧ StAt wr q (stS s0 (l.take k)) ∧ Below w.heap.size w wr
set_option maxRecDepth 100000 in
set_option maxHeartbeats 4000000 in
theorem law_states {w : World} {v1 v2 : Value} {r : Rn} (hit : RaIt w.heap.size w v1 r.base) (hac : RaAct w.heap.size w v2 r.acts) (hu : UseAt w) : Calls Tryd.prog 6 #[.agg #[v1, v2]] w fun e w' => e = .returned (.bool true) ∧ Below w.heap.size w w' := by
  have ha := (Below.refl w.heap.size w).alloc (Nat.le_refl _) (.cells #[v1, v2] 25)
  have hz : w.heap.size < (w.alloc (.cells #[v1, v2] 25)).heap.size := by simp
  have zb := Blk.new w 25 #[v1, v2]
  have z0 := zb.cell 0
  have z1 := zb.cell 1
  simp only [List.getElem?_toArray, List.getElem?_cons_zero, List.getElem?_cons_succ] at z0 z1
  obtain ⟨A1, c1, rfl, _, _⟩ := hit.form
  obtain ⟨A2, c2, rfl, _, _⟩ := RowRa.form hac
  have HA := Lib.hid ha
  have HU := Lib.hid (hu.next ha hu.1)
  have HLB := Lib.hid hit.len
  have HOK := Lib.hid hac.ok
  have HIT := Lib.hid ((hit.below ha).next_ (Nat.le_of_lt hz))
  have HAC := Lib.hid ((hac.below ha).next_ (Nat.le_of_lt hz))
  clear hit hac hu ha zb
  go_enter Tryd.func6, Tryd.ntmps6
  go_upto_region 1 with (fail)
  generalize w.alloc (.cells #[.slice A1 r.base.length c1, .slice A2 r.acts.length c2] 25) = W at *
  generalize hcb : w.heap.size = cb at *
  have HCB := Lib.hid hcb
  clear hcb
  go_upto_region 3 with (go_at_call 7; refine (known_is HU.out).mono ?_; rintro e w1 ⟨rfl, hb1⟩; have HB1 := Lib.hid hb1; clear hb1)
  have hc1 : cb < w1.heap.size := Nat.lt_of_lt_of_le hz HB1.out.size
  have HU1 := Lib.hid (HU.out.next HB1.out HU.out.1)
  have HIT1 := Lib.hid ((HIT.out.below HB1.out).next_ HB1.out.size)
  have HAC1 := Lib.hid ((HAC.out.below HB1.out).next_ HB1.out.size)
  replace z0 := (HB1.out.cell (p := ⟨cb, 0, none⟩) hz).trans z0
  replace z1 := (HB1.out.cell (p := ⟨cb, 1, none⟩) hz).trans z1
  refine wp_region_noPanic ?_
  refine wp_region_held_drew (S := (fun (w' : World) => w'.cell? ⟨cb, 0, none⟩ = some (.slice A1 r.base.length c1) ∧ w'.cell? ⟨cb, 1, none⟩ = some (.slice A2 r.acts.length c2))) (by kernel_rfl) ?_ (fun hHeld => ?_)
  · exact ⟨z0, z1⟩
  refine wpAnyH_take (i := 0) (v := ?_) rfl (by kernel_rfl) (by kernel_rfl) (by kernel_rfl) (fun _ _ _ h => h) (Or.inl ⟨by kernel_rfl, ?_⟩) hHeld ?_
  rotate_left
  · (intro w hSw; (try dsimp only at hSw); go_simp; try with_reducible rfl)
  try simp only [Act.put, List.setIfInBounds_toArray, List.set_cons_zero, List.set_cons_succ]
  refine wpAnyH_take (i := 2) (v := ?_) rfl (by kernel_rfl) (by kernel_rfl) (by kernel_rfl) (fun _ _ _ h => h) (Or.inl ⟨by kernel_rfl, ?_⟩) hHeld ?_
  rotate_left
  · (intro w hSw; (try dsimp only at hSw); go_simp; try with_reducible rfl)
  try simp only [Act.put, List.setIfInBounds_toArray, List.set_cons_zero, List.set_cons_succ]
  refine wpAnyH_ready (rs := [1]) (by kernel_rfl) (by simp) ?_
  refine AllReadyH.cons rfl (fun K hK => ?_) AllReadyH.nil
  go_simp
  refine (base_is (w := w1.drew) (r := r) (HIT1.out.below (Below.refl _ _).drew) HLB.out (HU1.out.next (Below.refl w1.heap.size w1).drew HU1.out.1)).mono ?_; rintro e w2 ⟨p, rfl, hp, hb2'⟩; have hb2 := (Below.refl w1.heap.size w1).drew.trans hb2'; have HB2 := Lib.hid hb2; have HP2 := Lib.hid hp; clear hb2' hp
  try (go_wp2_with fail)
  refine hK.out _ _ ?_ (fun hNew => ?_)
  · exact ⟨(hb2.cell (p := ⟨cb, 0, none⟩) hc1).trans z0, (hb2.cell (p := ⟨cb, 1, none⟩) hc1).trans z1⟩
  clear hK K hHeld
  have hHeld := hNew
  clear hNew
  try simp only [Act.put, List.setIfInBounds_toArray, List.set_cons_zero, List.set_cons_succ]
  refine wpAnyH_ready (rs := [3]) (by kernel_rfl) (by simp) ?_
  refine AllReadyH.cons rfl (fun K hK => ?_) AllReadyH.nil
  go_simp
  refine (actions_is (r := r) ((HAC1.out.below HB2.out).next_ HB2.out.size)).mono ?_; rintro e w3 ⟨vl, rfl, hl, hb3'⟩; have HB3 := Lib.hid hb3'; have HL3 := Lib.hid hl; clear hb3' hl
  try (go_wp2_with fail)
  refine hK.out _ _ ?_ (fun hNew => ?_)
  · exact ⟨(HB3.out.cell (p := ⟨cb, 0, none⟩) (Nat.lt_of_lt_of_le hc1 HB2.out.size)).trans ((HB2.out.cell (p := ⟨cb, 0, none⟩) hc1).trans z0), (HB3.out.cell (p := ⟨cb, 1, none⟩) (Nat.lt_of_lt_of_le hc1 HB2.out.size)).trans ((HB2.out.cell (p := ⟨cb, 1, none⟩) hc1).trans z1)⟩
  clear hK K hHeld
  have hHeld := hNew
  clear hNew
  try simp only [Act.put, List.setIfInBounds_toArray, List.set_cons_zero, List.set_cons_succ]
  refine wpAnyH_take (i := 4) (v := ?_) rfl (by kernel_rfl) (by kernel_rfl) (by kernel_rfl) (fun _ _ _ h => h) (Or.inl ⟨by kernel_rfl, ?_⟩) hHeld ?_
  rotate_left
  · (intro w hSw; (try dsimp only at hSw); go_simp; try with_reducible rfl)
  try simp only [Act.put, List.setIfInBounds_toArray, List.set_cons_zero, List.set_cons_succ]
  refine wpAnyH_take (i := 5) (v := ?_) rfl (by kernel_rfl) (by kernel_rfl) (by kernel_rfl) (fun _ _ _ h => h) (Or.inl ⟨by kernel_rfl, ?_⟩) hHeld ?_
  rotate_left
  · (intro w hSw; (try dsimp only at hSw); go_simp; try with_reducible rfl)
  try simp only [Act.put, List.setIfInBounds_toArray, List.set_cons_zero, List.set_cons_succ]
  refine wpAnyH_done (by kernel_rfl) ?_ _
  clear hHeld
  try simp only [List.getElem_toArray, List.getElem_cons_zero, List.getElem_cons_succ, Act.put, List.setIfInBounds_toArray, List.set_cons_zero, List.set_cons_succ]
  refine NoPanic.normal ?_
  obtain ⟨s0, hs0⟩ : ∃ s, baseS r = s := ⟨_, rfl⟩
  obtain ⟨l, hl⟩ : ∃ l, actsS r = l := ⟨_, rfl⟩
  have HAR : Hid (∀ a ∈ l, AcR a) := Lib.hid (by rw [← hl]; exact acts_r HOK.out)
  have HSV : Hid (StV s0) := Lib.hid (by rw [← hs0]; exact base_v r)
  have hll : l.length ≤ 20 := by rw [← hl]; exact acts_len r
  rw [hs0] at HP2
  rw [hl] at HL3
  have HP3 := Lib.hid (HP2.out.next HB3.out)
  have HLR3 := Lib.hid (RowOwn.rd HL3.out)
  have HB13 := Lib.hid (HB2.out.trans (HB3.out.mono HB2.out.size))
  have HU3 := Lib.hid (HU1.out.next HB13.out HU1.out.1)
  have HB03 := Lib.hid (HA.out.trans ((HB1.out.trans (HB13.out.mono HB1.out.size)).mono (Nat.le_of_lt hz)))
  have hsz3 : cb ≤ w3.heap.size := Nat.le_trans (Nat.le_of_lt hc1) HB13.out.size
  have HSZ : Hid (cb ≤ w3.heap.size) := Lib.hid hsz3
  obtain ⟨Al, cl, rfl, hcl⟩ := RowRd.form HLR3.out
  clear hs0 hl hb2 HB2 HB3 HP2 HL3 HIT HAC HIT1 HAC1 HU HU1 HA HB1 z0 z1 HB13 HLB HOK hc1
  go_wp2_with (go_at_call 10; refine (build_is HP3.out HLR3.out HU3.out HAR.out HSV.out (by omega)).mono ?_)
  rintro e w4 ⟨hb4, ⟨hok, g, F, rfl, hv4, _⟩ | ⟨hbad, rfl⟩⟩
  · have HB4 := Lib.hid hb4
    have HV4 := Lib.hid hv4
    have HVO : Hid (VOk l) := Lib.hid ⟨ok_all hok, HAR.out, by omega⟩
    have HLO : Hid (LOk l) := Lib.hid ⟨HAR.out, by omega⟩
    have HP4 := Lib.hid (HP3.out.next hb4)
    have HLR4 := Lib.hid (RdAc.next HLR3.out hb4)
    have HB04 := Lib.hid (HB03.out.trans (hb4.mono hsz3))
    have hsz4 : cb ≤ w4.heap.size := Nat.le_trans hsz3 hb4.size
    have HU4 := Lib.hid (HU3.out.next hb4 HU3.out.1)
    clear hb4 hv4 hok HB03 HP3 HLR3 HB4
    have H0 : Hid (SLoop s0 l w4 (.pointer p) (.int .i64 (0 : Nat)) w4) := Lib.hid ⟨0, p, by omega, rfl, rfl, HP4.out, Below.refl _ _⟩
    go_upto_region 9 with (fail)
    go_loopw [7, 8] (fun v i wr => SLoop s0 l w4 v i wr) (fun _ i _ => l.length + 1 - (intOf i).toNat)
    case atStart => exact H0.out
    case round =>
      clear H0
      obtain ⟨k, q, hkl, rfl, rfl, hst, hbw⟩ := hrel
      have HST := Lib.hid hst
      have HBW := Lib.hid hbw
      have HVr := Lib.hid (HV4.out.next hbw)
      have HUr := Lib.hid (HU4.out.next hbw HU4.out.1)
      clear hst hbw
      by_cases hk : k ≤ l.length
      · have j1 : (0 : Int) ≤ (k : Int) := by omega
        have j2 : (k : Int) ≤ (l.length : Int) := by omega
        have j3 : decide ((k : Int) ≤ (l.length : Int)) = true := decide_eq_true j2
        have HSS := Lib.hid (stS_ok HSV.out (l := l.take k) fun b hb => HVO.out.ok b (List.mem_of_mem_take hb))
        go_wp2_with (go_at_call 23; refine (state_is (k : Int) HVr.out HVO.out HSV.out HUr.out).mono ?_)
        rintro e w5 ⟨hb5, ⟨_, _, q5, rfl, hs5⟩ | ⟨hbad, rfl⟩⟩
        case inr => exact absurd ⟨j1, j2⟩ hbad
        rw [Int.toNat_natCast] at hs5
        have HS5 := Lib.hid hs5
        have HB5 := Lib.hid hb5
        have HST5 := Lib.hid (HST.out.next hb5)
        clear hs5 hb5
        have EQ := Lib.hid (sequal_is HST5.out HS5.out HSS.out.1 HSS.out.1)
        by_cases hkl2 : k < l.length
        · have j4 : decide ((k : Int) < (l.length : Int)) = true := decide_eq_true (by omega)
          have j5 : (k : Int) < (l.length : Int) := by omega
          obtain ⟨b, o, u1, u2, hbe, hbr, n1, n2, y0, y1, y2, y3, y4, y5⟩ := RdAc.piece (RdAc.next HLR4.out (HBW.out.trans (HB5.out.mono HBW.out.size))) hkl2
          subst hbe
          obtain ⟨a, hae⟩ : ∃ a, l[k] = a := ⟨_, rfl⟩
          rw [hae] at n2
          have HAA : Hid (AcR a) := Lib.hid (by rw [← hae]; exact HAR.out _ (List.getElem_mem hkl2))
          have HOA : Hid (okAc a = true) := Lib.hid (by rw [← hae]; exact HVO.out.ok _ (List.getElem_mem hkl2))
          have HTK := Lib.hid (show stS s0 (l.take (k + 1)) = appS (stS s0 (l.take k)) a.writes by rw [stS_take s0 l k hkl2, hae])
          have hwl : a.writes.length ≤ 10 := HAA.out.2.2.2.2
          have HCV : Hid (∀ c ∈ a.writes, ChV c) := Lib.hid fun c hc => ord_ob (ok_ch HOA.out).2 c hc
          have N2 := Lib.hid n2
          clear hae n1 n2 y0 y1 y2 y3 y4
          go_wp2_with (go_at_call 24; refine EQ.out.mono ?_; rintro e w6 ⟨rfl, hb6⟩; (try rw [decide_eq_true rfl]); obtain ⟨hc6, hf6⟩ := bcell hb6; have HB6 := Lib.hid hb6; clear hb6)
          have HSQ := Lib.hid (HST5.out.next HB6.out)
          have HB56 := Lib.hid (HBW.out.trans ((HB5.out.trans (HB6.out.mono HB5.out.size)).mono HBW.out.size))
          have HU6 := Lib.hid (HU4.out.next HB56.out HU4.out.1)
          have N6 := Lib.hid (RdP.next N2.out HB6.out)
          refine (apply_st HSQ.out HSS.out N6.out HCV.out HU6.out (by omega)).mono ?_
          rintro e w7 ⟨q7, rfl, hs7, hb7⟩
          have HS7 := Lib.hid hs7
          have HB7 := Lib.hid hb7
          clear hs7 hb7 hc6 hf6
          go_wp2_with fail
          go_roundw
          case rel => exact ⟨k + 1, q7, by omega, by go_num, rfl, by rw [HTK.out]; exact HS7.out, HB56.out.trans (HB7.out.mono HB56.out.size)⟩
          case measure => simp [intOf]; omega
        · have j4 : decide ((k : Int) < (l.length : Int)) = false := decide_eq_false (by omega)
          have HTK := Lib.hid (show l.take (k + 1) = l.take k by rw [List.take_of_length_le (by omega), List.take_of_length_le (by omega)])
          go_wp2_with (go_at_call 24; refine EQ.out.mono ?_; rintro e w6 ⟨rfl, hb6⟩; (try rw [decide_eq_true rfl]); have HB6 := Lib.hid hb6; clear hb6)
          go_roundw
          case rel => exact ⟨k + 1, q, by omega, by go_num, rfl, by rw [HTK.out]; exact HST5.out.next HB6.out, HBW.out.trans ((HB5.out.trans (HB6.out.mono HB5.out.size)).mono HBW.out.size)⟩
          case measure => simp [intOf]; omega
      · have j3 : decide ((k : Int) ≤ (l.length : Int)) = false := decide_eq_false (by omega)
        have ONE : True := trivial
        go_wp2_with (clear ONE; go_at_call 23; refine (state_is ((l.length : Int) + 1) HVr.out HVO.out HSV.out HUr.out).mono ?_)
        rintro e w5 ⟨hb5, ⟨h1, h2, _⟩ | ⟨_, rfl⟩⟩
        case inl => omega
        have HV5 := Lib.hid (HVr.out.next hb5)
        have HU5 := Lib.hid (HUr.out.next hb5 HUr.out.1)
        have HB5 := Lib.hid (HBW.out.trans (hb5.mono HBW.out.size))
        clear hb5
        have ONE : True := trivial
        go_wp2_with (clear ONE; go_at_call 23; refine (state_is (-1) HV5.out HVO.out HSV.out HU5.out).mono ?_)
        rintro e w6 ⟨hb6, ⟨h1, h2, _⟩ | ⟨_, rfl⟩⟩
        case inl => omega
        have HB6 := Lib.hid (HB5.out.trans (hb6.mono HB5.out.size))
        clear hb6
        go_wp2_with fail
        go_ret
        exact ⟨rfl, by rw [HCB.out]; exact HB04.out.trans (HB6.out.mono hsz4)⟩
  · have HB4 := Lib.hid hb4
    have HLR4 := Lib.hid (RdAc.next HLR3.out hb4)
    have HU4 := Lib.hid (HU3.out.next hb4 HU3.out.1)
    obtain ⟨E, hE⟩ : ∃ E, bldR [] l = E := ⟨_, rfl⟩
    rw [hE] at hbad ⊢
    have HE := Lib.hid hE
    have n1 : (E == 0) = false := by rw [beq_eq_false_iff_ne]; exact hbad
    have n2 : (E != 0) = true := by rw [bne_iff_ne]; exact hbad
    clear hb4 hE
    go_wp2_with (go_at_call 11; refine (rcheck_is HLR4.out HU4.out HAR.out (by omega)).mono ?_; rintro e w5 ⟨rfl, hb5⟩; rw [HE.out]; have HB5 := Lib.hid hb5; clear hb5)
    go_ret
    exact ⟨rfl, by rw [HCB.out]; exact HB03.out.trans ((HB4.out.trans (HB5.out.mono HB4.out.size)).mono HSZ.out)⟩
end Go.Proofs.YtobkmkplhbaepaaDoor
