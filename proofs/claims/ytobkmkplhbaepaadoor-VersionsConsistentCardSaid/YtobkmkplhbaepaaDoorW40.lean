/- Walks of layer 46: the law of consistent runs. -/
import Derived.Test.YtobkmkplhbaepaaDoorW39
namespace Go.Proofs.YtobkmkplhbaepaaDoor
open Go.RowKit
set_option linter.unusedSimpArgs false
set_option linter.unusedVariables false
attribute [local go_sem ↓] Go.wp_at_zero Go.wp_at_succ
def CLoop (s0 : St) (l : List Ac) (w : World) (f i : Value) (wr : World) : Prop := ∃ k : Nat, k ≤ l.length ∧ i = .int .i64 ((k : Int) - 1) ∧ f = .int .i64 (conR (badA s0 l) k (l.drop k) : Nat) ∧ Below w.heap.size w wr
def CIn (s0 : St) (l : List Ac) (m N : Nat) (rs : List Ch) (w : World) (f j : Value) (wr : World) : Prop := ∃ q : Nat, q ≤ rs.length ∧ j = .int .i64 q ∧ f = .int .i64 ((if (rs.take q).any (badC s0 l m) then m else N : Nat) : Int) ∧ Below w.heap.size w wr
def CSum (l : List Ac) (w : World) (f i : Value) (wr : World) : Prop := ∃ k : Nat, k ≤ l.length ∧ i = .int .i64 k ∧ f = .int .i64 (sumN ((l.take k).map fun a => a.reads.length) : Nat) ∧ wr = w
def gS (s0 : St) (l : List Ac) (n : Nm) (vs : List Ver) : Nat := sumN (vs.map fun v => (rdrA l n v.idx).2.length)
def COut (s0 : St) (l : List Ac) (w : World) (f i : Value) (wr : World) : Prop := ∃ k : Nat, k ≤ 6 ∧ i = .int .i64 k ∧ f = .int .i64 (sumN ((objs.take k).map fun n => gS s0 l n (verL s0 l n)) : Nat) ∧ Below w.heap.size w wr
def CVer (s0 : St) (l : List Ac) (n : Nm) (vs : List Ver) (S : Nat) (w : World) (f i : Value) (wr : World) : Prop := ∃ q : Nat, q ≤ vs.length ∧ i = .int .i64 q ∧ f = .int .i64 ((S + gS s0 l n (vs.take q) : Nat) : Int) ∧ Below w.heap.size w wr
theorem sumN_le {α : Type} {f : α → Nat} {c : Nat} : ∀ {l : List α}, (∀ x ∈ l, f x ≤ c) → sumN (l.map f) ≤ l.length * c
  | [], _ => by simp [sumN]
  | a :: l, h => by
    have h1 := sumN_le (l := l) fun x hx => h x (by simp [hx])
    have h2 := h a (by simp)
    simp only [List.map_cons, sumN, List.length_cons]
    have : (l.length + 1) * c = l.length * c + c := by rw [Nat.add_mul]; omega
    omega
theorem conR_le {f : Nat → Ac → Bool} : ∀ {l : List Ac} {i : Nat}, conR f i l ≤ i + l.length
  | [], i => Nat.le_refl _
  | a :: l, i => by
    unfold conR
    have := conR_le (f := f) (l := l) (i := i + 1)
    simp only [List.length_cons]
    split <;> omega
theorem any_step {α : Type} (f : α → Bool) (l : List α) (q m N : Nat) (hq : q < l.length) (b : Bool) (hb : f l[q] = b) : (if (l.take (q + 1)).any f then m else N : Nat) = if b then m else (if (l.take q).any f then m else N) := by
  rw [any_take f l q hq, hb]
  cases (l.take q).any f <;> cases b <;> rfl
set_option maxRecDepth 100000 in
set_option maxHeartbeats 4000000 in
theorem law_consistent {w : World} {v1 v2 : Value} {r : Rn} (hit : RaIt w.heap.size w v1 r.base) (hac : RaAct w.heap.size w v2 r.acts) (hu : UseAt w) : Calls Tryd.prog 4 #[.agg #[v1, v2]] w fun e w' => e = .returned (.bool true) ∧ Below w.heap.size w w' := by
  have ha := (Below.refl w.heap.size w).alloc (Nat.le_refl _) (.cells #[v1, v2] 25)
  have hz : w.heap.size < (w.alloc (.cells #[v1, v2] 25)).heap.size := by simp
  have zb := Blk.new w 25 #[v1, v2]
  have z0 := zb.cell 0
  have z1 := zb.cell 1
  simp only [List.getElem?_toArray, List.getElem?_cons_zero, List.getElem?_cons_succ] at z0 z1
  obtain ⟨A1, c1, rfl, _, _⟩ := hit.form
  obtain ⟨A2, c2, rfl, _, _⟩ := RowRa.form hac
  have HA := Lib.hid ha
  have HU := Lib.hid (hu.next ha hu.1)
  have HLB := Lib.hid hit.len
  have HOK := Lib.hid hac.ok
  have HIT := Lib.hid ((hit.below ha).next_ (Nat.le_of_lt hz))
  have HAC := Lib.hid ((hac.below ha).next_ (Nat.le_of_lt hz))
  clear hit hac hu ha zb
  go_enter Tryd.func4, Tryd.ntmps4
  go_upto_region 1 with (fail)
  generalize w.alloc (.cells #[.slice A1 r.base.length c1, .slice A2 r.acts.length c2] 25) = W at *
  generalize hcb : w.heap.size = cb at *
  have HCB := Lib.hid hcb
  clear hcb
  go_upto_region 3 with (go_at_call 7; refine (known_is HU.out).mono ?_; rintro e w1 ⟨rfl, hb1⟩; have HB1 := Lib.hid hb1; clear hb1)
  have hc1 : cb < w1.heap.size := Nat.lt_of_lt_of_le hz HB1.out.size
  have HU1 := Lib.hid (HU.out.next HB1.out HU.out.1)
  have HIT1 := Lib.hid ((HIT.out.below HB1.out).next_ HB1.out.size)
  have HAC1 := Lib.hid ((HAC.out.below HB1.out).next_ HB1.out.size)
  replace z0 := (HB1.out.cell (p := ⟨cb, 0, none⟩) hz).trans z0
  replace z1 := (HB1.out.cell (p := ⟨cb, 1, none⟩) hz).trans z1
  refine wp_region_noPanic ?_
  refine wp_region_held_drew (S := (fun (w' : World) => w'.cell? ⟨cb, 0, none⟩ = some (.slice A1 r.base.length c1) ∧ w'.cell? ⟨cb, 1, none⟩ = some (.slice A2 r.acts.length c2))) (by kernel_rfl) ?_ (fun hHeld => ?_)
  · exact ⟨z0, z1⟩
  refine wpAnyH_take (i := 0) (v := ?_) rfl (by kernel_rfl) (by kernel_rfl) (by kernel_rfl) (fun _ _ _ h => h) (Or.inl ⟨by kernel_rfl, ?_⟩) hHeld ?_
  rotate_left
  · (intro w hSw; (try dsimp only at hSw); go_simp; try with_reducible rfl)
  try simp only [Act.put, List.setIfInBounds_toArray, List.set_cons_zero, List.set_cons_succ]
  refine wpAnyH_take (i := 2) (v := ?_) rfl (by kernel_rfl) (by kernel_rfl) (by kernel_rfl) (fun _ _ _ h => h) (Or.inl ⟨by kernel_rfl, ?_⟩) hHeld ?_
  rotate_left
  · (intro w hSw; (try dsimp only at hSw); go_simp; try with_reducible rfl)
  try simp only [Act.put, List.setIfInBounds_toArray, List.set_cons_zero, List.set_cons_succ]
  refine wpAnyH_ready (rs := [1]) (by kernel_rfl) (by simp) ?_
  refine AllReadyH.cons rfl (fun K hK => ?_) AllReadyH.nil
  go_simp
  refine (base_is (w := w1.drew) (r := r) (HIT1.out.below (Below.refl _ _).drew) HLB.out (HU1.out.next (Below.refl w1.heap.size w1).drew HU1.out.1)).mono ?_; rintro e w2 ⟨p, rfl, hp, hb2'⟩; have hb2 := (Below.refl w1.heap.size w1).drew.trans hb2'; have HB2 := Lib.hid hb2; have HP2 := Lib.hid hp; clear hb2' hp
  try (go_wp2_with fail)
  refine hK.out _ _ ?_ (fun hNew => ?_)
  · exact ⟨(hb2.cell (p := ⟨cb, 0, none⟩) hc1).trans z0, (hb2.cell (p := ⟨cb, 1, none⟩) hc1).trans z1⟩
  clear hK K hHeld
  have hHeld := hNew
  clear hNew
  try simp only [Act.put, List.setIfInBounds_toArray, List.set_cons_zero, List.set_cons_succ]
  refine wpAnyH_ready (rs := [3]) (by kernel_rfl) (by simp) ?_
  refine AllReadyH.cons rfl (fun K hK => ?_) AllReadyH.nil
  go_simp
  refine (actions_is (r := r) ((HAC1.out.below HB2.out).next_ HB2.out.size)).mono ?_; rintro e w3 ⟨vl, rfl, hl, hb3'⟩; have HB3 := Lib.hid hb3'; have HL3 := Lib.hid hl; clear hb3' hl
  try (go_wp2_with fail)
  refine hK.out _ _ ?_ (fun hNew => ?_)
  · exact ⟨(HB3.out.cell (p := ⟨cb, 0, none⟩) (Nat.lt_of_lt_of_le hc1 HB2.out.size)).trans ((HB2.out.cell (p := ⟨cb, 0, none⟩) hc1).trans z0), (HB3.out.cell (p := ⟨cb, 1, none⟩) (Nat.lt_of_lt_of_le hc1 HB2.out.size)).trans ((HB2.out.cell (p := ⟨cb, 1, none⟩) hc1).trans z1)⟩
  clear hK K hHeld
  have hHeld := hNew
  clear hNew
  try simp only [Act.put, List.setIfInBounds_toArray, List.set_cons_zero, List.set_cons_succ]
  refine wpAnyH_take (i := 4) (v := ?_) rfl (by kernel_rfl) (by kernel_rfl) (by kernel_rfl) (fun _ _ _ h => h) (Or.inl ⟨by kernel_rfl, ?_⟩) hHeld ?_
  rotate_left
  · (intro w hSw; (try dsimp only at hSw); go_simp; try with_reducible rfl)
  try simp only [Act.put, List.setIfInBounds_toArray, List.set_cons_zero, List.set_cons_succ]
  refine wpAnyH_take (i := 5) (v := ?_) rfl (by kernel_rfl) (by kernel_rfl) (by kernel_rfl) (fun _ _ _ h => h) (Or.inl ⟨by kernel_rfl, ?_⟩) hHeld ?_
  rotate_left
  · (intro w hSw; (try dsimp only at hSw); go_simp; try with_reducible rfl)
  try simp only [Act.put, List.setIfInBounds_toArray, List.set_cons_zero, List.set_cons_succ]
  refine wpAnyH_done (by kernel_rfl) ?_ _
  clear hHeld
  try simp only [List.getElem_toArray, List.getElem_cons_zero, List.getElem_cons_succ, Act.put, List.setIfInBounds_toArray, List.set_cons_zero, List.set_cons_succ]
  refine NoPanic.normal ?_
  obtain ⟨s0, hs0⟩ : ∃ s, baseS r = s := ⟨_, rfl⟩
  obtain ⟨l, hl⟩ : ∃ l, actsS r = l := ⟨_, rfl⟩
  have HAR : Hid (∀ a ∈ l, AcR a) := Lib.hid (by rw [← hl]; exact acts_r HOK.out)
  have HSV : Hid (StV s0) := Lib.hid (by rw [← hs0]; exact base_v r)
  have hll : l.length ≤ 20 := by rw [← hl]; exact acts_len r
  rw [hs0] at HP2
  rw [hl] at HL3
  have HP3 := Lib.hid (HP2.out.next HB3.out)
  have HLR3 := Lib.hid (RowOwn.rd HL3.out)
  have HB13 := Lib.hid (HB2.out.trans (HB3.out.mono HB2.out.size))
  have HU3 := Lib.hid (HU1.out.next HB13.out HU1.out.1)
  have HB03 := Lib.hid (HA.out.trans ((HB1.out.trans (HB13.out.mono HB1.out.size)).mono (Nat.le_of_lt hz)))
  have hsz3 : cb ≤ w3.heap.size := Nat.le_trans (Nat.le_of_lt hc1) HB13.out.size
  have HSZ : Hid (cb ≤ w3.heap.size) := Lib.hid hsz3
  obtain ⟨Al, cl, rfl, hcl⟩ := RowRd.form HLR3.out
  clear hs0 hl hb2 HB2 HB3 HP2 HL3 HIT HAC HIT1 HAC1 HU HU1 HA HB1 z0 z1 HB13 HLB HOK hc1
  go_wp2_with (go_at_call 10; refine (build_is HP3.out HLR3.out HU3.out HAR.out HSV.out (by omega)).mono ?_)
  rintro e w4 ⟨hb4, ⟨hok, g, F, rfl, hv4, _⟩ | ⟨hbad, rfl⟩⟩
  · have HB4 := Lib.hid hb4
    have HV4 := Lib.hid hv4
    have HVO : Hid (VOk l) := Lib.hid ⟨ok_all hok, HAR.out, by omega⟩
    have HLO : Hid (LOk l) := Lib.hid ⟨HAR.out, by omega⟩
    have HP4 := Lib.hid (HP3.out.next hb4)
    have HLR4 := Lib.hid (RdAc.next HLR3.out hb4)
    have HB04 := Lib.hid (HB03.out.trans (hb4.mono hsz3))
    have hsz4 : cb ≤ w4.heap.size := Nat.le_trans hsz3 hb4.size
    clear hb4 hv4 hok HB03 HP3 HLR3 HB4
    have H0 : Hid (CLoop s0 l w4 (.int .i64 l.length) (.int .i64 ((l.length : Int) - 1)) w4) := Lib.hid ⟨l.length, Nat.le_refl _, rfl, by rw [List.drop_length]; rfl, Below.refl _ _⟩
    go_upto_region 9 with (fail)
    go_loopw [7, 8] (fun f i wr => CLoop s0 l w4 f i wr) (fun _ i _ => (intOf i + 1).toNat)
    case atStart => exact H0.out
    case round =>
      clear H0
      obtain ⟨k, hkl, rfl, rfl, hbw⟩ := hrel
      have HBW := Lib.hid hbw
      clear hbw
      rcases Nat.eq_zero_or_pos k with hk0 | hk0
      · subst hk0
        have hcs : Hid (conR (badA s0 l) 0 (l.drop 0) = conS s0 l) := Lib.hid rfl
        have hcl2 : conS s0 l ≤ l.length := by have := conR_le (f := badA s0 l) (l := l) (i := 0); unfold conS; omega
        rw [hcs.out]
        obtain ⟨CS, hCS⟩ : ∃ x, conS s0 l = x := ⟨_, rfl⟩
        have HCS := Lib.hid hCS
        rw [hCS] at hcl2 ⊢
        clear hCS hcs
        have HVr := Lib.hid (HV4.out.next HBW.out)
        have HB4w := Lib.hid HBW.out
        go_wp2_with (go_at_call 17; refine (consistent_is HVr.out HVO.out).mono ?_; rintro e w5 ⟨rfl, hb5⟩; rw [HCS.out]; have HB5 := Lib.hid hb5; clear hb5)
        have HB45 := Lib.hid (HBW.out.trans (HB5.out.mono HBW.out.size))
        have HV5 := Lib.hid (HV4.out.next HB45.out)
        have HLR5 := Lib.hid (RdAc.next HLR4.out HB45.out)
        have HB05 := Lib.hid (HB04.out.trans (HB45.out.mono hsz4))
        have hsz5 : cb ≤ w5.heap.size := Nat.le_trans hsz4 HB45.out.size
        have HSZ5 := Lib.hid hsz5
        clear HBW HB4w HB5 HB45 HV4 HLR4 HB04 HVr HCS hcl2
        have H0 : Hid (CSum l w5 (.int .i64 (0 : Nat)) (.int .i64 (0 : Nat)) w5) := Lib.hid ⟨0, Nat.zero_le _, rfl, rfl, rfl⟩
        go_loopw [12, 14] (fun f i wr => CSum l w5 f i wr) (fun _ i _ => l.length - (intOf i).toNat)
        case atStart => exact H0.out
        case round =>
          clear H0
          obtain ⟨k, hkl, rfl, rfl, hwr⟩ := hrel
          subst hwr
          have hsl : sumN ((l.take k).map fun a => a.reads.length) ≤ 1000 := by
            have h1 := sumN_le (f := fun a : Ac => a.reads.length) (c := 10) (l := l.take k) fun a ha => (HAR.out a (List.mem_of_mem_take ha)).2.2.2.1
            rw [List.length_take] at h1
            omega
          by_cases hk : k < l.length
          · have j1 : (0 : Int) ≤ (k : Int) := by omega
            have j2 : (k : Int) < (l.length : Int) := by omega
            have j3 : decide ((k : Int) < (l.length : Int)) = true := decide_eq_true j2
            obtain ⟨b, o, u1, u2, hbe, hbr, n1, n2, y0, y1, y2, y3, y4, y5⟩ := RdAc.piece HLR5.out hk
            subst hbe
            obtain ⟨A3, c3, rfl, hc3⟩ := RdP.form n1
            have hrl := (HAR.out _ (List.getElem_mem hk)).2.2.2.1
            have HST := Lib.hid (sumN_take (fun a : Ac => a.reads.length) l k hk)
            obtain ⟨rl, hrle⟩ : ∃ x, l[k].reads.length = x := ⟨_, rfl⟩
            rw [hrle] at y4 hc3 hrl HST
            obtain ⟨sn, hsn⟩ : ∃ x, sumN ((l.take k).map fun a => a.reads.length) = x := ⟨_, rfl⟩
            rw [hsn] at HST hsl ⊢
            clear hrle hsn n1 n2 y0 y1 y2 y3 y5
            go_wp2_with fail
            go_roundw
            case rel => exact ⟨k + 1, by omega, by go_num, by rw [HST.out]; go_num, rfl⟩
            case measure => simp [intOf]; omega
          · have j3 : decide ((k : Int) < (l.length : Int)) = false := decide_eq_false (by omega)
            have hkf : l.take k = l := List.take_of_length_le (by omega)
            rw [hkf] at hsl ⊢
            obtain ⟨RN, hRN⟩ : ∃ x, sumN (l.map fun a => a.reads.length) = x := ⟨_, rfl⟩
            have HRN := Lib.hid hRN
            rw [hRN] at hsl ⊢
            clear hRN
            have H0 : Hid (COut s0 l wr (.int .i64 (0 : Nat)) (.int .i64 (0 : Nat)) wr) := Lib.hid ⟨0, by omega, rfl, rfl, Below.refl _ _⟩
            go_wp2
            clear j3 hkf hk hkl
            obtain ⟨w5, hw5⟩ : ∃ w5 : World, w5 = wr := ⟨_, rfl⟩
            subst hw5
            go_loopw [13, 15] (fun f i wr => COut s0 l w5 f i wr) (fun _ i _ => 6 - (intOf i).toNat)
            case atStart => exact H0.out
            case round =>
              clear H0
              obtain ⟨k, hk6, rfl, rfl, hbw⟩ := hrel
              have HBW := Lib.hid hbw
              clear hbw
              have hG : ∀ n, gS s0 l n (verL s0 l n) ≤ 1000 := fun n => by
                unfold gS
                rw [found_len s0 l n fun a ha => (ok_ch (HVO.out.ok a ha)).2]
                exact HVO.out.rlen n
              have hsl2 : sumN ((objs.take k).map fun n => gS s0 l n (verL s0 l n)) ≤ 6000 := by
                have h1 := sumN_le (f := fun n => gS s0 l n (verL s0 l n)) (c := 1000) (l := objs.take k) fun n _ => hG n
                rw [List.length_take, objs_len] at h1
                omega
              obtain ⟨sn, hsn⟩ : ∃ x, sumN ((objs.take k).map fun n => gS s0 l n (verL s0 l n)) = x := ⟨_, rfl⟩
              have HSN := Lib.hid hsn
              rw [hsn] at hsl2 ⊢
              clear hsn
              by_cases hk : k < 6
              · have j1 : (0 : Int) ≤ (k : Int) := by omega
                have j2 : (k : Int) < 6 := by omega
                have j3 : decide ((k : Int) < 6) = true := decide_eq_true j2
                have ONCE : True := trivial
                go_wp2_with (clear ONCE; go_at_call 12; refine (objects_is wr).mono ?_)
                rintro e w6 ⟨go, co, rfl, how6, hb6⟩
                have HB6 := Lib.hid (HBW.out.trans (hb6.mono HBW.out.size))
                clear how6 hb6
                have ONCE : True := trivial
                go_wp2_with (clear ONCE; go_at_call 12; refine (objects_is w6).mono ?_)
                rintro e w7 ⟨go, co, rfl, how7, hb7⟩
                have HB7 := Lib.hid (HB6.out.trans (hb7.mono HB6.out.size))
                obtain ⟨b, o, hbe, hbr, y0, y1, y2, y3, y4⟩ := RdNm.piece (show RdNm w7 (.slice (some ⟨go, 0, none⟩) 6 co) objs from Rd.of_own how7) (k := k) (by rw [objs_len]; exact hk)
                injection hbe with hbe
                injection hbe with e1 e2
                subst e1 e2
                simp only [Nat.zero_add] at y0 y1 y2 y3 y4
                obtain ⟨n, hn⟩ : ∃ n, objs[k]'(by rw [objs_len]; exact hk) = n := ⟨_, rfl⟩
                have HNN := Lib.hid hn
                have HNO : Hid (OwnE n) := Lib.hid (by rw [← hn]; exact IsOb.own (List.getElem_mem _))
                rw [hn] at y0 y1 y2 y3 y4
                have HST := Lib.hid (sumN_take (fun n => gS s0 l n (verL s0 l n)) objs k (by rw [objs_len]; exact hk))
                rw [hn] at HST
                clear hn how7 hb7
                have HV7 := Lib.hid (HV5.out.next HB7.out)
                go_wp2_with (go_at_call 18; refine (of_is (n := n) HV7.out HNO.out HVO.out).mono ?_)
                rintro e w8 ⟨vv, rfl, hov, hb8⟩
                have HB8 := Lib.hid (HB7.out.trans (hb8.mono HB7.out.size))
                have HOV := Lib.hid (OwnP.rd hov)
                obtain ⟨Av, cv, rfl, hcv⟩ := own_len hov
                have HGN := Lib.hid (hG n)
                have hvl := HVO.out.vlen n
                have hvl2 : (verL s0 l n).length ≤ 1001 := by unfold verL; simp; omega
                have HVI := Lib.hid (verL_idx s0 l n)
                have HRO := Lib.hid (fun v hv => rdrA_ok s0 l n (fun a ha => (ok_ch (HVO.out.ok a ha)).2) v hv (.inr trivial) (verL_idx s0 l n v hv).2)
                obtain ⟨vs, hvs⟩ : ∃ x, verL s0 l n = x := ⟨_, rfl⟩
                rw [hvs] at HOV hcv hvl2 HVI HRO HST HGN ⊢
                rw [HSN.out] at HST
                have H0 : Hid (CVer s0 l n vs sn w8 (.int .i64 (sn : Int)) (.int .i64 (0 : Nat)) w8) := Lib.hid ⟨0, Nat.zero_le _, rfl, rfl, Below.refl _ _⟩
                clear hov hb8 hvs y0 y1 y2 y3 y4 hvl
                go_wp2_with fail
                go_loopw [13, 17] (fun f i wr => CVer s0 l n vs sn w8 f i wr) (fun _ i _ => vs.length - (intOf i).toNat)
                case atStart => exact H0.out
                case round =>
                  clear H0
                  obtain ⟨q, hql, rfl, rfl, hbw⟩ := hrel
                  have HBI := Lib.hid hbw
                  clear hbw
                  have hsl3 : gS s0 l n (vs.take q) ≤ 2000000 := by
                    have h1 := sumN_le (f := fun v : Ver => (rdrA l n v.idx).2.length) (c := 1000) (l := vs.take q) fun v _ => Nat.le_trans (rdrA_len l n v.idx) (HVO.out.rlen n)
                    rw [List.length_take] at h1
                    unfold gS
                    omega
                  by_cases hq : q < vs.length
                  · have i1 : (0 : Int) ≤ (q : Int) := by omega
                    have i2 : (q : Int) < (vs.length : Int) := by omega
                    have i3 : decide ((q : Int) < (vs.length : Int)) = true := decide_eq_true i2
                    obtain ⟨b2, o2, hbe, hbr2, x0, _, _⟩ := RdVe.piece (RdP.next HOV.out HBI.out) hq
                    subst hbe
                    have HS2 := Lib.hid (show gS s0 l n (vs.take (q + 1)) = gS s0 l n (vs.take q) + (rdrA l n vs[q].idx).2.length from sumN_take (fun v : Ver => (rdrA l n v.idx).2.length) vs q hq)
                    have HRQ := Lib.hid (HRO.out vs[q] (List.getElem_mem hq))
                    obtain ⟨xi, hxi⟩ : ∃ x, vs[q].idx = x := ⟨_, rfl⟩
                    rw [hxi] at x0 HS2 HRQ
                    have hr0 : (rdrA l n xi).1 = 0 := by rw [HRQ.out]
                    have hrlen : (rdrA l n xi).2.length ≤ 1000 := Nat.le_trans (rdrA_len l n xi) (HVO.out.rlen n)
                    obtain ⟨gq, hgq⟩ : ∃ x, gS s0 l n (vs.take q) = x := ⟨_, rfl⟩
                    rw [hgq] at HS2 hsl3 ⊢
                    have HB58 := Lib.hid (HB8.out.trans (HBI.out.mono HB8.out.size))
                    have HVr := Lib.hid (HV5.out.next HB58.out)
                    clear hxi hgq
                    go_upto_region 32 with (fail)
                    refine wp_region_noPanic ?_
                    refine wp_region_held_drew (S := (fun (w' : World) => w'.cell? ⟨b2, o2 + q * 3, none⟩ = some (.int .i64 xi))) (by kernel_rfl) ?_ (fun hHeld => ?_)
                    · exact x0
                    refine wpAnyH_take (i := 0) (v := ?_) rfl (by kernel_rfl) (by kernel_rfl) (by kernel_rfl) (fun _ _ _ h => h) (Or.inl ⟨by kernel_rfl, ?_⟩) hHeld ?_
                    rotate_left
                    · (intro w hSw; (try dsimp only at hSw); go_simp; try with_reducible rfl)
                    try simp only [Act.put, List.setIfInBounds_toArray, List.set_cons_zero, List.set_cons_succ]
                    refine wpAnyH_take (i := 2) (v := ?_) rfl (by kernel_rfl) (by kernel_rfl) (by kernel_rfl) (fun _ _ _ h => h) (Or.inl ⟨by kernel_rfl, ?_⟩) hHeld ?_
                    rotate_left
                    · (intro w hSw; (try dsimp only at hSw); go_simp; try with_reducible rfl)
                    try simp only [Act.put, List.setIfInBounds_toArray, List.set_cons_zero, List.set_cons_succ]
                    refine wpAnyH_take (i := 5) (v := ?_) rfl (by kernel_rfl) (by kernel_rfl) (by kernel_rfl) (fun _ _ _ h => h) (Or.inl ⟨by kernel_rfl, ?_⟩) hHeld ?_
                    rotate_left
                    · (intro w hSw; (try dsimp only at hSw); go_simp; try with_reducible rfl)
                    try simp only [Act.put, List.setIfInBounds_toArray, List.set_cons_zero, List.set_cons_succ]
                    refine wpAnyH_take (i := 6) (v := ?_) rfl (by kernel_rfl) (by kernel_rfl) (by kernel_rfl) (fun _ _ _ h => h) (Or.inl ⟨by kernel_rfl, ?_⟩) hHeld ?_
                    rotate_left
                    · (intro w hSw; (try dsimp only at hSw); go_simp; try with_reducible rfl)
                    try simp only [Act.put, List.setIfInBounds_toArray, List.set_cons_zero, List.set_cons_succ]
                    refine wpAnyH_take (i := 7) (v := ?_) rfl (by kernel_rfl) (by kernel_rfl) (by kernel_rfl) (fun _ _ _ h => h) (Or.inl ⟨by kernel_rfl, ?_⟩) hHeld ?_
                    rotate_left
                    · (intro w hSw; (try dsimp only at hSw); go_simp; try with_reducible rfl)
                    try simp only [Act.put, List.setIfInBounds_toArray, List.set_cons_zero, List.set_cons_succ]
                    refine wpAnyH_take (i := 8) (v := ?_) rfl (by kernel_rfl) (by kernel_rfl) (by kernel_rfl) (fun _ _ _ h => h) (Or.inl ⟨by kernel_rfl, ?_⟩) hHeld ?_
                    rotate_left
                    · (intro w hSw; (try dsimp only at hSw); go_simp; try with_reducible rfl)
                    try simp only [Act.put, List.setIfInBounds_toArray, List.set_cons_zero, List.set_cons_succ]
                    refine wpAnyH_take (i := 9) (v := ?_) rfl (by kernel_rfl) (by kernel_rfl) (by kernel_rfl) (fun _ _ _ h => h) (Or.inl ⟨by kernel_rfl, ?_⟩) hHeld ?_
                    rotate_left
                    · (intro w hSw; (try dsimp only at hSw); go_simp; try with_reducible rfl)
                    try simp only [Act.put, List.setIfInBounds_toArray, List.set_cons_zero, List.set_cons_succ]
                    refine wpAnyH_ready (rs := [1]) (by kernel_rfl) (by simp) ?_
                    refine AllReadyH.cons rfl (fun K hK => ?_) AllReadyH.nil
                    go_simp
                    refine (objects_is wr.drew).mono ?_; rintro e w9 ⟨go, co, rfl, how9, hb9'⟩; have hb9 := (Below.refl wr.heap.size wr).drew.trans hb9'; have HB9 := Lib.hid hb9; clear hb9'
                    try (go_wp2_with fail)
                    refine hK.out _ _ ?_ (fun hNew => ?_)
                    · exact (hb9.cell (p := ⟨b2, o2 + q * 3, none⟩) hbr2).trans x0
                    clear hK K hHeld
                    have hHeld := hNew
                    clear hNew
                    try simp only [Act.put, List.setIfInBounds_toArray, List.set_cons_zero, List.set_cons_succ]
                    have yy := RdNm.piece (show RdNm w9 (.slice (some ⟨go, 0, none⟩) 6 co) objs from Rd.of_own how9) (k := k) (by rw [objs_len]; exact hk)
                    obtain ⟨b, o, hbe, hbr9, y0, y1, y2, y3, y4⟩ := yy
                    injection hbe with hbe
                    injection hbe with e1 e2
                    subst e1 e2
                    simp only [Nat.zero_add] at y0 y1 y2 y3 y4
                    rw [HNN.out] at y0 y1 y2 y3 y4
                    refine wpAnyH_more (S' := (fun (w' : World) => w'.cell? ⟨b2, o2 + q * 3, none⟩ = some (.int .i64 xi) ∧ w'.cell? ⟨go, k * 5, none⟩ = some (.int .i64 n.kind) ∧ w'.cell? ⟨go, k * 5 + 1, none⟩ = some (.string (bs n.owner)) ∧ w'.cell? ⟨go, k * 5 + 2, none⟩ = some (.int .i64 n.num) ∧ w'.cell? ⟨go, k * 5 + 3, none⟩ = some (.int .i64 n.idx) ∧ w'.cell? ⟨go, k * 5 + 4, none⟩ = some (.string (bs n.text)))) (fun _ h => h.1) ?_
                    clear hHeld
                    have hHeld : (fun (w' : World) => w'.cell? ⟨b2, o2 + q * 3, none⟩ = some (.int .i64 xi) ∧ w'.cell? ⟨go, k * 5, none⟩ = some (.int .i64 n.kind) ∧ w'.cell? ⟨go, k * 5 + 1, none⟩ = some (.string (bs n.owner)) ∧ w'.cell? ⟨go, k * 5 + 2, none⟩ = some (.int .i64 n.num) ∧ w'.cell? ⟨go, k * 5 + 3, none⟩ = some (.int .i64 n.idx) ∧ w'.cell? ⟨go, k * 5 + 4, none⟩ = some (.string (bs n.text))) _ := ⟨(hb9.cell (p := ⟨b2, o2 + q * 3, none⟩) hbr2).trans x0, y0, y1, y2, y3, y4⟩
                    refine wpAnyH_take (i := 3) (v := ?_) rfl (by kernel_rfl) (by kernel_rfl) (by kernel_rfl) (fun _ _ _ h => h) (Or.inl ⟨by kernel_rfl, ?_⟩) hHeld ?_
                    rotate_left
                    · (intro w hSw; (try dsimp only at hSw); go_simp; try with_reducible rfl)
                    try simp only [Act.put, List.setIfInBounds_toArray, List.set_cons_zero, List.set_cons_succ]
                    refine wpAnyH_take (i := 4) (v := ?_) rfl (by kernel_rfl) (by kernel_rfl) (by kernel_rfl) (fun _ _ _ h => h) (Or.inl ⟨by kernel_rfl, ?_⟩) hHeld ?_
                    rotate_left
                    · (intro w hSw; (try dsimp only at hSw); go_simp; try with_reducible rfl)
                    try simp only [Act.put, List.setIfInBounds_toArray, List.set_cons_zero, List.set_cons_succ]
                    refine wpAnyH_ready (rs := [10]) (by kernel_rfl) (by simp) ?_
                    refine AllReadyH.cons rfl (fun K hK => ?_) AllReadyH.nil
                    go_simp
                    refine (readers_is (n := n) xi (HVr.out.next HB9.out) HNO.out HVO.out).mono ?_; rintro e w10 ⟨vr, rfl, hor, hb10⟩; rw [hr0]; have HB10 := Lib.hid (HB9.out.trans (hb10.mono HB9.out.size)); obtain ⟨Ar, cr, rfl, hcr⟩ := own_len hor
                    try (go_wp2_with fail)
                    refine hK.out _ _ ?_ (fun hNew => ?_)
                    · exact ⟨(hb10.cell (p := ⟨b2, o2 + q * 3, none⟩) (Nat.lt_of_lt_of_le hbr2 HB9.out.size)).trans ((HB9.out.cell (p := ⟨b2, o2 + q * 3, none⟩) hbr2).trans x0), (hb10.cell (p := ⟨go, k * 5, none⟩) hbr9).trans y0, (hb10.cell (p := ⟨go, k * 5 + 1, none⟩) hbr9).trans y1, (hb10.cell (p := ⟨go, k * 5 + 2, none⟩) hbr9).trans y2, (hb10.cell (p := ⟨go, k * 5 + 3, none⟩) hbr9).trans y3, (hb10.cell (p := ⟨go, k * 5 + 4, none⟩) hbr9).trans y4⟩
                    clear hK K hHeld
                    have hHeld := hNew
                    clear hNew
                    try simp only [Act.put, List.setIfInBounds_toArray, List.set_cons_zero, List.set_cons_succ]
                    refine wpAnyH_take (i := 11) (v := ?_) rfl (by kernel_rfl) (by kernel_rfl) (by kernel_rfl) (fun _ _ _ h => h) (Or.inl ⟨by kernel_rfl, ?_⟩) hHeld ?_
                    rotate_left
                    · (intro w hSw; (try dsimp only at hSw); go_simp; try with_reducible rfl)
                    try simp only [Act.put, List.setIfInBounds_toArray, List.set_cons_zero, List.set_cons_succ]
                    refine wpAnyH_take (i := 12) (v := ?_) rfl (by kernel_rfl) (by kernel_rfl) (by kernel_rfl) (fun _ _ _ h => h) (Or.inl ⟨by kernel_rfl, ?_⟩) hHeld ?_
                    rotate_left
                    · (intro w hSw; (try dsimp only at hSw); go_simp; try with_reducible rfl)
                    try simp only [Act.put, List.setIfInBounds_toArray, List.set_cons_zero, List.set_cons_succ]
                    refine wpAnyH_take (i := 13) (v := ?_) rfl (by kernel_rfl) (by kernel_rfl) (by kernel_rfl) (fun _ _ _ h => h) (Or.inl ⟨by kernel_rfl, ?_⟩) hHeld ?_
                    rotate_left
                    · (intro w hSw; (try dsimp only at hSw); go_simp; try with_reducible rfl)
                    try simp only [Act.put, List.setIfInBounds_toArray, List.set_cons_zero, List.set_cons_succ]
                    refine wpAnyH_take (i := 14) (v := ?_) rfl (by kernel_rfl) (by kernel_rfl) (by kernel_rfl) (fun _ _ _ h => h) (Or.inl ⟨by kernel_rfl, ?_⟩) hHeld ?_
                    rotate_left
                    · (intro w hSw; (try dsimp only at hSw); go_simp; try with_reducible rfl)
                    try simp only [Act.put, List.setIfInBounds_toArray, List.set_cons_zero, List.set_cons_succ]
                    refine wpAnyH_take (i := 15) (v := ?_) rfl (by kernel_rfl) (by kernel_rfl) (by kernel_rfl) (fun _ _ _ h => h) (Or.inl ⟨by kernel_rfl, ?_⟩) hHeld ?_
                    rotate_left
                    · (intro w hSw; (try dsimp only at hSw); go_simp; try with_reducible rfl)
                    try simp only [Act.put, List.setIfInBounds_toArray, List.set_cons_zero, List.set_cons_succ]
                    refine wpAnyH_done (by kernel_rfl) ?_ _
                    clear hHeld
                    try simp only [List.getElem_toArray, List.getElem_cons_zero, List.getElem_cons_succ, Act.put, List.setIfInBounds_toArray, List.set_cons_zero, List.set_cons_succ]
                    refine NoPanic.normal ?_
                    go_wp2_with fail
                    go_roundw
                    case rel => exact ⟨q + 1, by omega, by go_num, by rw [HS2.out]; go_num, HBI.out.trans (HB10.out.mono HBI.out.size)⟩
                    case measure => simp [intOf]; omega
                  · have i3 : decide ((q : Int) < (vs.length : Int)) = false := decide_eq_false (by omega)
                    have hqf : vs.take q = vs := List.take_of_length_le (by omega)
                    rw [hqf] at hsl3 ⊢
                    have HGV := HGN.out
                    go_wp2_with fail
                    go_roundw
                    case rel => exact ⟨k + 1, by omega, by go_num, by rw [HST.out], HB8.out.trans (HBI.out.mono HB8.out.size)⟩
                    case measure => simp [intOf]; omega
              · have j3 : decide ((k : Int) < 6) = false := decide_eq_false (by omega)
                have hkf : objs.take k = objs := List.take_of_length_le (by rw [objs_len]; omega)
                have HRF := Lib.hid (reads_found s0 l HVO.out.ok)
                have HFE : Hid (sumN (objs.map fun n => gS s0 l n (verL s0 l n)) = RN) := Lib.hid (by rw [← HRN.out, ← HRF.out]; rfl)
                have hsr : sn = RN := by
                  have := HSN.out
                  rw [hkf, HFE.out] at this
                  exact this.symm
                subst hsr
                have ONCE : True := trivial
                go_wp2_with (clear ONCE; go_at_call 12; refine (objects_is wr).mono ?_)
                rintro e w6 ⟨go, co, rfl, how6, hb6⟩
                have HB6 := Lib.hid (HBW.out.trans (hb6.mono HBW.out.size))
                clear how6 hb6
                go_wp2_with fail
                go_ret
                exact ⟨rfl, by rw [HCB.out]; exact HB05.out.trans (HB6.out.mono HSZ5.out)⟩
      · obtain ⟨m, rfl⟩ : ∃ m, k = m + 1 := ⟨k - 1, by omega⟩
        have hml : m < l.length := by omega
        have j0 : (((m + 1 : Nat) : Int)) - 1 = (m : Int) := by omega
        rw [j0]
        have j1 : (0 : Int) ≤ (m : Int) := by omega
        have j2 : (m : Int) < (l.length : Int) := by omega
        have j3 : decide ((0 : Int) ≤ (m : Int)) = true := decide_eq_true j1
        have HCD := Lib.hid (conR_drop (f := badA s0 l) hml)
        have hNl : conR (badA s0 l) (m + 1) (l.drop (m + 1)) ≤ l.length := by
          have := conR_le (f := badA s0 l) (l := l.drop (m + 1)) (i := m + 1)
          rw [List.length_drop] at this
          omega
        obtain ⟨N, hN⟩ : ∃ x, conR (badA s0 l) (m + 1) (l.drop (m + 1)) = x := ⟨_, rfl⟩
        rw [hN] at HCD hNl ⊢
        obtain ⟨b, o, u1, u2, hbe, hb4, n1, n2, y0, y1, y2, y3, y4, y5⟩ := RdAc.piece HLR4.out hml
        subst hbe
        obtain ⟨a, hae⟩ : ∃ a, l[m] = a := ⟨_, rfl⟩
        rw [hae] at n1 HCD
        obtain ⟨A3, c3, rfl, hc3⟩ := RdP.form n1
        have N1 := Lib.hid n1
        have HAA : Hid (AcR a) := Lib.hid (by rw [← hae]; exact HAR.out _ (List.getElem_mem hml))
        have hrl : a.reads.length ≤ 10 := HAA.out.2.2.2.1
        have H0 : Hid (CIn s0 l m N a.reads w4 (.int .i64 (N : Int)) (.int .i64 (0 : Nat)) wr) := Lib.hid ⟨0, Nat.zero_le _, rfl, rfl, HBW.out⟩
        clear hN hae n1 n2 y0 y1 y2 y3 y5 hkl hk0 j0
        go_wp2_with fail
        go_loopw [7, 9] (fun f i wr => CIn s0 l m N a.reads w4 f i wr) (fun _ i _ => a.reads.length - (intOf i).toNat)
        case atStart => exact H0.out
        case round =>
          clear H0 HBW
          obtain ⟨q, hql, rfl, rfl, hbw⟩ := hrel
          have HBW := Lib.hid hbw
          have x4 := (hbw.cell (p := ⟨b, o + m * 6 + 4, none⟩) hb4).trans y4
          clear hbw
          by_cases hq : q < a.reads.length
          · have i1 : (0 : Int) ≤ (q : Int) := by omega
            have i2 : (q : Int) < (a.reads.length : Int) := by omega
            have i3 : decide ((q : Int) < (a.reads.length : Int)) = true := decide_eq_true i2
            obtain ⟨b2, o2, hbe, hbr2, t0, t1, t2, t3, t4, t5, t6⟩ := RdCh.piece (RdP.next N1.out HBW.out) hq
            subst hbe
            obtain ⟨ch, hch⟩ : ∃ ch, a.reads[q] = ch := ⟨_, rfl⟩
            have HCO : Hid (OwnE ch.name) := Lib.hid (by rw [← hch]; exact (HAA.out.2.1 _ (List.getElem_mem hq)).own)
            have HAS := Lib.hid (any_step (badC s0 l m) a.reads q m N hq)
            rw [hch] at t0 t1 t2 t3 t4 t5 t6 HAS
            obtain ⟨P, hP⟩ : ∃ x, (if (a.reads.take q).any (badC s0 l m) then m else N : Nat) = x := ⟨_, rfl⟩
            have hPl : P ≤ l.length := by rw [← hP]; split <;> omega
            rw [hP] at HAS ⊢
            clear hch hP
            go_upto_region 15 with (fail)
            have hbd := (Below.refl wr.heap.size wr).alloc (Nat.le_refl _) (.cells #[.int .i64 ch.name.kind, .string (bs ch.name.owner), .int .i64 ch.name.num, .int .i64 ch.name.idx, .string (bs ch.name.text), .string (bs ch.value), .bool ch.absent] 52)
            have zb := Blk.new wr 52 #[.int .i64 ch.name.kind, .string (bs ch.name.owner), .int .i64 ch.name.num, .int .i64 ch.name.idx, .string (bs ch.name.text), .string (bs ch.value), .bool ch.absent]
            have HBD := Lib.hid (HBW.out.trans (hbd.mono HBW.out.size))
            have hzz : wr.heap.size < (wr.alloc (.cells #[.int .i64 ch.name.kind, .string (bs ch.name.owner), .int .i64 ch.name.num, .int .i64 ch.name.idx, .string (bs ch.name.text), .string (bs ch.value), .bool ch.absent] 52)).heap.size := by simp
            have v0 := zb.cell 0
            have v1 := zb.cell 1
            have v2 := zb.cell 2
            have v3 := zb.cell 3
            have v4 := zb.cell 4
            have v5 := zb.cell 5
            have v6 := zb.cell 6
            simp only [List.getElem?_toArray, List.getElem?_cons_zero, List.getElem?_cons_succ] at v0 v1 v2 v3 v4 v5 v6
            clear t0 t1 t2 t3 t4 t5 t6 hbd zb
            generalize wr.alloc (.cells #[.int .i64 ch.name.kind, .string (bs ch.name.owner), .int .i64 ch.name.num, .int .i64 ch.name.idx, .string (bs ch.name.text), .string (bs ch.value), .bool ch.absent] 52) = wd at *
            generalize wr.heap.size = cd at *
            have HPd := Lib.hid (HP4.out.next HBD.out)
            have HLd := Lib.hid (RdAc.next HLR4.out HBD.out)
            go_wp2_with (go_at_call 16; refine (rof_is (n := ch.name) HPd.out HLd.out HCO.out HLO.out).mono ?_)
            rintro e w6 ⟨vv, rfl, hov, hb6⟩
            have HB6 := Lib.hid hb6
            have hvl := HVO.out.vlen ch.name
            go_wp2_with (go_at_call 15; refine (rbefore_is (v0 := ver0 s0 ch.name) (vs := vers ch.name 0 l) (m : Int) (OwnP.rd hov) (by omega)).mono ?_)
            rintro e w7 ⟨rfl, hb7⟩
            have HB7 := Lib.hid (HB6.out.trans (hb7.mono HB6.out.size))
            have HBC : Hid (badC s0 l m ch = (((befr (m : Int) (ver0 s0 ch.name) (vers ch.name 0 l)).absent != ch.absent) || ((befr (m : Int) (ver0 s0 ch.name) (vers ch.name 0 l)).value != ch.value))) := Lib.hid rfl
            obtain ⟨bv, hbv⟩ : ∃ x, befr (m : Int) (ver0 s0 ch.name) (vers ch.name 0 l) = x := ⟨_, rfl⟩
            rw [hbv] at HBC ⊢
            obtain ⟨vi, vv, vb⟩ := bv
            simp only [veV]
            have HBX := Lib.hid (HBD.out.trans (HB7.out.mono HBD.out.size))
            have s5 := (HB7.out.cell (p := ⟨cd, 5, none⟩) hzz).trans v5
            have s6 := (HB7.out.cell (p := ⟨cd, 6, none⟩) hzz).trans v6
            have hz7 : cd < w7.heap.size := Nat.lt_of_lt_of_le hzz HB7.out.size
            clear hov hb6 hb7 hbv v0 v1 v2 v3 v4 v5 v6
            by_cases hvv : vv = ch.value
            · rw [← hvv] at s5
              have HVV := Lib.hid hvv
              clear hvv
              by_cases hab : vb = ch.absent
              · rw [← hab] at s6
                have HCF : Hid (badC s0 l m ch = false) := Lib.hid (by rw [HBC.out]; simp [hab, HVV.out])
                clear hab
                go_wp2_with fail
                go_roundw
                case rel => exact ⟨q + 1, by omega, by go_num, by rw [HAS.out false HCF.out]; rfl, HBX.out.alloc (by have := HBX.out.size; omega) _⟩
                case measure => simp [intOf]; omega
              · have b1 : (vb != ch.absent) = true := by rw [bne_iff_ne]; exact hab
                have b2 : (vb == ch.absent) = false := by rw [beq_eq_false_iff_ne]; exact hab
                have HCF : Hid (badC s0 l m ch = true) := Lib.hid (by rw [HBC.out]; simp [hab])
                clear hab
                go_wp2_with fail
                go_roundw
                case rel => exact ⟨q + 1, by omega, by go_num, by rw [HAS.out true HCF.out]; rfl, HBX.out.alloc (by have := HBX.out.size; omega) _⟩
                case measure => simp [intOf]; omega
            · have b1 : ¬ (bs vv).toList = (bs ch.value).toList := by rw [bs_tl, bs_tl]; exact hvv
              have b2 : ((bs vv).toList == (bs ch.value).toList) = false := by rw [beq_eq_false_iff_ne]; exact b1
              have HCF : Hid (badC s0 l m ch = true) := Lib.hid (by rw [HBC.out]; simp [hvv])
              clear hvv
              go_wp2_with fail
              go_roundw
              case rel => exact ⟨q + 1, by omega, by go_num, by rw [HAS.out true HCF.out]; rfl, HBX.out.alloc (by have := HBX.out.size; omega) _⟩
              case measure => simp [intOf]; omega
          · have i3 : decide ((q : Int) < (a.reads.length : Int)) = false := decide_eq_false (by omega)
            have hqf : a.reads.take q = a.reads := List.take_of_length_le (by omega)
            have HE : Hid ((if (a.reads.take q).any (badC s0 l m) then m else N : Nat) = conR (badA s0 l) m (l.drop m)) := Lib.hid (by rw [hqf, HCD.out]; rfl)
            rw [HE.out]
            go_wp2_with fail
            go_roundw
            case rel => exact ⟨m, by omega, by go_num, rfl, HBW.out⟩
            case measure => first | (simp [intOf]; done) | (simp [intOf]; omega)
  · have HB4 := Lib.hid hb4
    have HLR4 := Lib.hid (RdAc.next HLR3.out hb4)
    have HU4 := Lib.hid (HU3.out.next hb4 HU3.out.1)
    obtain ⟨E, hE⟩ : ∃ E, bldR [] l = E := ⟨_, rfl⟩
    rw [hE] at hbad ⊢
    have HE := Lib.hid hE
    have n1 : (E == 0) = false := by rw [beq_eq_false_iff_ne]; exact hbad
    have n2 : (E != 0) = true := by rw [bne_iff_ne]; exact hbad
    clear hb4 hE
    go_wp2_with (go_at_call 11; refine (rcheck_is HLR4.out HU4.out HAR.out (by omega)).mono ?_; rintro e w5 ⟨rfl, hb5⟩; rw [HE.out]; have HB5 := Lib.hid hb5; clear hb5)
    go_ret
    exact ⟨rfl, by rw [HCB.out]; exact HB03.out.trans ((HB4.out.trans (HB5.out.mono HB4.out.size)).mono HSZ.out)⟩
end Go.Proofs.YtobkmkplhbaepaaDoor
