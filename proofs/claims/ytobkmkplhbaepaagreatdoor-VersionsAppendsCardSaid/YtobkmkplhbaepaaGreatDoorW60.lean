/- Walks of layer 46: the law of appending. -/
import Derived.Test.YtobkmkplhbaepaaGreatDoorHZ
import Derived.Test.YtobkmkplhbaepaaGreatDoorW56
import Derived.Test.YtobkmkplhbaepaaGreatDoorW58
namespace Go.Proofs.YtobkmkplhbaepaaGreatDoor
open Go.RowKit
set_option linter.unusedSimpArgs false
set_option linter.unusedVariables false
attribute [local go_sem ↓] Go.wp_at_zero Go.wp_at_succ
theorem bldR_snoc : ∀ {ks d : List Ac} {a : Ac}, bldR d ks = 0 → bldR d (ks ++ [a]) = appR (d ++ ks) a
  | [], d, a, _ => by
    rw [List.nil_append, List.append_nil]
    unfold bldR
    by_cases e : appR d a = 0
    · rw [if_pos e, e]; rfl
    · rw [if_neg e]
  | b :: ks, d, a, h => by
    unfold bldR at h
    by_cases e : appR d b = 0
    · rw [if_pos e] at h
      rw [List.cons_append]
      unfold bldR
      rw [if_pos e, bldR_snoc h, List.append_assoc]; rfl
    · rw [if_neg e] at h
      exact absurd h e
theorem OwnAc.outer {w w' : World} {F : Nat → Prop} {base : Nat} {v : Value} {l : List Ac} (h : OwnAc w base v l) (ho : Outer F w w') (hk : Kept LV w w') (hd : ∀ b, v.ownBlock = some b → ¬ F b) : OwnAc w' base v l := by
  obtain ⟨us, hr, hw⟩ := h
  exact ⟨us, ⟨hr.1, fun i x v h1 h2 => NAc.keep hk rfl (hr.2 i x v h1 h2)⟩, own_same hw fun b hb => ho.block b (hw.lt b hb).2 (hd b hb)⟩
theorem ne_snoc {ks : List Ac} {a : Ac} : ¬ ks ++ [a] = ks := fun e => by
  have := congrArg List.length e
  simp at this
/-- While the actions are appended. -/
def ApsRel (s0 : St) (l : List Ac) (w3 : World) (g : Nat) (kv i : Value) (wr : World) : Prop :=
  ∃ (k : Nat) (ks : List Ac) (F : Nat → Prop), k ≤ l.length ∧ i = .int .i64 k ∧ OwnAc wr w3.heap.size kv ks ∧ (∀ b, kv.ownBlock = some b → ¬ F b) ∧ VAt wr F g s0 ks ∧ bldR [] ks = 0 ∧ (∀ a ∈ ks, a ∈ l) ∧ ks.length ≤ k ∧ (∀ b, F b → w3.heap.size ≤ b ∧ b < wr.heap.size) ∧ Below w3.heap.size w3 wr
set_option maxRecDepth 100000 in
set_option maxHeartbeats 4000000 in
theorem law_appends {w : World} {v1 v2 : Value} {r : Rn} (hit : RaIt w.heap.size w v1 r.base) (hac : RaAct w.heap.size w v2 r.acts) (hu : UseAt w) : Calls Tryz.prog 5 #[.agg #[v1, v2]] w fun e w' => e = .returned (.bool true) ∧ Below w.heap.size w w' := by
  have ha := (Below.refl w.heap.size w).alloc (Nat.le_refl _) (.cells #[v1, v2] 25)
  have hz : w.heap.size < (w.alloc (.cells #[v1, v2] 25)).heap.size := by simp
  have zb := Blk.new w 25 #[v1, v2]
  have z0 := zb.cell 0
  have z1 := zb.cell 1
  simp only [List.getElem?_toArray, List.getElem?_cons_zero, List.getElem?_cons_succ] at z0 z1
  obtain ⟨A1, c1, rfl, _, _⟩ := hit.form
  obtain ⟨A2, c2, rfl, _, _⟩ := RowRa.form hac
  have HA := Lib.hid ha
  have HU := Lib.hid (hu.next ha hu.1)
  have HLB := Lib.hid hit.len
  have HOK := Lib.hid hac.ok
  have HIT := Lib.hid ((hit.below ha).next_ (Nat.le_of_lt hz))
  have HAC := Lib.hid ((hac.below ha).next_ (Nat.le_of_lt hz))
  clear hit hac hu ha zb
  go_enter Tryz.func5, Tryz.ntmps5
  go_upto_region 1 with (fail)
  generalize w.alloc (.cells #[.slice A1 r.base.length c1, .slice A2 r.acts.length c2] 25) = W at *
  generalize hcb : w.heap.size = cb at *
  have HCB := Lib.hid hcb
  clear hcb
  go_upto_region 3 with (go_at_call 8; refine (known_is HU.out).mono ?_; rintro e w1 ⟨rfl, hb1⟩; have HB1 := Lib.hid hb1; clear hb1)
  have hc1 : cb < w1.heap.size := Nat.lt_of_lt_of_le hz HB1.out.size
  have HU1 := Lib.hid (HU.out.next HB1.out HU.out.1)
  have HIT1 := Lib.hid ((HIT.out.below HB1.out).next_ HB1.out.size)
  have HAC1 := Lib.hid ((HAC.out.below HB1.out).next_ HB1.out.size)
  replace z0 := (HB1.out.cell (p := ⟨cb, 0, none⟩) hz).trans z0
  replace z1 := (HB1.out.cell (p := ⟨cb, 1, none⟩) hz).trans z1
  refine wp_region_noPanic ?_
  refine wp_region_held_drew (S := (fun (w' : World) => w'.cell? ⟨cb, 0, none⟩ = some (.slice A1 r.base.length c1) ∧ w'.cell? ⟨cb, 1, none⟩ = some (.slice A2 r.acts.length c2))) (by kernel_rfl) ?_ (fun hHeld => ?_)
  · exact ⟨z0, z1⟩
  refine wpAnyH_take (i := 0) (v := ?_) rfl (by kernel_rfl) (by kernel_rfl) (by kernel_rfl) (fun _ _ _ h => h) (Or.inl ⟨by kernel_rfl, ?_⟩) hHeld ?_
  rotate_left
  · (intro w hSw; (try dsimp only at hSw); go_simp; try with_reducible rfl)
  try simp only [Act.put, List.setIfInBounds_toArray, List.set_cons_zero, List.set_cons_succ]
  refine wpAnyH_take (i := 2) (v := ?_) rfl (by kernel_rfl) (by kernel_rfl) (by kernel_rfl) (fun _ _ _ h => h) (Or.inl ⟨by kernel_rfl, ?_⟩) hHeld ?_
  rotate_left
  · (intro w hSw; (try dsimp only at hSw); go_simp; try with_reducible rfl)
  try simp only [Act.put, List.setIfInBounds_toArray, List.set_cons_zero, List.set_cons_succ]
  refine wpAnyH_ready (rs := [1]) (by kernel_rfl) (by simp) ?_
  refine AllReadyH.cons rfl (fun K hK => ?_) AllReadyH.nil
  go_simp
  refine (base_is (w := w1.drew) (r := r) (HIT1.out.below (Below.refl _ _).drew) HLB.out (HU1.out.next (Below.refl w1.heap.size w1).drew HU1.out.1)).mono ?_; rintro e w2 ⟨p, rfl, hp, hb2'⟩; have hb2 := (Below.refl w1.heap.size w1).drew.trans hb2'; have HB2 := Lib.hid hb2; have HP2 := Lib.hid hp; clear hb2' hp
  try (go_wp2_with fail)
  refine hK.out _ _ ?_ (fun hNew => ?_)
  · exact ⟨(hb2.cell (p := ⟨cb, 0, none⟩) hc1).trans z0, (hb2.cell (p := ⟨cb, 1, none⟩) hc1).trans z1⟩
  clear hK K hHeld
  have hHeld := hNew
  clear hNew
  try simp only [Act.put, List.setIfInBounds_toArray, List.set_cons_zero, List.set_cons_succ]
  refine wpAnyH_ready (rs := [3]) (by kernel_rfl) (by simp) ?_
  refine AllReadyH.cons rfl (fun K hK => ?_) AllReadyH.nil
  go_simp
  refine (actions_is (r := r) ((HAC1.out.below HB2.out).next_ HB2.out.size)).mono ?_; rintro e w3 ⟨vl, rfl, hl, hb3'⟩; have HB3 := Lib.hid hb3'; have HL3 := Lib.hid hl; clear hb3' hl
  try (go_wp2_with fail)
  refine hK.out _ _ ?_ (fun hNew => ?_)
  · exact ⟨(HB3.out.cell (p := ⟨cb, 0, none⟩) (Nat.lt_of_lt_of_le hc1 HB2.out.size)).trans ((HB2.out.cell (p := ⟨cb, 0, none⟩) hc1).trans z0), (HB3.out.cell (p := ⟨cb, 1, none⟩) (Nat.lt_of_lt_of_le hc1 HB2.out.size)).trans ((HB2.out.cell (p := ⟨cb, 1, none⟩) hc1).trans z1)⟩
  clear hK K hHeld
  have hHeld := hNew
  clear hNew
  try simp only [Act.put, List.setIfInBounds_toArray, List.set_cons_zero, List.set_cons_succ]
  refine wpAnyH_take (i := 4) (v := ?_) rfl (by kernel_rfl) (by kernel_rfl) (by kernel_rfl) (fun _ _ _ h => h) (Or.inl ⟨by kernel_rfl, ?_⟩) hHeld ?_
  rotate_left
  · (intro w hSw; (try dsimp only at hSw); go_simp; try with_reducible rfl)
  try simp only [Act.put, List.setIfInBounds_toArray, List.set_cons_zero, List.set_cons_succ]
  refine wpAnyH_take (i := 5) (v := ?_) rfl (by kernel_rfl) (by kernel_rfl) (by kernel_rfl) (fun _ _ _ h => h) (Or.inl ⟨by kernel_rfl, ?_⟩) hHeld ?_
  rotate_left
  · (intro w hSw; (try dsimp only at hSw); go_simp; try with_reducible rfl)
  try simp only [Act.put, List.setIfInBounds_toArray, List.set_cons_zero, List.set_cons_succ]
  refine wpAnyH_done (by kernel_rfl) ?_ _
  clear hHeld
  try simp only [List.getElem_toArray, List.getElem_cons_zero, List.getElem_cons_succ, Act.put, List.setIfInBounds_toArray, List.set_cons_zero, List.set_cons_succ]
  refine NoPanic.normal ?_
  obtain ⟨s0, hs0⟩ : ∃ s, baseS r = s := ⟨_, rfl⟩
  obtain ⟨l, hl⟩ : ∃ l, actsS r = l := ⟨_, rfl⟩
  have HAR : Hid (∀ a ∈ l, AcR a) := Lib.hid (by rw [← hl]; exact acts_r HOK.out)
  have HSV : Hid (StV s0) := Lib.hid (by rw [← hs0]; exact base_v r)
  have hll : l.length ≤ 20 := by rw [← hl]; exact acts_len r
  rw [hs0] at HP2
  rw [hl] at HL3
  have HP3 := Lib.hid (HP2.out.next HB3.out)
  have HLR3 := Lib.hid (RowOwn.rd HL3.out)
  have HB13 := Lib.hid (HB2.out.trans (HB3.out.mono HB2.out.size))
  have HU3 := Lib.hid (HU1.out.next HB13.out HU1.out.1)
  have HB03 := Lib.hid (HA.out.trans ((HB1.out.trans (HB13.out.mono HB1.out.size)).mono (Nat.le_of_lt hz)))
  have hsz3 : cb ≤ w3.heap.size := Nat.le_trans (Nat.le_of_lt hc1) HB13.out.size
  have HSZ : Hid (cb ≤ w3.heap.size) := Lib.hid hsz3
  obtain ⟨Al, cl, rfl, hcl⟩ := RowRd.form HLR3.out
  clear hs0 hl hb2 HB2 HB3 HP2 HL3 HIT HAC HIT1 HAC1 HU HU1 HA HB1 z0 z1 HB13 HLB HOK hc1
  have hnil : StV s0 := HSV.out
  clear hnil
  go_upto_region 5 with (go_at_call 11; refine (build_is (l := []) HP3.out RowRd.nil HU3.out (fun a h => by cases h) HSV.out (by simp)).mono ?_; rintro e w4 ⟨hb4, h4⟩; rcases h4 with ⟨_, g, F4, rfl, hv4, hf4⟩ | ⟨hbad, rfl⟩; (case inr => exact absurd rfl hbad))
  have H0 : Hid (ApsRel s0 l w3 g (.slice none 0 0) (.int .i64 (0 : Nat)) w4) := Lib.hid ⟨0, [], F4, Nat.zero_le _, rfl, RowOwn.nil, fun b h => (by cases h), hv4, rfl, fun a h => (by cases h), Nat.le_refl _, fun b hb => hf4 b hb, hb4⟩
  obtain ⟨i0, hi, hz0, hz1, hz2⟩ := info_parts infoAc
  clear hb4 hv4 hf4
  go_wp2_with fail
  go_loopw [7, 8] (fun kv i wr => ApsRel s0 l w3 g kv i wr) (fun _ i _ => l.length - (intOf i).toNat)
  case atStart => exact H0.out
  case round =>
    clear H0
    obtain ⟨k, ks, F, hkl, rfl, hko, hkF, hvk, hbk, hks, hksl, hF, hbw⟩ := hrel
    have HKO := Lib.hid hko
    have HKF := Lib.hid hkF
    have HVK := Lib.hid hvk
    have HBK := Lib.hid hbk
    have HIN := Lib.hid hks
    have HF := Lib.hid hF
    have HBW := Lib.hid hbw
    obtain ⟨_, _, hko2⟩ := hko
    obtain ⟨Ak, ck, rfl, hck⟩ := own_len hko2
    clear hko2 hkF hvk hbk hks hF hbw
    by_cases hk : k < l.length
    · have HVO : Hid (VOk ks) := Lib.hid ⟨ok_all HBK.out, fun a ha => HAR.out a (HIN.out a ha), by omega⟩
      have j1 : (0 : Int) ≤ (k : Int) := by omega
      have j2 : (k : Int) < (l.length : Int) := by omega
      have j3 : decide ((k : Int) < (l.length : Int)) = true := decide_eq_true j2
      obtain ⟨a, ha⟩ : ∃ a, l[k] = a := ⟨_, rfl⟩
      have HAL : Hid (a ∈ l) := Lib.hid (by rw [← ha]; exact List.getElem_mem _)
      have HAE := Lib.hid ha
      clear ha
      go_upto_region 12 with (go_at_call 23; refine (clone_is HVK.out HVO.out).mono ?_; rintro e w6 ⟨gc, rfl, hb6, hv6⟩; have HB6 := Lib.hid hb6; have HC6 := Lib.hid hv6; clear hb6 hv6)
      have HV6 := Lib.hid (HVK.out.next HB6.out)
      have HB36 := Lib.hid (HBW.out.trans (HB6.out.mono HBW.out.size))
      have HU6 := Lib.hid (HU3.out.next HB36.out HU3.out.1)
      have HKO6 : Hid (OwnAc w6 w3.heap.size (.slice Ak ks.length ck) ks) := Lib.hid (OwnAc.next HKO.out HB6.out)
      obtain ⟨b1, o1, u1, u2, hbe, hb1, m1, m2, x0, x1, x2, x3, x4, x5⟩ := RdAc.piece (RdAc.next HLR3.out HB36.out) hk
      subst hbe
      rw [HAE.out] at m1 m2 x0 x1 x2 x3
      obtain ⟨U1, e1, rfl, _⟩ := RdP.form m1
      obtain ⟨U2, e2, rfl, _⟩ := RdP.form m2
      have HNA := Lib.hid (show NAc w6 (.slice U1 a.reads.length e1, .slice U2 a.writes.length e2) a from ⟨m1, m2⟩)
      obtain ⟨us, hur, hus⟩ := HKO6.out
      have HUR := Lib.hid hur
      have HUS := Lib.hid hus
      have HONE := Lib.hid (rowC_one acC_one hur)
      have HARS : Hid (∀ b ∈ ks ++ [a], AcR b) := Lib.hid (by
        intro b hb
        rcases List.mem_append.1 hb with h | h
        · exact HAR.out b (HIN.out b h)
        · rw [List.mem_singleton] at h; rw [h]; exact HAR.out a HAL.out)
      obtain ⟨E, hE⟩ : ∃ E, appR ks a = E := ⟨_, rfl⟩
      have HE := Lib.hid hE
      have HCK : Hid (bldR [] (ks ++ [a]) = E) := Lib.hid (by rw [bldR_snoc HBK.out, List.nil_append]; exact hE)
      have hkl20 : ks.length ≤ 20 := by omega
      clear m1 m2 hur hus hE
      go_cut [10] (fun v10 wx => v10 = .int .i64 E ∧ Below w6.heap.size w6 wx)
      case first =>
        refine wp_region_noPanic ?_
        refine wp_region_held_drew (S := (fun (w' : World) => w'.cell? ⟨b1, o1 + k * 6, none⟩ = some (.int .i64 a.key.tick) ∧ w'.cell? ⟨b1, o1 + k * 6 + 1, none⟩ = some (.int .i64 a.key.cls) ∧ w'.cell? ⟨b1, o1 + k * 6 + 2, none⟩ = some (.int .i64 a.key.num) ∧ w'.cell? ⟨b1, o1 + k * 6 + 3, none⟩ = some (.string (bs a.key.lin)) ∧ w'.cell? ⟨b1, o1 + k * 6 + 4, none⟩ = some (.slice U1 a.reads.length e1) ∧ w'.cell? ⟨b1, o1 + k * 6 + 5, none⟩ = some (.slice U2 a.writes.length e2))) (by kernel_rfl) ?_ (fun hHeld => ?_)
        · exact ⟨x0, x1, x2, x3, x4, x5⟩
        refine wpAnyH_take (i := 0) (v := ?_) rfl (by kernel_rfl) (by kernel_rfl) (by kernel_rfl) (fun _ _ _ h => h) (Or.inl ⟨by kernel_rfl, ?_⟩) hHeld ?_
        rotate_left
        · (intro w hSw; (try dsimp only at hSw); go_simp; try with_reducible rfl)
        try simp only [Act.put, List.setIfInBounds_toArray, List.set_cons_zero, List.set_cons_succ]
        refine wpAnyH_take (i := 2) (v := ?_) rfl (by kernel_rfl) (by kernel_rfl) (by kernel_rfl) (fun _ _ _ h => h) (Or.inl ⟨by kernel_rfl, ?_⟩) hHeld ?_
        rotate_left
        · (intro w hSw; (try dsimp only at hSw); go_simp; try with_reducible rfl)
        try simp only [Act.put, List.setIfInBounds_toArray, List.set_cons_zero, List.set_cons_succ]
        refine wpAnyH_take (i := 4) (v := ?_) rfl (by kernel_rfl) (by kernel_rfl) (by kernel_rfl) (fun _ _ _ h => h) (Or.inl ⟨by kernel_rfl, ?_⟩) hHeld ?_
        rotate_left
        · (intro w hSw; (try dsimp only at hSw); go_simp; try with_reducible rfl)
        try simp only [Act.put, List.setIfInBounds_toArray, List.set_cons_zero, List.set_cons_succ]
        refine wpAnyH_take (i := 5) (v := ?_) rfl (by kernel_rfl) (by kernel_rfl) (by kernel_rfl) (fun _ _ _ h => h) (Or.inl ⟨by kernel_rfl, ?_⟩) hHeld ?_
        rotate_left
        · (intro w hSw; (try dsimp only at hSw); go_simp; try with_reducible rfl)
        try simp only [Act.put, List.setIfInBounds_toArray, List.set_cons_zero, List.set_cons_succ]
        refine wpAnyH_take (i := 6) (v := ?_) rfl (by kernel_rfl) (by kernel_rfl) (by kernel_rfl) (fun _ _ _ h => h) (Or.inl ⟨by kernel_rfl, ?_⟩) hHeld ?_
        rotate_left
        · (intro w hSw; (try dsimp only at hSw); go_simp; try with_reducible rfl)
        try simp only [Act.put, List.setIfInBounds_toArray, List.set_cons_zero, List.set_cons_succ]
        refine wpAnyH_take (i := 7) (v := ?_) rfl (by kernel_rfl) (by kernel_rfl) (by kernel_rfl) (fun _ _ _ h => h) (Or.inl ⟨by kernel_rfl, ?_⟩) hHeld ?_
        rotate_left
        · (intro w hSw; (try dsimp only at hSw); go_simp; try with_reducible rfl)
        try simp only [Act.put, List.setIfInBounds_toArray, List.set_cons_zero, List.set_cons_succ]
        refine wpAnyH_ready (rs := [1, 8]) (by kernel_rfl) (by simp) ?_
        refine AllReadyH.cons rfl (fun K hK => ?_) (AllReadyH.cons rfl (fun K hK => ?_) AllReadyH.nil)
        · go_simp
          refine hK.out _ _ ?_ (fun hNew => ?_)
          · exact ⟨((((Below.refl w6.heap.size w6).alloc (Nat.le_refl _) (.cells #[] 61)).drew).cell (p := ⟨b1, o1 + k * 6, none⟩) hb1).trans x0, ((((Below.refl w6.heap.size w6).alloc (Nat.le_refl _) (.cells #[] 61)).drew).cell (p := ⟨b1, o1 + k * 6 + 1, none⟩) hb1).trans x1, ((((Below.refl w6.heap.size w6).alloc (Nat.le_refl _) (.cells #[] 61)).drew).cell (p := ⟨b1, o1 + k * 6 + 2, none⟩) hb1).trans x2, ((((Below.refl w6.heap.size w6).alloc (Nat.le_refl _) (.cells #[] 61)).drew).cell (p := ⟨b1, o1 + k * 6 + 3, none⟩) hb1).trans x3, ((((Below.refl w6.heap.size w6).alloc (Nat.le_refl _) (.cells #[] 61)).drew).cell (p := ⟨b1, o1 + k * 6 + 4, none⟩) hb1).trans x4, ((((Below.refl w6.heap.size w6).alloc (Nat.le_refl _) (.cells #[] 61)).drew).cell (p := ⟨b1, o1 + k * 6 + 5, none⟩) hb1).trans x5⟩
          clear hK K hHeld
          have hHeld := hNew
          clear hNew
          try simp only [Act.put, List.setIfInBounds_toArray, List.set_cons_zero, List.set_cons_succ]
          refine wpAnyH_ready (rs := [3, 8]) (by kernel_rfl) (by simp) ?_
          refine AllReadyH.cons rfl (fun K hK => ?_) (AllReadyH.cons rfl (fun K hK => ?_) AllReadyH.nil)
          · refine step_append_rd _ (by rfl) _ _ _ (by rfl) w6.heap.size 61 i0 _ 6 88 Tryz.underlying29 hi hz0 hz1 hz2 rfl (by omega) _ 0 [] (by rfl) (show ((w6.alloc (.cells #[] 61)).drew).ownsRow w6.heap.size 61 6 (.slice (some ⟨w6.heap.size, 0, none⟩) 0 0) 0 [] from (own_empty w6 w6.heap.size 61 6 (Nat.le_refl _))) _ ks.length (rowC acC ks us) (by rfl) (show Rd 61 (w6.alloc (.cells #[] 61)).drew _ _ _ from Rd.of_own (own_next HUS.out ((Below.refl w6.heap.size w6).alloc (Nat.le_refl _) (.cells #[] 61)).drew)) HUS.out.1 HONE.out (by unfold maxLen; omega) (by omega) (by simp; try omega) ?_; intro A8 c8 w8 hown8 hg8; (simp only [Nat.zero_add, List.nil_append] at hown8); (try simp only [Nat.zero_add])
            have hb8 := below_own ((Below.refl w6.heap.size w6).alloc (Nat.le_refl _) (.cells #[] 61)).drew (own_empty w6 w6.heap.size 61 6 (Nat.le_refl _)) hg8 (Nat.le_refl _) (((Below.refl w6.heap.size w6).alloc (Nat.le_refl _) (.cells #[] 61)).drew).size
            have HO8 := Lib.hid hown8
            refine hK.out _ _ ?_ (fun hNew => ?_)
            · exact ⟨((hb8).cell (p := ⟨b1, o1 + k * 6, none⟩) hb1).trans x0, ((hb8).cell (p := ⟨b1, o1 + k * 6 + 1, none⟩) hb1).trans x1, ((hb8).cell (p := ⟨b1, o1 + k * 6 + 2, none⟩) hb1).trans x2, ((hb8).cell (p := ⟨b1, o1 + k * 6 + 3, none⟩) hb1).trans x3, ((hb8).cell (p := ⟨b1, o1 + k * 6 + 4, none⟩) hb1).trans x4, ((hb8).cell (p := ⟨b1, o1 + k * 6 + 5, none⟩) hb1).trans x5⟩
            clear hK K hHeld
            have hHeld := hNew
            clear hNew
            try simp only [Act.put, List.setIfInBounds_toArray, List.set_cons_zero, List.set_cons_succ]
            refine wpAnyH_ready (rs := [8]) (by kernel_rfl) (by simp) ?_
            refine AllReadyH.cons rfl (fun K hK => ?_) AllReadyH.nil
            · go_simp
              refine hK.out _ _ ?_ (fun hNew => ?_)
              · exact ⟨(((hb8.alloc hb8.size (.cells #[.int .i64 a.key.tick, .int .i64 a.key.cls, .int .i64 a.key.num, .string (bs a.key.lin), .slice U1 a.reads.length e1, .slice U2 a.writes.length e2] 61))).cell (p := ⟨b1, o1 + k * 6, none⟩) hb1).trans x0, (((hb8.alloc hb8.size (.cells #[.int .i64 a.key.tick, .int .i64 a.key.cls, .int .i64 a.key.num, .string (bs a.key.lin), .slice U1 a.reads.length e1, .slice U2 a.writes.length e2] 61))).cell (p := ⟨b1, o1 + k * 6 + 1, none⟩) hb1).trans x1, (((hb8.alloc hb8.size (.cells #[.int .i64 a.key.tick, .int .i64 a.key.cls, .int .i64 a.key.num, .string (bs a.key.lin), .slice U1 a.reads.length e1, .slice U2 a.writes.length e2] 61))).cell (p := ⟨b1, o1 + k * 6 + 2, none⟩) hb1).trans x2, (((hb8.alloc hb8.size (.cells #[.int .i64 a.key.tick, .int .i64 a.key.cls, .int .i64 a.key.num, .string (bs a.key.lin), .slice U1 a.reads.length e1, .slice U2 a.writes.length e2] 61))).cell (p := ⟨b1, o1 + k * 6 + 3, none⟩) hb1).trans x3, (((hb8.alloc hb8.size (.cells #[.int .i64 a.key.tick, .int .i64 a.key.cls, .int .i64 a.key.num, .string (bs a.key.lin), .slice U1 a.reads.length e1, .slice U2 a.writes.length e2] 61))).cell (p := ⟨b1, o1 + k * 6 + 4, none⟩) hb1).trans x4, (((hb8.alloc hb8.size (.cells #[.int .i64 a.key.tick, .int .i64 a.key.cls, .int .i64 a.key.num, .string (bs a.key.lin), .slice U1 a.reads.length e1, .slice U2 a.writes.length e2] 61))).cell (p := ⟨b1, o1 + k * 6 + 5, none⟩) hb1).trans x5⟩
              clear hK K hHeld
              have hHeld := hNew
              clear hNew
              try simp only [Act.put, List.setIfInBounds_toArray, List.set_cons_zero, List.set_cons_succ]
              have HB89 := Lib.hid (hb8.alloc hb8.size (.cells #[.int .i64 a.key.tick, .int .i64 a.key.cls, .int .i64 a.key.num, .string (bs a.key.lin), .slice U1 a.reads.length e1, .slice U2 a.writes.length e2] 61))
              have HN9 := Lib.hid (own_next HO8.out ((Below.refl w8.heap.size w8).alloc (Nat.le_refl _) (.cells #[.int .i64 a.key.tick, .int .i64 a.key.cls, .int .i64 a.key.num, .string (bs a.key.lin), .slice U1 a.reads.length e1, .slice U2 a.writes.length e2] 61)))
              have HE9 := Lib.hid (Rd.of_own (own_new w8 0 61 6 [.int .i64 a.key.tick, .int .i64 a.key.cls, .int .i64 a.key.num, .string (bs a.key.lin), .slice U1 a.reads.length e1, .slice U2 a.writes.length e2] rfl (Nat.zero_le _)))
              refine wpAnyH_ready (rs := [9]) (by kernel_rfl) (by simp) ?_
              refine AllReadyH.cons rfl (fun K hK => ?_) AllReadyH.nil
              refine step_append_w _ (by rfl) _ _ _ (by rfl) w6.heap.size 61 i0 _ 6 88 Tryz.underlying29 hi hz0 hz1 hz2 rfl (by omega) (.slice A8 ks.length c8) ks.length (rowC acC ks us) (by rfl) HN9.out (.slice (some ⟨w8.heap.size, 0, none⟩) 1 1) 1 [.int .i64 a.key.tick, .int .i64 a.key.cls, .int .i64 a.key.num, .string (bs a.key.lin), .slice U1 a.reads.length e1, .slice U2 a.writes.length e2] (by rfl) HE9.out (by omega) (by rfl) (by simp [Value.oneCell']) (by unfold maxLen; omega) (by omega) (by have := HB89.out.size; omega) ?_; intro v9 w9 hown9 hg9 hat9; have HO9 := Lib.hid hown9; have HBy9 := Lib.hid (below_own HB89.out HN9.out hg9 (Nat.le_refl _) HB89.out.size); clear hown9 hat9
              refine hK.out _ _ ?_ (fun hNew => ?_)
              · exact ⟨(HBy9.out.cell (p := ⟨b1, o1 + k * 6, none⟩) hb1).trans x0, (HBy9.out.cell (p := ⟨b1, o1 + k * 6 + 1, none⟩) hb1).trans x1, (HBy9.out.cell (p := ⟨b1, o1 + k * 6 + 2, none⟩) hb1).trans x2, (HBy9.out.cell (p := ⟨b1, o1 + k * 6 + 3, none⟩) hb1).trans x3, (HBy9.out.cell (p := ⟨b1, o1 + k * 6 + 4, none⟩) hb1).trans x4, (HBy9.out.cell (p := ⟨b1, o1 + k * 6 + 5, none⟩) hb1).trans x5⟩
              clear hK K hHeld
              have hHeld := hNew
              clear hNew
              try simp only [Act.put, List.setIfInBounds_toArray, List.set_cons_zero, List.set_cons_succ]
              refine wpAnyH_ready (rs := [10]) (by kernel_rfl) (by simp) ?_
              refine AllReadyH.cons rfl (fun K hK => ?_) AllReadyH.nil
              go_simp
              refine (rcheck_is (l := ks ++ [a]) (RowOwn.rd (RowOwn.push (f := acC) HUR.out (by rw [show ([.int .i64 a.key.tick, .int .i64 a.key.cls, .int .i64 a.key.num, .string (bs a.key.lin), .slice U1 a.reads.length e1, .slice U2 a.writes.length e2] : List Value) = acC a (.slice U1 a.reads.length e1, .slice U2 a.writes.length e2) from rfl] at HO9; exact HO9.out) (fun _ _ h => NAc.next HBy9.out h) (NAc.next HBy9.out HNA.out))) (HU6.out.below HBy9.out) HARS.out (by rw [List.length_append]; simp; omega)).mono ?_; rintro e w10 ⟨rfl, hb10⟩; have HBx := Lib.hid (HBy9.out.trans (hb10.mono HBy9.out.size)); clear hb10; try (go_wp2_with fail)
              refine hK.out _ _ ?_ (fun hNew => ?_)
              · exact ⟨(HBx.out.cell (p := ⟨b1, o1 + k * 6, none⟩) hb1).trans x0, (HBx.out.cell (p := ⟨b1, o1 + k * 6 + 1, none⟩) hb1).trans x1, (HBx.out.cell (p := ⟨b1, o1 + k * 6 + 2, none⟩) hb1).trans x2, (HBx.out.cell (p := ⟨b1, o1 + k * 6 + 3, none⟩) hb1).trans x3, (HBx.out.cell (p := ⟨b1, o1 + k * 6 + 4, none⟩) hb1).trans x4, (HBx.out.cell (p := ⟨b1, o1 + k * 6 + 5, none⟩) hb1).trans x5⟩
              clear hK K hHeld
              have hHeld := hNew
              clear hNew
              try simp only [Act.put, List.setIfInBounds_toArray, List.set_cons_zero, List.set_cons_succ]
              refine wpAnyH_take (i := 11) (v := ?_) rfl (by kernel_rfl) (by kernel_rfl) (by kernel_rfl) (fun _ _ _ h => h) (Or.inl ⟨by kernel_rfl, ?_⟩) hHeld ?_
              rotate_left
              · (intro w hSw; (try dsimp only at hSw); go_simp; try with_reducible rfl)
              try simp only [Act.put, List.setIfInBounds_toArray, List.set_cons_zero, List.set_cons_succ]
              refine wpAnyH_done (by kernel_rfl) ?_ _
              clear hHeld
              try simp only [List.getElem_toArray, List.getElem_cons_zero, List.getElem_cons_succ, Act.put, List.setIfInBounds_toArray, List.set_cons_zero, List.set_cons_succ]
              refine NoPanic.normal ?_
              go_wp2_with fail
              go_meet
              case rel => exact ⟨by rw [← HCK.out], HBx.out⟩
          · go_simp
            refine hK.out _ _ ?_ (fun hNew => ?_)
            · exact ⟨(((((Below.refl w6.heap.size w6).alloc (Nat.le_refl _) (.cells #[] 61)).alloc (by simp) (.cells #[.int .i64 a.key.tick, .int .i64 a.key.cls, .int .i64 a.key.num, .string (bs a.key.lin), .slice U1 a.reads.length e1, .slice U2 a.writes.length e2] 61)).drew).cell (p := ⟨b1, o1 + k * 6, none⟩) hb1).trans x0, (((((Below.refl w6.heap.size w6).alloc (Nat.le_refl _) (.cells #[] 61)).alloc (by simp) (.cells #[.int .i64 a.key.tick, .int .i64 a.key.cls, .int .i64 a.key.num, .string (bs a.key.lin), .slice U1 a.reads.length e1, .slice U2 a.writes.length e2] 61)).drew).cell (p := ⟨b1, o1 + k * 6 + 1, none⟩) hb1).trans x1, (((((Below.refl w6.heap.size w6).alloc (Nat.le_refl _) (.cells #[] 61)).alloc (by simp) (.cells #[.int .i64 a.key.tick, .int .i64 a.key.cls, .int .i64 a.key.num, .string (bs a.key.lin), .slice U1 a.reads.length e1, .slice U2 a.writes.length e2] 61)).drew).cell (p := ⟨b1, o1 + k * 6 + 2, none⟩) hb1).trans x2, (((((Below.refl w6.heap.size w6).alloc (Nat.le_refl _) (.cells #[] 61)).alloc (by simp) (.cells #[.int .i64 a.key.tick, .int .i64 a.key.cls, .int .i64 a.key.num, .string (bs a.key.lin), .slice U1 a.reads.length e1, .slice U2 a.writes.length e2] 61)).drew).cell (p := ⟨b1, o1 + k * 6 + 3, none⟩) hb1).trans x3, (((((Below.refl w6.heap.size w6).alloc (Nat.le_refl _) (.cells #[] 61)).alloc (by simp) (.cells #[.int .i64 a.key.tick, .int .i64 a.key.cls, .int .i64 a.key.num, .string (bs a.key.lin), .slice U1 a.reads.length e1, .slice U2 a.writes.length e2] 61)).drew).cell (p := ⟨b1, o1 + k * 6 + 4, none⟩) hb1).trans x4, (((((Below.refl w6.heap.size w6).alloc (Nat.le_refl _) (.cells #[] 61)).alloc (by simp) (.cells #[.int .i64 a.key.tick, .int .i64 a.key.cls, .int .i64 a.key.num, .string (bs a.key.lin), .slice U1 a.reads.length e1, .slice U2 a.writes.length e2] 61)).drew).cell (p := ⟨b1, o1 + k * 6 + 5, none⟩) hb1).trans x5⟩
            clear hK K hHeld
            have hHeld := hNew
            clear hNew
            try simp only [Act.put, List.setIfInBounds_toArray, List.set_cons_zero, List.set_cons_succ]
            refine wpAnyH_ready (rs := [3]) (by kernel_rfl) (by simp) ?_
            refine AllReadyH.cons rfl (fun K hK => ?_) AllReadyH.nil
            · refine step_append_rd _ (by rfl) _ _ _ (by rfl) w6.heap.size 61 i0 _ 6 88 Tryz.underlying29 hi hz0 hz1 hz2 rfl (by omega) _ 0 [] (by rfl) (show (((w6.alloc (.cells #[] 61)).alloc (.cells #[.int .i64 a.key.tick, .int .i64 a.key.cls, .int .i64 a.key.num, .string (bs a.key.lin), .slice U1 a.reads.length e1, .slice U2 a.writes.length e2] 61)).drew).ownsRow w6.heap.size 61 6 (.slice (some ⟨w6.heap.size, 0, none⟩) 0 0) 0 [] from (own_next (own_empty w6 w6.heap.size 61 6 (Nat.le_refl _)) ((Below.refl (w6.alloc (.cells #[] 61)).heap.size (w6.alloc (.cells #[] 61))).alloc (Nat.le_refl _) (.cells #[.int .i64 a.key.tick, .int .i64 a.key.cls, .int .i64 a.key.num, .string (bs a.key.lin), .slice U1 a.reads.length e1, .slice U2 a.writes.length e2] 61)).drew)) _ ks.length (rowC acC ks us) (by rfl) (show Rd 61 ((w6.alloc (.cells #[] 61)).alloc (.cells #[.int .i64 a.key.tick, .int .i64 a.key.cls, .int .i64 a.key.num, .string (bs a.key.lin), .slice U1 a.reads.length e1, .slice U2 a.writes.length e2] 61)).drew _ _ _ from Rd.of_own (own_next HUS.out (((Below.refl w6.heap.size w6).alloc (Nat.le_refl _) (.cells #[] 61)).alloc (by simp) (.cells #[.int .i64 a.key.tick, .int .i64 a.key.cls, .int .i64 a.key.num, .string (bs a.key.lin), .slice U1 a.reads.length e1, .slice U2 a.writes.length e2] 61)).drew)) HUS.out.1 HONE.out (by unfold maxLen; omega) (by omega) (by simp; try omega) ?_; intro A8 c8 w8 hown8 hg8; (simp only [Nat.zero_add, List.nil_append] at hown8); (try simp only [Nat.zero_add])
              have hb8 := below_own (((Below.refl w6.heap.size w6).alloc (Nat.le_refl _) (.cells #[] 61)).alloc (by simp) (.cells #[.int .i64 a.key.tick, .int .i64 a.key.cls, .int .i64 a.key.num, .string (bs a.key.lin), .slice U1 a.reads.length e1, .slice U2 a.writes.length e2] 61)).drew (own_next (own_empty w6 w6.heap.size 61 6 (Nat.le_refl _)) ((Below.refl (w6.alloc (.cells #[] 61)).heap.size (w6.alloc (.cells #[] 61))).alloc (Nat.le_refl _) (.cells #[.int .i64 a.key.tick, .int .i64 a.key.cls, .int .i64 a.key.num, .string (bs a.key.lin), .slice U1 a.reads.length e1, .slice U2 a.writes.length e2] 61)).drew) hg8 (Nat.le_refl _) ((((Below.refl w6.heap.size w6).alloc (Nat.le_refl _) (.cells #[] 61)).alloc (by simp) (.cells #[.int .i64 a.key.tick, .int .i64 a.key.cls, .int .i64 a.key.num, .string (bs a.key.lin), .slice U1 a.reads.length e1, .slice U2 a.writes.length e2] 61)).drew).size
              have HO8 := Lib.hid hown8
              have HE8 := Lib.hid (show w8.ownsRow w6.heap.size 61 6 (.slice (some ⟨w6.heap.size + 1, 0, none⟩) 1 1) 1 [.int .i64 a.key.tick, .int .i64 a.key.cls, .int .i64 a.key.num, .string (bs a.key.lin), .slice U1 a.reads.length e1, .slice U2 a.writes.length e2] from (show (((w6.alloc (.cells #[] 61)).alloc (.cells #[.int .i64 a.key.tick, .int .i64 a.key.cls, .int .i64 a.key.num, .string (bs a.key.lin), .slice U1 a.reads.length e1, .slice U2 a.writes.length e2] 61)).drew).ownsRow w6.heap.size 61 6 (.slice (some ⟨w6.heap.size + 1, 0, none⟩) 1 1) 1 [.int .i64 a.key.tick, .int .i64 a.key.cls, .int .i64 a.key.num, .string (bs a.key.lin), .slice U1 a.reads.length e1, .slice U2 a.writes.length e2] from (by have h := own_new (w6.alloc (.cells #[] 61)) w6.heap.size 61 6 [.int .i64 a.key.tick, .int .i64 a.key.cls, .int .i64 a.key.num, .string (bs a.key.lin), .slice U1 a.reads.length e1, .slice U2 a.writes.length e2] rfl (by simp); rw [World.size_alloc] at h; exact h)).kept hg8 (.inr (by simp [Value.ownBlock])))
              refine hK.out _ _ ?_ (fun hNew => ?_)
              · exact ⟨((hb8).cell (p := ⟨b1, o1 + k * 6, none⟩) hb1).trans x0, ((hb8).cell (p := ⟨b1, o1 + k * 6 + 1, none⟩) hb1).trans x1, ((hb8).cell (p := ⟨b1, o1 + k * 6 + 2, none⟩) hb1).trans x2, ((hb8).cell (p := ⟨b1, o1 + k * 6 + 3, none⟩) hb1).trans x3, ((hb8).cell (p := ⟨b1, o1 + k * 6 + 4, none⟩) hb1).trans x4, ((hb8).cell (p := ⟨b1, o1 + k * 6 + 5, none⟩) hb1).trans x5⟩
              clear hK K hHeld
              have hHeld := hNew
              clear hNew
              try simp only [Act.put, List.setIfInBounds_toArray, List.set_cons_zero, List.set_cons_succ]
              have HB89 := Lib.hid hb8
              have HN9 := Lib.hid HO8.out
              have HE9 := Lib.hid (Rd.of_own HE8.out)
              refine wpAnyH_ready (rs := [9]) (by kernel_rfl) (by simp) ?_
              refine AllReadyH.cons rfl (fun K hK => ?_) AllReadyH.nil
              refine step_append_w _ (by rfl) _ _ _ (by rfl) w6.heap.size 61 i0 _ 6 88 Tryz.underlying29 hi hz0 hz1 hz2 rfl (by omega) (.slice A8 ks.length c8) ks.length (rowC acC ks us) (by rfl) HN9.out (.slice (some ⟨w6.heap.size + 1, 0, none⟩) 1 1) 1 [.int .i64 a.key.tick, .int .i64 a.key.cls, .int .i64 a.key.num, .string (bs a.key.lin), .slice U1 a.reads.length e1, .slice U2 a.writes.length e2] (by rfl) HE9.out (by omega) (by rfl) (by simp [Value.oneCell']) (by unfold maxLen; omega) (by omega) (by have := HB89.out.size; omega) ?_; intro v9 w9 hown9 hg9 hat9; have HO9 := Lib.hid hown9; have HBy9 := Lib.hid (below_own HB89.out HN9.out hg9 (Nat.le_refl _) HB89.out.size); clear hown9 hat9
              refine hK.out _ _ ?_ (fun hNew => ?_)
              · exact ⟨(HBy9.out.cell (p := ⟨b1, o1 + k * 6, none⟩) hb1).trans x0, (HBy9.out.cell (p := ⟨b1, o1 + k * 6 + 1, none⟩) hb1).trans x1, (HBy9.out.cell (p := ⟨b1, o1 + k * 6 + 2, none⟩) hb1).trans x2, (HBy9.out.cell (p := ⟨b1, o1 + k * 6 + 3, none⟩) hb1).trans x3, (HBy9.out.cell (p := ⟨b1, o1 + k * 6 + 4, none⟩) hb1).trans x4, (HBy9.out.cell (p := ⟨b1, o1 + k * 6 + 5, none⟩) hb1).trans x5⟩
              clear hK K hHeld
              have hHeld := hNew
              clear hNew
              try simp only [Act.put, List.setIfInBounds_toArray, List.set_cons_zero, List.set_cons_succ]
              refine wpAnyH_ready (rs := [10]) (by kernel_rfl) (by simp) ?_
              refine AllReadyH.cons rfl (fun K hK => ?_) AllReadyH.nil
              go_simp
              refine (rcheck_is (l := ks ++ [a]) (RowOwn.rd (RowOwn.push (f := acC) HUR.out (by rw [show ([.int .i64 a.key.tick, .int .i64 a.key.cls, .int .i64 a.key.num, .string (bs a.key.lin), .slice U1 a.reads.length e1, .slice U2 a.writes.length e2] : List Value) = acC a (.slice U1 a.reads.length e1, .slice U2 a.writes.length e2) from rfl] at HO9; exact HO9.out) (fun _ _ h => NAc.next HBy9.out h) (NAc.next HBy9.out HNA.out))) (HU6.out.below HBy9.out) HARS.out (by rw [List.length_append]; simp; omega)).mono ?_; rintro e w10 ⟨rfl, hb10⟩; have HBx := Lib.hid (HBy9.out.trans (hb10.mono HBy9.out.size)); clear hb10; try (go_wp2_with fail)
              refine hK.out _ _ ?_ (fun hNew => ?_)
              · exact ⟨(HBx.out.cell (p := ⟨b1, o1 + k * 6, none⟩) hb1).trans x0, (HBx.out.cell (p := ⟨b1, o1 + k * 6 + 1, none⟩) hb1).trans x1, (HBx.out.cell (p := ⟨b1, o1 + k * 6 + 2, none⟩) hb1).trans x2, (HBx.out.cell (p := ⟨b1, o1 + k * 6 + 3, none⟩) hb1).trans x3, (HBx.out.cell (p := ⟨b1, o1 + k * 6 + 4, none⟩) hb1).trans x4, (HBx.out.cell (p := ⟨b1, o1 + k * 6 + 5, none⟩) hb1).trans x5⟩
              clear hK K hHeld
              have hHeld := hNew
              clear hNew
              try simp only [Act.put, List.setIfInBounds_toArray, List.set_cons_zero, List.set_cons_succ]
              refine wpAnyH_take (i := 11) (v := ?_) rfl (by kernel_rfl) (by kernel_rfl) (by kernel_rfl) (fun _ _ _ h => h) (Or.inl ⟨by kernel_rfl, ?_⟩) hHeld ?_
              rotate_left
              · (intro w hSw; (try dsimp only at hSw); go_simp; try with_reducible rfl)
              try simp only [Act.put, List.setIfInBounds_toArray, List.set_cons_zero, List.set_cons_succ]
              refine wpAnyH_done (by kernel_rfl) ?_ _
              clear hHeld
              try simp only [List.getElem_toArray, List.getElem_cons_zero, List.getElem_cons_succ, Act.put, List.setIfInBounds_toArray, List.set_cons_zero, List.set_cons_succ]
              refine NoPanic.normal ?_
              go_wp2_with fail
              go_meet
              case rel => exact ⟨by rw [← HCK.out], HBx.out⟩
        · go_simp
          refine hK.out _ _ ?_ (fun hNew => ?_)
          · exact ⟨((((Below.refl w6.heap.size w6).alloc (Nat.le_refl _) (.cells #[.int .i64 a.key.tick, .int .i64 a.key.cls, .int .i64 a.key.num, .string (bs a.key.lin), .slice U1 a.reads.length e1, .slice U2 a.writes.length e2] 61)).drew).cell (p := ⟨b1, o1 + k * 6, none⟩) hb1).trans x0, ((((Below.refl w6.heap.size w6).alloc (Nat.le_refl _) (.cells #[.int .i64 a.key.tick, .int .i64 a.key.cls, .int .i64 a.key.num, .string (bs a.key.lin), .slice U1 a.reads.length e1, .slice U2 a.writes.length e2] 61)).drew).cell (p := ⟨b1, o1 + k * 6 + 1, none⟩) hb1).trans x1, ((((Below.refl w6.heap.size w6).alloc (Nat.le_refl _) (.cells #[.int .i64 a.key.tick, .int .i64 a.key.cls, .int .i64 a.key.num, .string (bs a.key.lin), .slice U1 a.reads.length e1, .slice U2 a.writes.length e2] 61)).drew).cell (p := ⟨b1, o1 + k * 6 + 2, none⟩) hb1).trans x2, ((((Below.refl w6.heap.size w6).alloc (Nat.le_refl _) (.cells #[.int .i64 a.key.tick, .int .i64 a.key.cls, .int .i64 a.key.num, .string (bs a.key.lin), .slice U1 a.reads.length e1, .slice U2 a.writes.length e2] 61)).drew).cell (p := ⟨b1, o1 + k * 6 + 3, none⟩) hb1).trans x3, ((((Below.refl w6.heap.size w6).alloc (Nat.le_refl _) (.cells #[.int .i64 a.key.tick, .int .i64 a.key.cls, .int .i64 a.key.num, .string (bs a.key.lin), .slice U1 a.reads.length e1, .slice U2 a.writes.length e2] 61)).drew).cell (p := ⟨b1, o1 + k * 6 + 4, none⟩) hb1).trans x4, ((((Below.refl w6.heap.size w6).alloc (Nat.le_refl _) (.cells #[.int .i64 a.key.tick, .int .i64 a.key.cls, .int .i64 a.key.num, .string (bs a.key.lin), .slice U1 a.reads.length e1, .slice U2 a.writes.length e2] 61)).drew).cell (p := ⟨b1, o1 + k * 6 + 5, none⟩) hb1).trans x5⟩
          clear hK K hHeld
          have hHeld := hNew
          clear hNew
          try simp only [Act.put, List.setIfInBounds_toArray, List.set_cons_zero, List.set_cons_succ]
          refine wpAnyH_ready (rs := [1]) (by kernel_rfl) (by simp) ?_
          refine AllReadyH.cons rfl (fun K hK => ?_) AllReadyH.nil
          · go_simp
            refine hK.out _ _ ?_ (fun hNew => ?_)
            · exact ⟨(((((Below.refl w6.heap.size w6).alloc (Nat.le_refl _) (.cells #[.int .i64 a.key.tick, .int .i64 a.key.cls, .int .i64 a.key.num, .string (bs a.key.lin), .slice U1 a.reads.length e1, .slice U2 a.writes.length e2] 61)).alloc (by simp) (.cells #[] 61)).drew).cell (p := ⟨b1, o1 + k * 6, none⟩) hb1).trans x0, (((((Below.refl w6.heap.size w6).alloc (Nat.le_refl _) (.cells #[.int .i64 a.key.tick, .int .i64 a.key.cls, .int .i64 a.key.num, .string (bs a.key.lin), .slice U1 a.reads.length e1, .slice U2 a.writes.length e2] 61)).alloc (by simp) (.cells #[] 61)).drew).cell (p := ⟨b1, o1 + k * 6 + 1, none⟩) hb1).trans x1, (((((Below.refl w6.heap.size w6).alloc (Nat.le_refl _) (.cells #[.int .i64 a.key.tick, .int .i64 a.key.cls, .int .i64 a.key.num, .string (bs a.key.lin), .slice U1 a.reads.length e1, .slice U2 a.writes.length e2] 61)).alloc (by simp) (.cells #[] 61)).drew).cell (p := ⟨b1, o1 + k * 6 + 2, none⟩) hb1).trans x2, (((((Below.refl w6.heap.size w6).alloc (Nat.le_refl _) (.cells #[.int .i64 a.key.tick, .int .i64 a.key.cls, .int .i64 a.key.num, .string (bs a.key.lin), .slice U1 a.reads.length e1, .slice U2 a.writes.length e2] 61)).alloc (by simp) (.cells #[] 61)).drew).cell (p := ⟨b1, o1 + k * 6 + 3, none⟩) hb1).trans x3, (((((Below.refl w6.heap.size w6).alloc (Nat.le_refl _) (.cells #[.int .i64 a.key.tick, .int .i64 a.key.cls, .int .i64 a.key.num, .string (bs a.key.lin), .slice U1 a.reads.length e1, .slice U2 a.writes.length e2] 61)).alloc (by simp) (.cells #[] 61)).drew).cell (p := ⟨b1, o1 + k * 6 + 4, none⟩) hb1).trans x4, (((((Below.refl w6.heap.size w6).alloc (Nat.le_refl _) (.cells #[.int .i64 a.key.tick, .int .i64 a.key.cls, .int .i64 a.key.num, .string (bs a.key.lin), .slice U1 a.reads.length e1, .slice U2 a.writes.length e2] 61)).alloc (by simp) (.cells #[] 61)).drew).cell (p := ⟨b1, o1 + k * 6 + 5, none⟩) hb1).trans x5⟩
            clear hK K hHeld
            have hHeld := hNew
            clear hNew
            try simp only [Act.put, List.setIfInBounds_toArray, List.set_cons_zero, List.set_cons_succ]
            refine wpAnyH_ready (rs := [3]) (by kernel_rfl) (by simp) ?_
            refine AllReadyH.cons rfl (fun K hK => ?_) AllReadyH.nil
            · refine step_append_rd _ (by rfl) _ _ _ (by rfl) w6.heap.size 61 i0 _ 6 88 Tryz.underlying29 hi hz0 hz1 hz2 rfl (by omega) _ 0 [] (by rfl) (show (((w6.alloc (.cells #[.int .i64 a.key.tick, .int .i64 a.key.cls, .int .i64 a.key.num, .string (bs a.key.lin), .slice U1 a.reads.length e1, .slice U2 a.writes.length e2] 61)).alloc (.cells #[] 61)).drew).ownsRow w6.heap.size 61 6 (.slice (some ⟨(w6.heap.size + 1), 0, none⟩) 0 0) 0 [] from (by have h := own_empty (w6.alloc (.cells #[.int .i64 a.key.tick, .int .i64 a.key.cls, .int .i64 a.key.num, .string (bs a.key.lin), .slice U1 a.reads.length e1, .slice U2 a.writes.length e2] 61)) w6.heap.size 61 6 (by simp); rw [World.size_alloc] at h; exact h)) _ ks.length (rowC acC ks us) (by rfl) (show Rd 61 ((w6.alloc (.cells #[.int .i64 a.key.tick, .int .i64 a.key.cls, .int .i64 a.key.num, .string (bs a.key.lin), .slice U1 a.reads.length e1, .slice U2 a.writes.length e2] 61)).alloc (.cells #[] 61)).drew _ _ _ from Rd.of_own (own_next HUS.out (((Below.refl w6.heap.size w6).alloc (Nat.le_refl _) (.cells #[.int .i64 a.key.tick, .int .i64 a.key.cls, .int .i64 a.key.num, .string (bs a.key.lin), .slice U1 a.reads.length e1, .slice U2 a.writes.length e2] 61)).alloc (by simp) (.cells #[] 61)).drew)) HUS.out.1 HONE.out (by unfold maxLen; omega) (by omega) (by simp; try omega) ?_; intro A8 c8 w8 hown8 hg8; (simp only [Nat.zero_add, List.nil_append] at hown8); (try simp only [Nat.zero_add])
              have hb8 := below_own (((Below.refl w6.heap.size w6).alloc (Nat.le_refl _) (.cells #[.int .i64 a.key.tick, .int .i64 a.key.cls, .int .i64 a.key.num, .string (bs a.key.lin), .slice U1 a.reads.length e1, .slice U2 a.writes.length e2] 61)).alloc (by simp) (.cells #[] 61)).drew (by have h := own_empty (w6.alloc (.cells #[.int .i64 a.key.tick, .int .i64 a.key.cls, .int .i64 a.key.num, .string (bs a.key.lin), .slice U1 a.reads.length e1, .slice U2 a.writes.length e2] 61)) w6.heap.size 61 6 (by simp); rw [World.size_alloc] at h; exact h) hg8 (Nat.le_refl _) ((((Below.refl w6.heap.size w6).alloc (Nat.le_refl _) (.cells #[.int .i64 a.key.tick, .int .i64 a.key.cls, .int .i64 a.key.num, .string (bs a.key.lin), .slice U1 a.reads.length e1, .slice U2 a.writes.length e2] 61)).alloc (by simp) (.cells #[] 61)).drew).size
              have HO8 := Lib.hid hown8
              have HE8 := Lib.hid (show w8.ownsRow w6.heap.size 61 6 (.slice (some ⟨w6.heap.size, 0, none⟩) 1 1) 1 [.int .i64 a.key.tick, .int .i64 a.key.cls, .int .i64 a.key.num, .string (bs a.key.lin), .slice U1 a.reads.length e1, .slice U2 a.writes.length e2] from (show (((w6.alloc (.cells #[.int .i64 a.key.tick, .int .i64 a.key.cls, .int .i64 a.key.num, .string (bs a.key.lin), .slice U1 a.reads.length e1, .slice U2 a.writes.length e2] 61)).alloc (.cells #[] 61)).drew).ownsRow w6.heap.size 61 6 (.slice (some ⟨w6.heap.size, 0, none⟩) 1 1) 1 [.int .i64 a.key.tick, .int .i64 a.key.cls, .int .i64 a.key.num, .string (bs a.key.lin), .slice U1 a.reads.length e1, .slice U2 a.writes.length e2] from (own_next (own_new w6 w6.heap.size 61 6 [.int .i64 a.key.tick, .int .i64 a.key.cls, .int .i64 a.key.num, .string (bs a.key.lin), .slice U1 a.reads.length e1, .slice U2 a.writes.length e2] rfl (Nat.le_refl _)) ((Below.refl (w6.alloc (.cells #[.int .i64 a.key.tick, .int .i64 a.key.cls, .int .i64 a.key.num, .string (bs a.key.lin), .slice U1 a.reads.length e1, .slice U2 a.writes.length e2] 61)).heap.size (w6.alloc (.cells #[.int .i64 a.key.tick, .int .i64 a.key.cls, .int .i64 a.key.num, .string (bs a.key.lin), .slice U1 a.reads.length e1, .slice U2 a.writes.length e2] 61))).alloc (Nat.le_refl _) (.cells #[] 61)).drew)).kept hg8 (.inr (by simp [Value.ownBlock])))
              refine hK.out _ _ ?_ (fun hNew => ?_)
              · exact ⟨((hb8).cell (p := ⟨b1, o1 + k * 6, none⟩) hb1).trans x0, ((hb8).cell (p := ⟨b1, o1 + k * 6 + 1, none⟩) hb1).trans x1, ((hb8).cell (p := ⟨b1, o1 + k * 6 + 2, none⟩) hb1).trans x2, ((hb8).cell (p := ⟨b1, o1 + k * 6 + 3, none⟩) hb1).trans x3, ((hb8).cell (p := ⟨b1, o1 + k * 6 + 4, none⟩) hb1).trans x4, ((hb8).cell (p := ⟨b1, o1 + k * 6 + 5, none⟩) hb1).trans x5⟩
              clear hK K hHeld
              have hHeld := hNew
              clear hNew
              try simp only [Act.put, List.setIfInBounds_toArray, List.set_cons_zero, List.set_cons_succ]
              have HB89 := Lib.hid hb8
              have HN9 := Lib.hid HO8.out
              have HE9 := Lib.hid (Rd.of_own HE8.out)
              refine wpAnyH_ready (rs := [9]) (by kernel_rfl) (by simp) ?_
              refine AllReadyH.cons rfl (fun K hK => ?_) AllReadyH.nil
              refine step_append_w _ (by rfl) _ _ _ (by rfl) w6.heap.size 61 i0 _ 6 88 Tryz.underlying29 hi hz0 hz1 hz2 rfl (by omega) (.slice A8 ks.length c8) ks.length (rowC acC ks us) (by rfl) HN9.out (.slice (some ⟨w6.heap.size, 0, none⟩) 1 1) 1 [.int .i64 a.key.tick, .int .i64 a.key.cls, .int .i64 a.key.num, .string (bs a.key.lin), .slice U1 a.reads.length e1, .slice U2 a.writes.length e2] (by rfl) HE9.out (by omega) (by rfl) (by simp [Value.oneCell']) (by unfold maxLen; omega) (by omega) (by have := HB89.out.size; omega) ?_; intro v9 w9 hown9 hg9 hat9; have HO9 := Lib.hid hown9; have HBy9 := Lib.hid (below_own HB89.out HN9.out hg9 (Nat.le_refl _) HB89.out.size); clear hown9 hat9
              refine hK.out _ _ ?_ (fun hNew => ?_)
              · exact ⟨(HBy9.out.cell (p := ⟨b1, o1 + k * 6, none⟩) hb1).trans x0, (HBy9.out.cell (p := ⟨b1, o1 + k * 6 + 1, none⟩) hb1).trans x1, (HBy9.out.cell (p := ⟨b1, o1 + k * 6 + 2, none⟩) hb1).trans x2, (HBy9.out.cell (p := ⟨b1, o1 + k * 6 + 3, none⟩) hb1).trans x3, (HBy9.out.cell (p := ⟨b1, o1 + k * 6 + 4, none⟩) hb1).trans x4, (HBy9.out.cell (p := ⟨b1, o1 + k * 6 + 5, none⟩) hb1).trans x5⟩
              clear hK K hHeld
              have hHeld := hNew
              clear hNew
              try simp only [Act.put, List.setIfInBounds_toArray, List.set_cons_zero, List.set_cons_succ]
              refine wpAnyH_ready (rs := [10]) (by kernel_rfl) (by simp) ?_
              refine AllReadyH.cons rfl (fun K hK => ?_) AllReadyH.nil
              go_simp
              refine (rcheck_is (l := ks ++ [a]) (RowOwn.rd (RowOwn.push (f := acC) HUR.out (by rw [show ([.int .i64 a.key.tick, .int .i64 a.key.cls, .int .i64 a.key.num, .string (bs a.key.lin), .slice U1 a.reads.length e1, .slice U2 a.writes.length e2] : List Value) = acC a (.slice U1 a.reads.length e1, .slice U2 a.writes.length e2) from rfl] at HO9; exact HO9.out) (fun _ _ h => NAc.next HBy9.out h) (NAc.next HBy9.out HNA.out))) (HU6.out.below HBy9.out) HARS.out (by rw [List.length_append]; simp; omega)).mono ?_; rintro e w10 ⟨rfl, hb10⟩; have HBx := Lib.hid (HBy9.out.trans (hb10.mono HBy9.out.size)); clear hb10; try (go_wp2_with fail)
              refine hK.out _ _ ?_ (fun hNew => ?_)
              · exact ⟨(HBx.out.cell (p := ⟨b1, o1 + k * 6, none⟩) hb1).trans x0, (HBx.out.cell (p := ⟨b1, o1 + k * 6 + 1, none⟩) hb1).trans x1, (HBx.out.cell (p := ⟨b1, o1 + k * 6 + 2, none⟩) hb1).trans x2, (HBx.out.cell (p := ⟨b1, o1 + k * 6 + 3, none⟩) hb1).trans x3, (HBx.out.cell (p := ⟨b1, o1 + k * 6 + 4, none⟩) hb1).trans x4, (HBx.out.cell (p := ⟨b1, o1 + k * 6 + 5, none⟩) hb1).trans x5⟩
              clear hK K hHeld
              have hHeld := hNew
              clear hNew
              try simp only [Act.put, List.setIfInBounds_toArray, List.set_cons_zero, List.set_cons_succ]
              refine wpAnyH_take (i := 11) (v := ?_) rfl (by kernel_rfl) (by kernel_rfl) (by kernel_rfl) (fun _ _ _ h => h) (Or.inl ⟨by kernel_rfl, ?_⟩) hHeld ?_
              rotate_left
              · (intro w hSw; (try dsimp only at hSw); go_simp; try with_reducible rfl)
              try simp only [Act.put, List.setIfInBounds_toArray, List.set_cons_zero, List.set_cons_succ]
              refine wpAnyH_done (by kernel_rfl) ?_ _
              clear hHeld
              try simp only [List.getElem_toArray, List.getElem_cons_zero, List.getElem_cons_succ, Act.put, List.setIfInBounds_toArray, List.set_cons_zero, List.set_cons_succ]
              refine NoPanic.normal ?_
              go_wp2_with fail
              go_meet
              case rel => exact ⟨by rw [← HCK.out], HBx.out⟩
      case rest =>
        obtain ⟨rfl, hbx⟩ := hcut
        obtain ⟨w7, hw7⟩ : ∃ W, W = wc := ⟨_, rfl⟩
        subst hw7
        have HB7 := Lib.hid hbx
        have HV7 := Lib.hid (HV6.out.next hbx)
        have HC7 := Lib.hid (HC6.out.next hbx)
        have HKO7 := Lib.hid (OwnAc.next HKO6.out hbx)
        have HNA7 := Lib.hid (NAc.next hbx HNA.out)
        have HB37 := Lib.hid (HB36.out.trans (hbx.mono HB36.out.size))
        have HU7 := Lib.hid (HU6.out.below hbx)
        have HSZ7 := Lib.hid (Nat.le_trans HB6.out.size hbx.size)
        have y0 := (hbx.cell (p := ⟨b1, o1 + k * 6, none⟩) hb1).trans x0
        clear x0
        have x0 := y0
        clear y0
        have y1 := (hbx.cell (p := ⟨b1, o1 + k * 6 + 1, none⟩) hb1).trans x1
        clear x1
        have x1 := y1
        clear y1
        have y2 := (hbx.cell (p := ⟨b1, o1 + k * 6 + 2, none⟩) hb1).trans x2
        clear x2
        have x2 := y2
        clear y2
        have y3 := (hbx.cell (p := ⟨b1, o1 + k * 6 + 3, none⟩) hb1).trans x3
        clear x3
        have x3 := y3
        clear y3
        have y4 := (hbx.cell (p := ⟨b1, o1 + k * 6 + 4, none⟩) hb1).trans x4
        clear x4
        have x4 := y4
        clear y4
        have y5 := (hbx.cell (p := ⟨b1, o1 + k * 6 + 5, none⟩) hb1).trans x5
        clear x5
        have x5 := y5
        clear y5
        clear hbx
        go_upto_region 14 with (go_at_call 24; refine (append_is (a := a) (u := (.slice U1 a.reads.length e1, .slice U2 a.writes.length e2)) HV7.out (fun b hb => Nat.lt_of_lt_of_le (HF.out b hb).2 HSZ7.out) HU7.out HNA7.out (HAR.out a HAL.out) HVO.out.r (stS_ok HSV.out HVO.out.ok) HVO.out.len).mono ?_; rintro e w8 ⟨rfl, hok8, hbad8, hout8, hkp8⟩; rw [HE.out] at hok8 hbad8 ⊢)
        have HOUT := Lib.hid hout8
        have HKP := Lib.hid hkp8
        have HB38 := Lib.hid (HB37.out.trans (hout8.below HB37.out.size (fun b hb => (HF.out b hb).1)))
        have HGF : Hid (∀ b, (wr.heap.size ≤ b ∧ b < w6.heap.size) → ¬ F b) := Lib.hid fun b hb hf => by have := (HF.out b hf).2; omega
        have HC8 := Lib.hid (HC7.out.apart hout8 hkp8 HGF.out)
        have HKO8 := Lib.hid (OwnAc.outer HKO7.out hout8 hkp8 HKF.out)
        clear x0 x1 x2 x3 x4 x5 hout8 hkp8
        by_cases h0 : E = 0
        · have HV8 := Lib.hid (hok8 h0)
          have HE0 := Lib.hid h0
          clear hok8 hbad8
          subst h0
          go_upto_region 17 with (first
            | (go_at_call 25; refine (veq_is HV8.out HC8.out HSV.out.1 HSV.out.1 (by rw [List.length_append]; simp; omega) (by omega) HARS.out HVO.out.r).mono ?_; rintro e w9 ⟨rfl, hb9⟩; rw [decide_eq_true rfl, decide_eq_false ne_snoc]; have HB9 := Lib.hid hb9; have HC9 := Lib.hid (HC8.out.next hb9); clear hb9)
            | (go_at_call 26; refine (vlen_is HC9.out).mono ?_; rintro e w' ⟨rfl, rfl⟩))
          have HB39 := Lib.hid (HB38.out.trans (HB9.out.mono HB38.out.size))
          have HKO9 := Lib.hid (OwnAc.next HKO8.out HB9.out)
          have HV9 := Lib.hid (HV8.out.next HB9.out)
          obtain ⟨b1', o1', u1', u2', hbe', hb1', m1', m2', x0, x1, x2, x3, x4, x5⟩ := RdAc.piece (RdAc.next HLR3.out HB39.out) hk
          injection hbe' with hbe'
          injection hbe' with e1' e2'
          subst e1' e2'
          rw [HAE.out] at m1' m2' x0 x1 x2 x3
          obtain ⟨U1', e1', rfl, _⟩ := RdP.form m1'
          obtain ⟨U2', e2', rfl, _⟩ := RdP.form m2'
          have HNA9 := Lib.hid (show NAc w9 (.slice U1' a.reads.length e1', .slice U2' a.writes.length e2') a from ⟨m1', m2'⟩)
          obtain ⟨us', hur', hus'⟩ := HKO9.out
          have HUR' := Lib.hid hur'
          have HUS' := Lib.hid hus'
          clear m1' m2' hur' hus'
          go_wp2_with (at_builtin; refine wpList_append_w _ rfl _ _ _ rfl w3.heap.size 61 i0 _ 6 88 Tryz.underlying29 hi hz0 hz1 hz2 rfl (by omega) (.slice Ak ks.length ck) ks.length (rowC acC ks us') rfl (own_next HUS'.out ((Below.refl _ _).alloc (Nat.le_refl _) _)) (.slice (some ⟨w9.heap.size, 0, none⟩) 1 1) 1 [.int .i64 a.key.tick, .int .i64 a.key.cls, .int .i64 a.key.num, .string (bs a.key.lin), .slice U1' a.reads.length e1', .slice U2' a.writes.length e2'] rfl (Rd.of_own (own_new w9 0 61 6 [.int .i64 a.key.tick, .int .i64 a.key.cls, .int .i64 a.key.num, .string (bs a.key.lin), .slice U1' a.reads.length e1', .slice U2' a.writes.length e2'] rfl (Nat.zero_le _))) (by omega) rfl (by simp [Value.oneCell']) (by unfold maxLen; omega) (by omega) (by have := HB39.out.size; simp; omega) ?_; intro v10 w10 hown10 hg10 hat10; have HO10 := Lib.hid hown10; have HG10 := Lib.hid hg10; have HAT10 := Lib.hid hat10; clear hown10 hg10 hat10)
          clear x0 x1 x2 x3 x4 x5
          have hba := (Below.refl w9.heap.size w9).alloc (Nat.le_refl _) (.cells #[.int .i64 a.key.tick, .int .i64 a.key.cls, .int .i64 a.key.num, .string (bs a.key.lin), .slice U1' a.reads.length e1', .slice U2' a.writes.length e2'] 61)
          have hoo := own_next HUS'.out hba
          have hkA : Kept [61] w9 w10 := (Kept.of_below _ hba).trans (Kept.of_own _ hoo HG10.out rfl)
          have hkL : Kept LV w9 w10 := (Kept.of_below _ hba).trans (Kept.of_own LV hoo HG10.out rfl)
          have hbl : ∀ b, (Value.slice Ak ks.length ck).ownBlock = some b → b < wr.heap.size := fun b hb => by
            obtain ⟨_, _, ho⟩ := HKO.out
            exact (ho.lt b hb).2
          have hs79 : w7.heap.size ≤ w9.heap.size := Nat.le_trans HOUT.out.size HB9.out.size
          have hs69 : wr.heap.size ≤ w9.heap.size := Nat.le_trans HSZ7.out hs79
          have hv10 : VAt w10 (Grow F w7 w8) g s0 (ks ++ [a]) := (HV9.out.next hba).apart (F := fun i => (Value.slice Ak ks.length ck).ownBlock = some i) (Outer.of_grown HG10.out fun b hb => hb) (Kept.of_own LV hoo HG10.out rfl) (fun b hb e => by
            rcases hb with h | ⟨h, _⟩
            · exact HKF.out b e h
            · have := hbl b e; have := HSZ7.out; omega)
          have HV10 := Lib.hid hv10
          have HKO10 := Lib.hid (RowOwn.push (f := acC) (x := a) (u := (.slice U1' a.reads.length e1', .slice U2' a.writes.length e2')) HUR'.out HO10.out (fun _ _ h => NAc.keep hkA rfl h) (NAc.keep hkA rfl HNA9.out))
          have HBB := Lib.hid (below_own ((hba.mono HB39.out.size)) hoo HG10.out (Nat.le_refl _) (Nat.le_trans HB39.out.size hba.size))
          have HB310 := Lib.hid (HB39.out.trans HBB.out)
          have HKF10 : Hid (∀ b, v10.ownBlock = some b → ¬ Grow F w7 w8 b) := Lib.hid fun b hb hf => by
            rcases HAT10.out with h | h
            · rw [h] at hb
              rcases hf with h2 | ⟨h2, _⟩
              · exact HKF.out b hb h2
              · have := hbl b hb; have := HSZ7.out; omega
            · rw [h] at hb
              injection hb with hb
              have h9 := HB9.out.size
              simp at hb
              rcases hf with h2 | ⟨_, h2⟩
              · have := (HF.out b h2).2; omega
              · omega
          have HF10 : Hid (∀ b, Grow F w7 w8 b → w3.heap.size ≤ b ∧ b < w10.heap.size) := Lib.hid fun b hf => by
            have h3 := HB37.out.size
            have h9 := HB9.out.size
            have h10 := HBB.out.size
            rcases hf with h2 | ⟨h1, h2⟩
            · have := HF.out b h2; omega
            · omega
          clear hba hoo hkA hkL hbl hv10
          go_wp2_with fail
          go_roundw
          case rel =>
            exact ⟨k + 1, ks ++ [a], _, by omega, by go_num, HKO10.out, HKF10.out, HV10.out, by rw [HCK.out], fun b hb => by
              rcases List.mem_append.1 hb with h | h
              · exact HIN.out b h
              · rw [List.mem_singleton] at h; rw [h]; exact HAL.out, by rw [List.length_append]; simp; omega, HF10.out, HB310.out⟩
          case measure => simp [intOf]; omega
        · have HV8b := Lib.hid (hbad8 h0)
          have HV8 := Lib.hid (HV7.out.next HV8b.out)
          have n1 : (E != 0) = true := by rw [bne_iff_ne]; exact h0
          have n2 : (E == 0) = false := by rw [beq_eq_false_iff_ne]; exact h0
          clear hok8 hbad8 h0
          go_upto_region 16 with (first
            | (go_at_call 25; refine (veq_is HV8.out HC8.out HSV.out.1 HSV.out.1 (by omega) (by omega) HVO.out.r HVO.out.r).mono ?_; rintro e w9 ⟨rfl, hb9⟩; rw [decide_eq_true rfl, decide_eq_true rfl]; have HB9 := Lib.hid hb9; have HC9 := Lib.hid (HC8.out.next hb9); clear hb9)
            | (go_at_call 26; refine (vlen_is HC9.out).mono ?_; rintro e w' ⟨rfl, rfl⟩))
          have HB39 := Lib.hid (HB38.out.trans (HB9.out.mono HB38.out.size))
          have HKO9 := Lib.hid (OwnAc.next HKO8.out HB9.out)
          have HV9 := Lib.hid (HV8.out.next HB9.out)
          have HS89 := Lib.hid (Nat.le_trans HV8b.out.size HB9.out.size)
          go_wp2_with fail
          go_roundw
          case rel =>
            exact ⟨k + 1, ks, F, by omega, by go_num, HKO9.out, HKF.out, HV9.out, HBK.out, HIN.out, by omega, fun b hf => ⟨(HF.out b hf).1, by have := (HF.out b hf).2; have := HSZ7.out; have := HS89.out; omega⟩, HB39.out⟩
          case measure => simp [intOf]; omega
    · have j3 : decide ((k : Int) < (l.length : Int)) = false := decide_eq_false (by omega)
      have HVO : Hid (VOk ks) := Lib.hid ⟨ok_all HBK.out, fun a ha => HAR.out a (HIN.out a ha), by omega⟩
      have HPR := Lib.hid (HP3.out.next HBW.out)
      have HUR := Lib.hid (HU3.out.next HBW.out HU3.out.1)
      have HKR := Lib.hid (show RdAc wr (.slice Ak ks.length ck) ks from RowOwn.rd HKO.out)
      go_upto_region 19 with (go_at_call 11; refine (build_is HPR.out HKR.out HUR.out HVO.out.r HSV.out HVO.out.len).mono ?_; rintro e w5 ⟨hb5, h5⟩; rcases h5 with ⟨_, g2, F2, rfl, hv5, _⟩ | ⟨hbad, rfl⟩; (case inr => exact absurd HBK.out hbad); have HB5 := Lib.hid hb5; have HV5 := Lib.hid hv5; have HVK5 := Lib.hid (HVK.out.next hb5); clear hb5 hv5)
      have ONCE : True := trivial
      go_wp2_with (first
        | (clear ONCE; go_at_call 25; refine (veq_is HVK5.out HV5.out HSV.out.1 HSV.out.1 (by omega) (by omega) HVO.out.r HVO.out.r).mono ?_; rintro e w6 ⟨rfl, hb6⟩; rw [decide_eq_true rfl, decide_eq_true rfl]; have HB6 := Lib.hid hb6; have HV6 := Lib.hid (HV5.out.next hb6); have HVK6 := Lib.hid (HVK5.out.next hb6); clear hb6)
        | (go_at_call 25; refine (veq_is HV6.out HVK6.out HSV.out.1 HSV.out.1 (by omega) (by omega) HVO.out.r HVO.out.r).mono ?_; rintro e w7 ⟨rfl, hb7⟩; rw [decide_eq_true rfl, decide_eq_true rfl]; have HB7 := Lib.hid hb7; have HVK7 := Lib.hid (HVK6.out.next hb7); clear hb7)
        | (go_at_call 26; refine (vlen_is HVK7.out).mono ?_; rintro e w' ⟨rfl, rfl⟩))
      go_ret
      have hb := HBW.out.trans ((HB5.out.trans ((HB6.out.trans (HB7.out.mono HB6.out.size)).mono HB5.out.size)).mono HBW.out.size)
      exact ⟨rfl, by rw [HCB.out]; exact HB03.out.trans (hb.mono HSZ.out)⟩
end Go.Proofs.YtobkmkplhbaepaaGreatDoor
