/- Walks and plain facts, packed: W113, LA. -/
import Derived.Test.YtamjllakfgphnaaGreatDoorZS8
namespace Go.Proofs.YtamjllakfgphnaaGreatDoor
open Go.RowKit
set_option linter.unusedSimpArgs false
set_option linter.unusedVariables false
attribute [local go_sem ↓] Go.wp_at_zero Go.wp_at_succ
open Go.MapKept Go.ChangeMaps
theorem lsrt_le (l : List Bs) : (lsrt l).length ≤ l.length := by
  unfold lsrt
  split
  · refine Nat.le_trans (srtL_le _) ?_
    simp
  · simp
def tsRel (L : List Ac) (r : Int × Int) (i : Int) (w3 : World) (v9 v10 : Value) (wx : World) : Prop := ∃ (bb : Nat) (v1 v2 v3 : Value) (er : Int) (S1 S2 : List Int) (S3 : List Bs), v9 = .pointer (some ⟨bb, 0, none⟩) ∧ v10 = .int .i64 er ∧ Blk wx bb 36 #[v1, v2, v3] ∧ RdIn wx v1 S1 ∧ RdIn wx v2 S2 ∧ RdSt wx v3 S3 ∧ OfSpec L L r i er S1 S2 S3 ∧ Below w3.heap.size w3 wx ∧ w3.heap.size ≤ bb
theorem A54At.up {B B' : Nat} {w : World} {v : Value} {l : List A54} (h : A54At B w v l) (hb : B ≤ B') : A54At B' w v l := by
  obtain ⟨⟨A, c, e, h1, h2, h3⟩, h4⟩ := h
  refine ⟨⟨A, c, e, h1, h2, ?_⟩, h4⟩
  rcases h3 with h3 | ⟨b, o, e2, h5, h6⟩
  · exact .inl h3
  · exact .inr ⟨b, o, e2, Nat.lt_of_lt_of_le h5 hb, h6⟩
set_option maxRecDepth 100000 in
set_option maxHeartbeats 4000000 in
theorem law_tslices {w : World} {v : Value} {l : List A54} (wh a : Int) (i : Int) (h : A54At w.heap.size w v l) (hw0 : 0 ≤ wh) (hw1 : wh < 256) (hu : UseAt w) : Calls Tryz.prog 5 #[v, .agg #[.int .u8 wh, .int .i64 a], .int .i64 i] w fun e w' => e = .returned (.bool true) ∧ Below w.heap.size w w' := by
  have ha := (Below.refl w.heap.size w).alloc (Nat.le_refl _) (.cells #[.int .u8 wh, .int .i64 a] 43)
  have hz : w.heap.size < (w.alloc (.cells #[.int .u8 wh, .int .i64 a] 43)).heap.size := by simp
  have zs := Blk.new w 43 #[.int .u8 wh, .int .i64 a]
  obtain ⟨A0, c0, rfl, hc0, hcm0⟩ := h.form
  have HA := Lib.hid ha
  have HAT := Lib.hid ((h.below ha).up (Nat.le_of_lt hz))
  have HU := Lib.hid (hu.below ha)
  have HVO := Lib.hid (W54_vok l)
  have ZS := Lib.hid zs
  clear ha hu h zs
  go_enter Tryz.func5, Tryz.ntmps5
  go_wp2_with fail
  go_at_call 13
  refine (build54_is HAT.out HU.out).mono ?_
  rintro e w2 ⟨pb, lv, gx, gg, F, B', rfl, hst, hac, hvx, hgx, hF, hb2⟩
  obtain ⟨A9, c9, rfl, hc9⟩ := RowRd.form hac
  have HW54 := Lib.hid (good_W l)
  have HLE := Lib.hid (show W54 l = (fold54 (l.take 20)).l from rfl)
  generalize W54 l = L at *
  have hal := (Below.refl w2.heap.size w2).alloc (Nat.le_refl _) (.cells #[.pointer pb, .slice A9 L.length c9, .pointer (some ⟨gx, 0, none⟩), .pointer (some ⟨gg, 0, none⟩)] 49)
  have zc := Blk.new w2 49 #[.pointer pb, .slice A9 L.length c9, .pointer (some ⟨gx, 0, none⟩), .pointer (some ⟨gg, 0, none⟩)]
  have hcb : w2.heap.size < (w2.alloc (.cells #[.pointer pb, .slice A9 L.length c9, .pointer (some ⟨gx, 0, none⟩), .pointer (some ⟨gg, 0, none⟩)] 49)).heap.size := by simp
  have HX := Lib.hid (hvx.next hal)
  have HG := Lib.hid (hgx.next hal)
  have HST := Lib.hid (hst.next hal)
  have HAC := Lib.hid (RdAc.next hac hal)
  have HB2 := Lib.hid (hb2.trans (hal.mono hb2.size))
  have HUX := Lib.hid ((HU.out.below hb2).below hal)
  have ZC := Lib.hid zc
  clear hal hb2 hst hac hvx hgx zc HAT HU
  go_wp2_with fail
  generalize w2.alloc (.cells #[.pointer pb, .slice A9 L.length c9, .pointer (some ⟨gx, 0, none⟩), .pointer (some ⟨gg, 0, none⟩)] 49) = W at *
  generalize w2.heap.size = cb at *
  have ZSW := Lib.hid (ZS.out.next HB2.out hz)
  generalize hsb : w.heap.size = sb at *
  have HSB := Lib.hid hsb
  clear hsb ZS
  go_at_call 10
  refine (known54_is HUX.out).mono ?_
  rintro e w3 ⟨rfl, hb3⟩
  have HB3 := Lib.hid (HB2.out.trans (hb3.mono HB2.out.size))
  replace HX := Lib.hid (HX.out.next hb3)
  replace HG := Lib.hid (HG.out.next hb3)
  replace HST := Lib.hid (HST.out.next hb3)
  replace HAC := Lib.hid (RdAc.next HAC.out hb3)
  replace HUX := Lib.hid (HUX.out.below hb3)
  replace ZSW := Lib.hid (ZSW.out.next hb3 ZSW.out.lt)
  replace ZC := Lib.hid (ZC.out.next hb3 hcb)
  replace hcb := ZC.out.lt
  have hsb := ZSW.out.lt
  have s0 := ZSW.out.cell 0
  have s1 := ZSW.out.cell 1
  have x0 := ZC.out.cell 0
  have x1 := ZC.out.cell 1
  have x2 := ZC.out.cell 2
  have x3 := ZC.out.cell 3
  simp only [qB, qC, qD] at s0 s1 x0 x1 x2 x3
  have HBW := Lib.hid (HA.out.trans (HB3.out.mono (Nat.le_of_lt hz)))
  have hnn := spN_own wh
  clear hb3 HB2 HB3 HA hz
  go_upto_region 4 with (fail)
  have hLL : L.length ≤ 20 := by
    have := HW54.out.len
    rw [← HLE.out] at this
    omega
  have HALL := Lib.hid (show ∀ x ∈ L, AcR x from fun x hx => (HW54.out.all x (by rw [← HLE.out]; exact hx)).1)
  have HRD := Lib.hid (show ∀ x ∈ L, x.reads.length ≤ 10 from fun x hx => (HALL.out x hx).2.2.2.1)
  have HWR := Lib.hid (show ∀ x ∈ L, x.writes.length ≤ 10 from fun x hx => (HALL.out x hx).2.2.2.2)
  have H5 := Lib.hid (show ∀ x ∈ L, x.key.lin ∈ lin5 from fun x hx => (HALL.out x hx).1.2.1)
  have HIN := Lib.hid (show (L.map Ac.key).Pairwise InpLt by rw [HLE.out]; exact W54_inp l)
  obtain ⟨ro, re, hr⟩ : ∃ o e, orgR L.length (verL base54 L (spN wh)) a i = (o, e) := ⟨_, _, rfl⟩
  have HR := Lib.hid hr
  have HGE0 := Lib.hid (show re = 0 → -1 ≤ ro ∧ ro < i ∧ 0 ≤ i ∧ i ≤ (L.length : Int) by
    intro h
    have := orgR_ge (N := L.length) (s0 := base54) (l := L) (n := spN wh) (a := a) (i := i) (by rw [hr]; exact h)
    rw [hr] at this
    exact this)
  clear hr
  go_cut [9, 10] (fun v9 v10 wx => tsRel L (orgR L.length (verL base54 L (spN wh)) a i) i w3 v9 v10 wx)
  case first =>
    refine wp_region_noPanic ?_
    refine wp_region_held_drew (S := (fun (w' : World) => w'.cell? ⟨cb, 2, none⟩ = some (.pointer (some ⟨gx, 0, none⟩)) ∧ w'.cell? ⟨cb, 3, none⟩ = some (.pointer (some ⟨gg, 0, none⟩)) ∧ w'.cell? ⟨sb, 0, none⟩ = some (.int .u8 wh) ∧ w'.cell? ⟨sb, 1, none⟩ = some (.int .i64 a))) (by kernel_rfl) ?_ (fun hHeld => ?_)
    · exact ⟨x2, x3, s0, s1⟩
    refine tk (v := ?_) 0 rfl (by kernel_rfl) (fun _ _ _ h => h) ?_ hHeld ?_
    rotate_left
    · (intro w h; (try dsimp only at h); go_simp; try with_reducible rfl)
    try simp only [Act.put, pB, pC, pD]
    refine tk (v := ?_) 1 rfl (by kernel_rfl) (fun _ _ _ h => h) ?_ hHeld ?_
    rotate_left
    · (intro w h; (try dsimp only at h); go_simp; try with_reducible rfl)
    try simp only [Act.put, pB, pC, pD]
    refine tk (v := ?_) 2 rfl (by kernel_rfl) (fun _ _ _ h => h) ?_ hHeld ?_
    rotate_left
    · (intro w h; (try dsimp only at h); go_simp; try with_reducible rfl)
    try simp only [Act.put, pB, pC, pD]
    refine tk (v := ?_) 3 rfl (by kernel_rfl) (fun _ _ _ h => h) ?_ hHeld ?_
    rotate_left
    · (intro w h; (try dsimp only at h); go_simp; try with_reducible rfl)
    try simp only [Act.put, pB, pC, pD]
    refine tk (v := ?_) 4 rfl (by kernel_rfl) (fun _ _ _ h => h) ?_ hHeld ?_
    rotate_left
    · (intro w h; (try dsimp only at h); go_simp; try with_reducible rfl)
    try simp only [Act.put, pB, pC, pD]
    refine tk (v := ?_) 6 rfl (by kernel_rfl) (fun _ _ _ h => h) ?_ hHeld ?_
    rotate_left
    · (intro w h; (try dsimp only at h); go_simp; try with_reducible rfl)
    try simp only [Act.put, pB, pC, pD]
    refine wpAnyH_ready (rs := [5, 11]) (by kernel_rfl) (by simp) ?_
    refine AllReadyH.cons rfl (fun K hK => ?_) (AllReadyH.cons rfl (fun K hK => ?_) AllReadyH.nil)
    · go_simp
      refine (place_is (w3.drew) wh a hw0 hw1).mono ?_; rintro e w9 ⟨rfl, hb9'⟩; have HB9 := Lib.hid (((Below.refl w3.heap.size w3).drew).trans (hb9'.mono ((Below.refl w3.heap.size w3).drew).size)); clear hb9'
      try (go_wp2_with fail)
      refine hK.out _ _ ?_ (fun hNew => ?_)
      · exact ⟨(HB9.out.cell (p := ⟨cb, 2, none⟩) hcb).trans x2, (HB9.out.cell (p := ⟨cb, 3, none⟩) hcb).trans x3, (HB9.out.cell (p := ⟨sb, 0, none⟩) hsb).trans s0, (HB9.out.cell (p := ⟨sb, 1, none⟩) hsb).trans s1⟩
      clear hK K hHeld
      have hHeld := hNew
      clear hNew
      try simp only [Act.put, pB, pC, pD]
      refine wpAnyH_ready (rs := [7, 11]) (by kernel_rfl) (by simp) ?_
      refine AllReadyH.cons rfl (fun K hK => ?_) (AllReadyH.cons rfl (fun K hK => ?_) AllReadyH.nil)
      · go_simp
        refine (tof_is (n := spN wh) a i (HX.out.next HB9.out) (HG.out.next HB9.out) hnn HVO.out (by omega) rfl HRD.out H5.out).mono ?_; rintro e w10 ⟨v1, v2, v3, er, S1, S2, S3, rfl, h1, h2, h3, hb10, hsp⟩; obtain ⟨B1, k1, rfl, _⟩ := RdP.form h1; obtain ⟨B2, k2, rfl, _⟩ := RdP.form h2; obtain ⟨B3, k3, rfl, _⟩ := RdP.form h3; have HR1 := Lib.hid h1; have HR2 := Lib.hid h2; have HR3 := Lib.hid h3; have HSP := Lib.hid hsp; have HB10 := Lib.hid ((HB9.out).trans (hb10.mono (HB9.out).size)); clear h1 h2 h3 hb10 hsp
        try (go_wp2_with fail)
        refine hK.out _ _ ?_ (fun hNew => ?_)
        · exact ⟨(HB10.out.cell (p := ⟨cb, 2, none⟩) hcb).trans x2, (HB10.out.cell (p := ⟨cb, 3, none⟩) hcb).trans x3, (HB10.out.cell (p := ⟨sb, 0, none⟩) hsb).trans s0, (HB10.out.cell (p := ⟨sb, 1, none⟩) hsb).trans s1⟩
        clear hK K hHeld
        have hHeld := hNew
        clear hNew
        try simp only [Act.put, pB, pC, pD]
        refine tk (v := ?_) 8 rfl (by kernel_rfl) (fun _ _ _ h => h) ?_ hHeld ?_
        rotate_left
        · (intro w h; (try dsimp only at h); go_simp; try with_reducible rfl)
        try simp only [Act.put, pB, pC, pD]
        refine tk (v := ?_) 9 rfl (by kernel_rfl) (fun _ _ _ h => h) ?_ hHeld ?_
        rotate_left
        · (intro w h; (try dsimp only at h); go_simp; try with_reducible rfl)
        try simp only [Act.put, pB, pC, pD]
        refine tk (v := ?_) 10 rfl (by kernel_rfl) (fun _ _ _ h => h) ?_ hHeld ?_
        rotate_left
        · (intro w h; (try dsimp only at h); go_simp; try with_reducible rfl)
        try simp only [Act.put, pB, pC, pD]
        refine wpAnyH_ready (rs := [11]) (by kernel_rfl) (by simp) ?_
        refine AllReadyH.cons rfl (fun K hK => ?_) AllReadyH.nil
        · go_simp
          have HBA : Hid (Below w3.heap.size w3 (w10.alloc (.cells #[.slice none 0 0, .slice none 0 0, .slice none 0 0] 36))) := Lib.hid ((HB10.out).alloc (HB10.out).size (.cells #[.slice none 0 0, .slice none 0 0, .slice none 0 0] 36))
          have ZBA : Hid (Blk (w10.alloc (.cells #[.slice none 0 0, .slice none 0 0, .slice none 0 0] 36)) w10.heap.size 36 #[.slice none 0 0, .slice none 0 0, .slice none 0 0]) := Lib.hid (Blk.new w10 36 #[.slice none 0 0, .slice none 0 0, .slice none 0 0])
          have HGE := Lib.hid (show w3.heap.size ≤ w10.heap.size from (HB10.out).size)
          refine hK.out _ _ ?_ (fun hNew => ?_)
          · exact ⟨(HBA.out.cell (p := ⟨cb, 2, none⟩) hcb).trans x2, (HBA.out.cell (p := ⟨cb, 3, none⟩) hcb).trans x3, (HBA.out.cell (p := ⟨sb, 0, none⟩) hsb).trans s0, (HBA.out.cell (p := ⟨sb, 1, none⟩) hsb).trans s1⟩
          clear hK K hHeld
          have hHeld := hNew
          clear hNew
          try simp only [Act.put, pB, pC, pD]
          have hal := (Below.refl w10.heap.size w10).alloc (Nat.le_refl _) (.cells #[.slice B1 S1.length k1, .slice B2 S2.length k2, .slice B3 S3.length k3] 36)
          have HBS := Lib.hid ((HB10.out).trans (hal.mono (HB10.out).size))
          have ZBS := Lib.hid (Blk.new w10 36 #[.slice B1 S1.length k1, .slice B2 S2.length k2, .slice B3 S3.length k3])
          have HS1 := Lib.hid (RdP.next HR1.out hal)
          have HS2 := Lib.hid (RdP.next HR2.out hal)
          have HS3 := Lib.hid (RdP.next HR3.out hal)
          clear hal
          refine wpAnyH_ready (rs := [12]) (by kernel_rfl) (by simp) ?_
          refine AllReadyH.cons rfl (fun K hK => ?_) AllReadyH.nil
          go_simp
          refine hK.out _ _ ?_ (fun hNew => ?_)
          · exact ⟨(HBS.out.cell (p := ⟨cb, 2, none⟩) hcb).trans x2, (HBS.out.cell (p := ⟨cb, 3, none⟩) hcb).trans x3, (HBS.out.cell (p := ⟨sb, 0, none⟩) hsb).trans s0, (HBS.out.cell (p := ⟨sb, 1, none⟩) hsb).trans s1⟩
          clear hK K hHeld
          have hHeld := hNew
          clear hNew
          try simp only [Act.put, pB, pC, pD]
          refine tk (v := ?_) 13 rfl (by kernel_rfl) (fun _ _ _ h => h) ?_ hHeld ?_
          rotate_left
          · (intro w h; (try dsimp only at h); go_simp; try with_reducible rfl)
          try simp only [Act.put, pB, pC, pD]
          refine wpAnyH_done (by kernel_rfl) ?_ _
          clear hHeld
          try simp only [List.getElem_toArray, List.getElem_cons_zero, List.getElem_cons_succ, Act.put, pB, pC, pD]
          refine NoPanic.normal ?_
          go_wp2_with fail
          go_meet
          case rel => exact ⟨_, _, _, _, er, S1, S2, S3, rfl, rfl, ZBS.out, HS1.out, HS2.out, HS3.out, HSP.out, HBS.out, HGE.out⟩
      · go_simp
        have HBA : Hid (Below w3.heap.size w3 (w9.alloc (.cells #[.slice none 0 0, .slice none 0 0, .slice none 0 0] 36))) := Lib.hid ((HB9.out).alloc (HB9.out).size (.cells #[.slice none 0 0, .slice none 0 0, .slice none 0 0] 36))
        have ZBA : Hid (Blk (w9.alloc (.cells #[.slice none 0 0, .slice none 0 0, .slice none 0 0] 36)) w9.heap.size 36 #[.slice none 0 0, .slice none 0 0, .slice none 0 0]) := Lib.hid (Blk.new w9 36 #[.slice none 0 0, .slice none 0 0, .slice none 0 0])
        have HGE := Lib.hid (show w3.heap.size ≤ w9.heap.size from (HB9.out).size)
        refine hK.out _ _ ?_ (fun hNew => ?_)
        · exact ⟨(HBA.out.cell (p := ⟨cb, 2, none⟩) hcb).trans x2, (HBA.out.cell (p := ⟨cb, 3, none⟩) hcb).trans x3, (HBA.out.cell (p := ⟨sb, 0, none⟩) hsb).trans s0, (HBA.out.cell (p := ⟨sb, 1, none⟩) hsb).trans s1⟩
        clear hK K hHeld
        have hHeld := hNew
        clear hNew
        try simp only [Act.put, pB, pC, pD]
        refine wpAnyH_ready (rs := [7]) (by kernel_rfl) (by simp) ?_
        refine AllReadyH.cons rfl (fun K hK => ?_) AllReadyH.nil
        · go_simp
          refine (tof_is (n := spN wh) a i (HX.out.next HBA.out) (HG.out.next HBA.out) hnn HVO.out (by omega) rfl HRD.out H5.out).mono ?_; rintro e w10 ⟨v1, v2, v3, er, S1, S2, S3, rfl, h1, h2, h3, hb10, hsp⟩; obtain ⟨B1, k1, rfl, _⟩ := RdP.form h1; obtain ⟨B2, k2, rfl, _⟩ := RdP.form h2; obtain ⟨B3, k3, rfl, _⟩ := RdP.form h3; have HR1 := Lib.hid h1; have HR2 := Lib.hid h2; have HR3 := Lib.hid h3; have HSP := Lib.hid hsp; have HB10 := Lib.hid ((HBA.out).trans (hb10.mono (HBA.out).size)); have ZB10 := Lib.hid (ZBA.out.next hb10 ZBA.out.lt); clear h1 h2 h3 hb10 hsp
          try (go_wp2_with fail)
          refine hK.out _ _ ?_ (fun hNew => ?_)
          · exact ⟨(HB10.out.cell (p := ⟨cb, 2, none⟩) hcb).trans x2, (HB10.out.cell (p := ⟨cb, 3, none⟩) hcb).trans x3, (HB10.out.cell (p := ⟨sb, 0, none⟩) hsb).trans s0, (HB10.out.cell (p := ⟨sb, 1, none⟩) hsb).trans s1⟩
          clear hK K hHeld
          have hHeld := hNew
          clear hNew
          try simp only [Act.put, pB, pC, pD]
          refine tk (v := ?_) 8 rfl (by kernel_rfl) (fun _ _ _ h => h) ?_ hHeld ?_
          rotate_left
          · (intro w h; (try dsimp only at h); go_simp; try with_reducible rfl)
          try simp only [Act.put, pB, pC, pD]
          refine tk (v := ?_) 9 rfl (by kernel_rfl) (fun _ _ _ h => h) ?_ hHeld ?_
          rotate_left
          · (intro w h; (try dsimp only at h); go_simp; try with_reducible rfl)
          try simp only [Act.put, pB, pC, pD]
          refine tk (v := ?_) 10 rfl (by kernel_rfl) (fun _ _ _ h => h) ?_ hHeld ?_
          rotate_left
          · (intro w h; (try dsimp only at h); go_simp; try with_reducible rfl)
          try simp only [Act.put, pB, pC, pD]
          have z0 := ZB10.out.cell 0
          have z1 := ZB10.out.cell 1
          have z2 := ZB10.out.cell 2
          have f0 := ZB10.out.frozen 0
          have f1 := ZB10.out.frozen 1
          have f2 := ZB10.out.frozen 2
          simp only [qB, qC, qD] at z0 z1 z2
          have hg3 := set3 w10 w9.heap.size (.slice B1 S1.length k1) (.slice B2 S2.length k2) (.slice B3 S3.length k3)
          have HBS := Lib.hid ((HB10.out).grown hg3 (HB10.out).size (fun r e => by injection e with e; subst e; exact HGE.out))
          have ZBS := Lib.hid (((ZB10.out.set_ 0 (.slice B1 S1.length k1)).set_ 1 (.slice B2 S2.length k2)).set_ 2 (.slice B3 S3.length k3))
          have kk := Kept.of_blk [36] ZB10.out hg3 rfl
          have HS1 := Lib.hid (RdP.keep HR1.out kk (by decide))
          have HS2 := Lib.hid (RdP.keep HR2.out kk (by decide))
          have HS3 := Lib.hid (RdP.keep HR3.out kk (by decide))
          clear hg3 kk
          refine wpAnyH_ready (rs := [12]) (by kernel_rfl) (by simp) ?_
          refine AllReadyH.cons rfl (fun K hK => ?_) AllReadyH.nil
          go_simp
          refine hK.out _ _ ?_ (fun hNew => ?_)
          · exact ⟨(HBS.out.cell (p := ⟨cb, 2, none⟩) hcb).trans x2, (HBS.out.cell (p := ⟨cb, 3, none⟩) hcb).trans x3, (HBS.out.cell (p := ⟨sb, 0, none⟩) hsb).trans s0, (HBS.out.cell (p := ⟨sb, 1, none⟩) hsb).trans s1⟩
          clear hK K hHeld
          have hHeld := hNew
          clear hNew
          try simp only [Act.put, pB, pC, pD]
          refine tk (v := ?_) 13 rfl (by kernel_rfl) (fun _ _ _ h => h) ?_ hHeld ?_
          rotate_left
          · (intro w h; (try dsimp only at h); go_simp; try with_reducible rfl)
          try simp only [Act.put, pB, pC, pD]
          refine wpAnyH_done (by kernel_rfl) ?_ _
          clear hHeld
          try simp only [List.getElem_toArray, List.getElem_cons_zero, List.getElem_cons_succ, Act.put, pB, pC, pD]
          refine NoPanic.normal ?_
          go_wp2_with fail
          go_meet
          case rel => exact ⟨_, _, _, _, er, S1, S2, S3, rfl, rfl, ZBS.out, HS1.out, HS2.out, HS3.out, HSP.out, HBS.out, HGE.out⟩
    · go_simp
      have HBA : Hid (Below w3.heap.size w3 (w3.alloc (.cells #[.slice none 0 0, .slice none 0 0, .slice none 0 0] 36)).drew) := Lib.hid (((Below.refl w3.heap.size w3).alloc (Nat.le_refl _) (.cells #[.slice none 0 0, .slice none 0 0, .slice none 0 0] 36)).drew)
      have ZBA : Hid (Blk (w3.alloc (.cells #[.slice none 0 0, .slice none 0 0, .slice none 0 0] 36)).drew w3.heap.size 36 #[.slice none 0 0, .slice none 0 0, .slice none 0 0]) := Lib.hid (Blk.new w3 36 #[.slice none 0 0, .slice none 0 0, .slice none 0 0])
      have HGE := Lib.hid (show w3.heap.size ≤ w3.heap.size from ((Below.refl w3.heap.size w3).drew).size)
      refine hK.out _ _ ?_ (fun hNew => ?_)
      · exact ⟨(HBA.out.cell (p := ⟨cb, 2, none⟩) hcb).trans x2, (HBA.out.cell (p := ⟨cb, 3, none⟩) hcb).trans x3, (HBA.out.cell (p := ⟨sb, 0, none⟩) hsb).trans s0, (HBA.out.cell (p := ⟨sb, 1, none⟩) hsb).trans s1⟩
      clear hK K hHeld
      have hHeld := hNew
      clear hNew
      try simp only [Act.put, pB, pC, pD]
      refine wpAnyH_ready (rs := [5]) (by kernel_rfl) (by simp) ?_
      refine AllReadyH.cons rfl (fun K hK => ?_) AllReadyH.nil
      · go_simp
        refine (place_is ((w3.alloc (.cells #[.slice none 0 0, .slice none 0 0, .slice none 0 0] 36)).drew) wh a hw0 hw1).mono ?_; rintro e w9 ⟨rfl, hb9'⟩; have HB9 := Lib.hid ((HBA.out).trans (hb9'.mono (HBA.out).size)); have ZB9 := Lib.hid (ZBA.out.next hb9' ZBA.out.lt); clear hb9'
        try (go_wp2_with fail)
        refine hK.out _ _ ?_ (fun hNew => ?_)
        · exact ⟨(HB9.out.cell (p := ⟨cb, 2, none⟩) hcb).trans x2, (HB9.out.cell (p := ⟨cb, 3, none⟩) hcb).trans x3, (HB9.out.cell (p := ⟨sb, 0, none⟩) hsb).trans s0, (HB9.out.cell (p := ⟨sb, 1, none⟩) hsb).trans s1⟩
        clear hK K hHeld
        have hHeld := hNew
        clear hNew
        try simp only [Act.put, pB, pC, pD]
        refine wpAnyH_ready (rs := [7]) (by kernel_rfl) (by simp) ?_
        refine AllReadyH.cons rfl (fun K hK => ?_) AllReadyH.nil
        · go_simp
          refine (tof_is (n := spN wh) a i (HX.out.next HB9.out) (HG.out.next HB9.out) hnn HVO.out (by omega) rfl HRD.out H5.out).mono ?_; rintro e w10 ⟨v1, v2, v3, er, S1, S2, S3, rfl, h1, h2, h3, hb10, hsp⟩; obtain ⟨B1, k1, rfl, _⟩ := RdP.form h1; obtain ⟨B2, k2, rfl, _⟩ := RdP.form h2; obtain ⟨B3, k3, rfl, _⟩ := RdP.form h3; have HR1 := Lib.hid h1; have HR2 := Lib.hid h2; have HR3 := Lib.hid h3; have HSP := Lib.hid hsp; have HB10 := Lib.hid ((HB9.out).trans (hb10.mono (HB9.out).size)); have ZB10 := Lib.hid (ZB9.out.next hb10 ZB9.out.lt); clear h1 h2 h3 hb10 hsp
          try (go_wp2_with fail)
          refine hK.out _ _ ?_ (fun hNew => ?_)
          · exact ⟨(HB10.out.cell (p := ⟨cb, 2, none⟩) hcb).trans x2, (HB10.out.cell (p := ⟨cb, 3, none⟩) hcb).trans x3, (HB10.out.cell (p := ⟨sb, 0, none⟩) hsb).trans s0, (HB10.out.cell (p := ⟨sb, 1, none⟩) hsb).trans s1⟩
          clear hK K hHeld
          have hHeld := hNew
          clear hNew
          try simp only [Act.put, pB, pC, pD]
          refine tk (v := ?_) 8 rfl (by kernel_rfl) (fun _ _ _ h => h) ?_ hHeld ?_
          rotate_left
          · (intro w h; (try dsimp only at h); go_simp; try with_reducible rfl)
          try simp only [Act.put, pB, pC, pD]
          refine tk (v := ?_) 9 rfl (by kernel_rfl) (fun _ _ _ h => h) ?_ hHeld ?_
          rotate_left
          · (intro w h; (try dsimp only at h); go_simp; try with_reducible rfl)
          try simp only [Act.put, pB, pC, pD]
          refine tk (v := ?_) 10 rfl (by kernel_rfl) (fun _ _ _ h => h) ?_ hHeld ?_
          rotate_left
          · (intro w h; (try dsimp only at h); go_simp; try with_reducible rfl)
          try simp only [Act.put, pB, pC, pD]
          have z0 := ZB10.out.cell 0
          have z1 := ZB10.out.cell 1
          have z2 := ZB10.out.cell 2
          have f0 := ZB10.out.frozen 0
          have f1 := ZB10.out.frozen 1
          have f2 := ZB10.out.frozen 2
          simp only [qB, qC, qD] at z0 z1 z2
          have hg3 := set3 w10 w3.heap.size (.slice B1 S1.length k1) (.slice B2 S2.length k2) (.slice B3 S3.length k3)
          have HBS := Lib.hid ((HB10.out).grown hg3 (HB10.out).size (fun r e => by injection e with e; subst e; exact HGE.out))
          have ZBS := Lib.hid (((ZB10.out.set_ 0 (.slice B1 S1.length k1)).set_ 1 (.slice B2 S2.length k2)).set_ 2 (.slice B3 S3.length k3))
          have kk := Kept.of_blk [36] ZB10.out hg3 rfl
          have HS1 := Lib.hid (RdP.keep HR1.out kk (by decide))
          have HS2 := Lib.hid (RdP.keep HR2.out kk (by decide))
          have HS3 := Lib.hid (RdP.keep HR3.out kk (by decide))
          clear hg3 kk
          refine wpAnyH_ready (rs := [12]) (by kernel_rfl) (by simp) ?_
          refine AllReadyH.cons rfl (fun K hK => ?_) AllReadyH.nil
          go_simp
          refine hK.out _ _ ?_ (fun hNew => ?_)
          · exact ⟨(HBS.out.cell (p := ⟨cb, 2, none⟩) hcb).trans x2, (HBS.out.cell (p := ⟨cb, 3, none⟩) hcb).trans x3, (HBS.out.cell (p := ⟨sb, 0, none⟩) hsb).trans s0, (HBS.out.cell (p := ⟨sb, 1, none⟩) hsb).trans s1⟩
          clear hK K hHeld
          have hHeld := hNew
          clear hNew
          try simp only [Act.put, pB, pC, pD]
          refine tk (v := ?_) 13 rfl (by kernel_rfl) (fun _ _ _ h => h) ?_ hHeld ?_
          rotate_left
          · (intro w h; (try dsimp only at h); go_simp; try with_reducible rfl)
          try simp only [Act.put, pB, pC, pD]
          refine wpAnyH_done (by kernel_rfl) ?_ _
          clear hHeld
          try simp only [List.getElem_toArray, List.getElem_cons_zero, List.getElem_cons_succ, Act.put, pB, pC, pD]
          refine NoPanic.normal ?_
          go_wp2_with fail
          go_meet
          case rel => exact ⟨_, _, _, _, er, S1, S2, S3, rfl, rfl, ZBS.out, HS1.out, HS2.out, HS3.out, HSP.out, HBS.out, HGE.out⟩
  case rest =>
    obtain ⟨bb, v1, v2, v3, er, S1, S2, S3, rfl, rfl, hz, h1, h2, h3, hsp, hbx, hge⟩ := hcut
    obtain ⟨B1, k1, rfl, _⟩ := RdP.form h1
    obtain ⟨B2, k2, rfl, _⟩ := RdP.form h2
    obtain ⟨B3, k3, rfl, _⟩ := RdP.form h3
    rw [HR.out] at hsp
    have HSP := Lib.hid hsp
    have HER := Lib.hid (show er = re by
      unfold OfSpec at hsp
      split at hsp
      · exact hsp.1
      · rename_i h
        have : re = 0 := Classical.byContradiction fun h2 => h (.inl h2)
        rw [hsp.1, this])
    have ZB := Lib.hid hz
    have HR1 := Lib.hid h1
    have HR2 := Lib.hid h2
    have HR3 := Lib.hid h3
    have HBX := Lib.hid hbx
    have HEQ := Lib.hid HER.out
    rw [HER.out] at HSP ⊢
    clear hz h1 h2 h3 hsp hbx hge HER HEQ
    replace HBW := Lib.hid (HBW.out.trans (HBX.out.mono (by have := HBW.out.size; have := HSB.out; omega)))
    replace HX := Lib.hid (HX.out.next HBX.out)
    replace HG := Lib.hid (HG.out.next HBX.out)
    replace HAC := Lib.hid (RdAc.next HAC.out HBX.out)
    replace ZSW := Lib.hid (ZSW.out.next HBX.out hsb)
    replace ZC := Lib.hid (ZC.out.next HBX.out hcb)
    replace hcb := ZC.out.lt
    replace hsb := ZSW.out.lt
    replace s0 := ZSW.out.cell 0
    replace s1 := ZSW.out.cell 1
    replace x0 := ZC.out.cell 0
    replace x1 := ZC.out.cell 1
    replace x2 := ZC.out.cell 2
    replace x3 := ZC.out.cell 3
    simp only [qB, qC, qD] at s0 s1 x0 x1 x2 x3
    clear HBX HST HUX
    generalize wc = W at *
    go_upto_region 5 with (fail)
    refine wp_region_noPanic ?_
    refine wp_region_held_drew (S := (fun (w' : World) => w'.cell? ⟨cb, 0, none⟩ = some (.pointer pb) ∧ w'.cell? ⟨cb, 1, none⟩ = some (.slice A9 L.length c9) ∧ w'.cell? ⟨cb, 2, none⟩ = some (.pointer (some ⟨gx, 0, none⟩)) ∧ w'.cell? ⟨cb, 3, none⟩ = some (.pointer (some ⟨gg, 0, none⟩)) ∧ w'.cell? ⟨sb, 0, none⟩ = some (.int .u8 wh) ∧ w'.cell? ⟨sb, 1, none⟩ = some (.int .i64 a))) (by kernel_rfl) ?_ (fun hHeld => ?_)
    · exact ⟨x0, x1, x2, x3, s0, s1⟩
    refine tk (v := ?_) 0 rfl (by kernel_rfl) (fun _ _ _ h => h) ?_ hHeld ?_
    rotate_left
    · (intro w h; (try dsimp only at h); go_simp; try with_reducible rfl)
    try simp only [Act.put, pB, pC, pD]
    refine tk (v := ?_) 1 rfl (by kernel_rfl) (fun _ _ _ h => h) ?_ hHeld ?_
    rotate_left
    · (intro w h; (try dsimp only at h); go_simp; try with_reducible rfl)
    try simp only [Act.put, pB, pC, pD]
    refine tk (v := ?_) 3 rfl (by kernel_rfl) (fun _ _ _ h => h) ?_ hHeld ?_
    rotate_left
    · (intro w h; (try dsimp only at h); go_simp; try with_reducible rfl)
    try simp only [Act.put, pB, pC, pD]
    refine wpAnyH_ready (rs := [2]) (by kernel_rfl) (by simp) ?_
    refine AllReadyH.cons rfl (fun K hK => ?_) AllReadyH.nil
    go_simp
    refine (place_is W.drew wh a hw0 hw1).mono ?_; rintro e w11 ⟨rfl, hb9'⟩; have hb9 := (Below.refl W.heap.size W).drew.trans hb9'; have HB9 := Lib.hid hb9; clear hb9'
    try (go_wp2_with fail)
    refine hK.out _ _ ?_ (fun hNew => ?_)
    · exact ⟨(hb9.cell (p := ⟨cb, 0, none⟩) hcb).trans x0, (hb9.cell (p := ⟨cb, 1, none⟩) hcb).trans x1, (hb9.cell (p := ⟨cb, 2, none⟩) hcb).trans x2, (hb9.cell (p := ⟨cb, 3, none⟩) hcb).trans x3, (hb9.cell (p := ⟨sb, 0, none⟩) hsb).trans s0, (hb9.cell (p := ⟨sb, 1, none⟩) hsb).trans s1⟩
    clear hK K hHeld
    have hHeld := hNew
    clear hNew
    try simp only [Act.put, pB, pC, pD]
    refine wpAnyH_ready (rs := [4]) (by kernel_rfl) (by simp) ?_
    refine AllReadyH.cons rfl (fun K hK => ?_) AllReadyH.nil
    go_simp
    refine (worigin_is (n := spN wh) a i (HX.out.next HB9.out) hnn HVO.out).mono ?_; rintro e w12 ⟨rfl, hb10⟩; rw [HR.out]; have HB12 := Lib.hid (HB9.out.trans (hb10.mono HB9.out.size)); clear hb10
    try (go_wp2_with fail)
    refine hK.out _ _ ?_ (fun hNew => ?_)
    · exact ⟨(HB12.out.cell (p := ⟨cb, 0, none⟩) hcb).trans x0, (HB12.out.cell (p := ⟨cb, 1, none⟩) hcb).trans x1, (HB12.out.cell (p := ⟨cb, 2, none⟩) hcb).trans x2, (HB12.out.cell (p := ⟨cb, 3, none⟩) hcb).trans x3, (HB12.out.cell (p := ⟨sb, 0, none⟩) hsb).trans s0, (HB12.out.cell (p := ⟨sb, 1, none⟩) hsb).trans s1⟩
    clear hK K hHeld
    have hHeld := hNew
    clear hNew
    try simp only [Act.put, pB, pC, pD]
    refine tk (v := ?_) 5 rfl (by kernel_rfl) (fun _ _ _ h => h) ?_ hHeld ?_
    rotate_left
    · (intro w h; (try dsimp only at h); go_simp; try with_reducible rfl)
    try simp only [Act.put, pB, pC, pD]
    refine tk (v := ?_) 6 rfl (by kernel_rfl) (fun _ _ _ h => h) ?_ hHeld ?_
    rotate_left
    · (intro w h; (try dsimp only at h); go_simp; try with_reducible rfl)
    try simp only [Act.put, pB, pC, pD]
    refine tk (v := ?_) 7 rfl (by kernel_rfl) (fun _ _ _ h => h) ?_ hHeld ?_
    rotate_left
    · (intro w h; (try dsimp only at h); go_simp; try with_reducible rfl)
    try simp only [Act.put, pB, pC, pD]
    refine tk (v := ?_) 8 rfl (by kernel_rfl) (fun _ _ _ h => h) ?_ hHeld ?_
    rotate_left
    · (intro w h; (try dsimp only at h); go_simp; try with_reducible rfl)
    try simp only [Act.put, pB, pC, pD]
    refine tk (v := ?_) 9 rfl (by kernel_rfl) (fun _ _ _ h => h) ?_ hHeld ?_
    rotate_left
    · (intro w h; (try dsimp only at h); go_simp; try with_reducible rfl)
    try simp only [Act.put, pB, pC, pD]
    refine wpAnyH_done (by kernel_rfl) ?_ _
    clear hHeld
    try simp only [List.getElem_toArray, List.getElem_cons_zero, List.getElem_cons_succ, Act.put, pB, pC, pD]
    refine NoPanic.normal ?_
    clear hb9 HB9
    replace HBW := Lib.hid (HBW.out.trans (HB12.out.mono (by have := HBW.out.size; have := HSB.out; omega)))
    replace HX := Lib.hid (HX.out.next HB12.out)
    replace HG := Lib.hid (HG.out.next HB12.out)
    replace HAC := Lib.hid (RdAc.next HAC.out HB12.out)
    replace ZB := Lib.hid (ZB.out.next HB12.out ZB.out.lt)
    replace HR1 := Lib.hid (RdP.next HR1.out HB12.out)
    replace HR2 := Lib.hid (RdP.next HR2.out HB12.out)
    replace HR3 := Lib.hid (RdP.next HR3.out HB12.out)
    replace ZSW := Lib.hid (ZSW.out.next HB12.out hsb)
    replace ZC := Lib.hid (ZC.out.next HB12.out hcb)
    replace hcb := ZC.out.lt
    replace hsb := ZSW.out.lt
    replace s0 := ZSW.out.cell 0
    replace s1 := ZSW.out.cell 1
    replace x0 := ZC.out.cell 0
    replace x1 := ZC.out.cell 1
    replace x2 := ZC.out.cell 2
    replace x3 := ZC.out.cell 3
    simp only [qB, qC, qD] at s0 s1 x0 x1 x2 x3
    clear HB12
    generalize w12 = W2 at *
    have d0 : (re != re) = false := by simp
    have hal := (Below.refl W2.heap.size W2).alloc (Nat.le_refl _) (.cells #[.slice none 0 0, .slice none 0 0, .slice none 0 0] 36)
    have ZN := Lib.hid (Blk.new W2 36 #[.slice none 0 0, .slice none 0 0, .slice none 0 0])
    have HNB := Lib.hid (show sb ≤ W2.heap.size from Nat.le_of_lt hsb)
    have HBN := Lib.hid (show bb < W2.heap.size from ZB.out.lt)
    have HAL5 := Lib.hid hal
    replace HBW := Lib.hid (HBW.out.trans (HAL5.out.mono (by have := HBW.out.size; have := HSB.out; omega)))
    replace HX := Lib.hid (HX.out.next HAL5.out)
    replace HG := Lib.hid (HG.out.next HAL5.out)
    replace HAC := Lib.hid (RdAc.next HAC.out HAL5.out)
    replace ZB := Lib.hid (ZB.out.next HAL5.out ZB.out.lt)
    replace HR1 := Lib.hid (RdP.next HR1.out HAL5.out)
    replace HR2 := Lib.hid (RdP.next HR2.out HAL5.out)
    replace HR3 := Lib.hid (RdP.next HR3.out HAL5.out)
    replace ZSW := Lib.hid (ZSW.out.next HAL5.out hsb)
    replace ZC := Lib.hid (ZC.out.next HAL5.out hcb)
    replace hcb := ZC.out.lt
    replace hsb := ZSW.out.lt
    replace s0 := ZSW.out.cell 0
    replace s1 := ZSW.out.cell 1
    replace x0 := ZC.out.cell 0
    replace x1 := ZC.out.cell 1
    replace x2 := ZC.out.cell 2
    replace x3 := ZC.out.cell 3
    simp only [qB, qC, qD] at s0 s1 x0 x1 x2 x3
    clear HAL5 hal
    go_upto_region 9 with (fail)
    generalize W2.alloc (.cells #[.slice none 0 0, .slice none 0 0, .slice none 0 0] 36) = W5 at *
    obtain ⟨nb, hnb⟩ : ∃ x, W2.heap.size = x := ⟨_, rfl⟩
    rw [hnb] at ZN HNB HBN ⊢
    clear hnb
    have hne : bb ≠ nb := by have := HBN.out; omega
    have b0 := ZB.out.cell 0
    have b1 := ZB.out.cell 1
    have b2 := ZB.out.cell 2
    have n0 := ZN.out.cell 0
    have n1 := ZN.out.cell 1
    have n2 := ZN.out.cell 2
    simp only [qB, qC, qD] at b0 b1 b2 n0 n1 n2
    clear d0
    by_cases h0 : re = 0
    · subst h0
      by_cases h1 : ro = -1
      · have HNI := Lib.hid (show S1 = [] ∧ S2 = [] ∧ S3 = [] by
          have h := HSP.out
          unfold OfSpec at h
          rw [if_pos (.inr h1)] at h
          exact h.2)
        have d1 : decide ((0 : Int) ≤ ro) = false := decide_eq_false (by omega)
        clear h1
        obtain ⟨e1, e2, e3⟩ := HNI.out
        subst e1 e2 e3
        go_wp2_with fail
        go_at_call 11
        refine (tequal_is HR1.out HR2.out HR3.out RdP.nil RdP.nil RdP.nil (by simp) (by simp) (by simp) (by simp) (by simp) (by simp)).mono ?_
        rintro e w7 ⟨rfl, hb7⟩
        have HB7 := Lib.hid (HBW.out.trans (hb7.mono (by have := HBW.out.size; have := HSB.out; omega)))
        simp only [decide_true, Bool.and_self]
        clear hb7
        go_wp2_with fail
        go_ret
        exact ⟨rfl, by rw [HSB.out]; exact HB7.out⟩
      · have h2 := (HGE0.out rfl).1
        have d1 : decide ((0 : Int) ≤ ro) = true := decide_eq_true (by omega)
        obtain ⟨N, rfl⟩ : ∃ N : Nat, i = N := ⟨i.toNat, by have := HGE0.out rfl; omega⟩
        obtain ⟨on, rfl⟩ : ∃ on : Nat, ro = on := ⟨ro.toNat, by omega⟩
        have HG0 := Lib.hid (HGE0.out rfl)
        have HCL := Lib.hid (show Clo (lnkD L) ((L.take N).map Ac.key) (on : Int) S1 ∧ S2 = srtI (inpK ((L.take N).map Ac.key) S1) ∧ S3 = lsrt (linK ((L.take N).map Ac.key) S1) by
          have h := HSP.out
          unfold OfSpec at h
          rw [if_neg (by simp), Int.toNat_natCast] at h
          exact h.2)
        have HWS := Lib.hid (wslice_is (w := W5) (pb := pb) (vx := .pointer (some ⟨gx, 0, none⟩)) (vg := .pointer (some ⟨gg, 0, none⟩)) on N HAC.out (by have := HG0.out; omega) (by have := HG0.out; omega) (by omega) HRD.out HWR.out H5.out)
        go_wp2_with fail
        go_at_call 19
        refine HWS.out.mono ?_
        rintro e w7 ⟨u1, u2, u3, S, rfl, hclo, q1, q2, q3, hb7⟩
        have hSS := HCL.out.1.uniq hclo
        subst hSS
        obtain ⟨D1, m1, rfl, _⟩ := RdP.form q1
        obtain ⟨D2, m2, rfl, _⟩ := RdP.form q2
        obtain ⟨D3, m3, rfl, _⟩ := RdP.form q3
        have hSl : S1.length ≤ 100 := by
          have := nd_le (N := ((L.take N).map Ac.key).length) (hclo.asc.imp fun h e => by subst e; omega) hclo.rng
          rw [List.length_map, List.length_take] at this
          omega
        have HSE := Lib.hid (show S2 = inpK ((L.take N).map Ac.key) S1 by
          rw [HCL.out.2.1]
          refine srtI_self (inpK_asc ?_ hclo.asc (fun i hi => (hclo.rng i hi).1))
          rw [List.map_take]
          exact HIN.out.sublist (List.take_sublist _ _))
        have HSF := Lib.hid HCL.out.2.2
        obtain ⟨T2, hT2⟩ : ∃ T2, inpK ((L.take N).map Ac.key) S1 = T2 := ⟨_, rfl⟩
        obtain ⟨T3, hT3⟩ : ∃ T3, lsrt (linK ((L.take N).map Ac.key) S1) = T3 := ⟨_, rfl⟩
        have ht2 : T2.length ≤ 100 := by rw [← hT2]; exact Nat.le_trans (inpK_len _ _) hSl
        have ht3 : T3.length ≤ 100 := by rw [← hT3]; exact Nat.le_trans (lsrt_le _) (Nat.le_trans (linK_len _ _) hSl)
        rw [hT2] at HSE q2 ⊢
        rw [hT3] at HSF q3 ⊢
        have hs2 : S2 = T2 := HSE.out
        have hs3 : S3 = T3 := HSF.out
        subst hs2 hs3
        have hz7 := ZN.out.next hb7 ZN.out.lt
        have hg3 := set3 w7 nb (.slice D1 S1.length m1) (.slice D2 S2.length m2) (.slice D3 S3.length m3)
        have kk := Kept.of_blk [36] hz7 hg3 rfl
        have HQ1 := Lib.hid (RdP.keep q1 kk (by decide))
        have HQ2 := Lib.hid (RdP.keep q2 kk (by decide))
        have HQ3 := Lib.hid (RdP.keep q3 kk (by decide))
        replace HR1 := Lib.hid (RdP.keep (RdP.next HR1.out hb7) kk (by decide))
        replace HR2 := Lib.hid (RdP.keep (RdP.next HR2.out hb7) kk (by decide))
        replace HR3 := Lib.hid (RdP.keep (RdP.next HR3.out hb7) kk (by decide))
        have HBZ := Lib.hid ((HBW.out.trans (hb7.mono (by have := HBW.out.size; have := HSB.out; omega))).grown hg3 (by have := HBW.out.size; have := HSB.out; have := hb7.size; omega) (fun r e => by injection e with e; have := HNB.out; omega))
        have zb8 := (ZB.out.next hb7 ZB.out.lt).grown hg3 (fun e => hne (by injection e))
        have z0 := hz7.cell 0
        have z1 := hz7.cell 1
        have z2 := hz7.cell 2
        have f0 := hz7.frozen 0
        have f1 := hz7.frozen 1
        have f2 := hz7.frozen 2
        simp only [qB, qC, qD] at z0 z1 z2
        have hzz := ((hz7.set_ 0 (.slice D1 S1.length m1)).set_ 1 (.slice D2 S2.length m2)).set_ 2 (.slice D3 S3.length m3)
        have HZZ := Lib.hid hzz
        have ZB8 := Lib.hid zb8
        clear b0 b1 b2 n0 n1 n2 x0 x1 x2 x3 hT2 hT3 hclo q1 q2 q3 hb7 hg3 kk hz7 hzz zb8
        go_upto_region 11 with (fail)
        generalize (((w7.setCell ⟨nb, 0, none⟩ (.slice D1 S1.length m1)).setCell ⟨nb, 1, none⟩ (.slice D2 S2.length m2)).setCell ⟨nb, 2, none⟩ (.slice D3 S3.length m3)) = W8 at *
        clear z0 z1 z2 f0 f1 f2
        have b0 := ZB8.out.cell 0
        have b1 := ZB8.out.cell 1
        have b2 := ZB8.out.cell 2
        have n0 := HZZ.out.cell 0
        have n1 := HZZ.out.cell 1
        have n2 := HZZ.out.cell 2
        simp only [pB, pC, pD, qB, qC, qD] at b0 b1 b2 n0 n1 n2
        go_wp2_with fail
        go_at_call 11
        refine (tequal_is HR1.out HR2.out HR3.out HQ1.out HQ2.out HQ3.out (by omega) (by omega) (by omega) (by omega) (by omega) (by omega)).mono ?_
        rintro e w9 ⟨rfl, hb9⟩
        have HB9 := Lib.hid (HBZ.out.trans (hb9.mono (by have := HBZ.out.size; have := HSB.out; omega)))
        simp only [decide_true, Bool.and_self]
        clear hb9
        go_wp2_with fail
        go_ret
        exact ⟨rfl, by rw [HSB.out]; exact HB9.out⟩
    · have HNI := Lib.hid (show S1 = [] ∧ S2 = [] ∧ S3 = [] by
        have h := HSP.out
        unfold OfSpec at h
        rw [if_pos (.inl h0)] at h
        exact h.2)
      have d2 : (re == 0) = false := by rw [beq_eq_false_iff_ne]; exact h0
      clear h0
      obtain ⟨e1, e2, e3⟩ := HNI.out
      subst e1 e2 e3
      go_wp2_with fail
      go_at_call 11
      refine (tequal_is HR1.out HR2.out HR3.out RdP.nil RdP.nil RdP.nil (by simp) (by simp) (by simp) (by simp) (by simp) (by simp)).mono ?_
      rintro e w7 ⟨rfl, hb7⟩
      have HB7 := Lib.hid (HBW.out.trans (hb7.mono (by have := HBW.out.size; have := HSB.out; omega)))
      simp only [decide_true, Bool.and_self]
      clear hb7
      go_wp2_with fail
      go_ret
      exact ⟨rfl, by rw [HSB.out]; exact HB7.out⟩
end Go.Proofs.YtamjllakfgphnaaGreatDoor
namespace Go.Proofs.YtamjllakfgphnaaGreatDoor
open Go.RowKit Go.Deep
set_option linter.unusedSimpArgs false
set_option linter.unusedVariables false
instance : Inhabited A54 := ⟨⟨0, 0, 0, 0, [], false⟩⟩
section
variable {H : Type} {enc : TypeId × Value → H} {P : Program} {w : World} {base : Nat} {spare : Nat → Bool} {held : Bool}
theorem drop_one {α : Type} {cs : List α} {i : Nat} {u : α} (h : cs[i]? = some u) : (cs.drop i).take 1 = [u] := by
  obtain ⟨hi, rfl⟩ := List.getElem?_eq_some_iff.1 h
  rw [List.drop_eq_getElem_cons hi]; rfl
theorem field_get {t : TypeId} {fs : Array Field} {n : Nat} {cs : List Value} {y : DataW H × List MemPlace} (ht : P.underlying t = some (.struct fs)) (h : DataW.trod enc P w base spare held n t cs = some y)
    (i : Nat) (f : Field) (hf : fs[i]? = some f) (h1 : P.cellsOf f.type = 1) (ho : f.offset = i) (u : Value) (hu : cs[i]? = some u) : ∃ m x, DataW.trod enc P w base spare held m f.type [u] = some x := by
  obtain ⟨xs, m, _, _, _, hl, hall⟩ := DataW.trod_struct ht h
  have h2 := hall i f hf
  rw [h1, ho, drop_one hu] at h2
  have hi : i < xs.length := by rw [hl]; exact (Array.getElem?_eq_some_iff.1 hf).1
  rw [List.getElem?_eq_getElem hi] at h2
  exact ⟨m, _, h2⟩
end
theorem list6 {α : Type} {cs : List α} (h : cs.length = 6) : ∃ a b c d e f, cs = [a, b, c, d, e, f] := by
  match cs, h with
  | [a, b, c, d, e, f], _ => exact ⟨a, b, c, d, e, f, rfl⟩
theorem c1_str : Tryz.prog.cellsOf 9 = 1 := by kernel_rfl
theorem c1_bool : Tryz.prog.cellsOf 4 = 1 := by kernel_rfl
theorem c1_u8 : Tryz.prog.cellsOf 5 = 1 := by kernel_rfl
theorem c1_int : Tryz.prog.cellsOf 3 = 1 := by kernel_rfl
theorem c6_act : Tryz.prog.cellsOf 93 = 6 := by kernel_rfl
theorem c2_spot : Tryz.prog.cellsOf 43 = 2 := by kernel_rfl
theorem rowC_unit {α : Type} (f : α → List Value) : ∀ (l : List α) (us : List Unit), us.length = l.length → rowC (fun x _ => f x) l us = l.flatMap f
  | [], [], _ => rfl
  | x :: l, u :: us, h => by
    simp only [rowC, List.flatMap_cons]
    rw [rowC_unit f l us (by simpa using h)]
  | [], _ :: _, h => by simp at h
  | _ :: _, [], h => by simp at h
section
variable {H : Type} {enc : TypeId × Value → H} {w : World} {base : Nat} {spare : Nat → Bool} {held : Bool}
theorem open_str {n : Nat} {u : Value} {x : DataW H × List MemPlace} (h : DataW.trod enc Tryz.prog w base spare held n 9 [u] = some x) : ∃ t : Bs, u = .string (bs t) := by
  obtain ⟨s, h1, _, h2⟩ := DataW.trod_string Tryz.underlying9 h
  injection h1 with h1
  exact ⟨s.data.toList, by rw [bs_of]; exact h1⟩
theorem open_boo {n : Nat} {u : Value} {x : DataW H × List MemPlace} (h : DataW.trod enc Tryz.prog w base spare held n 4 [u] = some x) : ∃ b : Bool, u = .bool b := by
  obtain ⟨b, h1, _⟩ := DataW.trod_bool Tryz.underlying4 h
  injection h1 with h1
  exact ⟨b, h1⟩
theorem open_in {n : Nat} {u : Value} {x : DataW H × List MemPlace} (h : DataW.trod enc Tryz.prog w base spare held n 3 [u] = some x) : ∃ k : Int, u = .int .i64 k := by
  obtain ⟨k, h1, _, h2⟩ := DataW.trod_int Tryz.underlying3 h
  injection h1 with h1
  exact ⟨k, h1⟩
theorem open_u8 {n : Nat} {u : Value} {x : DataW H × List MemPlace} (h : DataW.trod enc Tryz.prog w base spare held n 5 [u] = some x) : ∃ k : Int, u = .int .u8 k ∧ 0 ≤ k ∧ k < 256 := by
  obtain ⟨k, h1, _, h2⟩ := DataW.trod_int Tryz.underlying5 h
  injection h1 with h1
  simp only [Lit.wf, Bool.and_eq_true, decide_eq_true_eq] at h2
  have e1 : IntKind.min .u8 = 0 := by decide
  have e2 : IntKind.max .u8 = 255 := by decide
  rw [e1, e2] at h2
  exact ⟨k, h1, h2.1, by omega⟩
theorem open_A54 {n : Nat} {cs : List Value} {y : DataW H × List MemPlace} (h : DataW.trod enc Tryz.prog w base spare held n 93 cs = some y) (hl : cs.length = 6) : ∃ (t : A54) (u : Unit), cs = a54C t ∧ A54R t := by
  obtain ⟨a, b, c, d, e, f, rfl⟩ := list6 hl
  obtain ⟨_, _, f0⟩ := field_get Tryz.underlying93 h 0 _ rfl c1_u8 rfl a rfl
  obtain ⟨_, _, f1⟩ := field_get Tryz.underlying93 h 1 _ rfl c1_u8 rfl b rfl
  obtain ⟨_, _, f2⟩ := field_get Tryz.underlying93 h 2 _ rfl c1_u8 rfl c rfl
  obtain ⟨_, _, f3⟩ := field_get Tryz.underlying93 h 3 _ rfl c1_u8 rfl d rfl
  obtain ⟨_, _, f4⟩ := field_get Tryz.underlying93 h 4 _ rfl c1_str rfl e rfl
  obtain ⟨_, _, f5⟩ := field_get Tryz.underlying93 h 5 _ rfl c1_bool rfl f rfl
  obtain ⟨k0, rfl, h0, h0'⟩ := open_u8 f0
  obtain ⟨k1, rfl, h1, h1'⟩ := open_u8 f1
  obtain ⟨k2, rfl, h2, h2'⟩ := open_u8 f2
  obtain ⟨k3, rfl, h3, h3'⟩ := open_u8 f3
  obtain ⟨t, rfl⟩ := open_str f4
  obtain ⟨z, rfl⟩ := open_boo f5
  exact ⟨⟨k0, k1, k2, k3, t, z⟩, (), rfl, h0, h1, h2, h3, h0', h1'⟩
theorem open_A54s {n : Nat} {v : Value} {y : DataW H × List MemPlace} (h : DataW.trod enc Tryz.prog w base spare held n 41 [v] = some y) : ∃ l : List A54, A54At w.heap.size w v l := by
  obtain ⟨l, us, h1, h2⟩ : ∃ l : List A54, RowRa (fun t (_ : Unit) => a54C t) (fun _ _ t => A54R t) w.heap.size w v l :=
    open_row (fun t _ => a54C_len t) (by omega) Tryz.underlying41 c6_act (fun n cs y h hl => open_A54 h hl) h
  rw [rowC_unit a54C l us h1.1] at h2
  refine ⟨l, h2, fun t ht => ?_⟩
  obtain ⟨i, hi, rfl⟩ := List.getElem_of_mem ht
  have hiv : i < us.length := by rw [h1.1]; exact hi
  exact h1.2 i _ _ (List.getElem?_eq_getElem hi) (List.getElem?_eq_getElem hiv)
set_option maxRecDepth 100000 in
theorem open_acts {r : Reach} {b0 : Nat} {v : Value} {d : DataW H} {p : List MemPlace} (hv : Value.okWide Tryz.prog w r b0 41 v) (h : DataW.Trod enc Tryz.prog w base spare held 41 v d p) : ∃ l : List A54, A54At w.heap.size w v l := by
  obtain ⟨a, len, cap, rfl⟩ := Go.WideShapes.okWide_slice Tryz.underlying41 hv
  obtain ⟨n, hf⟩ := h
  exact open_A54s (by simpa [Value.cells] using hf)
set_option maxRecDepth 100000 in
theorem open_Spot {r : Reach} {b0 : Nat} {v : Value} {d : DataW H} {p : List MemPlace} (hv : Value.okWide Tryz.prog w r b0 43 v) (h : DataW.Trod enc Tryz.prog w base spare held 43 v d p) : ∃ (wh a : Int), v = .agg #[.int .u8 wh, .int .i64 a] ∧ 0 ≤ wh ∧ wh < 256 := by
  obtain ⟨cs, rfl, hsz⟩ := Go.WideShapes.okWide_struct Tryz.underlying43 hv
  obtain ⟨c0, c1, rfl⟩ := Go.Joins.array2 (hsz.trans c2_spot)
  obtain ⟨n, hf⟩ := h
  have hf' : DataW.trod enc Tryz.prog w base spare held n 43 [c0, c1] = some (d, p) := by simpa [Value.cells] using hf
  obtain ⟨_, _, f0⟩ := field_get Tryz.underlying43 hf' 0 _ rfl c1_u8 rfl c0 rfl
  obtain ⟨_, _, f1⟩ := field_get Tryz.underlying43 hf' 1 _ rfl c1_int rfl c1 rfl
  obtain ⟨k, rfl, h1, h2⟩ := open_u8 f0
  obtain ⟨a, rfl⟩ := open_in f1
  exact ⟨k, a, rfl, h1, h2⟩
end
end Go.Proofs.YtamjllakfgphnaaGreatDoor
