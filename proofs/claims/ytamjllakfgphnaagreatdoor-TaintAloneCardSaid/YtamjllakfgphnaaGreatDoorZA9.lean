/- Walks and plain facts, packed: W114, LA. -/
import Derived.Test.YtamjllakfgphnaaGreatDoorZA8
namespace Go.Proofs.YtamjllakfgphnaaGreatDoor
open Go.RowKit
set_option linter.unusedSimpArgs false
set_option linter.unusedVariables false
attribute [local go_sem ↓] Go.wp_at_zero Go.wp_at_succ
open Go.MapKept Go.ChangeMaps
def taRel (L : List Ac) (r : Int × Int) (i : Int) (w3 : World) (v9 v10 : Value) (wx : World) : Prop := ∃ (bb : Nat) (v1 v2 v3 : Value) (er : Int) (S1 S2 : List Int) (S3 : List Bs), v9 = .pointer (some ⟨bb, 0, none⟩) ∧ v10 = .int .i64 er ∧ Blk wx bb 36 #[v1, v2, v3] ∧ RdIn wx v1 S1 ∧ RdIn wx v2 S2 ∧ RdSt wx v3 S3 ∧ OfSpec L L r i er S1 S2 S3 ∧ Below w3.heap.size w3 wx ∧ w3.heap.size ≤ bb
def tbRel (vb : Ver) (W : World) (v12 v13 : Value) (wx : World) : Prop := ∃ b2 : Nat, v12 = .pointer (some ⟨b2, 0, none⟩) ∧ v13 = .int .i64 0 ∧ Blk wx b2 68 #[.int .i64 vb.idx, .string (bs vb.value), .bool vb.absent] ∧ Below W.heap.size W wx ∧ W.heap.size ≤ b2
def tcLoop (L : List Ac) (S1 : List Int) (W : World) (v13 v14 v15 : Value) (wr : World) : Prop := ∃ (kk : Nat) (q : Option Addr), kk ≤ S1.length ∧ v13 = .int .i64 0 ∧ v14 = .pointer q ∧ v15 = .int .i64 kk ∧ StAt wr q (appL L base54 (S1.take kk)) ∧ Below W.heap.size W wr
theorem spN_ob (wh : Int) : IsOb (spN wh) := by
  have h : ∀ n ∈ ob54, IsOb n := by unfold IsOb; decide +kernel
  unfold spN
  by_cases hl : (wh % 4).toNat < ob54.length
  · rw [List.getD_eq_getElem?_getD, List.getElem?_eq_getElem hl]
    exact h _ (List.getElem_mem hl)
  · rw [List.getD_eq_getElem?_getD, List.getElem?_eq_none (by omega)]
    show IsOb obT
    unfold IsOb; decide +kernel
theorem orgR_err (N : Nat) (vs : List Ver) (a i : Int) : (orgR N vs a i).2 = 0 ∨ (orgR N vs a i).2 = 2 ∨ (orgR N vs a i).2 = 8 := by
  unfold orgR
  split
  · exact .inr (.inl rfl)
  · split
    · exact .inr (.inr rfl)
    · exact .inl rfl
theorem at_byte {xv : Bs} {A : Nat} {b : UInt8} (h1 : A < xv.length) (h2 : xv.getD A 0 = b) (e3 : A < (bs xv).size) : (bs xv)[A]'e3 = b := by
  rw [← h2, List.getD_eq_getElem?_getD, List.getElem?_eq_getElem h1]
  rfl
theorem A54At.up {B B' : Nat} {w : World} {v : Value} {l : List A54} (h : A54At B w v l) (hb : B ≤ B') : A54At B' w v l := by
  obtain ⟨⟨A, c, e, h1, h2, h3⟩, h4⟩ := h
  refine ⟨⟨A, c, e, h1, h2, ?_⟩, h4⟩
  rcases h3 with h3 | ⟨b, o, e2, h5, h6⟩
  · exact .inl h3
  · exact .inr ⟨b, o, e2, Nat.lt_of_lt_of_le h5 hb, h6⟩
set_option maxRecDepth 100000 in
set_option maxHeartbeats 4000000 in
theorem law_talone {w : World} {v : Value} {l : List A54} (wh a : Int) (ix : Int) (h : A54At w.heap.size w v l) (hw0 : 0 ≤ wh) (hw1 : wh < 256) (hix : (Lit.int .u8 ix).wf = true) (hu : UseAt w) : Calls Tryz.prog 6 #[v, .agg #[.int .u8 wh, .int .i64 a], .int .u8 ix] w fun e w' => e = .returned (.bool true) ∧ Below w.heap.size w w' := by
  have ha := (Below.refl w.heap.size w).alloc (Nat.le_refl _) (.cells #[.int .u8 wh, .int .i64 a] 43)
  have hz : w.heap.size < (w.alloc (.cells #[.int .u8 wh, .int .i64 a] 43)).heap.size := by simp
  have zs := Blk.new w 43 #[.int .u8 wh, .int .i64 a]
  obtain ⟨A0, c0, rfl, hc0, hcm0⟩ := h.form
  have HA := Lib.hid ha
  have HAT := Lib.hid ((h.below ha).up (Nat.le_of_lt hz))
  have HU := Lib.hid (hu.below ha)
  have HVO := Lib.hid (W54_vok l)
  have ZS := Lib.hid zs
  clear ha hu h zs
  go_enter Tryz.func6, Tryz.ntmps6
  go_wp2_with fail
  go_at_call 13
  refine (build54_is HAT.out HU.out).mono ?_
  rintro e w2 ⟨pb, lv, gx, gg, F, B', rfl, hst, hac, hvx, hgx, hF, hb2⟩
  obtain ⟨A9, c9, rfl, hc9⟩ := RowRd.form hac
  have HW54 := Lib.hid (good_W l)
  have HLE := Lib.hid (show W54 l = (fold54 (l.take 20)).l from rfl)
  generalize W54 l = L at *
  have hal := (Below.refl w2.heap.size w2).alloc (Nat.le_refl _) (.cells #[.pointer pb, .slice A9 L.length c9, .pointer (some ⟨gx, 0, none⟩), .pointer (some ⟨gg, 0, none⟩)] 49)
  have zc := Blk.new w2 49 #[.pointer pb, .slice A9 L.length c9, .pointer (some ⟨gx, 0, none⟩), .pointer (some ⟨gg, 0, none⟩)]
  have hcb : w2.heap.size < (w2.alloc (.cells #[.pointer pb, .slice A9 L.length c9, .pointer (some ⟨gx, 0, none⟩), .pointer (some ⟨gg, 0, none⟩)] 49)).heap.size := by simp
  have HX := Lib.hid (hvx.next hal)
  have HG := Lib.hid (hgx.next hal)
  have HST := Lib.hid (hst.next hal)
  have HAC := Lib.hid (RdAc.next hac hal)
  have HB2 := Lib.hid (hb2.trans (hal.mono hb2.size))
  have HUX := Lib.hid ((HU.out.below hb2).below hal)
  have ZC := Lib.hid zc
  clear hal hb2 hst hac hvx hgx zc HAT HU
  go_wp2_with fail
  generalize w2.alloc (.cells #[.pointer pb, .slice A9 L.length c9, .pointer (some ⟨gx, 0, none⟩), .pointer (some ⟨gg, 0, none⟩)] 49) = W at *
  generalize w2.heap.size = cb at *
  have ZSW := Lib.hid (ZS.out.next HB2.out hz)
  generalize hsb : w.heap.size = sb at *
  have HSB := Lib.hid hsb
  clear hsb ZS
  go_at_call 10
  refine (known54_is HUX.out).mono ?_
  rintro e w3 ⟨rfl, hb3⟩
  have HB3 := Lib.hid (HB2.out.trans (hb3.mono HB2.out.size))
  replace HX := Lib.hid (HX.out.next hb3)
  replace HG := Lib.hid (HG.out.next hb3)
  replace HST := Lib.hid (HST.out.next hb3)
  replace HAC := Lib.hid (RdAc.next HAC.out hb3)
  replace HUX := Lib.hid (HUX.out.below hb3)
  replace ZSW := Lib.hid (ZSW.out.next hb3 ZSW.out.lt)
  replace ZC := Lib.hid (ZC.out.next hb3 hcb)
  replace hcb := ZC.out.lt
  have hsb := ZSW.out.lt
  have s0 := ZSW.out.cell 0
  have s1 := ZSW.out.cell 1
  have x0 := ZC.out.cell 0
  have x1 := ZC.out.cell 1
  have x2 := ZC.out.cell 2
  have x3 := ZC.out.cell 3
  simp only [qB, qC, qD] at s0 s1 x0 x1 x2 x3
  have HBW := Lib.hid (HA.out.trans (HB3.out.mono (Nat.le_of_lt hz)))
  have hnn := spN_own wh
  clear hb3 HB2 HB3 HA hz
  go_upto_region 4 with (fail)
  have hix2 : 0 ≤ ix ∧ ix < 256 := by
    simp only [Lit.wf, Bool.and_eq_true, decide_eq_true_eq] at hix
    have e1 : IntKind.min .u8 = 0 := by decide
    have e2 : IntKind.max .u8 = 255 := by decide
    rw [e1, e2] at hix
    exact ⟨hix.1, by omega⟩
  have hLL : L.length ≤ 20 := by
    have := HW54.out.len
    rw [← HLE.out] at this
    omega
  obtain ⟨k, hk⟩ : ∃ k : Nat, ix % ((L.length : Int) + 1) = (k : Int) := ⟨(ix % ((L.length : Int) + 1)).toNat, by have := Int.emod_nonneg ix (show (L.length : Int) + 1 ≠ 0 by omega); omega⟩
  have hkL : k ≤ L.length := by have := Int.emod_lt_of_pos ix (show (0 : Int) < (L.length : Int) + 1 by omega); omega
  have em : Int.tmod ix ((L.length : Int) + 1) = (k : Int) := by rw [Int.tmod_eq_emod_of_nonneg hix2.1]; exact hk
  have k1 : (0 : Int) ≤ (k : Int) := by omega
  have k2 : (k : Int) ≤ (L.length : Int) := by omega
  have ew : IntKind.i64.wrap (k : Int) = (k : Int) := IntWalk.i64_in _ (by omega)
  have ex0 := hix2.1
  have ex1 := hix2.2
  have HKK := Lib.hid (show 0 ≤ (k : Int) ∧ (k : Int) ≤ L.length from ⟨k1, k2⟩)
  have HALL := Lib.hid (show ∀ x ∈ L, AcR x from fun x hx => (HW54.out.all x (by rw [← HLE.out]; exact hx)).1)
  have HRD := Lib.hid (show ∀ x ∈ L, x.reads.length ≤ 10 from fun x hx => (HALL.out x hx).2.2.2.1)
  have HWR := Lib.hid (show ∀ x ∈ L, x.writes.length ≤ 10 from fun x hx => (HALL.out x hx).2.2.2.2)
  have H5 := Lib.hid (show ∀ x ∈ L, x.key.lin ∈ lin5 from fun x hx => (HALL.out x hx).1.2.1)
  have HOR := Lib.hid (show ∀ x ∈ L, ordCh x.writes = true from fun x hx => (ok_ch (HVO.out.ok x hx)).2)
  obtain ⟨ro, re, hr⟩ : ∃ o e, orgR L.length (verL base54 L (spN wh)) a k = (o, e) := ⟨_, _, rfl⟩
  have HR := Lib.hid hr
  have HGE0 := Lib.hid (show re = 0 → -1 ≤ ro ∧ ro < (k : Int) ∧ 0 ≤ (k : Int) ∧ (k : Int) ≤ (L.length : Int) by
    intro h
    have := orgR_ge (N := L.length) (s0 := base54) (l := L) (n := spN wh) (a := a) (i := (k : Int)) (by rw [hr]; exact h)
    rw [hr] at this
    exact this)
  have HERR := Lib.hid (show re = 0 ∨ re = 2 ∨ re = 8 by have := orgR_err L.length (verL base54 L (spN wh)) a k; rw [hr] at this; exact this)
  clear hr hk hix hix2
  go_upto_region 5 with (fail)
  clear em ew ex0 ex1 k1 k2
  go_cut [10, 11] (fun v9 v10 wx => taRel L (orgR L.length (verL base54 L (spN wh)) a k) k w3 v9 v10 wx)
  case first =>
    refine wp_region_noPanic ?_
    refine wp_region_held_drew (S := (fun (w' : World) => w'.cell? ⟨cb, 2, none⟩ = some (.pointer (some ⟨gx, 0, none⟩)) ∧ w'.cell? ⟨cb, 3, none⟩ = some (.pointer (some ⟨gg, 0, none⟩)) ∧ w'.cell? ⟨sb, 0, none⟩ = some (.int .u8 wh) ∧ w'.cell? ⟨sb, 1, none⟩ = some (.int .i64 a))) (by kernel_rfl) ?_ (fun hHeld => ?_)
    · exact ⟨x2, x3, s0, s1⟩
    refine tk (v := ?_) 0 rfl (by kernel_rfl) (fun _ _ _ h => h) ?_ hHeld ?_
    rotate_left
    · (intro w h; (try dsimp only at h); go_simp; try with_reducible rfl)
    try simp only [Act.put, pB, pC, pD]
    refine tk (v := ?_) 1 rfl (by kernel_rfl) (fun _ _ _ h => h) ?_ hHeld ?_
    rotate_left
    · (intro w h; (try dsimp only at h); go_simp; try with_reducible rfl)
    try simp only [Act.put, pB, pC, pD]
    refine tk (v := ?_) 2 rfl (by kernel_rfl) (fun _ _ _ h => h) ?_ hHeld ?_
    rotate_left
    · (intro w h; (try dsimp only at h); go_simp; try with_reducible rfl)
    try simp only [Act.put, pB, pC, pD]
    refine tk (v := ?_) 3 rfl (by kernel_rfl) (fun _ _ _ h => h) ?_ hHeld ?_
    rotate_left
    · (intro w h; (try dsimp only at h); go_simp; try with_reducible rfl)
    try simp only [Act.put, pB, pC, pD]
    refine tk (v := ?_) 4 rfl (by kernel_rfl) (fun _ _ _ h => h) ?_ hHeld ?_
    rotate_left
    · (intro w h; (try dsimp only at h); go_simp; try with_reducible rfl)
    try simp only [Act.put, pB, pC, pD]
    refine tk (v := ?_) 6 rfl (by kernel_rfl) (fun _ _ _ h => h) ?_ hHeld ?_
    rotate_left
    · (intro w h; (try dsimp only at h); go_simp; try with_reducible rfl)
    try simp only [Act.put, pB, pC, pD]
    refine wpAnyH_ready (rs := [5, 11]) (by kernel_rfl) (by simp) ?_
    refine AllReadyH.cons rfl (fun K hK => ?_) (AllReadyH.cons rfl (fun K hK => ?_) AllReadyH.nil)
    · go_simp
      refine (place_is (w3.drew) wh a hw0 hw1).mono ?_; rintro e w9 ⟨rfl, hb9'⟩; have HB9 := Lib.hid (((Below.refl w3.heap.size w3).drew).trans (hb9'.mono ((Below.refl w3.heap.size w3).drew).size)); clear hb9'
      try (go_wp2_with fail)
      refine hK.out _ _ ?_ (fun hNew => ?_)
      · exact ⟨(HB9.out.cell (p := ⟨cb, 2, none⟩) hcb).trans x2, (HB9.out.cell (p := ⟨cb, 3, none⟩) hcb).trans x3, (HB9.out.cell (p := ⟨sb, 0, none⟩) hsb).trans s0, (HB9.out.cell (p := ⟨sb, 1, none⟩) hsb).trans s1⟩
      clear hK K hHeld
      have hHeld := hNew
      clear hNew
      try simp only [Act.put, pB, pC, pD]
      refine wpAnyH_ready (rs := [7, 11]) (by kernel_rfl) (by simp) ?_
      refine AllReadyH.cons rfl (fun K hK => ?_) (AllReadyH.cons rfl (fun K hK => ?_) AllReadyH.nil)
      · go_simp
        refine (tof_is (n := spN wh) a (k : Int) (HX.out.next HB9.out) (HG.out.next HB9.out) hnn HVO.out (by omega) rfl HRD.out H5.out).mono ?_; rintro e w10 ⟨v1, v2, v3, er, S1, S2, S3, rfl, h1, h2, h3, hb10, hsp⟩; obtain ⟨B1, k1, rfl, _⟩ := RdP.form h1; obtain ⟨B2, k2, rfl, _⟩ := RdP.form h2; obtain ⟨B3, k3, rfl, _⟩ := RdP.form h3; have HR1 := Lib.hid h1; have HR2 := Lib.hid h2; have HR3 := Lib.hid h3; have HSP := Lib.hid hsp; have HB10 := Lib.hid ((HB9.out).trans (hb10.mono (HB9.out).size)); clear h1 h2 h3 hb10 hsp
        try (go_wp2_with fail)
        refine hK.out _ _ ?_ (fun hNew => ?_)
        · exact ⟨(HB10.out.cell (p := ⟨cb, 2, none⟩) hcb).trans x2, (HB10.out.cell (p := ⟨cb, 3, none⟩) hcb).trans x3, (HB10.out.cell (p := ⟨sb, 0, none⟩) hsb).trans s0, (HB10.out.cell (p := ⟨sb, 1, none⟩) hsb).trans s1⟩
        clear hK K hHeld
        have hHeld := hNew
        clear hNew
        try simp only [Act.put, pB, pC, pD]
        refine tk (v := ?_) 8 rfl (by kernel_rfl) (fun _ _ _ h => h) ?_ hHeld ?_
        rotate_left
        · (intro w h; (try dsimp only at h); go_simp; try with_reducible rfl)
        try simp only [Act.put, pB, pC, pD]
        refine tk (v := ?_) 9 rfl (by kernel_rfl) (fun _ _ _ h => h) ?_ hHeld ?_
        rotate_left
        · (intro w h; (try dsimp only at h); go_simp; try with_reducible rfl)
        try simp only [Act.put, pB, pC, pD]
        refine tk (v := ?_) 10 rfl (by kernel_rfl) (fun _ _ _ h => h) ?_ hHeld ?_
        rotate_left
        · (intro w h; (try dsimp only at h); go_simp; try with_reducible rfl)
        try simp only [Act.put, pB, pC, pD]
        refine wpAnyH_ready (rs := [11]) (by kernel_rfl) (by simp) ?_
        refine AllReadyH.cons rfl (fun K hK => ?_) AllReadyH.nil
        · go_simp
          have HBA : Hid (Below w3.heap.size w3 (w10.alloc (.cells #[.slice none 0 0, .slice none 0 0, .slice none 0 0] 36))) := Lib.hid ((HB10.out).alloc (HB10.out).size (.cells #[.slice none 0 0, .slice none 0 0, .slice none 0 0] 36))
          have ZBA : Hid (Blk (w10.alloc (.cells #[.slice none 0 0, .slice none 0 0, .slice none 0 0] 36)) w10.heap.size 36 #[.slice none 0 0, .slice none 0 0, .slice none 0 0]) := Lib.hid (Blk.new w10 36 #[.slice none 0 0, .slice none 0 0, .slice none 0 0])
          have HGE := Lib.hid (show w3.heap.size ≤ w10.heap.size from (HB10.out).size)
          refine hK.out _ _ ?_ (fun hNew => ?_)
          · exact ⟨(HBA.out.cell (p := ⟨cb, 2, none⟩) hcb).trans x2, (HBA.out.cell (p := ⟨cb, 3, none⟩) hcb).trans x3, (HBA.out.cell (p := ⟨sb, 0, none⟩) hsb).trans s0, (HBA.out.cell (p := ⟨sb, 1, none⟩) hsb).trans s1⟩
          clear hK K hHeld
          have hHeld := hNew
          clear hNew
          try simp only [Act.put, pB, pC, pD]
          have hal := (Below.refl w10.heap.size w10).alloc (Nat.le_refl _) (.cells #[.slice B1 S1.length k1, .slice B2 S2.length k2, .slice B3 S3.length k3] 36)
          have HBS := Lib.hid ((HB10.out).trans (hal.mono (HB10.out).size))
          have ZBS := Lib.hid (Blk.new w10 36 #[.slice B1 S1.length k1, .slice B2 S2.length k2, .slice B3 S3.length k3])
          have HS1 := Lib.hid (RdP.next HR1.out hal)
          have HS2 := Lib.hid (RdP.next HR2.out hal)
          have HS3 := Lib.hid (RdP.next HR3.out hal)
          clear hal
          refine wpAnyH_ready (rs := [12]) (by kernel_rfl) (by simp) ?_
          refine AllReadyH.cons rfl (fun K hK => ?_) AllReadyH.nil
          go_simp
          refine hK.out _ _ ?_ (fun hNew => ?_)
          · exact ⟨(HBS.out.cell (p := ⟨cb, 2, none⟩) hcb).trans x2, (HBS.out.cell (p := ⟨cb, 3, none⟩) hcb).trans x3, (HBS.out.cell (p := ⟨sb, 0, none⟩) hsb).trans s0, (HBS.out.cell (p := ⟨sb, 1, none⟩) hsb).trans s1⟩
          clear hK K hHeld
          have hHeld := hNew
          clear hNew
          try simp only [Act.put, pB, pC, pD]
          refine tk (v := ?_) 13 rfl (by kernel_rfl) (fun _ _ _ h => h) ?_ hHeld ?_
          rotate_left
          · (intro w h; (try dsimp only at h); go_simp; try with_reducible rfl)
          try simp only [Act.put, pB, pC, pD]
          refine wpAnyH_done (by kernel_rfl) ?_ _
          clear hHeld
          try simp only [List.getElem_toArray, List.getElem_cons_zero, List.getElem_cons_succ, Act.put, pB, pC, pD]
          refine NoPanic.normal ?_
          go_wp2_with fail
          go_meet
          case rel => exact ⟨_, _, _, _, er, S1, S2, S3, rfl, rfl, ZBS.out, HS1.out, HS2.out, HS3.out, HSP.out, HBS.out, HGE.out⟩
      · go_simp
        have HBA : Hid (Below w3.heap.size w3 (w9.alloc (.cells #[.slice none 0 0, .slice none 0 0, .slice none 0 0] 36))) := Lib.hid ((HB9.out).alloc (HB9.out).size (.cells #[.slice none 0 0, .slice none 0 0, .slice none 0 0] 36))
        have ZBA : Hid (Blk (w9.alloc (.cells #[.slice none 0 0, .slice none 0 0, .slice none 0 0] 36)) w9.heap.size 36 #[.slice none 0 0, .slice none 0 0, .slice none 0 0]) := Lib.hid (Blk.new w9 36 #[.slice none 0 0, .slice none 0 0, .slice none 0 0])
        have HGE := Lib.hid (show w3.heap.size ≤ w9.heap.size from (HB9.out).size)
        refine hK.out _ _ ?_ (fun hNew => ?_)
        · exact ⟨(HBA.out.cell (p := ⟨cb, 2, none⟩) hcb).trans x2, (HBA.out.cell (p := ⟨cb, 3, none⟩) hcb).trans x3, (HBA.out.cell (p := ⟨sb, 0, none⟩) hsb).trans s0, (HBA.out.cell (p := ⟨sb, 1, none⟩) hsb).trans s1⟩
        clear hK K hHeld
        have hHeld := hNew
        clear hNew
        try simp only [Act.put, pB, pC, pD]
        refine wpAnyH_ready (rs := [7]) (by kernel_rfl) (by simp) ?_
        refine AllReadyH.cons rfl (fun K hK => ?_) AllReadyH.nil
        · go_simp
          refine (tof_is (n := spN wh) a (k : Int) (HX.out.next HBA.out) (HG.out.next HBA.out) hnn HVO.out (by omega) rfl HRD.out H5.out).mono ?_; rintro e w10 ⟨v1, v2, v3, er, S1, S2, S3, rfl, h1, h2, h3, hb10, hsp⟩; obtain ⟨B1, k1, rfl, _⟩ := RdP.form h1; obtain ⟨B2, k2, rfl, _⟩ := RdP.form h2; obtain ⟨B3, k3, rfl, _⟩ := RdP.form h3; have HR1 := Lib.hid h1; have HR2 := Lib.hid h2; have HR3 := Lib.hid h3; have HSP := Lib.hid hsp; have HB10 := Lib.hid ((HBA.out).trans (hb10.mono (HBA.out).size)); have ZB10 := Lib.hid (ZBA.out.next hb10 ZBA.out.lt); clear h1 h2 h3 hb10 hsp
          try (go_wp2_with fail)
          refine hK.out _ _ ?_ (fun hNew => ?_)
          · exact ⟨(HB10.out.cell (p := ⟨cb, 2, none⟩) hcb).trans x2, (HB10.out.cell (p := ⟨cb, 3, none⟩) hcb).trans x3, (HB10.out.cell (p := ⟨sb, 0, none⟩) hsb).trans s0, (HB10.out.cell (p := ⟨sb, 1, none⟩) hsb).trans s1⟩
          clear hK K hHeld
          have hHeld := hNew
          clear hNew
          try simp only [Act.put, pB, pC, pD]
          refine tk (v := ?_) 8 rfl (by kernel_rfl) (fun _ _ _ h => h) ?_ hHeld ?_
          rotate_left
          · (intro w h; (try dsimp only at h); go_simp; try with_reducible rfl)
          try simp only [Act.put, pB, pC, pD]
          refine tk (v := ?_) 9 rfl (by kernel_rfl) (fun _ _ _ h => h) ?_ hHeld ?_
          rotate_left
          · (intro w h; (try dsimp only at h); go_simp; try with_reducible rfl)
          try simp only [Act.put, pB, pC, pD]
          refine tk (v := ?_) 10 rfl (by kernel_rfl) (fun _ _ _ h => h) ?_ hHeld ?_
          rotate_left
          · (intro w h; (try dsimp only at h); go_simp; try with_reducible rfl)
          try simp only [Act.put, pB, pC, pD]
          have z0 := ZB10.out.cell 0
          have z1 := ZB10.out.cell 1
          have z2 := ZB10.out.cell 2
          have f0 := ZB10.out.frozen 0
          have f1 := ZB10.out.frozen 1
          have f2 := ZB10.out.frozen 2
          simp only [qB, qC, qD] at z0 z1 z2
          have hg3 := set3 w10 w9.heap.size (.slice B1 S1.length k1) (.slice B2 S2.length k2) (.slice B3 S3.length k3)
          have HBS := Lib.hid ((HB10.out).grown hg3 (HB10.out).size (fun r e => by injection e with e; subst e; exact HGE.out))
          have ZBS := Lib.hid (((ZB10.out.set_ 0 (.slice B1 S1.length k1)).set_ 1 (.slice B2 S2.length k2)).set_ 2 (.slice B3 S3.length k3))
          have kk := Kept.of_blk [36] ZB10.out hg3 rfl
          have HS1 := Lib.hid (RdP.keep HR1.out kk (by decide))
          have HS2 := Lib.hid (RdP.keep HR2.out kk (by decide))
          have HS3 := Lib.hid (RdP.keep HR3.out kk (by decide))
          clear hg3 kk
          refine wpAnyH_ready (rs := [12]) (by kernel_rfl) (by simp) ?_
          refine AllReadyH.cons rfl (fun K hK => ?_) AllReadyH.nil
          go_simp
          refine hK.out _ _ ?_ (fun hNew => ?_)
          · exact ⟨(HBS.out.cell (p := ⟨cb, 2, none⟩) hcb).trans x2, (HBS.out.cell (p := ⟨cb, 3, none⟩) hcb).trans x3, (HBS.out.cell (p := ⟨sb, 0, none⟩) hsb).trans s0, (HBS.out.cell (p := ⟨sb, 1, none⟩) hsb).trans s1⟩
          clear hK K hHeld
          have hHeld := hNew
          clear hNew
          try simp only [Act.put, pB, pC, pD]
          refine tk (v := ?_) 13 rfl (by kernel_rfl) (fun _ _ _ h => h) ?_ hHeld ?_
          rotate_left
          · (intro w h; (try dsimp only at h); go_simp; try with_reducible rfl)
          try simp only [Act.put, pB, pC, pD]
          refine wpAnyH_done (by kernel_rfl) ?_ _
          clear hHeld
          try simp only [List.getElem_toArray, List.getElem_cons_zero, List.getElem_cons_succ, Act.put, pB, pC, pD]
          refine NoPanic.normal ?_
          go_wp2_with fail
          go_meet
          case rel => exact ⟨_, _, _, _, er, S1, S2, S3, rfl, rfl, ZBS.out, HS1.out, HS2.out, HS3.out, HSP.out, HBS.out, HGE.out⟩
    · go_simp
      have HBA : Hid (Below w3.heap.size w3 (w3.alloc (.cells #[.slice none 0 0, .slice none 0 0, .slice none 0 0] 36)).drew) := Lib.hid (((Below.refl w3.heap.size w3).alloc (Nat.le_refl _) (.cells #[.slice none 0 0, .slice none 0 0, .slice none 0 0] 36)).drew)
      have ZBA : Hid (Blk (w3.alloc (.cells #[.slice none 0 0, .slice none 0 0, .slice none 0 0] 36)).drew w3.heap.size 36 #[.slice none 0 0, .slice none 0 0, .slice none 0 0]) := Lib.hid (Blk.new w3 36 #[.slice none 0 0, .slice none 0 0, .slice none 0 0])
      have HGE := Lib.hid (show w3.heap.size ≤ w3.heap.size from ((Below.refl w3.heap.size w3).drew).size)
      refine hK.out _ _ ?_ (fun hNew => ?_)
      · exact ⟨(HBA.out.cell (p := ⟨cb, 2, none⟩) hcb).trans x2, (HBA.out.cell (p := ⟨cb, 3, none⟩) hcb).trans x3, (HBA.out.cell (p := ⟨sb, 0, none⟩) hsb).trans s0, (HBA.out.cell (p := ⟨sb, 1, none⟩) hsb).trans s1⟩
      clear hK K hHeld
      have hHeld := hNew
      clear hNew
      try simp only [Act.put, pB, pC, pD]
      refine wpAnyH_ready (rs := [5]) (by kernel_rfl) (by simp) ?_
      refine AllReadyH.cons rfl (fun K hK => ?_) AllReadyH.nil
      · go_simp
        refine (place_is ((w3.alloc (.cells #[.slice none 0 0, .slice none 0 0, .slice none 0 0] 36)).drew) wh a hw0 hw1).mono ?_; rintro e w9 ⟨rfl, hb9'⟩; have HB9 := Lib.hid ((HBA.out).trans (hb9'.mono (HBA.out).size)); have ZB9 := Lib.hid (ZBA.out.next hb9' ZBA.out.lt); clear hb9'
        try (go_wp2_with fail)
        refine hK.out _ _ ?_ (fun hNew => ?_)
        · exact ⟨(HB9.out.cell (p := ⟨cb, 2, none⟩) hcb).trans x2, (HB9.out.cell (p := ⟨cb, 3, none⟩) hcb).trans x3, (HB9.out.cell (p := ⟨sb, 0, none⟩) hsb).trans s0, (HB9.out.cell (p := ⟨sb, 1, none⟩) hsb).trans s1⟩
        clear hK K hHeld
        have hHeld := hNew
        clear hNew
        try simp only [Act.put, pB, pC, pD]
        refine wpAnyH_ready (rs := [7]) (by kernel_rfl) (by simp) ?_
        refine AllReadyH.cons rfl (fun K hK => ?_) AllReadyH.nil
        · go_simp
          refine (tof_is (n := spN wh) a (k : Int) (HX.out.next HB9.out) (HG.out.next HB9.out) hnn HVO.out (by omega) rfl HRD.out H5.out).mono ?_; rintro e w10 ⟨v1, v2, v3, er, S1, S2, S3, rfl, h1, h2, h3, hb10, hsp⟩; obtain ⟨B1, k1, rfl, _⟩ := RdP.form h1; obtain ⟨B2, k2, rfl, _⟩ := RdP.form h2; obtain ⟨B3, k3, rfl, _⟩ := RdP.form h3; have HR1 := Lib.hid h1; have HR2 := Lib.hid h2; have HR3 := Lib.hid h3; have HSP := Lib.hid hsp; have HB10 := Lib.hid ((HB9.out).trans (hb10.mono (HB9.out).size)); have ZB10 := Lib.hid (ZB9.out.next hb10 ZB9.out.lt); clear h1 h2 h3 hb10 hsp
          try (go_wp2_with fail)
          refine hK.out _ _ ?_ (fun hNew => ?_)
          · exact ⟨(HB10.out.cell (p := ⟨cb, 2, none⟩) hcb).trans x2, (HB10.out.cell (p := ⟨cb, 3, none⟩) hcb).trans x3, (HB10.out.cell (p := ⟨sb, 0, none⟩) hsb).trans s0, (HB10.out.cell (p := ⟨sb, 1, none⟩) hsb).trans s1⟩
          clear hK K hHeld
          have hHeld := hNew
          clear hNew
          try simp only [Act.put, pB, pC, pD]
          refine tk (v := ?_) 8 rfl (by kernel_rfl) (fun _ _ _ h => h) ?_ hHeld ?_
          rotate_left
          · (intro w h; (try dsimp only at h); go_simp; try with_reducible rfl)
          try simp only [Act.put, pB, pC, pD]
          refine tk (v := ?_) 9 rfl (by kernel_rfl) (fun _ _ _ h => h) ?_ hHeld ?_
          rotate_left
          · (intro w h; (try dsimp only at h); go_simp; try with_reducible rfl)
          try simp only [Act.put, pB, pC, pD]
          refine tk (v := ?_) 10 rfl (by kernel_rfl) (fun _ _ _ h => h) ?_ hHeld ?_
          rotate_left
          · (intro w h; (try dsimp only at h); go_simp; try with_reducible rfl)
          try simp only [Act.put, pB, pC, pD]
          have z0 := ZB10.out.cell 0
          have z1 := ZB10.out.cell 1
          have z2 := ZB10.out.cell 2
          have f0 := ZB10.out.frozen 0
          have f1 := ZB10.out.frozen 1
          have f2 := ZB10.out.frozen 2
          simp only [qB, qC, qD] at z0 z1 z2
          have hg3 := set3 w10 w3.heap.size (.slice B1 S1.length k1) (.slice B2 S2.length k2) (.slice B3 S3.length k3)
          have HBS := Lib.hid ((HB10.out).grown hg3 (HB10.out).size (fun r e => by injection e with e; subst e; exact HGE.out))
          have ZBS := Lib.hid (((ZB10.out.set_ 0 (.slice B1 S1.length k1)).set_ 1 (.slice B2 S2.length k2)).set_ 2 (.slice B3 S3.length k3))
          have kk := Kept.of_blk [36] ZB10.out hg3 rfl
          have HS1 := Lib.hid (RdP.keep HR1.out kk (by decide))
          have HS2 := Lib.hid (RdP.keep HR2.out kk (by decide))
          have HS3 := Lib.hid (RdP.keep HR3.out kk (by decide))
          clear hg3 kk
          refine wpAnyH_ready (rs := [12]) (by kernel_rfl) (by simp) ?_
          refine AllReadyH.cons rfl (fun K hK => ?_) AllReadyH.nil
          go_simp
          refine hK.out _ _ ?_ (fun hNew => ?_)
          · exact ⟨(HBS.out.cell (p := ⟨cb, 2, none⟩) hcb).trans x2, (HBS.out.cell (p := ⟨cb, 3, none⟩) hcb).trans x3, (HBS.out.cell (p := ⟨sb, 0, none⟩) hsb).trans s0, (HBS.out.cell (p := ⟨sb, 1, none⟩) hsb).trans s1⟩
          clear hK K hHeld
          have hHeld := hNew
          clear hNew
          try simp only [Act.put, pB, pC, pD]
          refine tk (v := ?_) 13 rfl (by kernel_rfl) (fun _ _ _ h => h) ?_ hHeld ?_
          rotate_left
          · (intro w h; (try dsimp only at h); go_simp; try with_reducible rfl)
          try simp only [Act.put, pB, pC, pD]
          refine wpAnyH_done (by kernel_rfl) ?_ _
          clear hHeld
          try simp only [List.getElem_toArray, List.getElem_cons_zero, List.getElem_cons_succ, Act.put, pB, pC, pD]
          refine NoPanic.normal ?_
          go_wp2_with fail
          go_meet
          case rel => exact ⟨_, _, _, _, er, S1, S2, S3, rfl, rfl, ZBS.out, HS1.out, HS2.out, HS3.out, HSP.out, HBS.out, HGE.out⟩
  case rest =>
    obtain ⟨bb, v1, v2, v3, er, S1, S2, S3, rfl, rfl, hz, h1, h2, h3, hsp, hbx, hge⟩ := hcut
    obtain ⟨B1, k1, rfl, hk1⟩ := RdP.form h1
    rw [HR.out] at hsp
    have HSP := Lib.hid hsp
    have HER := Lib.hid (show er = re by
      unfold OfSpec at hsp
      split at hsp
      · exact hsp.1
      · rename_i h
        have : re = 0 := Classical.byContradiction fun h2 => h (.inl h2)
        rw [hsp.1, this])
    have ZB := Lib.hid hz
    have HR1 := Lib.hid h1
    have HBX := Lib.hid hbx
    have hre := HER.out
    subst hre
    clear hz h1 h2 h3 hsp hbx hge HER
    replace HBW := Lib.hid (HBW.out.trans (HBX.out.mono (by have := HBW.out.size; have := HSB.out; omega)))
    replace HX := Lib.hid (HX.out.next HBX.out)
    replace HG := Lib.hid (HG.out.next HBX.out)
    replace HAC := Lib.hid (RdAc.next HAC.out HBX.out)
    replace HST := Lib.hid (HST.out.next HBX.out)
    replace HUX := Lib.hid (HUX.out.below HBX.out)
    replace ZSW := Lib.hid (ZSW.out.next HBX.out hsb)
    replace ZC := Lib.hid (ZC.out.next HBX.out hcb)
    replace hcb := ZC.out.lt
    replace hsb := ZSW.out.lt
    replace s0 := ZSW.out.cell 0
    replace s1 := ZSW.out.cell 1
    replace x0 := ZC.out.cell 0
    replace x1 := ZC.out.cell 1
    replace x2 := ZC.out.cell 2
    replace x3 := ZC.out.cell 3
    simp only [qB, qC, qD] at s0 s1 x0 x1 x2 x3
    clear HBX
    generalize wc = W at *
    by_cases h0 : er = 0
    · subst h0
      obtain ⟨b, ha0, hall, hex⟩ := org_all HR.out HOR.out
      have HAL := Lib.hid hall
      have HEX := Lib.hid hex
      have HS1 := Lib.hid (show S1.Pairwise (· < ·) ∧ (∀ i ∈ S1, 0 ≤ i ∧ i < (k : Int)) ∧ (ro = -1 ∧ -1 < (k : Int) ∨ ro ∈ S1) by
        have h := HSP.out
        unfold OfSpec at h
        split at h
        · rename_i h1
          obtain ⟨_, e1, _⟩ := h
          subst e1
          refine ⟨List.Pairwise.nil, by simp, .inl ⟨?_, by omega⟩⟩
          rcases h1 with h1 | h1
          · exact absurd rfl h1
          · exact h1
        · obtain ⟨_, hc, _⟩ := h
          refine ⟨hc.asc, fun i hi => ?_, .inr ((hc.mem ro).2 .base)⟩
          have := hc.rng i hi
          rw [List.length_map, List.length_take] at this
          omega)
      obtain ⟨A, rfl⟩ : ∃ A : Nat, a = A := ⟨a.toNat, by omega⟩
      rw [Int.toNat_natCast] at HAL
      have HFIN := Lib.hid (alone_k (spN_ob wh) base54_v HOR.out HAL.out (by
        obtain ⟨v, hv, hv2, _⟩ := HEX.out
        unfold verL at hv
        rcases List.mem_cons.1 hv with e | hv
        · left; rw [← hv2, e]; rfl
        · right
          obtain ⟨j, hj, c, hc, hcn, e⟩ := vers_of hv
          have : ro = (j : Int) := by rw [← hv2, e]; simp
          subst this
          exact ⟨by simpa using hj, by omega, c, by simpa using hc, hcn⟩) S1 HS1.out.1 HS1.out.2.1 HS1.out.2.2)
      obtain ⟨vb, hvb⟩ : ∃ vb, befr (k : Int) (ver0 base54 (spN wh)) (vers (spN wh) 0 L) = vb := ⟨_, rfl⟩
      have HVB := Lib.hid hvb
      have HVH := Lib.hid (show hasAt A vb = true ∧ vb.value.getD A 0 = b by
        rw [← hvb]
        have := befr_has (N := L.length) (a := (A : Int)) HOR.out HAL.out HEX.out HKK.out.1
        rw [Int.toNat_natCast] at this
        exact this)
      have hS1l : S1.length ≤ 100 := by
        have := nd_le (N := k) (HS1.out.1.imp fun h e => by subst e; omega) HS1.out.2.1
        omega
      clear ha0 hall hex hvb
      have hF0 : ∀ w : World, (Instr.field 28 (.agg #[.int .i64 (spN wh).kind, .string (bs (spN wh).owner), .int .i64 (spN wh).num, .int .i64 (spN wh).idx, .string (bs (spN wh).text), .int .i64 A]) 0).run Tryz.prog w = .ok (nmV (spN wh)) w := fun w => by kernel_rfl
      have hF1 : ∀ w : World, (Instr.field 28 (.agg #[.int .i64 (spN wh).kind, .string (bs (spN wh).owner), .int .i64 (spN wh).num, .int .i64 (spN wh).idx, .string (bs (spN wh).text), .int .i64 A]) 1).run Tryz.prog w = .ok (.int .i64 A) w := fun w => by kernel_rfl
      go_upto_region 8 with (fail)
      go_cut [12, 13] (fun v12 v13 wx => tbRel vb W v12 v13 wx)
      case first =>
        refine wp_region_noPanic ?_
        refine wp_region_held_drew (S := (fun (w' : World) => w'.cell? ⟨cb, 2, none⟩ = some (.pointer (some ⟨gx, 0, none⟩)) ∧ w'.cell? ⟨sb, 0, none⟩ = some (.int .u8 wh) ∧ w'.cell? ⟨sb, 1, none⟩ = some (.int .i64 A))) (by kernel_rfl) ?_ (fun hHeld => ?_)
        · exact ⟨x2, s0, s1⟩
        refine tk (v := ?_) 0 rfl (by kernel_rfl) (fun _ _ _ h => h) ?_ hHeld ?_
        rotate_left
        · (intro w h; (try dsimp only at h); go_simp; try with_reducible rfl)
        try simp only [Act.put, pB, pC, pD]
        refine tk (v := ?_) 1 rfl (by kernel_rfl) (fun _ _ _ h => h) ?_ hHeld ?_
        rotate_left
        · (intro w h; (try dsimp only at h); go_simp; try with_reducible rfl)
        try simp only [Act.put, pB, pC, pD]
        refine tk (v := ?_) 2 rfl (by kernel_rfl) (fun _ _ _ h => h) ?_ hHeld ?_
        rotate_left
        · (intro w h; (try dsimp only at h); go_simp; try with_reducible rfl)
        try simp only [Act.put, pB, pC, pD]
        refine tk (v := ?_) 5 rfl (by kernel_rfl) (fun _ _ _ h => h) ?_ hHeld ?_
        rotate_left
        · (intro w h; (try dsimp only at h); go_simp; try with_reducible rfl)
        try simp only [Act.put, pB, pC, pD]
        refine wpAnyH_ready (rs := [3, 10]) (by kernel_rfl) (by simp) ?_
        refine AllReadyH.cons rfl (fun K hK => ?_) (AllReadyH.cons rfl (fun K hK => ?_) AllReadyH.nil)
        · go_simp
          refine (place_is (W.drew) wh (A : Int) hw0 hw1).mono ?_; rintro e w9 ⟨rfl, hb9'⟩; simp only [plV]; have HB9 := Lib.hid (((Below.refl W.heap.size W).drew).trans (hb9'.mono ((Below.refl W.heap.size W).drew).size)); clear hb9'
          try (go_wp2_with fail)
          refine hK.out _ _ ?_ (fun hNew => ?_)
          · exact ⟨(HB9.out.cell (p := ⟨cb, 2, none⟩) hcb).trans x2, (HB9.out.cell (p := ⟨sb, 0, none⟩) hsb).trans s0, (HB9.out.cell (p := ⟨sb, 1, none⟩) hsb).trans s1⟩
          clear hK K hHeld
          have hHeld := hNew
          clear hNew
          try simp only [Act.put, pB, pC, pD]
          refine tk (v := ?_) 4 rfl (by kernel_rfl) (fun _ _ _ h => h) ?_ hHeld ?_
          rotate_left
          · (intro w h; (try dsimp only at h); go_simp; try with_reducible rfl)
          try simp only [Act.put, pB, pC, pD]
          refine wpAnyH_ready (rs := [6, 10]) (by kernel_rfl) (by simp) ?_
          refine AllReadyH.cons rfl (fun K hK => ?_) (AllReadyH.cons rfl (fun K hK => ?_) AllReadyH.nil)
          · go_simp
            refine (before_is (n := spN wh) (k : Int) (HX.out.next HB9.out) hnn HVO.out).mono ?_; rintro e w10 ⟨rfl, hb10⟩; rw [if_pos HKK.out, HVB.out]; simp only [veV]; have HB10 := Lib.hid ((HB9.out).trans (hb10.mono (HB9.out).size)); clear hb10
            try (go_wp2_with fail)
            refine hK.out _ _ ?_ (fun hNew => ?_)
            · exact ⟨(HB10.out.cell (p := ⟨cb, 2, none⟩) hcb).trans x2, (HB10.out.cell (p := ⟨sb, 0, none⟩) hsb).trans s0, (HB10.out.cell (p := ⟨sb, 1, none⟩) hsb).trans s1⟩
            clear hK K hHeld
            have hHeld := hNew
            clear hNew
            try simp only [Act.put, pB, pC, pD]
            refine tk (v := ?_) 7 rfl (by kernel_rfl) (fun _ _ _ h => h) ?_ hHeld ?_
            rotate_left
            · (intro w h; (try dsimp only at h); go_simp; try with_reducible rfl)
            try simp only [Act.put, pB, pC, pD]
            refine tk (v := ?_) 8 rfl (by kernel_rfl) (fun _ _ _ h => h) ?_ hHeld ?_
            rotate_left
            · (intro w h; (try dsimp only at h); go_simp; try with_reducible rfl)
            try simp only [Act.put, pB, pC, pD]
            refine tk (v := ?_) 9 rfl (by kernel_rfl) (fun _ _ _ h => h) ?_ hHeld ?_
            rotate_left
            · (intro w h; (try dsimp only at h); go_simp; try with_reducible rfl)
            try simp only [Act.put, pB, pC, pD]
            refine wpAnyH_ready (rs := [10]) (by kernel_rfl) (by simp) ?_
            refine AllReadyH.cons rfl (fun K hK => ?_) AllReadyH.nil
            · go_simp
              have HBA : Hid (Below W.heap.size W (w10.alloc (.cells #[.int .i64 0, .string ⟨#[]⟩, .bool false] 68))) := Lib.hid ((HB10.out).alloc (HB10.out).size (.cells #[.int .i64 0, .string ⟨#[]⟩, .bool false] 68))
              have ZBA : Hid (Blk (w10.alloc (.cells #[.int .i64 0, .string ⟨#[]⟩, .bool false] 68)) w10.heap.size 68 #[.int .i64 0, .string ⟨#[]⟩, .bool false]) := Lib.hid (Blk.new w10 68 #[.int .i64 0, .string ⟨#[]⟩, .bool false])
              have HGE := Lib.hid (show W.heap.size ≤ w10.heap.size from (HB10.out).size)
              refine hK.out _ _ ?_ (fun hNew => ?_)
              · exact ⟨(HBA.out.cell (p := ⟨cb, 2, none⟩) hcb).trans x2, (HBA.out.cell (p := ⟨sb, 0, none⟩) hsb).trans s0, (HBA.out.cell (p := ⟨sb, 1, none⟩) hsb).trans s1⟩
              clear hK K hHeld
              have hHeld := hNew
              clear hNew
              try simp only [Act.put, pB, pC, pD]
              have hal := (Below.refl w10.heap.size w10).alloc (Nat.le_refl _) (.cells #[.int .i64 vb.idx, .string (bs vb.value), .bool vb.absent] 68)
              have HBS := Lib.hid ((HB10.out).trans (hal.mono (HB10.out).size))
              have ZBS := Lib.hid (Blk.new w10 68 #[.int .i64 vb.idx, .string (bs vb.value), .bool vb.absent])
              clear hal
              refine wpAnyH_ready (rs := [11]) (by kernel_rfl) (by simp) ?_
              refine AllReadyH.cons rfl (fun K hK => ?_) AllReadyH.nil
              go_simp
              refine hK.out _ _ ?_ (fun hNew => ?_)
              · exact ⟨(HBS.out.cell (p := ⟨cb, 2, none⟩) hcb).trans x2, (HBS.out.cell (p := ⟨sb, 0, none⟩) hsb).trans s0, (HBS.out.cell (p := ⟨sb, 1, none⟩) hsb).trans s1⟩
              clear hK K hHeld
              have hHeld := hNew
              clear hNew
              try simp only [Act.put, pB, pC, pD]
              refine tk (v := ?_) 12 rfl (by kernel_rfl) (fun _ _ _ h => h) ?_ hHeld ?_
              rotate_left
              · (intro w h; (try dsimp only at h); go_simp; try with_reducible rfl)
              try simp only [Act.put, pB, pC, pD]
              refine wpAnyH_done (by kernel_rfl) ?_ _
              clear hHeld
              try simp only [List.getElem_toArray, List.getElem_cons_zero, List.getElem_cons_succ, Act.put, pB, pC, pD]
              refine NoPanic.normal ?_
              go_wp2_with fail
              go_meet
              case rel => exact ⟨_, rfl, rfl, ZBS.out, HBS.out, HGE.out⟩
          · go_simp
            have HBA : Hid (Below W.heap.size W (w9.alloc (.cells #[.int .i64 0, .string ⟨#[]⟩, .bool false] 68))) := Lib.hid ((HB9.out).alloc (HB9.out).size (.cells #[.int .i64 0, .string ⟨#[]⟩, .bool false] 68))
            have ZBA : Hid (Blk (w9.alloc (.cells #[.int .i64 0, .string ⟨#[]⟩, .bool false] 68)) w9.heap.size 68 #[.int .i64 0, .string ⟨#[]⟩, .bool false]) := Lib.hid (Blk.new w9 68 #[.int .i64 0, .string ⟨#[]⟩, .bool false])
            have HGE := Lib.hid (show W.heap.size ≤ w9.heap.size from (HB9.out).size)
            refine hK.out _ _ ?_ (fun hNew => ?_)
            · exact ⟨(HBA.out.cell (p := ⟨cb, 2, none⟩) hcb).trans x2, (HBA.out.cell (p := ⟨sb, 0, none⟩) hsb).trans s0, (HBA.out.cell (p := ⟨sb, 1, none⟩) hsb).trans s1⟩
            clear hK K hHeld
            have hHeld := hNew
            clear hNew
            try simp only [Act.put, pB, pC, pD]
            refine wpAnyH_ready (rs := [6]) (by kernel_rfl) (by simp) ?_
            refine AllReadyH.cons rfl (fun K hK => ?_) AllReadyH.nil
            · go_simp
              refine (before_is (n := spN wh) (k : Int) (HX.out.next HBA.out) hnn HVO.out).mono ?_; rintro e w10 ⟨rfl, hb10⟩; rw [if_pos HKK.out, HVB.out]; simp only [veV]; have HB10 := Lib.hid ((HBA.out).trans (hb10.mono (HBA.out).size)); have ZB10 := Lib.hid (ZBA.out.next hb10 ZBA.out.lt); clear hb10
              try (go_wp2_with fail)
              refine hK.out _ _ ?_ (fun hNew => ?_)
              · exact ⟨(HB10.out.cell (p := ⟨cb, 2, none⟩) hcb).trans x2, (HB10.out.cell (p := ⟨sb, 0, none⟩) hsb).trans s0, (HB10.out.cell (p := ⟨sb, 1, none⟩) hsb).trans s1⟩
              clear hK K hHeld
              have hHeld := hNew
              clear hNew
              try simp only [Act.put, pB, pC, pD]
              refine tk (v := ?_) 7 rfl (by kernel_rfl) (fun _ _ _ h => h) ?_ hHeld ?_
              rotate_left
              · (intro w h; (try dsimp only at h); go_simp; try with_reducible rfl)
              try simp only [Act.put, pB, pC, pD]
              refine tk (v := ?_) 8 rfl (by kernel_rfl) (fun _ _ _ h => h) ?_ hHeld ?_
              rotate_left
              · (intro w h; (try dsimp only at h); go_simp; try with_reducible rfl)
              try simp only [Act.put, pB, pC, pD]
              refine tk (v := ?_) 9 rfl (by kernel_rfl) (fun _ _ _ h => h) ?_ hHeld ?_
              rotate_left
              · (intro w h; (try dsimp only at h); go_simp; try with_reducible rfl)
              try simp only [Act.put, pB, pC, pD]
              have z0 := ZB10.out.cell 0
              have z1 := ZB10.out.cell 1
              have z2 := ZB10.out.cell 2
              have f0 := ZB10.out.frozen 0
              have f1 := ZB10.out.frozen 1
              have f2 := ZB10.out.frozen 2
              simp only [qB, qC, qD] at z0 z1 z2
              have hg3 := set3 w10 w9.heap.size (.int .i64 vb.idx) (.string (bs vb.value)) (.bool vb.absent)
              have HBS := Lib.hid ((HB10.out).grown hg3 (HB10.out).size (fun r e => by injection e with e; subst e; exact HGE.out))
              have ZBS := Lib.hid (((ZB10.out.set_ 0 (.int .i64 vb.idx)).set_ 1 (.string (bs vb.value))).set_ 2 (.bool vb.absent))
              clear hg3
              refine wpAnyH_ready (rs := [11]) (by kernel_rfl) (by simp) ?_
              refine AllReadyH.cons rfl (fun K hK => ?_) AllReadyH.nil
              go_simp
              refine hK.out _ _ ?_ (fun hNew => ?_)
              · exact ⟨(HBS.out.cell (p := ⟨cb, 2, none⟩) hcb).trans x2, (HBS.out.cell (p := ⟨sb, 0, none⟩) hsb).trans s0, (HBS.out.cell (p := ⟨sb, 1, none⟩) hsb).trans s1⟩
              clear hK K hHeld
              have hHeld := hNew
              clear hNew
              try simp only [Act.put, pB, pC, pD]
              refine tk (v := ?_) 12 rfl (by kernel_rfl) (fun _ _ _ h => h) ?_ hHeld ?_
              rotate_left
              · (intro w h; (try dsimp only at h); go_simp; try with_reducible rfl)
              try simp only [Act.put, pB, pC, pD]
              refine wpAnyH_done (by kernel_rfl) ?_ _
              clear hHeld
              try simp only [List.getElem_toArray, List.getElem_cons_zero, List.getElem_cons_succ, Act.put, pB, pC, pD]
              refine NoPanic.normal ?_
              go_wp2_with fail
              go_meet
              case rel => exact ⟨_, rfl, rfl, ZBS.out, HBS.out, HGE.out⟩
        · go_simp
          have HBA : Hid (Below W.heap.size W (W.alloc (.cells #[.int .i64 0, .string ⟨#[]⟩, .bool false] 68)).drew) := Lib.hid (((Below.refl W.heap.size W).alloc (Nat.le_refl _) (.cells #[.int .i64 0, .string ⟨#[]⟩, .bool false] 68)).drew)
          have ZBA : Hid (Blk (W.alloc (.cells #[.int .i64 0, .string ⟨#[]⟩, .bool false] 68)).drew W.heap.size 68 #[.int .i64 0, .string ⟨#[]⟩, .bool false]) := Lib.hid (Blk.new W 68 #[.int .i64 0, .string ⟨#[]⟩, .bool false])
          have HGE := Lib.hid (show W.heap.size ≤ W.heap.size from ((Below.refl W.heap.size W).drew).size)
          refine hK.out _ _ ?_ (fun hNew => ?_)
          · exact ⟨(HBA.out.cell (p := ⟨cb, 2, none⟩) hcb).trans x2, (HBA.out.cell (p := ⟨sb, 0, none⟩) hsb).trans s0, (HBA.out.cell (p := ⟨sb, 1, none⟩) hsb).trans s1⟩
          clear hK K hHeld
          have hHeld := hNew
          clear hNew
          try simp only [Act.put, pB, pC, pD]
          refine wpAnyH_ready (rs := [3]) (by kernel_rfl) (by simp) ?_
          refine AllReadyH.cons rfl (fun K hK => ?_) AllReadyH.nil
          · go_simp
            refine (place_is ((W.alloc (.cells #[.int .i64 0, .string ⟨#[]⟩, .bool false] 68)).drew) wh (A : Int) hw0 hw1).mono ?_; rintro e w9 ⟨rfl, hb9'⟩; simp only [plV]; have HB9 := Lib.hid ((HBA.out).trans (hb9'.mono (HBA.out).size)); have ZB9 := Lib.hid (ZBA.out.next hb9' ZBA.out.lt); clear hb9'
            try (go_wp2_with fail)
            refine hK.out _ _ ?_ (fun hNew => ?_)
            · exact ⟨(HB9.out.cell (p := ⟨cb, 2, none⟩) hcb).trans x2, (HB9.out.cell (p := ⟨sb, 0, none⟩) hsb).trans s0, (HB9.out.cell (p := ⟨sb, 1, none⟩) hsb).trans s1⟩
            clear hK K hHeld
            have hHeld := hNew
            clear hNew
            try simp only [Act.put, pB, pC, pD]
            refine tk (v := ?_) 4 rfl (by kernel_rfl) (fun _ _ _ h => h) ?_ hHeld ?_
            rotate_left
            · (intro w h; (try dsimp only at h); go_simp; try with_reducible rfl)
            try simp only [Act.put, pB, pC, pD]
            refine wpAnyH_ready (rs := [6]) (by kernel_rfl) (by simp) ?_
            refine AllReadyH.cons rfl (fun K hK => ?_) AllReadyH.nil
            · go_simp
              refine (before_is (n := spN wh) (k : Int) (HX.out.next HB9.out) hnn HVO.out).mono ?_; rintro e w10 ⟨rfl, hb10⟩; rw [if_pos HKK.out, HVB.out]; simp only [veV]; have HB10 := Lib.hid ((HB9.out).trans (hb10.mono (HB9.out).size)); have ZB10 := Lib.hid (ZB9.out.next hb10 ZB9.out.lt); clear hb10
              try (go_wp2_with fail)
              refine hK.out _ _ ?_ (fun hNew => ?_)
              · exact ⟨(HB10.out.cell (p := ⟨cb, 2, none⟩) hcb).trans x2, (HB10.out.cell (p := ⟨sb, 0, none⟩) hsb).trans s0, (HB10.out.cell (p := ⟨sb, 1, none⟩) hsb).trans s1⟩
              clear hK K hHeld
              have hHeld := hNew
              clear hNew
              try simp only [Act.put, pB, pC, pD]
              refine tk (v := ?_) 7 rfl (by kernel_rfl) (fun _ _ _ h => h) ?_ hHeld ?_
              rotate_left
              · (intro w h; (try dsimp only at h); go_simp; try with_reducible rfl)
              try simp only [Act.put, pB, pC, pD]
              refine tk (v := ?_) 8 rfl (by kernel_rfl) (fun _ _ _ h => h) ?_ hHeld ?_
              rotate_left
              · (intro w h; (try dsimp only at h); go_simp; try with_reducible rfl)
              try simp only [Act.put, pB, pC, pD]
              refine tk (v := ?_) 9 rfl (by kernel_rfl) (fun _ _ _ h => h) ?_ hHeld ?_
              rotate_left
              · (intro w h; (try dsimp only at h); go_simp; try with_reducible rfl)
              try simp only [Act.put, pB, pC, pD]
              have z0 := ZB10.out.cell 0
              have z1 := ZB10.out.cell 1
              have z2 := ZB10.out.cell 2
              have f0 := ZB10.out.frozen 0
              have f1 := ZB10.out.frozen 1
              have f2 := ZB10.out.frozen 2
              simp only [qB, qC, qD] at z0 z1 z2
              have hg3 := set3 w10 W.heap.size (.int .i64 vb.idx) (.string (bs vb.value)) (.bool vb.absent)
              have HBS := Lib.hid ((HB10.out).grown hg3 (HB10.out).size (fun r e => by injection e with e; subst e; exact HGE.out))
              have ZBS := Lib.hid (((ZB10.out.set_ 0 (.int .i64 vb.idx)).set_ 1 (.string (bs vb.value))).set_ 2 (.bool vb.absent))
              clear hg3
              refine wpAnyH_ready (rs := [11]) (by kernel_rfl) (by simp) ?_
              refine AllReadyH.cons rfl (fun K hK => ?_) AllReadyH.nil
              go_simp
              refine hK.out _ _ ?_ (fun hNew => ?_)
              · exact ⟨(HBS.out.cell (p := ⟨cb, 2, none⟩) hcb).trans x2, (HBS.out.cell (p := ⟨sb, 0, none⟩) hsb).trans s0, (HBS.out.cell (p := ⟨sb, 1, none⟩) hsb).trans s1⟩
              clear hK K hHeld
              have hHeld := hNew
              clear hNew
              try simp only [Act.put, pB, pC, pD]
              refine tk (v := ?_) 12 rfl (by kernel_rfl) (fun _ _ _ h => h) ?_ hHeld ?_
              rotate_left
              · (intro w h; (try dsimp only at h); go_simp; try with_reducible rfl)
              try simp only [Act.put, pB, pC, pD]
              refine wpAnyH_done (by kernel_rfl) ?_ _
              clear hHeld
              try simp only [List.getElem_toArray, List.getElem_cons_zero, List.getElem_cons_succ, Act.put, pB, pC, pD]
              refine NoPanic.normal ?_
              go_wp2_with fail
              go_meet
              case rel => exact ⟨_, rfl, rfl, ZBS.out, HBS.out, HGE.out⟩
      case rest =>
        obtain ⟨b2, rfl, rfl, hz2, hbx, hge⟩ := hcut
        have HBX := Lib.hid hbx
        have ZV := Lib.hid hz2
        clear hbx hz2
        replace HBW := Lib.hid (HBW.out.trans (HBX.out.mono (by have := HBW.out.size; have := HSB.out; omega)))
        replace HX := Lib.hid (HX.out.next HBX.out)
        replace HG := Lib.hid (HG.out.next HBX.out)
        replace HAC := Lib.hid (RdAc.next HAC.out HBX.out)
        replace HST := Lib.hid (HST.out.next HBX.out)
        replace HUX := Lib.hid (HUX.out.below HBX.out)
        replace ZB := Lib.hid (ZB.out.next HBX.out ZB.out.lt)
        replace HR1 := Lib.hid (RdP.next HR1.out HBX.out)
        replace ZSW := Lib.hid (ZSW.out.next HBX.out hsb)
        replace ZC := Lib.hid (ZC.out.next HBX.out hcb)
        replace hcb := ZC.out.lt
        replace hsb := ZSW.out.lt
        replace s0 := ZSW.out.cell 0
        replace s1 := ZSW.out.cell 1
        replace x0 := ZC.out.cell 0
        replace x1 := ZC.out.cell 1
        replace x2 := ZC.out.cell 2
        replace x3 := ZC.out.cell 3
        simp only [qB, qC, qD] at s0 s1 x0 x1 x2 x3
        clear HBX hge
        generalize wc = W6 at *
        have H0 : Hid (tcLoop L S1 W6 (.int .i64 0) (.pointer pb) (.int .i64 (0 : Nat)) W6) := Lib.hid ⟨0, pb, Nat.zero_le _, rfl, rfl, rfl, HST.out, Below.refl _ _⟩
        go_wp2_with fail
        go_loopw [13, 14, 15] (fun v13 v14 v15 wr => tcLoop L S1 W6 v13 v14 v15 wr) (fun _ _ v15 _ => S1.length - (intOf v15).toNat)
        case atStart => exact H0.out
        case round =>
          clear H0
          obtain ⟨kk, q, hkk, rfl, rfl, rfl, hst, hbw⟩ := hrel
          have HSTk := Lib.hid hst
          have HBK := Lib.hid hbw
          have bb0 := (hbw.cell (p := ⟨bb, 0, none⟩) ZB.out.lt).trans (ZB.out.cell 0)
          simp only [qB, qC, qD] at bb0
          have w1c := (hbw.cell (p := ⟨cb, 1, none⟩) hcb).trans x1
          clear hst hbw
          by_cases hkl : kk < S1.length
          · have j1 : (0 : Int) ≤ (kk : Int) := by omega
            have j2 : (kk : Int) < (S1.length : Int) := by omega
            have j3 : decide ((kk : Int) < (S1.length : Int)) = true := decide_eq_true j2
            obtain ⟨ib, io, hbe, hib, y0⟩ := RdIn_piece (RdP.next HR1.out HBK.out) hkl
            subst hbe
            have hri := HS1.out.2.1 _ (List.getElem_mem hkl)
            obtain ⟨x, hx⟩ : ∃ x : Nat, S1[kk] = (x : Int) := ⟨S1[kk].toNat, by omega⟩
            rw [hx] at y0 hri
            have HXK := Lib.hid hx
            have hxl : x < L.length := by omega
            have j4 : decide ((x : Int) < (k : Int)) = true := decide_eq_true (by omega)
            have j4b : decide (x < k) = true := decide_eq_true (by omega)
            have j5 : (0 : Int) ≤ (x : Int) := by omega
            have j6 : (x : Int) < (L.length : Int) := by omega
            obtain ⟨ab, ao, u1, u2, hbe, hab, m1, m2, _, _, _, _, _, y5⟩ := RdAc.piece (RdAc.next HAC.out HBK.out) hxl
            subst hbe
            have hwl := HWR.out _ (List.getElem_mem hxl)
            have HAP := Lib.hid (appL_take (L := L) (s := base54) hkl hx hxl)
            have HTV := Lib.hid (appL_v HOR.out (S1.take kk) base54_v)
            have HCV := Lib.hid (show ∀ c ∈ L[x].writes, ChV c from fun c hc => ord_ob (HOR.out _ (List.getElem_mem hxl)) c hc)
            have hdr := (Below.refl wr.heap.size wr).drew
            have HSTd := Lib.hid (HSTk.out.next hdr)
            have HM2d := Lib.hid (RdP.next m2 hdr)
            have HUd := Lib.hid ((HUX.out.below HBK.out).below hdr)
            have hcbl : cb < wr.heap.size := Nat.lt_of_lt_of_le hcb HBK.out.size
            have hbbl : bb < wr.heap.size := Nat.lt_of_lt_of_le ZB.out.lt HBK.out.size
            have hibl := hib
            have habl := hab
            clear hx hri m1 m2 hdr HSTk
            go_upto_region 14 with (fail)
            refine wp_region_noPanic ?_
            refine wp_region_held_drew (S := (fun (w' : World) => w'.cell? ⟨cb, 1, none⟩ = some (.slice (some ⟨ab, ao, none⟩) L.length c9) ∧ w'.cell? ⟨bb, 0, none⟩ = some (.slice (some ⟨ib, io, none⟩) S1.length k1) ∧ w'.cell? ⟨ib, io + kk, none⟩ = some (.int .i64 x) ∧ w'.cell? ⟨ab, ao + x * 6 + 5, none⟩ = some (u2))) (by kernel_rfl) ?_ (fun hHeld => ?_)
            · exact ⟨w1c, bb0, y0, y5⟩
            refine tk (v := ?_) 0 rfl (by kernel_rfl) (fun _ _ _ h => h) ?_ hHeld ?_
            rotate_left
            · (intro w h; (try dsimp only at h); go_simp; try with_reducible rfl)
            try simp only [Act.put, pB, pC, pD]
            refine tk (v := ?_) 1 rfl (by kernel_rfl) (fun _ _ _ h => h) ?_ hHeld ?_
            rotate_left
            · (intro w h; (try dsimp only at h); go_simp; try with_reducible rfl)
            try simp only [Act.put, pB, pC, pD]
            refine tk (v := ?_) 2 rfl (by kernel_rfl) (fun _ _ _ h => h) ?_ hHeld ?_
            rotate_left
            · (intro w h; (try dsimp only at h); go_simp; try with_reducible rfl)
            try simp only [Act.put, pB, pC, pD]
            refine tk (v := ?_) 3 rfl (by kernel_rfl) (fun _ _ _ h => h) ?_ hHeld ?_
            rotate_left
            · (intro w h; (try dsimp only at h); go_simp; try with_reducible rfl)
            try simp only [Act.put, pB, pC, pD]
            refine tk (v := ?_) 4 rfl (by kernel_rfl) (fun _ _ _ h => h) ?_ hHeld ?_
            rotate_left
            · (intro w h; (try dsimp only at h); go_simp; try with_reducible rfl)
            try simp only [Act.put, pB, pC, pD]
            refine tk (v := ?_) 5 rfl (by kernel_rfl) (fun _ _ _ h => h) ?_ hHeld ?_
            rotate_left
            · (intro w h; (try dsimp only at h); go_simp; try with_reducible rfl)
            try simp only [Act.put, pB, pC, pD]
            refine tk (v := ?_) 6 rfl (by kernel_rfl) (fun _ _ _ h => h) ?_ hHeld ?_
            rotate_left
            · (intro w h; (try dsimp only at h); go_simp; try with_reducible rfl)
            try simp only [Act.put, pB, pC, pD]
            refine tk (v := ?_) 7 rfl (by kernel_rfl) (fun _ _ _ h => h) ?_ hHeld ?_
            rotate_left
            · (intro w h; (try dsimp only at h); go_simp; try with_reducible rfl)
            try simp only [Act.put, pB, pC, pD]
            refine tk (v := ?_) 8 rfl (by kernel_rfl) (fun _ _ _ h => h) ?_ hHeld ?_
            rotate_left
            · (intro w h; (try dsimp only at h); go_simp; try with_reducible rfl)
            try simp only [Act.put, pB, pC, pD]
            refine tk (v := ?_) 9 rfl (by kernel_rfl) (fun _ _ _ h => h) ?_ hHeld ?_
            rotate_left
            · (intro w h; (try dsimp only at h); go_simp; try with_reducible rfl)
            try simp only [Act.put, pB, pC, pD]
            refine tk (v := ?_) 10 rfl (by kernel_rfl) (fun _ _ _ h => h) ?_ hHeld ?_
            rotate_left
            · (intro w h; (try dsimp only at h); go_simp; try with_reducible rfl)
            try simp only [Act.put, pB, pC, pD]
            refine wpAnyH_ready (rs := [11]) (by kernel_rfl) (by simp) ?_
            refine AllReadyH.cons rfl (fun K hK => ?_) AllReadyH.nil
            go_simp
            refine (apply_st HSTd.out HTV.out HM2d.out HCV.out HUd.out (by omega)).mono ?_; rintro e w9 ⟨q9, rfl, hst9, hb9'⟩; have hb9 := (Below.refl wr.heap.size wr).drew.trans hb9'; have HB9 := Lib.hid hb9; have HST9 := Lib.hid hst9; clear hb9' hst9
            try (go_wp2_with fail)
            refine hK.out _ _ ?_ (fun hNew => ?_)
            · exact ⟨(hb9.cell (p := ⟨cb, 1, none⟩) hcbl).trans w1c, (hb9.cell (p := ⟨bb, 0, none⟩) hbbl).trans bb0, (hb9.cell (p := ⟨ib, io + kk, none⟩) hibl).trans y0, (hb9.cell (p := ⟨ab, ao + x * 6 + 5, none⟩) habl).trans y5⟩
            clear hK K hHeld
            have hHeld := hNew
            clear hNew
            try simp only [Act.put, pB, pC, pD]
            refine tk (v := ?_) 12 rfl (by kernel_rfl) (fun _ _ _ h => h) ?_ hHeld ?_
            rotate_left
            · (intro w h; (try dsimp only at h); go_simp; try with_reducible rfl)
            try simp only [Act.put, pB, pC, pD]
            refine tk (v := ?_) 13 rfl (by kernel_rfl) (fun _ _ _ h => h) ?_ hHeld ?_
            rotate_left
            · (intro w h; (try dsimp only at h); go_simp; try with_reducible rfl)
            try simp only [Act.put, pB, pC, pD]
            refine tk (v := ?_) 14 rfl (by kernel_rfl) (fun _ _ _ h => h) ?_ hHeld ?_
            rotate_left
            · (intro w h; (try dsimp only at h); go_simp; try with_reducible rfl)
            try simp only [Act.put, pB, pC, pD]
            refine tk (v := ?_) 15 rfl (by kernel_rfl) (fun _ _ _ h => h) ?_ hHeld ?_
            rotate_left
            · (intro w h; (try dsimp only at h); go_simp; try with_reducible rfl)
            try simp only [Act.put, pB, pC, pD]
            refine tk (v := ?_) 16 rfl (by kernel_rfl) (fun _ _ _ h => h) ?_ hHeld ?_
            rotate_left
            · (intro w h; (try dsimp only at h); go_simp; try with_reducible rfl)
            try simp only [Act.put, pB, pC, pD]
            refine wpAnyH_done (by kernel_rfl) ?_ _
            clear hHeld
            try simp only [List.getElem_toArray, List.getElem_cons_zero, List.getElem_cons_succ, Act.put, pB, pC, pD]
            refine NoPanic.normal ?_
            go_wp2_with fail
            go_roundw
            case rel => exact ⟨kk + 1, q9, by omega, rfl, rfl, by go_num, by rw [HAP.out]; exact HST9.out, HBK.out.trans (HB9.out.mono HBK.out.size)⟩
            case measure => simp [intOf]; omega
          · have j3 : decide ((kk : Int) < (S1.length : Int)) = false := decide_eq_false (by omega)
            have HSTe := Lib.hid (show StAt wr q (appL L base54 S1) by have := HSTk.out; rw [List.take_of_length_le (by omega)] at this; exact this)
            obtain ⟨xv, hxv, hxl, hxb⟩ := HFIN.out
            have hvh := HVH.out
            unfold hasAt at hvh
            simp only [Bool.and_eq_true, Bool.not_eq_true', decide_eq_true_eq] at hvh
            have HXV := Lib.hid hxv
            have e1 : decide ((A : Int) < ((bs xv).size : Int)) = true := decide_eq_true (by rw [bs_size]; omega)
            have e2 : (A : Int) < ((bs xv).size : Int) := by rw [bs_size]; omega
            have e3 : A < (bs xv).size := by rw [bs_size]; omega
            have e4 : (bs xv)[A]'e3 = b := at_byte hxl hxb e3
            have g2 : (A : Int) < ((bs vb.value).size : Int) := by rw [bs_size]; omega
            have g3 : A < (bs vb.value).size := by rw [bs_size]; omega
            have g4 : (bs vb.value)[A]'g3 = b := at_byte hvh.1.2 hvh.2 g3
            have s0 := (HBK.out.cell (p := ⟨sb, 0, none⟩) hsb).trans s0
            have s1 := (HBK.out.cell (p := ⟨sb, 1, none⟩) hsb).trans s1
            have hA0 : (0 : Int) ≤ (A : Int) := by omega
            clear hxv hvh HSTk
            go_wp2_with (go_at_call 15; refine (place_is _ wh (A : Int) hw0 hw1).mono ?_; rintro e w7 ⟨rfl, hb7⟩; simp only [plV]; have HB7 := Lib.hid hb7; clear hb7)
            go_at_call 22
            refine (get_is (n := spN wh) (HSTe.out.next HB7.out) hnn).mono ?_
            rintro e w9 ⟨rfl, hb9⟩
            rw [HXV.out]
            simp only [Option.getD_some, Option.isSome]
            have HB9 := Lib.hid (HBK.out.trans ((HB7.out.trans (hb9.mono HB7.out.size)).mono HBK.out.size))
            have hb79 := HB7.out.trans (hb9.mono HB7.out.size)
            replace s0 := (hb79.cell (p := ⟨sb, 0, none⟩) (Nat.lt_of_lt_of_le hsb HBK.out.size)).trans s0
            replace s1 := (hb79.cell (p := ⟨sb, 1, none⟩) (Nat.lt_of_lt_of_le hsb HBK.out.size)).trans s1
            have v1c := (HB9.out.cell (p := ⟨b2, 1, none⟩) ZV.out.lt).trans (ZV.out.cell 1)
            simp only [qB, qC, qD] at v1c
            have hsb : sb < w9.heap.size := Nat.lt_of_lt_of_le hsb HB9.out.size
            have hb2l : b2 < w9.heap.size := Nat.lt_of_lt_of_le ZV.out.lt HB9.out.size
            clear hb9 hb79
            generalize w9 = W9 at *
            go_upto_region 18 with (fail)
            refine wp_region_noPanic ?_
            refine wp_region_held_drew (S := (fun (w' : World) => w'.cell? ⟨sb, 0, none⟩ = some (.int .u8 wh) ∧ w'.cell? ⟨sb, 1, none⟩ = some (.int .i64 A) ∧ w'.cell? ⟨b2, 1, none⟩ = some (.string (bs vb.value)))) (by kernel_rfl) ?_ (fun hHeld => ?_)
            · exact ⟨s0, s1, v1c⟩
            refine tk (v := ?_) 0 rfl (by kernel_rfl) (fun _ _ _ h => h) ?_ hHeld ?_
            rotate_left
            · (intro w h; (try dsimp only at h); go_simp; try with_reducible rfl)
            try simp only [Act.put, pB, pC, pD]
            refine tk (v := ?_) 1 rfl (by kernel_rfl) (fun _ _ _ h => h) ?_ hHeld ?_
            rotate_left
            · (intro w h; (try dsimp only at h); go_simp; try with_reducible rfl)
            try simp only [Act.put, pB, pC, pD]
            refine tk (v := ?_) 2 rfl (by kernel_rfl) (fun _ _ _ h => h) ?_ hHeld ?_
            rotate_left
            · (intro w h; (try dsimp only at h); go_simp; try with_reducible rfl)
            try simp only [Act.put, pB, pC, pD]
            refine tk (v := ?_) 3 rfl (by kernel_rfl) (fun _ _ _ h => h) ?_ hHeld ?_
            rotate_left
            · (intro w h; (try dsimp only at h); go_simp; try with_reducible rfl)
            try simp only [Act.put, pB, pC, pD]
            refine tk (v := ?_) 4 rfl (by kernel_rfl) (fun _ _ _ h => h) ?_ hHeld ?_
            rotate_left
            · (intro w h; (try dsimp only at h); go_simp; try with_reducible rfl)
            try simp only [Act.put, pB, pC, pD]
            refine wpAnyH_ready (rs := [5]) (by kernel_rfl) (by simp) ?_
            refine AllReadyH.cons rfl (fun K hK => ?_) AllReadyH.nil
            go_simp
            refine (place_is (W9.drew) wh (A : Int) hw0 hw1).mono ?_; rintro e w21 ⟨rfl, hb21'⟩; simp only [plV]; have hbq21 := ((Below.refl W9.heap.size W9).drew).trans (hb21'.mono ((Below.refl W9.heap.size W9).drew).size); have HBQ21 := Lib.hid hbq21; clear hb21'
            try (go_wp2_with fail)
            refine hK.out _ _ ?_ (fun hNew => ?_)
            · exact ⟨(hbq21.cell (p := ⟨sb, 0, none⟩) hsb).trans s0, (hbq21.cell (p := ⟨sb, 1, none⟩) hsb).trans s1, (hbq21.cell (p := ⟨b2, 1, none⟩) hb2l).trans v1c⟩
            clear hK K hHeld
            have hHeld := hNew
            clear hNew
            try simp only [Act.put, pB, pC, pD]
            refine tk (v := ?_) 6 rfl (by kernel_rfl) (fun _ _ _ h => h) ?_ hHeld ?_
            rotate_left
            · (intro w h; (try dsimp only at h); go_simp; try with_reducible rfl)
            try simp only [Act.put, pB, pC, pD]
            refine tk (v := ?_) 7 rfl (by kernel_rfl) (fun _ _ _ h => h) ?_ hHeld ?_
            rotate_left
            · (intro w h; (try dsimp only at h); go_simp; try with_reducible rfl)
            try simp only [Act.put, pB, pC, pD]
            refine tk (v := ?_) 8 rfl (by kernel_rfl) (fun _ _ _ h => h) ?_ hHeld ?_
            rotate_left
            · (intro w h; (try dsimp only at h); go_simp; try with_reducible rfl)
            try simp only [Act.put, pB, pC, pD]
            refine tk (v := ?_) 9 rfl (by kernel_rfl) (fun _ _ _ h => h) ?_ hHeld ?_
            rotate_left
            · (intro w h; (try dsimp only at h); go_simp; try with_reducible rfl)
            try simp only [Act.put, pB, pC, pD]
            refine tk (v := ?_) 10 rfl (by kernel_rfl) (fun _ _ _ h => h) ?_ hHeld ?_
            rotate_left
            · (intro w h; (try dsimp only at h); go_simp; try with_reducible rfl)
            try simp only [Act.put, pB, pC, pD]
            refine tk (v := ?_) 11 rfl (by kernel_rfl) (fun _ _ _ h => h) ?_ hHeld ?_
            rotate_left
            · (intro w h; (try dsimp only at h); go_simp; try with_reducible rfl)
            try simp only [Act.put, pB, pC, pD]
            refine tk (v := ?_) 15 rfl (by kernel_rfl) (fun _ _ _ h => h) ?_ hHeld ?_
            rotate_left
            · (intro w h; (try dsimp only at h); go_simp; try with_reducible rfl)
            try simp only [Act.put, pB, pC, pD]
            refine tk (v := ?_) 16 rfl (by kernel_rfl) (fun _ _ _ h => h) ?_ hHeld ?_
            rotate_left
            · (intro w h; (try dsimp only at h); go_simp; try with_reducible rfl)
            try simp only [Act.put, pB, pC, pD]
            refine tk (v := ?_) 17 rfl (by kernel_rfl) (fun _ _ _ h => h) ?_ hHeld ?_
            rotate_left
            · (intro w h; (try dsimp only at h); go_simp; try with_reducible rfl)
            try simp only [Act.put, pB, pC, pD]
            refine wpAnyH_ready (rs := [12]) (by kernel_rfl) (by simp) ?_
            refine AllReadyH.cons rfl (fun K hK => ?_) AllReadyH.nil
            go_simp
            refine (place_is (w21) wh (A : Int) hw0 hw1).mono ?_; rintro e w22 ⟨rfl, hb22'⟩; simp only [plV]; have hbq22 := (HBQ21.out).trans (hb22'.mono (HBQ21.out).size); have HBQ22 := Lib.hid hbq22; clear hb22'
            try (go_wp2_with fail)
            refine hK.out _ _ ?_ (fun hNew => ?_)
            · exact ⟨(hbq22.cell (p := ⟨sb, 0, none⟩) hsb).trans s0, (hbq22.cell (p := ⟨sb, 1, none⟩) hsb).trans s1, (hbq22.cell (p := ⟨b2, 1, none⟩) hb2l).trans v1c⟩
            clear hK K hHeld
            have hHeld := hNew
            clear hNew
            try simp only [Act.put, pB, pC, pD]
            refine tk (v := ?_) 13 rfl (by kernel_rfl) (fun _ _ _ h => h) ?_ hHeld ?_
            rotate_left
            · (intro w h; (try dsimp only at h); go_simp; try with_reducible rfl)
            try simp only [Act.put, pB, pC, pD]
            refine tk (v := ?_) 14 rfl (by kernel_rfl) (fun _ _ _ h => h) ?_ hHeld ?_
            rotate_left
            · (intro w h; (try dsimp only at h); go_simp; try with_reducible rfl)
            try simp only [Act.put, pB, pC, pD]
            refine wpAnyH_ready (rs := [18]) (by kernel_rfl) (by simp) ?_
            refine AllReadyH.cons rfl (fun K hK => ?_) AllReadyH.nil
            go_simp
            refine (place_is (w22) wh (A : Int) hw0 hw1).mono ?_; rintro e w23 ⟨rfl, hb23'⟩; simp only [plV]; have hbq23 := (HBQ22.out).trans (hb23'.mono (HBQ22.out).size); have HBQ23 := Lib.hid hbq23; clear hb23'
            try (go_wp2_with fail)
            refine hK.out _ _ ?_ (fun hNew => ?_)
            · exact ⟨(hbq23.cell (p := ⟨sb, 0, none⟩) hsb).trans s0, (hbq23.cell (p := ⟨sb, 1, none⟩) hsb).trans s1, (hbq23.cell (p := ⟨b2, 1, none⟩) hb2l).trans v1c⟩
            clear hK K hHeld
            have hHeld := hNew
            clear hNew
            try simp only [Act.put, pB, pC, pD]
            refine tk (v := ?_) 19 rfl (by kernel_rfl) (fun _ _ _ h => h) ?_ hHeld ?_
            rotate_left
            · (intro w h; (try dsimp only at h); go_simp; try with_reducible rfl)
            try simp only [Act.put, pB, pC, pD]
            refine tk (v := ?_) 20 rfl (by kernel_rfl) (fun _ _ _ h => h) ?_ hHeld ?_
            rotate_left
            · (intro w h; (try dsimp only at h); go_simp; try with_reducible rfl)
            try simp only [Act.put, pB, pC, pD]
            refine tk (v := ?_) 21 rfl (by kernel_rfl) (fun _ _ _ h => h) ?_ hHeld ?_
            rotate_left
            · (intro w h; (try dsimp only at h); go_simp; try with_reducible rfl)
            try simp only [Act.put, pB, pC, pD]
            refine tk (v := ?_) 22 rfl (by kernel_rfl) (fun _ _ _ h => h) ?_ hHeld ?_
            rotate_left
            · (intro w h; (try dsimp only at h); go_simp; try with_reducible rfl)
            try simp only [Act.put, pB, pC, pD]
            refine tk (v := ?_) 23 rfl (by kernel_rfl) (fun _ _ _ h => h) ?_ hHeld ?_
            rotate_left
            · (intro w h; (try dsimp only at h); go_simp; try with_reducible rfl)
            try simp only [Act.put, pB, pC, pD]
            refine wpAnyH_done (by kernel_rfl) ?_ _
            clear hHeld
            try simp only [List.getElem_toArray, List.getElem_cons_zero, List.getElem_cons_succ, Act.put, pB, pC, pD]
            refine NoPanic.normal ?_
            go_wp2_with fail
            go_ret
            exact ⟨rfl, by rw [HSB.out]; exact HBW.out.trans ((HB9.out.trans (HBQ23.out.mono HB9.out.size)).mono (by have := HBW.out.size; have := HSB.out; omega))⟩
    · rcases HERR.out with e | e | e
      · exact absurd e h0
      · subst e
        go_wp2_with fail
        go_ret
        exact ⟨rfl, by rw [HSB.out]; exact HBW.out⟩
      · subst e
        go_wp2_with fail
        go_ret
        exact ⟨rfl, by rw [HSB.out]; exact HBW.out⟩
end Go.Proofs.YtamjllakfgphnaaGreatDoor
namespace Go.Proofs.YtamjllakfgphnaaGreatDoor
open Go.RowKit Go.Deep
set_option linter.unusedSimpArgs false
set_option linter.unusedVariables false
instance : Inhabited A54 := ⟨⟨0, 0, 0, 0, [], false⟩⟩
section
variable {H : Type} {enc : TypeId × Value → H} {P : Program} {w : World} {base : Nat} {spare : Nat → Bool} {held : Bool}
theorem drop_one {α : Type} {cs : List α} {i : Nat} {u : α} (h : cs[i]? = some u) : (cs.drop i).take 1 = [u] := by
  obtain ⟨hi, rfl⟩ := List.getElem?_eq_some_iff.1 h
  rw [List.drop_eq_getElem_cons hi]; rfl
theorem field_get {t : TypeId} {fs : Array Field} {n : Nat} {cs : List Value} {y : DataW H × List MemPlace} (ht : P.underlying t = some (.struct fs)) (h : DataW.trod enc P w base spare held n t cs = some y)
    (i : Nat) (f : Field) (hf : fs[i]? = some f) (h1 : P.cellsOf f.type = 1) (ho : f.offset = i) (u : Value) (hu : cs[i]? = some u) : ∃ m x, DataW.trod enc P w base spare held m f.type [u] = some x := by
  obtain ⟨xs, m, _, _, _, hl, hall⟩ := DataW.trod_struct ht h
  have h2 := hall i f hf
  rw [h1, ho, drop_one hu] at h2
  have hi : i < xs.length := by rw [hl]; exact (Array.getElem?_eq_some_iff.1 hf).1
  rw [List.getElem?_eq_getElem hi] at h2
  exact ⟨m, _, h2⟩
end
theorem list6 {α : Type} {cs : List α} (h : cs.length = 6) : ∃ a b c d e f, cs = [a, b, c, d, e, f] := by
  match cs, h with
  | [a, b, c, d, e, f], _ => exact ⟨a, b, c, d, e, f, rfl⟩
theorem c1_str : Tryz.prog.cellsOf 9 = 1 := by kernel_rfl
theorem c1_bool : Tryz.prog.cellsOf 4 = 1 := by kernel_rfl
theorem c1_u8 : Tryz.prog.cellsOf 5 = 1 := by kernel_rfl
theorem c1_int : Tryz.prog.cellsOf 3 = 1 := by kernel_rfl
theorem c6_act : Tryz.prog.cellsOf 93 = 6 := by kernel_rfl
theorem c2_spot : Tryz.prog.cellsOf 43 = 2 := by kernel_rfl
theorem rowC_unit {α : Type} (f : α → List Value) : ∀ (l : List α) (us : List Unit), us.length = l.length → rowC (fun x _ => f x) l us = l.flatMap f
  | [], [], _ => rfl
  | x :: l, u :: us, h => by
    simp only [rowC, List.flatMap_cons]
    rw [rowC_unit f l us (by simpa using h)]
  | [], _ :: _, h => by simp at h
  | _ :: _, [], h => by simp at h
section
variable {H : Type} {enc : TypeId × Value → H} {w : World} {base : Nat} {spare : Nat → Bool} {held : Bool}
theorem open_str {n : Nat} {u : Value} {x : DataW H × List MemPlace} (h : DataW.trod enc Tryz.prog w base spare held n 9 [u] = some x) : ∃ t : Bs, u = .string (bs t) := by
  obtain ⟨s, h1, _, h2⟩ := DataW.trod_string Tryz.underlying9 h
  injection h1 with h1
  exact ⟨s.data.toList, by rw [bs_of]; exact h1⟩
theorem open_boo {n : Nat} {u : Value} {x : DataW H × List MemPlace} (h : DataW.trod enc Tryz.prog w base spare held n 4 [u] = some x) : ∃ b : Bool, u = .bool b := by
  obtain ⟨b, h1, _⟩ := DataW.trod_bool Tryz.underlying4 h
  injection h1 with h1
  exact ⟨b, h1⟩
theorem open_in {n : Nat} {u : Value} {x : DataW H × List MemPlace} (h : DataW.trod enc Tryz.prog w base spare held n 3 [u] = some x) : ∃ k : Int, u = .int .i64 k := by
  obtain ⟨k, h1, _, h2⟩ := DataW.trod_int Tryz.underlying3 h
  injection h1 with h1
  exact ⟨k, h1⟩
theorem open_u8 {n : Nat} {u : Value} {x : DataW H × List MemPlace} (h : DataW.trod enc Tryz.prog w base spare held n 5 [u] = some x) : ∃ k : Int, u = .int .u8 k ∧ 0 ≤ k ∧ k < 256 := by
  obtain ⟨k, h1, _, h2⟩ := DataW.trod_int Tryz.underlying5 h
  injection h1 with h1
  simp only [Lit.wf, Bool.and_eq_true, decide_eq_true_eq] at h2
  have e1 : IntKind.min .u8 = 0 := by decide
  have e2 : IntKind.max .u8 = 255 := by decide
  rw [e1, e2] at h2
  exact ⟨k, h1, h2.1, by omega⟩
theorem open_A54 {n : Nat} {cs : List Value} {y : DataW H × List MemPlace} (h : DataW.trod enc Tryz.prog w base spare held n 93 cs = some y) (hl : cs.length = 6) : ∃ (t : A54) (u : Unit), cs = a54C t ∧ A54R t := by
  obtain ⟨a, b, c, d, e, f, rfl⟩ := list6 hl
  obtain ⟨_, _, f0⟩ := field_get Tryz.underlying93 h 0 _ rfl c1_u8 rfl a rfl
  obtain ⟨_, _, f1⟩ := field_get Tryz.underlying93 h 1 _ rfl c1_u8 rfl b rfl
  obtain ⟨_, _, f2⟩ := field_get Tryz.underlying93 h 2 _ rfl c1_u8 rfl c rfl
  obtain ⟨_, _, f3⟩ := field_get Tryz.underlying93 h 3 _ rfl c1_u8 rfl d rfl
  obtain ⟨_, _, f4⟩ := field_get Tryz.underlying93 h 4 _ rfl c1_str rfl e rfl
  obtain ⟨_, _, f5⟩ := field_get Tryz.underlying93 h 5 _ rfl c1_bool rfl f rfl
  obtain ⟨k0, rfl, h0, h0'⟩ := open_u8 f0
  obtain ⟨k1, rfl, h1, h1'⟩ := open_u8 f1
  obtain ⟨k2, rfl, h2, h2'⟩ := open_u8 f2
  obtain ⟨k3, rfl, h3, h3'⟩ := open_u8 f3
  obtain ⟨t, rfl⟩ := open_str f4
  obtain ⟨z, rfl⟩ := open_boo f5
  exact ⟨⟨k0, k1, k2, k3, t, z⟩, (), rfl, h0, h1, h2, h3, h0', h1'⟩
theorem open_A54s {n : Nat} {v : Value} {y : DataW H × List MemPlace} (h : DataW.trod enc Tryz.prog w base spare held n 41 [v] = some y) : ∃ l : List A54, A54At w.heap.size w v l := by
  obtain ⟨l, us, h1, h2⟩ : ∃ l : List A54, RowRa (fun t (_ : Unit) => a54C t) (fun _ _ t => A54R t) w.heap.size w v l :=
    open_row (fun t _ => a54C_len t) (by omega) Tryz.underlying41 c6_act (fun n cs y h hl => open_A54 h hl) h
  rw [rowC_unit a54C l us h1.1] at h2
  refine ⟨l, h2, fun t ht => ?_⟩
  obtain ⟨i, hi, rfl⟩ := List.getElem_of_mem ht
  have hiv : i < us.length := by rw [h1.1]; exact hi
  exact h1.2 i _ _ (List.getElem?_eq_getElem hi) (List.getElem?_eq_getElem hiv)
set_option maxRecDepth 100000 in
theorem open_acts {r : Reach} {b0 : Nat} {v : Value} {d : DataW H} {p : List MemPlace} (hv : Value.okWide Tryz.prog w r b0 41 v) (h : DataW.Trod enc Tryz.prog w base spare held 41 v d p) : ∃ l : List A54, A54At w.heap.size w v l := by
  obtain ⟨a, len, cap, rfl⟩ := Go.WideShapes.okWide_slice Tryz.underlying41 hv
  obtain ⟨n, hf⟩ := h
  exact open_A54s (by simpa [Value.cells] using hf)
set_option maxRecDepth 100000 in
theorem open_Spot {r : Reach} {b0 : Nat} {v : Value} {d : DataW H} {p : List MemPlace} (hv : Value.okWide Tryz.prog w r b0 43 v) (h : DataW.Trod enc Tryz.prog w base spare held 43 v d p) : ∃ (wh a : Int), v = .agg #[.int .u8 wh, .int .i64 a] ∧ 0 ≤ wh ∧ wh < 256 := by
  obtain ⟨cs, rfl, hsz⟩ := Go.WideShapes.okWide_struct Tryz.underlying43 hv
  obtain ⟨c0, c1, rfl⟩ := Go.Joins.array2 (hsz.trans c2_spot)
  obtain ⟨n, hf⟩ := h
  have hf' : DataW.trod enc Tryz.prog w base spare held n 43 [c0, c1] = some (d, p) := by simpa [Value.cells] using hf
  obtain ⟨_, _, f0⟩ := field_get Tryz.underlying43 hf' 0 _ rfl c1_u8 rfl c0 rfl
  obtain ⟨_, _, f1⟩ := field_get Tryz.underlying43 hf' 1 _ rfl c1_int rfl c1 rfl
  obtain ⟨k, rfl, h1, h2⟩ := open_u8 f0
  obtain ⟨a, rfl⟩ := open_in f1
  exact ⟨k, a, rfl, h1, h2⟩
end
end Go.Proofs.YtamjllakfgphnaaGreatDoor
