/- Walks of layer 54: the law of chains. -/
import Derived.Test.YtamjllakfgphnaaGreatDoorW101
import Derived.Test.YtamjllakfgphnaaGreatDoorW91
namespace Go.Proofs.YtamjllakfgphnaaGreatDoor
open Go.RowKit
set_option linter.unusedSimpArgs false
set_option linter.unusedVariables false
attribute [local go_sem ↓] Go.wp_at_zero Go.wp_at_succ
def tcRel (c : List Lk) (w : World) (i : Value) (wr : World) : Prop := ∃ k : Nat, k ≤ c.length ∧ i = .int .i64 k ∧ Below w.heap.size w wr
theorem A54At.up {B B' : Nat} {w : World} {v : Value} {l : List A54} (h : A54At B w v l) (hb : B ≤ B') : A54At B' w v l := by
  obtain ⟨⟨A, c, e, h1, h2, h3⟩, h4⟩ := h
  refine ⟨⟨A, c, e, h1, h2, ?_⟩, h4⟩
  rcases h3 with h3 | ⟨b, o, e2, h5, h6⟩
  · exact .inl h3
  · exact .inr ⟨b, o, e2, Nat.lt_of_lt_of_le h5 hb, h6⟩
set_option maxRecDepth 100000 in
set_option maxHeartbeats 4000000 in
theorem law_tchains {w : World} {v : Value} {l : List A54} (frm wh a : Int) (h : A54At w.heap.size w v l) (hw0 : 0 ≤ wh) (hw1 : wh < 256) (hu : UseAt w) : Calls Tryz.prog 4 #[v, .int .i64 frm, .agg #[.int .u8 wh, .int .i64 a]] w fun e w' => e = .returned (.bool true) ∧ Below w.heap.size w w' := by
  have ha := (Below.refl w.heap.size w).alloc (Nat.le_refl _) (.cells #[.int .u8 wh, .int .i64 a] 43)
  have hz : w.heap.size < (w.alloc (.cells #[.int .u8 wh, .int .i64 a] 43)).heap.size := by simp
  have zs := Blk.new w 43 #[.int .u8 wh, .int .i64 a]
  obtain ⟨A0, c0, rfl, hc0, hcm0⟩ := h.form
  have HA := Lib.hid ha
  have HAT := Lib.hid ((h.below ha).up (Nat.le_of_lt hz))
  have HU := Lib.hid (hu.below ha)
  have HVO := Lib.hid (W54_vok l)
  have ZS := Lib.hid zs
  clear ha hu h zs
  go_enter Tryz.func4, Tryz.ntmps4
  go_wp2_with fail
  go_at_call 13
  refine (build54_is HAT.out HU.out).mono ?_
  rintro e w2 ⟨pb, lv, gx, gg, F, B', rfl, hst, hac, hvx, hgx, hF, hb2⟩
  obtain ⟨A9, c9, rfl, hc9⟩ := RowRd.form hac
  have HW54 := Lib.hid (good_W l)
  have HLE := Lib.hid (show W54 l = (fold54 (l.take 20)).l from rfl)
  generalize W54 l = L at *
  have hal := (Below.refl w2.heap.size w2).alloc (Nat.le_refl _) (.cells #[.pointer pb, .slice A9 L.length c9, .pointer (some ⟨gx, 0, none⟩), .pointer (some ⟨gg, 0, none⟩)] 49)
  have zc := Blk.new w2 49 #[.pointer pb, .slice A9 L.length c9, .pointer (some ⟨gx, 0, none⟩), .pointer (some ⟨gg, 0, none⟩)]
  have hcb : w2.heap.size < (w2.alloc (.cells #[.pointer pb, .slice A9 L.length c9, .pointer (some ⟨gx, 0, none⟩), .pointer (some ⟨gg, 0, none⟩)] 49)).heap.size := by simp
  have HX := Lib.hid (hvx.next hal)
  have HG := Lib.hid (hgx.next hal)
  have HST := Lib.hid (hst.next hal)
  have HAC := Lib.hid (RdAc.next hac hal)
  have HB2 := Lib.hid (hb2.trans (hal.mono hb2.size))
  have HUX := Lib.hid ((HU.out.below hb2).below hal)
  have ZC := Lib.hid zc
  clear hal hb2 hst hac hvx hgx zc HAT HU
  go_wp2_with fail
  generalize w2.alloc (.cells #[.pointer pb, .slice A9 L.length c9, .pointer (some ⟨gx, 0, none⟩), .pointer (some ⟨gg, 0, none⟩)] 49) = W at *
  generalize w2.heap.size = cb at *
  have ZSW := Lib.hid (ZS.out.next HB2.out hz)
  generalize hsb : w.heap.size = sb at *
  have HSB := Lib.hid hsb
  clear hsb ZS
  go_at_call 10
  refine (known54_is HUX.out).mono ?_
  rintro e w3 ⟨rfl, hb3⟩
  have HB3 := Lib.hid (HB2.out.trans (hb3.mono HB2.out.size))
  replace HX := Lib.hid (HX.out.next hb3)
  replace HG := Lib.hid (HG.out.next hb3)
  replace HST := Lib.hid (HST.out.next hb3)
  replace HAC := Lib.hid (RdAc.next HAC.out hb3)
  replace HUX := Lib.hid (HUX.out.below hb3)
  replace ZSW := Lib.hid (ZSW.out.next hb3 ZSW.out.lt)
  replace ZC := Lib.hid (ZC.out.next hb3 hcb)
  replace hcb := ZC.out.lt
  have hsb := ZSW.out.lt
  have s0 := ZSW.out.cell 0
  have s1 := ZSW.out.cell 1
  have x0 := ZC.out.cell 0
  have x1 := ZC.out.cell 1
  have x2 := ZC.out.cell 2
  have x3 := ZC.out.cell 3
  simp only [List.getElem?_toArray, List.getElem?_cons_zero, List.getElem?_cons_succ] at s0 s1 x0 x1 x2 x3
  have HBW := Lib.hid (HA.out.trans (HB3.out.mono (Nat.le_of_lt hz)))
  have hnn := spN_own wh
  clear hb3 HB2 HB3 HA hz
  go_upto_region 4 with (fail)
  have hLL : L.length ≤ 20 := by
    have := HW54.out.len
    rw [← HLE.out] at this
    omega
  have HRD := Lib.hid (show ∀ x ∈ L, x.reads.length ≤ 10 from fun x hx => (HW54.out.all x (by rw [← HLE.out]; exact hx)).1.2.2.2.1)
  obtain ⟨ro, re, hr⟩ : ∃ o e, orgR L.length (verL base54 L (spN wh)) a L.length = (o, e) := ⟨_, _, rfl⟩
  have HR := Lib.hid hr
  obtain ⟨TC, hTC⟩ : ∃ t, tchR L.length (chainS L frm) (ro, re) frm = t := ⟨_, rfl⟩
  have HTC := Lib.hid hTC
  clear hr hTC
  refine wp_region_noPanic ?_
  refine wp_region_held_drew (S := (fun (w' : World) => w'.cell? ⟨cb, 1, none⟩ = some (.slice A9 L.length c9) ∧ w'.cell? ⟨cb, 2, none⟩ = some (.pointer (some ⟨gx, 0, none⟩)) ∧ w'.cell? ⟨cb, 3, none⟩ = some (.pointer (some ⟨gg, 0, none⟩)) ∧ w'.cell? ⟨sb, 0, none⟩ = some (.int .u8 wh) ∧ w'.cell? ⟨sb, 1, none⟩ = some (.int .i64 a))) (by kernel_rfl) ?_ (fun hHeld => ?_)
  · exact ⟨x1, x2, x3, s0, s1⟩
  refine wpAnyH_take (i := 0) (v := ?_) rfl (by kernel_rfl) (by kernel_rfl) (by kernel_rfl) (fun _ _ _ h => h) (Or.inl ⟨by kernel_rfl, ?_⟩) hHeld ?_
  rotate_left
  · (intro w hSw; (try dsimp only at hSw); go_simp; try with_reducible rfl)
  try simp only [Act.put, List.setIfInBounds_toArray, List.set_cons_zero, List.set_cons_succ]
  refine wpAnyH_take (i := 1) (v := ?_) rfl (by kernel_rfl) (by kernel_rfl) (by kernel_rfl) (fun _ _ _ h => h) (Or.inl ⟨by kernel_rfl, ?_⟩) hHeld ?_
  rotate_left
  · (intro w hSw; (try dsimp only at hSw); go_simp; try with_reducible rfl)
  try simp only [Act.put, List.setIfInBounds_toArray, List.set_cons_zero, List.set_cons_succ]
  refine wpAnyH_take (i := 2) (v := ?_) rfl (by kernel_rfl) (by kernel_rfl) (by kernel_rfl) (fun _ _ _ h => h) (Or.inl ⟨by kernel_rfl, ?_⟩) hHeld ?_
  rotate_left
  · (intro w hSw; (try dsimp only at hSw); go_simp; try with_reducible rfl)
  try simp only [Act.put, List.setIfInBounds_toArray, List.set_cons_zero, List.set_cons_succ]
  refine wpAnyH_take (i := 3) (v := ?_) rfl (by kernel_rfl) (by kernel_rfl) (by kernel_rfl) (fun _ _ _ h => h) (Or.inl ⟨by kernel_rfl, ?_⟩) hHeld ?_
  rotate_left
  · (intro w hSw; (try dsimp only at hSw); go_simp; try with_reducible rfl)
  try simp only [Act.put, List.setIfInBounds_toArray, List.set_cons_zero, List.set_cons_succ]
  refine wpAnyH_take (i := 4) (v := ?_) rfl (by kernel_rfl) (by kernel_rfl) (by kernel_rfl) (fun _ _ _ h => h) (Or.inl ⟨by kernel_rfl, ?_⟩) hHeld ?_
  rotate_left
  · (intro w hSw; (try dsimp only at hSw); go_simp; try with_reducible rfl)
  try simp only [Act.put, List.setIfInBounds_toArray, List.set_cons_zero, List.set_cons_succ]
  refine wpAnyH_take (i := 5) (v := ?_) rfl (by kernel_rfl) (by kernel_rfl) (by kernel_rfl) (fun _ _ _ h => h) (Or.inl ⟨by kernel_rfl, ?_⟩) hHeld ?_
  rotate_left
  · (intro w hSw; (try dsimp only at hSw); go_simp; try with_reducible rfl)
  try simp only [Act.put, List.setIfInBounds_toArray, List.set_cons_zero, List.set_cons_succ]
  refine wpAnyH_take (i := 7) (v := ?_) rfl (by kernel_rfl) (by kernel_rfl) (by kernel_rfl) (fun _ _ _ h => h) (Or.inl ⟨by kernel_rfl, ?_⟩) hHeld ?_
  rotate_left
  · (intro w hSw; (try dsimp only at hSw); go_simp; try with_reducible rfl)
  try simp only [Act.put, List.setIfInBounds_toArray, List.set_cons_zero, List.set_cons_succ]
  refine wpAnyH_take (i := 8) (v := ?_) rfl (by kernel_rfl) (by kernel_rfl) (by kernel_rfl) (fun _ _ _ h => h) (Or.inl ⟨by kernel_rfl, ?_⟩) hHeld ?_
  rotate_left
  · (intro w hSw; (try dsimp only at hSw); go_simp; try with_reducible rfl)
  try simp only [Act.put, List.setIfInBounds_toArray, List.set_cons_zero, List.set_cons_succ]
  refine wpAnyH_take (i := 9) (v := ?_) rfl (by kernel_rfl) (by kernel_rfl) (by kernel_rfl) (fun _ _ _ h => h) (Or.inl ⟨by kernel_rfl, ?_⟩) hHeld ?_
  rotate_left
  · (intro w hSw; (try dsimp only at hSw); go_simp; try with_reducible rfl)
  try simp only [Act.put, List.setIfInBounds_toArray, List.set_cons_zero, List.set_cons_succ]
  refine wpAnyH_ready (rs := [6]) (by kernel_rfl) (by simp) ?_
  refine AllReadyH.cons rfl (fun K hK => ?_) AllReadyH.nil
  go_simp
  refine (place_is w3.drew wh a hw0 hw1).mono ?_; rintro e w9 ⟨rfl, hb9'⟩; have hb9 := (Below.refl w3.heap.size w3).drew.trans hb9'; have HB9 := Lib.hid hb9; clear hb9'
  try (go_wp2_with fail)
  refine hK.out _ _ ?_ (fun hNew => ?_)
  · exact ⟨(hb9.cell (p := ⟨cb, 1, none⟩) hcb).trans x1, (hb9.cell (p := ⟨cb, 2, none⟩) hcb).trans x2, (hb9.cell (p := ⟨cb, 3, none⟩) hcb).trans x3, (hb9.cell (p := ⟨sb, 0, none⟩) hsb).trans s0, (hb9.cell (p := ⟨sb, 1, none⟩) hsb).trans s1⟩
  clear hK K hHeld
  have hHeld := hNew
  clear hNew
  try simp only [Act.put, List.setIfInBounds_toArray, List.set_cons_zero, List.set_cons_succ]
  refine wpAnyH_ready (rs := [10]) (by kernel_rfl) (by simp) ?_
  refine AllReadyH.cons rfl (fun K hK => ?_) AllReadyH.nil
  go_simp
  refine (tchain_is (n := spN wh) frm a (L.length : Int) (HX.out.next HB9.out) (HG.out.next HB9.out) hnn HVO.out (by omega) HRD.out).mono ?_; rintro e w10 ⟨v7, rfl, hrd10, hb10⟩; rw [HR.out, HTC.out] at hrd10; rw [HR.out, HTC.out]; have HRL := Lib.hid hrd10; have HB10 := Lib.hid (HB9.out.trans (hb10.mono HB9.out.size)); clear hrd10 hb10
  try (go_wp2_with fail)
  refine hK.out _ _ ?_ (fun hNew => ?_)
  · exact ⟨(HB10.out.cell (p := ⟨cb, 1, none⟩) hcb).trans x1, (HB10.out.cell (p := ⟨cb, 2, none⟩) hcb).trans x2, (HB10.out.cell (p := ⟨cb, 3, none⟩) hcb).trans x3, (HB10.out.cell (p := ⟨sb, 0, none⟩) hsb).trans s0, (HB10.out.cell (p := ⟨sb, 1, none⟩) hsb).trans s1⟩
  clear hK K hHeld
  have hHeld := hNew
  clear hNew
  try simp only [Act.put, List.setIfInBounds_toArray, List.set_cons_zero, List.set_cons_succ]
  refine wpAnyH_take (i := 11) (v := ?_) rfl (by kernel_rfl) (by kernel_rfl) (by kernel_rfl) (fun _ _ _ h => h) (Or.inl ⟨by kernel_rfl, ?_⟩) hHeld ?_
  rotate_left
  · (intro w hSw; (try dsimp only at hSw); go_simp; try with_reducible rfl)
  try simp only [Act.put, List.setIfInBounds_toArray, List.set_cons_zero, List.set_cons_succ]
  refine wpAnyH_take (i := 12) (v := ?_) rfl (by kernel_rfl) (by kernel_rfl) (by kernel_rfl) (fun _ _ _ h => h) (Or.inl ⟨by kernel_rfl, ?_⟩) hHeld ?_
  rotate_left
  · (intro w hSw; (try dsimp only at hSw); go_simp; try with_reducible rfl)
  try simp only [Act.put, List.setIfInBounds_toArray, List.set_cons_zero, List.set_cons_succ]
  refine wpAnyH_take (i := 13) (v := ?_) rfl (by kernel_rfl) (by kernel_rfl) (by kernel_rfl) (fun _ _ _ h => h) (Or.inl ⟨by kernel_rfl, ?_⟩) hHeld ?_
  rotate_left
  · (intro w hSw; (try dsimp only at hSw); go_simp; try with_reducible rfl)
  try simp only [Act.put, List.setIfInBounds_toArray, List.set_cons_zero, List.set_cons_succ]
  refine wpAnyH_take (i := 14) (v := ?_) rfl (by kernel_rfl) (by kernel_rfl) (by kernel_rfl) (fun _ _ _ h => h) (Or.inl ⟨by kernel_rfl, ?_⟩) hHeld ?_
  rotate_left
  · (intro w hSw; (try dsimp only at hSw); go_simp; try with_reducible rfl)
  try simp only [Act.put, List.setIfInBounds_toArray, List.set_cons_zero, List.set_cons_succ]
  refine wpAnyH_take (i := 15) (v := ?_) rfl (by kernel_rfl) (by kernel_rfl) (by kernel_rfl) (fun _ _ _ h => h) (Or.inl ⟨by kernel_rfl, ?_⟩) hHeld ?_
  rotate_left
  · (intro w hSw; (try dsimp only at hSw); go_simp; try with_reducible rfl)
  try simp only [Act.put, List.setIfInBounds_toArray, List.set_cons_zero, List.set_cons_succ]
  refine wpAnyH_done (by kernel_rfl) ?_ _
  clear hHeld
  try simp only [List.getElem_toArray, List.getElem_cons_zero, List.getElem_cons_succ, Act.put, List.setIfInBounds_toArray, List.set_cons_zero, List.set_cons_succ]
  refine NoPanic.normal ?_
  clear hb9 HB9
  replace HBW := Lib.hid (HBW.out.trans (HB10.out.mono (by have := HBW.out.size; have := HSB.out; omega)))
  replace HX := Lib.hid (HX.out.next HB10.out)
  replace HG := Lib.hid (HG.out.next HB10.out)
  replace ZSW := Lib.hid (ZSW.out.next HB10.out hsb)
  replace ZC := Lib.hid (ZC.out.next HB10.out hcb)
  replace hcb := ZC.out.lt
  replace hsb := ZSW.out.lt
  replace s0 := ZSW.out.cell 0
  replace s1 := ZSW.out.cell 1
  replace x0 := ZC.out.cell 0
  replace x1 := ZC.out.cell 1
  replace x2 := ZC.out.cell 2
  replace x3 := ZC.out.cell 3
  simp only [List.getElem?_toArray, List.getElem?_cons_zero, List.getElem?_cons_succ] at s0 s1 x0 x1 x2 x3
  obtain ⟨A7, c7, rfl, hc7⟩ := RdP.form HRL.out
  clear HB10 HST HAC HUX
  generalize w10 = W at *
  go_upto_region 5 with (fail)
  refine wp_region_noPanic ?_
  refine wp_region_held_drew (S := (fun (w' : World) => w'.cell? ⟨cb, 0, none⟩ = some (.pointer pb) ∧ w'.cell? ⟨cb, 1, none⟩ = some (.slice A9 L.length c9) ∧ w'.cell? ⟨cb, 2, none⟩ = some (.pointer (some ⟨gx, 0, none⟩)) ∧ w'.cell? ⟨cb, 3, none⟩ = some (.pointer (some ⟨gg, 0, none⟩)) ∧ w'.cell? ⟨sb, 0, none⟩ = some (.int .u8 wh) ∧ w'.cell? ⟨sb, 1, none⟩ = some (.int .i64 a))) (by kernel_rfl) ?_ (fun hHeld => ?_)
  · exact ⟨x0, x1, x2, x3, s0, s1⟩
  refine wpAnyH_take (i := 0) (v := ?_) rfl (by kernel_rfl) (by kernel_rfl) (by kernel_rfl) (fun _ _ _ h => h) (Or.inl ⟨by kernel_rfl, ?_⟩) hHeld ?_
  rotate_left
  · (intro w hSw; (try dsimp only at hSw); go_simp; try with_reducible rfl)
  try simp only [Act.put, List.setIfInBounds_toArray, List.set_cons_zero, List.set_cons_succ]
  refine wpAnyH_take (i := 1) (v := ?_) rfl (by kernel_rfl) (by kernel_rfl) (by kernel_rfl) (fun _ _ _ h => h) (Or.inl ⟨by kernel_rfl, ?_⟩) hHeld ?_
  rotate_left
  · (intro w hSw; (try dsimp only at hSw); go_simp; try with_reducible rfl)
  try simp only [Act.put, List.setIfInBounds_toArray, List.set_cons_zero, List.set_cons_succ]
  refine wpAnyH_take (i := 3) (v := ?_) rfl (by kernel_rfl) (by kernel_rfl) (by kernel_rfl) (fun _ _ _ h => h) (Or.inl ⟨by kernel_rfl, ?_⟩) hHeld ?_
  rotate_left
  · (intro w hSw; (try dsimp only at hSw); go_simp; try with_reducible rfl)
  try simp only [Act.put, List.setIfInBounds_toArray, List.set_cons_zero, List.set_cons_succ]
  refine wpAnyH_take (i := 4) (v := ?_) rfl (by kernel_rfl) (by kernel_rfl) (by kernel_rfl) (fun _ _ _ h => h) (Or.inl ⟨by kernel_rfl, ?_⟩) hHeld ?_
  rotate_left
  · (intro w hSw; (try dsimp only at hSw); go_simp; try with_reducible rfl)
  try simp only [Act.put, List.setIfInBounds_toArray, List.set_cons_zero, List.set_cons_succ]
  refine wpAnyH_take (i := 5) (v := ?_) rfl (by kernel_rfl) (by kernel_rfl) (by kernel_rfl) (fun _ _ _ h => h) (Or.inl ⟨by kernel_rfl, ?_⟩) hHeld ?_
  rotate_left
  · (intro w hSw; (try dsimp only at hSw); go_simp; try with_reducible rfl)
  try simp only [Act.put, List.setIfInBounds_toArray, List.set_cons_zero, List.set_cons_succ]
  refine wpAnyH_ready (rs := [2]) (by kernel_rfl) (by simp) ?_
  refine AllReadyH.cons rfl (fun K hK => ?_) AllReadyH.nil
  go_simp
  refine (place_is W.drew wh a hw0 hw1).mono ?_; rintro e w11 ⟨rfl, hb9'⟩; have hb9 := (Below.refl W.heap.size W).drew.trans hb9'; have HB9 := Lib.hid hb9; clear hb9'
  try (go_wp2_with fail)
  refine hK.out _ _ ?_ (fun hNew => ?_)
  · exact ⟨(hb9.cell (p := ⟨cb, 0, none⟩) hcb).trans x0, (hb9.cell (p := ⟨cb, 1, none⟩) hcb).trans x1, (hb9.cell (p := ⟨cb, 2, none⟩) hcb).trans x2, (hb9.cell (p := ⟨cb, 3, none⟩) hcb).trans x3, (hb9.cell (p := ⟨sb, 0, none⟩) hsb).trans s0, (hb9.cell (p := ⟨sb, 1, none⟩) hsb).trans s1⟩
  clear hK K hHeld
  have hHeld := hNew
  clear hNew
  try simp only [Act.put, List.setIfInBounds_toArray, List.set_cons_zero, List.set_cons_succ]
  refine wpAnyH_ready (rs := [6]) (by kernel_rfl) (by simp) ?_
  refine AllReadyH.cons rfl (fun K hK => ?_) AllReadyH.nil
  go_simp
  refine (worigin_is (n := spN wh) a (L.length : Int) (HX.out.next HB9.out) hnn HVO.out).mono ?_; rintro e w12 ⟨rfl, hb10⟩; rw [HR.out]; have HB12 := Lib.hid (HB9.out.trans (hb10.mono HB9.out.size)); clear hb10
  try (go_wp2_with fail)
  refine hK.out _ _ ?_ (fun hNew => ?_)
  · exact ⟨(HB12.out.cell (p := ⟨cb, 0, none⟩) hcb).trans x0, (HB12.out.cell (p := ⟨cb, 1, none⟩) hcb).trans x1, (HB12.out.cell (p := ⟨cb, 2, none⟩) hcb).trans x2, (HB12.out.cell (p := ⟨cb, 3, none⟩) hcb).trans x3, (HB12.out.cell (p := ⟨sb, 0, none⟩) hsb).trans s0, (HB12.out.cell (p := ⟨sb, 1, none⟩) hsb).trans s1⟩
  clear hK K hHeld
  have hHeld := hNew
  clear hNew
  try simp only [Act.put, List.setIfInBounds_toArray, List.set_cons_zero, List.set_cons_succ]
  refine wpAnyH_take (i := 7) (v := ?_) rfl (by kernel_rfl) (by kernel_rfl) (by kernel_rfl) (fun _ _ _ h => h) (Or.inl ⟨by kernel_rfl, ?_⟩) hHeld ?_
  rotate_left
  · (intro w hSw; (try dsimp only at hSw); go_simp; try with_reducible rfl)
  try simp only [Act.put, List.setIfInBounds_toArray, List.set_cons_zero, List.set_cons_succ]
  refine wpAnyH_take (i := 8) (v := ?_) rfl (by kernel_rfl) (by kernel_rfl) (by kernel_rfl) (fun _ _ _ h => h) (Or.inl ⟨by kernel_rfl, ?_⟩) hHeld ?_
  rotate_left
  · (intro w hSw; (try dsimp only at hSw); go_simp; try with_reducible rfl)
  try simp only [Act.put, List.setIfInBounds_toArray, List.set_cons_zero, List.set_cons_succ]
  refine wpAnyH_take (i := 9) (v := ?_) rfl (by kernel_rfl) (by kernel_rfl) (by kernel_rfl) (fun _ _ _ h => h) (Or.inl ⟨by kernel_rfl, ?_⟩) hHeld ?_
  rotate_left
  · (intro w hSw; (try dsimp only at hSw); go_simp; try with_reducible rfl)
  try simp only [Act.put, List.setIfInBounds_toArray, List.set_cons_zero, List.set_cons_succ]
  refine wpAnyH_take (i := 10) (v := ?_) rfl (by kernel_rfl) (by kernel_rfl) (by kernel_rfl) (fun _ _ _ h => h) (Or.inl ⟨by kernel_rfl, ?_⟩) hHeld ?_
  rotate_left
  · (intro w hSw; (try dsimp only at hSw); go_simp; try with_reducible rfl)
  try simp only [Act.put, List.setIfInBounds_toArray, List.set_cons_zero, List.set_cons_succ]
  refine wpAnyH_take (i := 11) (v := ?_) rfl (by kernel_rfl) (by kernel_rfl) (by kernel_rfl) (fun _ _ _ h => h) (Or.inl ⟨by kernel_rfl, ?_⟩) hHeld ?_
  rotate_left
  · (intro w hSw; (try dsimp only at hSw); go_simp; try with_reducible rfl)
  try simp only [Act.put, List.setIfInBounds_toArray, List.set_cons_zero, List.set_cons_succ]
  refine wpAnyH_done (by kernel_rfl) ?_ _
  clear hHeld
  try simp only [List.getElem_toArray, List.getElem_cons_zero, List.getElem_cons_succ, Act.put, List.setIfInBounds_toArray, List.set_cons_zero, List.set_cons_succ]
  refine NoPanic.normal ?_
  clear hb9 HB9
  replace HBW := Lib.hid (HBW.out.trans (HB12.out.mono (by have := HBW.out.size; have := HSB.out; omega)))
  replace HX := Lib.hid (HX.out.next HB12.out)
  replace HG := Lib.hid (HG.out.next HB12.out)
  replace HRL := Lib.hid (RdP.next HRL.out HB12.out)
  replace ZSW := Lib.hid (ZSW.out.next HB12.out hsb)
  replace ZC := Lib.hid (ZC.out.next HB12.out hcb)
  replace hcb := ZC.out.lt
  replace hsb := ZSW.out.lt
  replace s0 := ZSW.out.cell 0
  replace s1 := ZSW.out.cell 1
  replace x0 := ZC.out.cell 0
  replace x1 := ZC.out.cell 1
  replace x2 := ZC.out.cell 2
  replace x3 := ZC.out.cell 3
  simp only [List.getElem?_toArray, List.getElem?_cons_zero, List.getElem?_cons_succ] at s0 s1 x0 x1 x2 x3
  clear HB12
  generalize w12 = W2 at *
  by_cases h0 : re = 0
  · subst h0
    by_cases h1 : frm < 0
    · have HT := Lib.hid (show TC = (2, []) by rw [← HTC.out]; unfold tchR; rw [if_neg (by simp), if_pos (.inl h1)])
      have d1 : decide (frm < 0) = true := decide_eq_true h1
      clear h1
      rw [HT.out]
      go_wp2_with fail
      go_ret
      exact ⟨rfl, by rw [HSB.out]; exact HBW.out⟩
    · have d1 : decide (frm < 0) = false := decide_eq_false h1
      by_cases h2 : (L.length : Int) ≤ frm
      · have HT := Lib.hid (show TC = (2, []) by rw [← HTC.out]; unfold tchR; rw [if_neg (by simp), if_pos (.inr h2)])
        have d2 : decide ((L.length : Int) ≤ frm) = true := decide_eq_true h2
        clear h1 h2
        rw [HT.out]
        go_wp2_with fail
        go_ret
        exact ⟨rfl, by rw [HSB.out]; exact HBW.out⟩
      · have d2 : decide ((L.length : Int) ≤ frm) = false := decide_eq_false h2
        have HT := Lib.hid (show TC = (match chainS L frm ro with | none => (8, []) | some c => (0, c)) by rw [← HTC.out]; unfold tchR; rw [if_neg (by simp), if_neg (by omega)]; rfl)
        have HCH := Lib.hid (chain_is frm ro HG.out (by omega) HRD.out)
        have HPOS := Lib.hid (show ∀ c, chainS L frm ro = some c → ¬ ro < 0 from fun c hc => by
          unfold chainS at hc
          split at hc
          · rename_i h; omega
          · cases hc)
        obtain ⟨cs, hcs⟩ : ∃ cs, chainS L frm ro = cs := ⟨_, rfl⟩
        rw [hcs] at HT HCH HPOS
        clear hcs h1 h2
        cases cs with
        | none =>
          have HT2 := Lib.hid (show TC = (8, []) from HT.out)
          rw [HT2.out]
          by_cases h3 : ro < 0
          · have d3 : decide (ro < 0) = true := decide_eq_true h3
            have H0 : Hid (Below W2.heap.size W2 W2) := Lib.hid (Below.refl _ _)
            go_wp2_with (go_at_call 17; refine HCH.out.mono ?_; rintro e w13 ⟨v13, rfl, hrd13, hb13⟩; simp only [Option.isSome]; have HB13 := Lib.hid (HBW.out.trans (hb13.mono (by have := HBW.out.size; have := HSB.out; omega))); clear hrd13 hb13)
            go_loopw [15] (fun i wr => i = .int .i64 0 ∧ wr = w13) (fun _ _ => 0)
            case atStart => exact ⟨rfl, rfl⟩
            case round =>
              obtain ⟨rfl, rfl⟩ := hrel
              go_wp2_with fail
              go_ret
              exact ⟨rfl, by rw [HSB.out]; exact HB13.out⟩
          · have d3 : decide (ro < 0) = false := decide_eq_false h3
            have H0 : Hid (Below W2.heap.size W2 W2) := Lib.hid (Below.refl _ _)
            go_wp2_with (go_at_call 17; refine HCH.out.mono ?_; rintro e w13 ⟨v13, rfl, hrd13, hb13⟩; simp only [Option.isSome]; have HB13 := Lib.hid (HBW.out.trans (hb13.mono (by have := HBW.out.size; have := HSB.out; omega))); clear hrd13 hb13)
            go_loopw [15] (fun i wr => i = .int .i64 0 ∧ wr = w13) (fun _ _ => 0)
            case atStart => exact ⟨rfl, rfl⟩
            case round =>
              obtain ⟨rfl, rfl⟩ := hrel
              go_wp2_with fail
              go_ret
              exact ⟨rfl, by rw [HSB.out]; exact HB13.out⟩
        | some c =>
          have d3 : decide (ro < 0) = false := decide_eq_false (HPOS.out c rfl)
          have HT2 := Lib.hid (show TC = (0, c) from HT.out)
          have HRLc := Lib.hid (show RdLk W2 (.slice A7 c.length c7) c from by have h9 := HRL.out; rw [HT2.out] at h9; exact h9)
          rw [HT2.out]
          go_wp2_with (go_at_call 17; refine HCH.out.mono ?_; rintro e w13 ⟨v13, rfl, hrd13, hb13⟩; simp only [Option.isSome]; obtain ⟨A13, c13, rfl, hc13⟩ := RdP.form hrd13; have HRD13 := Lib.hid hrd13; have HRL13 := Lib.hid (RdP.next HRLc.out hb13); have HB13 := Lib.hid (HBW.out.trans (hb13.mono (by have := HBW.out.size; have := HSB.out; omega))); clear hrd13 hb13)
          have H0 : Hid (tcRel c w13 (.int .i64 (0 : Nat)) w13) := Lib.hid ⟨0, Nat.zero_le _, rfl, Below.refl _ _⟩
          simp only [Option.getD] at *
          go_loopw [15] (fun i wr => tcRel c w13 i wr) (fun i _ => c.length - (intOf i).toNat)
          case atStart => exact H0.out
          case round =>
            clear H0
            obtain ⟨k, hkl, rfl, hbw⟩ := hrel
            have HB14 := Lib.hid hbw
            clear hbw
            by_cases hk : k < c.length
            · have hcl : c.length ≤ 9223372036854775807 := by
                obtain ⟨_, _, cc, _, h1, h2, _⟩ := Rd.at_ (show Rd _ _ _ _ _ from HRD13.out) (by omega)
                unfold maxLen at h2
                omega
              have j1 : (0 : Int) ≤ (k : Int) := by omega
              have j2 : (k : Int) < (c.length : Int) := by omega
              have j3 : decide ((k : Int) < (c.length : Int)) = true := decide_eq_true j2
              have j4 : decide ((c.length : Int) ≤ (k : Int)) = false := decide_eq_false (by omega)
              have j5 : decide (c.length ≤ k) = false := decide_eq_false (by omega)
              have j6 : decide (k < c.length) = true := decide_eq_true hk
              obtain ⟨b1, o1, hbe, hb1, u0, u1, u2, u3, u4, u5, u6⟩ := RdLk.piece (show RdLk wr (.slice A7 c.length c7) c from RdP.next HRL13.out HB14.out) hk
              subst hbe
              obtain ⟨b2, o2, hbe, hb2, v0, v1, v2, v3, v4, v5, v6⟩ := RdLk.piece (show RdLk wr (.slice A13 c.length c13) c from RdP.next HRD13.out HB14.out) hk
              subst hbe
              obtain ⟨x, hx⟩ : ∃ x, c[k] = x := ⟨_, rfl⟩
              rw [hx] at u0 u1 u2 u3 u4 u5 u6 v0 v1 v2 v3 v4 v5 v6
              clear hx
              go_upto_region 17 with (fail)
              go_quiet (fail)
              go_wp2_with fail
              go_roundw
              case rel => exact ⟨k + 1, hk, by go_num, HB14.out.trans (below_drewN (Below.refl _ _) nq)⟩
              case measure => simp [intOf]; omega
            · have j3 : decide ((k : Int) < (c.length : Int)) = false := decide_eq_false (by omega)
              have j6 : decide (k < c.length) = false := decide_eq_false hk
              go_wp2_with fail
              go_ret
              exact ⟨rfl, by rw [HSB.out]; exact HB13.out.trans (HB14.out.mono (by have := HB13.out.size; have := HSB.out; omega))⟩
  · have HT := Lib.hid (show TC = (re, []) by rw [← HTC.out]; unfold tchR; rw [if_pos h0])
    have d0 : (re != 0) = true := by rw [bne_iff_ne]; exact h0
    have d0' : (re == 0) = false := by rw [beq_eq_false_iff_ne]; exact h0
    clear h0
    rw [HT.out]
    go_wp2_with fail
    go_ret
    exact ⟨rfl, by rw [HSB.out]; exact HBW.out⟩
end Go.Proofs.YtamjllakfgphnaaGreatDoor
