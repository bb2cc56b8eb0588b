/- Walks of layer 54: the law of origins. -/
import Derived.Test.YtamjllakfgphnaaDoorW91
namespace Go.Proofs.YtamjllakfgphnaaDoor
open Go.RowKit
set_option linter.unusedSimpArgs false
set_option linter.unusedVariables false
attribute [local go_sem ↓] Go.wp_at_zero Go.wp_at_succ
theorem A54At.up {B B' : Nat} {w : World} {v : Value} {l : List A54} (h : A54At B w v l) (hb : B ≤ B') : A54At B' w v l := by
  obtain ⟨⟨A, c, e, h1, h2, h3⟩, h4⟩ := h
  refine ⟨⟨A, c, e, h1, h2, ?_⟩, h4⟩
  rcases h3 with h3 | ⟨b, o, e2, h5, h6⟩
  · exact .inl h3
  · exact .inr ⟨b, o, e2, Nat.lt_of_lt_of_le h5 hb, h6⟩
set_option maxRecDepth 100000 in
set_option maxHeartbeats 4000000 in
theorem law_torigins {w : World} {v : Value} {l : List A54} (wh a : Int) (i : Int) (h : A54At w.heap.size w v l) (hw0 : 0 ≤ wh) (hw1 : wh < 256) (hu : UseAt w) : Calls Tryd.prog 3 #[v, .agg #[.int .u8 wh, .int .i64 a], .int .i64 i] w fun e w' => e = .returned (.bool true) ∧ Below w.heap.size w w' := by
  have ha := (Below.refl w.heap.size w).alloc (Nat.le_refl _) (.cells #[.int .u8 wh, .int .i64 a] 24)
  have hz : w.heap.size < (w.alloc (.cells #[.int .u8 wh, .int .i64 a] 24)).heap.size := by simp
  have zs := Blk.new w 24 #[.int .u8 wh, .int .i64 a]
  obtain ⟨A0, c0, rfl, hc0, hcm0⟩ := h.form
  have HA := Lib.hid ha
  have HAT := Lib.hid ((h.below ha).up (Nat.le_of_lt hz))
  have HU := Lib.hid (hu.below ha)
  have HVO := Lib.hid (W54_vok l)
  have ZS := Lib.hid zs
  clear ha hu h zs
  go_enter Tryd.func3, Tryd.ntmps3
  go_wp2_with fail
  go_at_call 5
  refine (build54_is HAT.out HU.out).mono ?_
  rintro e w2 ⟨pb, lv, gx, gg, F, B', rfl, hst, hac, hvx, hgx, hF, hb2⟩
  obtain ⟨A9, c9, rfl, hc9⟩ := RowRd.form hac
  have HW54 := Lib.hid (good_W l)
  have HLE := Lib.hid (show W54 l = (fold54 (l.take 20)).l from rfl)
  generalize W54 l = L at *
  have hal := (Below.refl w2.heap.size w2).alloc (Nat.le_refl _) (.cells #[.pointer pb, .slice A9 L.length c9, .pointer (some ⟨gx, 0, none⟩), .pointer (some ⟨gg, 0, none⟩)] 30)
  have zc := Blk.new w2 30 #[.pointer pb, .slice A9 L.length c9, .pointer (some ⟨gx, 0, none⟩), .pointer (some ⟨gg, 0, none⟩)]
  have hcb : w2.heap.size < (w2.alloc (.cells #[.pointer pb, .slice A9 L.length c9, .pointer (some ⟨gx, 0, none⟩), .pointer (some ⟨gg, 0, none⟩)] 30)).heap.size := by simp
  have HX := Lib.hid (hvx.next hal)
  have HG := Lib.hid (hgx.next hal)
  have HST := Lib.hid (hst.next hal)
  have HAC := Lib.hid (RdAc.next hac hal)
  have HB2 := Lib.hid (hb2.trans (hal.mono hb2.size))
  have HUX := Lib.hid ((HU.out.below hb2).below hal)
  have ZC := Lib.hid zc
  clear hal hb2 hst hac hvx hgx zc HAT HU
  go_wp2_with fail
  generalize w2.alloc (.cells #[.pointer pb, .slice A9 L.length c9, .pointer (some ⟨gx, 0, none⟩), .pointer (some ⟨gg, 0, none⟩)] 30) = W at *
  generalize w2.heap.size = cb at *
  have ZSW := Lib.hid (ZS.out.next HB2.out hz)
  generalize hsb : w.heap.size = sb at *
  have HSB := Lib.hid hsb
  clear hsb ZS
  go_at_call 6
  refine (known54_is HUX.out).mono ?_
  rintro e w3 ⟨rfl, hb3⟩
  have HB3 := Lib.hid (HB2.out.trans (hb3.mono HB2.out.size))
  replace HX := Lib.hid (HX.out.next hb3)
  replace HG := Lib.hid (HG.out.next hb3)
  replace HST := Lib.hid (HST.out.next hb3)
  replace HAC := Lib.hid (RdAc.next HAC.out hb3)
  replace HUX := Lib.hid (HUX.out.below hb3)
  replace ZSW := Lib.hid (ZSW.out.next hb3 ZSW.out.lt)
  replace ZC := Lib.hid (ZC.out.next hb3 hcb)
  replace hcb := ZC.out.lt
  have hsb := ZSW.out.lt
  have s0 := ZSW.out.cell 0
  have s1 := ZSW.out.cell 1
  have x0 := ZC.out.cell 0
  have x1 := ZC.out.cell 1
  have x2 := ZC.out.cell 2
  have x3 := ZC.out.cell 3
  simp only [List.getElem?_toArray, List.getElem?_cons_zero, List.getElem?_cons_succ] at s0 s1 x0 x1 x2 x3
  have HBW := Lib.hid (HA.out.trans (HB3.out.mono (Nat.le_of_lt hz)))
  have hnn := spN_own wh
  clear hb3 HB2 HB3 HA hz
  go_upto_region 4 with (fail)
  obtain ⟨ro, re, hr⟩ : ∃ o e, orgR L.length (verL base54 L (spN wh)) a i = (o, e) := ⟨_, _, rfl⟩
  have HR := Lib.hid hr
  clear hr
  refine wp_region_noPanic ?_
  refine wp_region_held_drew (S := (fun (w' : World) => w'.cell? ⟨cb, 2, none⟩ = some (.pointer (some ⟨gx, 0, none⟩)) ∧ w'.cell? ⟨sb, 0, none⟩ = some (.int .u8 wh) ∧ w'.cell? ⟨sb, 1, none⟩ = some (.int .i64 a))) (by kernel_rfl) ?_ (fun hHeld => ?_)
  · exact ⟨x2, s0, s1⟩
  refine wpAnyH_take (i := 0) (v := ?_) rfl (by kernel_rfl) (by kernel_rfl) (by kernel_rfl) (fun _ _ _ h => h) (Or.inl ⟨by kernel_rfl, ?_⟩) hHeld ?_
  rotate_left
  · (intro w hSw; (try dsimp only at hSw); go_simp; try with_reducible rfl)
  try simp only [Act.put, List.setIfInBounds_toArray, List.set_cons_zero, List.set_cons_succ]
  refine wpAnyH_take (i := 1) (v := ?_) rfl (by kernel_rfl) (by kernel_rfl) (by kernel_rfl) (fun _ _ _ h => h) (Or.inl ⟨by kernel_rfl, ?_⟩) hHeld ?_
  rotate_left
  · (intro w hSw; (try dsimp only at hSw); go_simp; try with_reducible rfl)
  try simp only [Act.put, List.setIfInBounds_toArray, List.set_cons_zero, List.set_cons_succ]
  refine wpAnyH_take (i := 2) (v := ?_) rfl (by kernel_rfl) (by kernel_rfl) (by kernel_rfl) (fun _ _ _ h => h) (Or.inl ⟨by kernel_rfl, ?_⟩) hHeld ?_
  rotate_left
  · (intro w hSw; (try dsimp only at hSw); go_simp; try with_reducible rfl)
  try simp only [Act.put, List.setIfInBounds_toArray, List.set_cons_zero, List.set_cons_succ]
  refine wpAnyH_take (i := 4) (v := ?_) rfl (by kernel_rfl) (by kernel_rfl) (by kernel_rfl) (fun _ _ _ h => h) (Or.inl ⟨by kernel_rfl, ?_⟩) hHeld ?_
  rotate_left
  · (intro w hSw; (try dsimp only at hSw); go_simp; try with_reducible rfl)
  try simp only [Act.put, List.setIfInBounds_toArray, List.set_cons_zero, List.set_cons_succ]
  refine wpAnyH_ready (rs := [3]) (by kernel_rfl) (by simp) ?_
  refine AllReadyH.cons rfl (fun K hK => ?_) AllReadyH.nil
  go_simp
  refine (place_is w3.drew wh a hw0 hw1).mono ?_; rintro e w9 ⟨rfl, hb9'⟩; have hb9 := (Below.refl w3.heap.size w3).drew.trans hb9'; have HB9 := Lib.hid hb9; clear hb9'
  try (go_wp2_with fail)
  refine hK.out _ _ ?_ (fun hNew => ?_)
  · exact ⟨(hb9.cell (p := ⟨cb, 2, none⟩) hcb).trans x2, (hb9.cell (p := ⟨sb, 0, none⟩) hsb).trans s0, (hb9.cell (p := ⟨sb, 1, none⟩) hsb).trans s1⟩
  clear hK K hHeld
  have hHeld := hNew
  clear hNew
  try simp only [Act.put, List.setIfInBounds_toArray, List.set_cons_zero, List.set_cons_succ]
  refine wpAnyH_ready (rs := [5]) (by kernel_rfl) (by simp) ?_
  refine AllReadyH.cons rfl (fun K hK => ?_) AllReadyH.nil
  go_simp
  refine (origin_is (n := spN wh) a i (HX.out.next HB9.out) hnn HVO.out).mono ?_; rintro e w10 ⟨rfl, hb10⟩; rw [HR.out]; have HB10 := Lib.hid (HB9.out.trans (hb10.mono HB9.out.size)); clear hb10
  try (go_wp2_with fail)
  refine hK.out _ _ ?_ (fun hNew => ?_)
  · exact ⟨(HB10.out.cell (p := ⟨cb, 2, none⟩) hcb).trans x2, (HB10.out.cell (p := ⟨sb, 0, none⟩) hsb).trans s0, (HB10.out.cell (p := ⟨sb, 1, none⟩) hsb).trans s1⟩
  clear hK K hHeld
  have hHeld := hNew
  clear hNew
  try simp only [Act.put, List.setIfInBounds_toArray, List.set_cons_zero, List.set_cons_succ]
  refine wpAnyH_take (i := 6) (v := ?_) rfl (by kernel_rfl) (by kernel_rfl) (by kernel_rfl) (fun _ _ _ h => h) (Or.inl ⟨by kernel_rfl, ?_⟩) hHeld ?_
  rotate_left
  · (intro w hSw; (try dsimp only at hSw); go_simp; try with_reducible rfl)
  try simp only [Act.put, List.setIfInBounds_toArray, List.set_cons_zero, List.set_cons_succ]
  refine wpAnyH_take (i := 7) (v := ?_) rfl (by kernel_rfl) (by kernel_rfl) (by kernel_rfl) (fun _ _ _ h => h) (Or.inl ⟨by kernel_rfl, ?_⟩) hHeld ?_
  rotate_left
  · (intro w hSw; (try dsimp only at hSw); go_simp; try with_reducible rfl)
  try simp only [Act.put, List.setIfInBounds_toArray, List.set_cons_zero, List.set_cons_succ]
  refine wpAnyH_take (i := 8) (v := ?_) rfl (by kernel_rfl) (by kernel_rfl) (by kernel_rfl) (fun _ _ _ h => h) (Or.inl ⟨by kernel_rfl, ?_⟩) hHeld ?_
  rotate_left
  · (intro w hSw; (try dsimp only at hSw); go_simp; try with_reducible rfl)
  try simp only [Act.put, List.setIfInBounds_toArray, List.set_cons_zero, List.set_cons_succ]
  refine wpAnyH_take (i := 9) (v := ?_) rfl (by kernel_rfl) (by kernel_rfl) (by kernel_rfl) (fun _ _ _ h => h) (Or.inl ⟨by kernel_rfl, ?_⟩) hHeld ?_
  rotate_left
  · (intro w hSw; (try dsimp only at hSw); go_simp; try with_reducible rfl)
  try simp only [Act.put, List.setIfInBounds_toArray, List.set_cons_zero, List.set_cons_succ]
  refine wpAnyH_take (i := 10) (v := ?_) rfl (by kernel_rfl) (by kernel_rfl) (by kernel_rfl) (fun _ _ _ h => h) (Or.inl ⟨by kernel_rfl, ?_⟩) hHeld ?_
  rotate_left
  · (intro w hSw; (try dsimp only at hSw); go_simp; try with_reducible rfl)
  try simp only [Act.put, List.setIfInBounds_toArray, List.set_cons_zero, List.set_cons_succ]
  refine wpAnyH_done (by kernel_rfl) ?_ _
  clear hHeld
  try simp only [List.getElem_toArray, List.getElem_cons_zero, List.getElem_cons_succ, Act.put, List.setIfInBounds_toArray, List.set_cons_zero, List.set_cons_succ]
  refine NoPanic.normal ?_
  clear hb9 HB9
  replace HBW := Lib.hid (HBW.out.trans (HB10.out.mono (by have := HBW.out.size; have := HSB.out; omega)))
  replace HX := Lib.hid (HX.out.next HB10.out)
  replace ZSW := Lib.hid (ZSW.out.next HB10.out hsb)
  replace ZC := Lib.hid (ZC.out.next HB10.out hcb)
  replace hcb := ZC.out.lt
  replace hsb := ZSW.out.lt
  replace s0 := ZSW.out.cell 0
  replace s1 := ZSW.out.cell 1
  replace x0 := ZC.out.cell 0
  replace x1 := ZC.out.cell 1
  replace x2 := ZC.out.cell 2
  replace x3 := ZC.out.cell 3
  simp only [List.getElem?_toArray, List.getElem?_cons_zero, List.getElem?_cons_succ] at s0 s1 x0 x1 x2 x3
  clear HB10 HG HST HAC HUX
  generalize w10 = W at *
  go_upto_region 5 with (fail)
  refine wp_region_noPanic ?_
  refine wp_region_held_drew (S := (fun (w' : World) => w'.cell? ⟨cb, 0, none⟩ = some (.pointer pb) ∧ w'.cell? ⟨cb, 1, none⟩ = some (.slice A9 L.length c9) ∧ w'.cell? ⟨cb, 2, none⟩ = some (.pointer (some ⟨gx, 0, none⟩)) ∧ w'.cell? ⟨cb, 3, none⟩ = some (.pointer (some ⟨gg, 0, none⟩)) ∧ w'.cell? ⟨sb, 0, none⟩ = some (.int .u8 wh) ∧ w'.cell? ⟨sb, 1, none⟩ = some (.int .i64 a))) (by kernel_rfl) ?_ (fun hHeld => ?_)
  · exact ⟨x0, x1, x2, x3, s0, s1⟩
  refine wpAnyH_take (i := 0) (v := ?_) rfl (by kernel_rfl) (by kernel_rfl) (by kernel_rfl) (fun _ _ _ h => h) (Or.inl ⟨by kernel_rfl, ?_⟩) hHeld ?_
  rotate_left
  · (intro w hSw; (try dsimp only at hSw); go_simp; try with_reducible rfl)
  try simp only [Act.put, List.setIfInBounds_toArray, List.set_cons_zero, List.set_cons_succ]
  refine wpAnyH_take (i := 1) (v := ?_) rfl (by kernel_rfl) (by kernel_rfl) (by kernel_rfl) (fun _ _ _ h => h) (Or.inl ⟨by kernel_rfl, ?_⟩) hHeld ?_
  rotate_left
  · (intro w hSw; (try dsimp only at hSw); go_simp; try with_reducible rfl)
  try simp only [Act.put, List.setIfInBounds_toArray, List.set_cons_zero, List.set_cons_succ]
  refine wpAnyH_take (i := 3) (v := ?_) rfl (by kernel_rfl) (by kernel_rfl) (by kernel_rfl) (fun _ _ _ h => h) (Or.inl ⟨by kernel_rfl, ?_⟩) hHeld ?_
  rotate_left
  · (intro w hSw; (try dsimp only at hSw); go_simp; try with_reducible rfl)
  try simp only [Act.put, List.setIfInBounds_toArray, List.set_cons_zero, List.set_cons_succ]
  refine wpAnyH_ready (rs := [2]) (by kernel_rfl) (by simp) ?_
  refine AllReadyH.cons rfl (fun K hK => ?_) AllReadyH.nil
  go_simp
  refine (place_is W.drew wh a hw0 hw1).mono ?_; rintro e w11 ⟨rfl, hb9'⟩; have hb9 := (Below.refl W.heap.size W).drew.trans hb9'; have HB9 := Lib.hid hb9; clear hb9'
  try (go_wp2_with fail)
  refine hK.out _ _ ?_ (fun hNew => ?_)
  · exact ⟨(hb9.cell (p := ⟨cb, 0, none⟩) hcb).trans x0, (hb9.cell (p := ⟨cb, 1, none⟩) hcb).trans x1, (hb9.cell (p := ⟨cb, 2, none⟩) hcb).trans x2, (hb9.cell (p := ⟨cb, 3, none⟩) hcb).trans x3, (hb9.cell (p := ⟨sb, 0, none⟩) hsb).trans s0, (hb9.cell (p := ⟨sb, 1, none⟩) hsb).trans s1⟩
  clear hK K hHeld
  have hHeld := hNew
  clear hNew
  try simp only [Act.put, List.setIfInBounds_toArray, List.set_cons_zero, List.set_cons_succ]
  refine wpAnyH_ready (rs := [4]) (by kernel_rfl) (by simp) ?_
  refine AllReadyH.cons rfl (fun K hK => ?_) AllReadyH.nil
  go_simp
  refine (worigin_is (n := spN wh) a i (HX.out.next HB9.out) hnn HVO.out).mono ?_; rintro e w12 ⟨rfl, hb10⟩; rw [HR.out]; have HB12 := Lib.hid (HB9.out.trans (hb10.mono HB9.out.size)); clear hb10
  try (go_wp2_with fail)
  refine hK.out _ _ ?_ (fun hNew => ?_)
  · exact ⟨(HB12.out.cell (p := ⟨cb, 0, none⟩) hcb).trans x0, (HB12.out.cell (p := ⟨cb, 1, none⟩) hcb).trans x1, (HB12.out.cell (p := ⟨cb, 2, none⟩) hcb).trans x2, (HB12.out.cell (p := ⟨cb, 3, none⟩) hcb).trans x3, (HB12.out.cell (p := ⟨sb, 0, none⟩) hsb).trans s0, (HB12.out.cell (p := ⟨sb, 1, none⟩) hsb).trans s1⟩
  clear hK K hHeld
  have hHeld := hNew
  clear hNew
  try simp only [Act.put, List.setIfInBounds_toArray, List.set_cons_zero, List.set_cons_succ]
  refine wpAnyH_take (i := 5) (v := ?_) rfl (by kernel_rfl) (by kernel_rfl) (by kernel_rfl) (fun _ _ _ h => h) (Or.inl ⟨by kernel_rfl, ?_⟩) hHeld ?_
  rotate_left
  · (intro w hSw; (try dsimp only at hSw); go_simp; try with_reducible rfl)
  try simp only [Act.put, List.setIfInBounds_toArray, List.set_cons_zero, List.set_cons_succ]
  refine wpAnyH_take (i := 6) (v := ?_) rfl (by kernel_rfl) (by kernel_rfl) (by kernel_rfl) (fun _ _ _ h => h) (Or.inl ⟨by kernel_rfl, ?_⟩) hHeld ?_
  rotate_left
  · (intro w hSw; (try dsimp only at hSw); go_simp; try with_reducible rfl)
  try simp only [Act.put, List.setIfInBounds_toArray, List.set_cons_zero, List.set_cons_succ]
  refine wpAnyH_take (i := 7) (v := ?_) rfl (by kernel_rfl) (by kernel_rfl) (by kernel_rfl) (fun _ _ _ h => h) (Or.inl ⟨by kernel_rfl, ?_⟩) hHeld ?_
  rotate_left
  · (intro w hSw; (try dsimp only at hSw); go_simp; try with_reducible rfl)
  try simp only [Act.put, List.setIfInBounds_toArray, List.set_cons_zero, List.set_cons_succ]
  refine wpAnyH_take (i := 8) (v := ?_) rfl (by kernel_rfl) (by kernel_rfl) (by kernel_rfl) (fun _ _ _ h => h) (Or.inl ⟨by kernel_rfl, ?_⟩) hHeld ?_
  rotate_left
  · (intro w hSw; (try dsimp only at hSw); go_simp; try with_reducible rfl)
  try simp only [Act.put, List.setIfInBounds_toArray, List.set_cons_zero, List.set_cons_succ]
  refine wpAnyH_take (i := 9) (v := ?_) rfl (by kernel_rfl) (by kernel_rfl) (by kernel_rfl) (fun _ _ _ h => h) (Or.inl ⟨by kernel_rfl, ?_⟩) hHeld ?_
  rotate_left
  · (intro w hSw; (try dsimp only at hSw); go_simp; try with_reducible rfl)
  try simp only [Act.put, List.setIfInBounds_toArray, List.set_cons_zero, List.set_cons_succ]
  refine wpAnyH_done (by kernel_rfl) ?_ _
  clear hHeld
  try simp only [List.getElem_toArray, List.getElem_cons_zero, List.getElem_cons_succ, Act.put, List.setIfInBounds_toArray, List.set_cons_zero, List.set_cons_succ]
  refine NoPanic.normal ?_
  go_wp2_with fail
  go_ret
  exact ⟨rfl, by rw [HSB.out]; exact HBW.out.trans (HB12.out.mono (by have := HBW.out.size; have := HSB.out; omega))⟩
end Go.Proofs.YtamjllakfgphnaaDoor
