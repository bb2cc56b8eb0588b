/- Walks of layer 54: the example. -/
import Derived.Test.YtamjllakfgphnaaGreatDoorW85
import Derived.Test.YtamjllakfgphnaaGreatDoorW90
namespace Go.Proofs.YtamjllakfgphnaaGreatDoor
open Go.RowKit
set_option linter.unusedSimpArgs false
set_option linter.unusedVariables false
attribute [local go_sem ↓] Go.wp_at_zero Go.wp_at_succ
def acts3 : List A54 := [⟨0, 1, 0, 1, [97, 98], false⟩, ⟨0, 2, 0, 2, [120], false⟩, ⟨0, 1, 0, 1, [97, 99], false⟩]
theorem W54_vok (l : List A54) : VOk (W54 l) := ⟨fun a ha => ((good_W l).all a ha).2.1, fun a ha => ((good_W l).all a ha).1, by have := (good_W l).len; unfold W54; omega⟩
theorem obA_own : OwnE obA := ob54_own _ (by simp [ob54])
theorem known_a : orgR (W54 acts3).length (verL base54 (W54 acts3) obA) 0 3 = (0, 0) := by decide +kernel
theorem known_b : orgR (W54 acts3).length (verL base54 (W54 acts3) obA) 1 3 = (2, 0) := by decide +kernel
theorem acts3_at (w : World) : A54At (w.alloc (.cells (acts3.flatMap a54C).toArray 93)).heap.size (w.alloc (.cells (acts3.flatMap a54C).toArray 93)) (.slice (some ⟨w.heap.size, 0, none⟩) 3 3) acts3 := by
  refine ⟨⟨some ⟨w.heap.size, 0, none⟩, 3, rfl, Nat.le_refl _, by unfold maxLen; omega, .inr ⟨w.heap.size, 0, rfl, by simp, fun j u hu => ?_⟩⟩, fun a ha => ?_⟩
  · rw [Nat.zero_add, (Blk.new w 93 (acts3.flatMap a54C).toArray).cell j, List.getElem?_toArray]
    exact hu
  · simp only [acts3, List.mem_cons, List.not_mem_nil, or_false] at ha
    rcases ha with rfl | rfl | rfl <;> exact ⟨by decide, by decide, by decide, by decide, by decide, by decide⟩
set_option maxRecDepth 100000 in
set_option maxHeartbeats 2000000 in
theorem known54_is {w : World} (hu : UseAt w) : Calls Tryz.prog 10 #[] w fun e w' => e = .returned (.bool true) ∧ Below w.heap.size w w' := by
  have ha := (Below.refl w.heap.size w).alloc (Nat.le_refl _) (.cells #[.int .u8 0, .int .u8 1, .int .u8 0, .int .u8 1, .string (bs [97, 98]), .bool false, .int .u8 0, .int .u8 2, .int .u8 0, .int .u8 2, .string (bs [120]), .bool false, .int .u8 0, .int .u8 1, .int .u8 0, .int .u8 1, .string (bs [97, 99]), .bool false] 93)
  have HA := Lib.hid ha
  have HAT : Hid (A54At (w.alloc (.cells #[.int .u8 0, .int .u8 1, .int .u8 0, .int .u8 1, .string (bs [97, 98]), .bool false, .int .u8 0, .int .u8 2, .int .u8 0, .int .u8 2, .string (bs [120]), .bool false, .int .u8 0, .int .u8 1, .int .u8 0, .int .u8 1, .string (bs [97, 99]), .bool false] 93)).heap.size (w.alloc (.cells #[.int .u8 0, .int .u8 1, .int .u8 0, .int .u8 1, .string (bs [97, 98]), .bool false, .int .u8 0, .int .u8 2, .int .u8 0, .int .u8 2, .string (bs [120]), .bool false, .int .u8 0, .int .u8 1, .int .u8 0, .int .u8 1, .string (bs [97, 99]), .bool false] 93)) (.slice (some ⟨w.heap.size, 0, none⟩) 3 3) acts3) := Lib.hid (acts3_at w)
  have HU := Lib.hid (hu.below ha)
  have KA := Lib.hid known_a
  have KB := Lib.hid known_b
  have HVO := Lib.hid (W54_vok acts3)
  clear ha hu
  go_enter Tryz.func10, Tryz.ntmps10
  go_wp2_with fail
  go_at_call 13
  refine (build54_is HAT.out HU.out).mono ?_
  rintro e w2 ⟨pb, lv, gx, gg, F, B', rfl, hst, hac, hvx, hgx, hF, hb2⟩
  have hal := (Below.refl w2.heap.size w2).alloc (Nat.le_refl _) (.cells #[.pointer pb, lv, .pointer (some ⟨gx, 0, none⟩), .pointer (some ⟨gg, 0, none⟩)] 49)
  have zc := Blk.new w2 49 #[.pointer pb, lv, .pointer (some ⟨gx, 0, none⟩), .pointer (some ⟨gg, 0, none⟩)]
  have HX := Lib.hid (hvx.next hal)
  have HB2 := Lib.hid (HA.out.trans (hb2.mono HA.out.size))
  have HB3 := Lib.hid (HB2.out.trans (hal.mono HB2.out.size))
  obtain ⟨A9, c9, rfl, hc9⟩ := RowRd.form hac
  generalize W54 acts3 = L at *
  go_upto_region 4 with (fail)
  have hcb : w2.heap.size < (w2.alloc (.cells #[.pointer pb, .slice A9 L.length c9, .pointer (some ⟨gx, 0, none⟩), .pointer (some ⟨gg, 0, none⟩)] 49)).heap.size := by simp
  have h0l : 0 < ob54.length := by decide
  have x2 := zc.cell 2
  simp only [List.getElem?_toArray, List.getElem?_cons_zero, List.getElem?_cons_succ] at x2
  have ZC := Lib.hid zc
  clear hal hb2 hst hac hvx hgx zc HAT HU
  generalize w2.alloc (.cells #[.pointer pb, .slice A9 L.length c9, .pointer (some ⟨gx, 0, none⟩), .pointer (some ⟨gg, 0, none⟩)] 49) = W at *
  generalize w2.heap.size = cb at *
  refine wp_region_noPanic ?_
  refine wp_region_held_drew (S := (fun (w' : World) => w'.cell? ⟨cb, 2, none⟩ = some (.pointer (some ⟨gx, 0, none⟩)))) (by kernel_rfl) ?_ (fun hHeld => ?_)
  · exact x2
  refine wpAnyH_take (i := 0) (v := ?_) rfl (by kernel_rfl) (by kernel_rfl) (by kernel_rfl) (fun _ _ _ h => h) (Or.inl ⟨by kernel_rfl, ?_⟩) hHeld ?_
  rotate_left
  · (intro w hSw; (try dsimp only at hSw); go_simp; try with_reducible rfl)
  try simp only [Act.put, List.setIfInBounds_toArray, List.set_cons_zero, List.set_cons_succ]
  refine wpAnyH_take (i := 1) (v := ?_) rfl (by kernel_rfl) (by kernel_rfl) (by kernel_rfl) (fun _ _ _ h => h) (Or.inl ⟨by kernel_rfl, ?_⟩) hHeld ?_
  rotate_left
  · (intro w hSw; (try dsimp only at hSw); go_simp; try with_reducible rfl)
  try simp only [Act.put, List.setIfInBounds_toArray, List.set_cons_zero, List.set_cons_succ]
  refine wpAnyH_ready (rs := [2]) (by kernel_rfl) (by simp) ?_
  refine AllReadyH.cons rfl (fun K hK => ?_) AllReadyH.nil
  go_simp
  refine (objects_is W.drew).mono ?_; rintro e w9 ⟨go, co, rfl, how9, hb9'⟩; have hb9 := (Below.refl W.heap.size W).drew.trans hb9'; have HB9 := Lib.hid hb9; clear hb9'
  try (go_wp2_with fail)
  refine hK.out _ _ ?_ (fun hNew => ?_)
  · exact (hb9.cell (p := ⟨cb, 2, none⟩) hcb).trans x2
  clear hK K hHeld
  have hHeld := hNew
  clear hNew
  try simp only [Act.put, List.setIfInBounds_toArray, List.set_cons_zero, List.set_cons_succ]
  have yy := RdNm.piece (show RdNm w9 (.slice (some ⟨go, 0, none⟩) ob54.length co) ob54 from Rd.of_own how9) (k := 0) (by decide)
  obtain ⟨b9, o9, hbe9, hbr9, y0, y1, y2, y3, y4⟩ := yy
  injection hbe9 with hbe9
  injection hbe9 with e1 e2
  subst e1 e2
  simp only [Nat.zero_add, Nat.zero_mul, show ob54[0]'(by decide) = obA from rfl] at y0 y1 y2 y3 y4
  refine wpAnyH_more (S' := (fun (w' : World) => w'.cell? ⟨cb, 2, none⟩ = some (.pointer (some ⟨gx, 0, none⟩)) ∧ w'.cell? ⟨go, 0, none⟩ = some (.int .i64 obA.kind) ∧ w'.cell? ⟨go, 1, none⟩ = some (.string (bs obA.owner)) ∧ w'.cell? ⟨go, 2, none⟩ = some (.int .i64 obA.num) ∧ w'.cell? ⟨go, 3, none⟩ = some (.int .i64 obA.idx) ∧ w'.cell? ⟨go, 4, none⟩ = some (.string (bs obA.text)))) (fun _ h => h.1) ?_
  clear hHeld
  have hHeld : (fun (w' : World) => w'.cell? ⟨cb, 2, none⟩ = some (.pointer (some ⟨gx, 0, none⟩)) ∧ w'.cell? ⟨go, 0, none⟩ = some (.int .i64 obA.kind) ∧ w'.cell? ⟨go, 1, none⟩ = some (.string (bs obA.owner)) ∧ w'.cell? ⟨go, 2, none⟩ = some (.int .i64 obA.num) ∧ w'.cell? ⟨go, 3, none⟩ = some (.int .i64 obA.idx) ∧ w'.cell? ⟨go, 4, none⟩ = some (.string (bs obA.text))) _ := ⟨(hb9.cell (p := ⟨cb, 2, none⟩) hcb).trans x2, y0, y1, y2, y3, y4⟩
  refine wpAnyH_take (i := 3) (v := ?_) rfl (by kernel_rfl) (by kernel_rfl) (by kernel_rfl) (fun _ _ _ h => h) (Or.inl ⟨by kernel_rfl, ?_⟩) hHeld ?_
  rotate_left
  · (intro w hSw; (try dsimp only at hSw); go_simp; try with_reducible rfl)
  try simp only [Act.put, List.setIfInBounds_toArray, List.set_cons_zero, List.set_cons_succ]
  refine wpAnyH_take (i := 4) (v := ?_) rfl (by kernel_rfl) (by kernel_rfl) (by kernel_rfl) (fun _ _ _ h => h) (Or.inl ⟨by kernel_rfl, ?_⟩) hHeld ?_
  rotate_left
  · (intro w hSw; (try dsimp only at hSw); go_simp; try with_reducible rfl)
  try simp only [Act.put, List.setIfInBounds_toArray, List.set_cons_zero, List.set_cons_succ]
  refine wpAnyH_take (i := 5) (v := ?_) rfl (by kernel_rfl) (by kernel_rfl) (by kernel_rfl) (fun _ _ _ h => h) (Or.inl ⟨by kernel_rfl, ?_⟩) hHeld ?_
  rotate_left
  · (intro w hSw; (try dsimp only at hSw); go_simp; try with_reducible rfl)
  try simp only [Act.put, List.setIfInBounds_toArray, List.set_cons_zero, List.set_cons_succ]
  refine wpAnyH_ready (rs := [6]) (by kernel_rfl) (by simp) ?_
  refine AllReadyH.cons rfl (fun K hK => ?_) AllReadyH.nil
  go_simp
  refine (origin_is (n := obA) 0 3 (HX.out.next HB9.out) obA_own HVO.out).mono ?_; rintro e w10 ⟨rfl, hb10⟩; rw [KA.out]; have HB10 := Lib.hid (HB9.out.trans (hb10.mono HB9.out.size))
  try (go_wp2_with fail)
  refine hK.out _ _ ?_ (fun hNew => ?_)
  · exact ⟨(HB10.out.cell (p := ⟨cb, 2, none⟩) hcb).trans x2, (hb10.cell (p := ⟨go, 0, none⟩) hbr9).trans y0, (hb10.cell (p := ⟨go, 1, none⟩) hbr9).trans y1, (hb10.cell (p := ⟨go, 2, none⟩) hbr9).trans y2, (hb10.cell (p := ⟨go, 3, none⟩) hbr9).trans y3, (hb10.cell (p := ⟨go, 4, none⟩) hbr9).trans y4⟩
  clear hK K hHeld
  have hHeld := hNew
  clear hNew
  try simp only [Act.put, List.setIfInBounds_toArray, List.set_cons_zero, List.set_cons_succ]
  refine wpAnyH_take (i := 7) (v := ?_) rfl (by kernel_rfl) (by kernel_rfl) (by kernel_rfl) (fun _ _ _ h => h) (Or.inl ⟨by kernel_rfl, ?_⟩) hHeld ?_
  rotate_left
  · (intro w hSw; (try dsimp only at hSw); go_simp; try with_reducible rfl)
  try simp only [Act.put, List.setIfInBounds_toArray, List.set_cons_zero, List.set_cons_succ]
  refine wpAnyH_take (i := 8) (v := ?_) rfl (by kernel_rfl) (by kernel_rfl) (by kernel_rfl) (fun _ _ _ h => h) (Or.inl ⟨by kernel_rfl, ?_⟩) hHeld ?_
  rotate_left
  · (intro w hSw; (try dsimp only at hSw); go_simp; try with_reducible rfl)
  try simp only [Act.put, List.setIfInBounds_toArray, List.set_cons_zero, List.set_cons_succ]
  refine wpAnyH_take (i := 9) (v := ?_) rfl (by kernel_rfl) (by kernel_rfl) (by kernel_rfl) (fun _ _ _ h => h) (Or.inl ⟨by kernel_rfl, ?_⟩) hHeld ?_
  rotate_left
  · (intro w hSw; (try dsimp only at hSw); go_simp; try with_reducible rfl)
  try simp only [Act.put, List.setIfInBounds_toArray, List.set_cons_zero, List.set_cons_succ]
  refine wpAnyH_take (i := 10) (v := ?_) rfl (by kernel_rfl) (by kernel_rfl) (by kernel_rfl) (fun _ _ _ h => h) (Or.inl ⟨by kernel_rfl, ?_⟩) hHeld ?_
  rotate_left
  · (intro w hSw; (try dsimp only at hSw); go_simp; try with_reducible rfl)
  try simp only [Act.put, List.setIfInBounds_toArray, List.set_cons_zero, List.set_cons_succ]
  refine wpAnyH_take (i := 11) (v := ?_) rfl (by kernel_rfl) (by kernel_rfl) (by kernel_rfl) (fun _ _ _ h => h) (Or.inl ⟨by kernel_rfl, ?_⟩) hHeld ?_
  rotate_left
  · (intro w hSw; (try dsimp only at hSw); go_simp; try with_reducible rfl)
  try simp only [Act.put, List.setIfInBounds_toArray, List.set_cons_zero, List.set_cons_succ]
  refine wpAnyH_done (by kernel_rfl) ?_ _
  clear hHeld
  try simp only [List.getElem_toArray, List.getElem_cons_zero, List.getElem_cons_succ, Act.put, List.setIfInBounds_toArray, List.set_cons_zero, List.set_cons_succ]
  refine NoPanic.normal ?_
  clear y0 y1 y2 y3 y4 how9 hb9 hb10
  have HB5 := Lib.hid HB10.out
  replace x2 := (HB5.out.cell (p := ⟨cb, 2, none⟩) hcb).trans x2
  replace hcb := Nat.lt_of_lt_of_le hcb HB5.out.size
  replace HX := Lib.hid (HX.out.next HB5.out)
  have HBB := Lib.hid (HB3.out.trans (HB5.out.mono HB3.out.size))
  clear HB3 HB9 HB10 HB2
  generalize w10 = W at *
  go_upto_region 5 with (fail)
  refine wp_region_noPanic ?_
  refine wp_region_held_drew (S := (fun (w' : World) => w'.cell? ⟨cb, 2, none⟩ = some (.pointer (some ⟨gx, 0, none⟩)))) (by kernel_rfl) ?_ (fun hHeld => ?_)
  · exact x2
  refine wpAnyH_take (i := 0) (v := ?_) rfl (by kernel_rfl) (by kernel_rfl) (by kernel_rfl) (fun _ _ _ h => h) (Or.inl ⟨by kernel_rfl, ?_⟩) hHeld ?_
  rotate_left
  · (intro w hSw; (try dsimp only at hSw); go_simp; try with_reducible rfl)
  try simp only [Act.put, List.setIfInBounds_toArray, List.set_cons_zero, List.set_cons_succ]
  refine wpAnyH_take (i := 1) (v := ?_) rfl (by kernel_rfl) (by kernel_rfl) (by kernel_rfl) (fun _ _ _ h => h) (Or.inl ⟨by kernel_rfl, ?_⟩) hHeld ?_
  rotate_left
  · (intro w hSw; (try dsimp only at hSw); go_simp; try with_reducible rfl)
  try simp only [Act.put, List.setIfInBounds_toArray, List.set_cons_zero, List.set_cons_succ]
  refine wpAnyH_ready (rs := [2]) (by kernel_rfl) (by simp) ?_
  refine AllReadyH.cons rfl (fun K hK => ?_) AllReadyH.nil
  go_simp
  refine (objects_is W.drew).mono ?_; rintro e w9 ⟨go, co, rfl, how9, hb9'⟩; have hb9 := (Below.refl W.heap.size W).drew.trans hb9'; have HB9 := Lib.hid hb9; clear hb9'
  try (go_wp2_with fail)
  refine hK.out _ _ ?_ (fun hNew => ?_)
  · exact (hb9.cell (p := ⟨cb, 2, none⟩) hcb).trans x2
  clear hK K hHeld
  have hHeld := hNew
  clear hNew
  try simp only [Act.put, List.setIfInBounds_toArray, List.set_cons_zero, List.set_cons_succ]
  have yy := RdNm.piece (show RdNm w9 (.slice (some ⟨go, 0, none⟩) ob54.length co) ob54 from Rd.of_own how9) (k := 0) (by decide)
  obtain ⟨b9, o9, hbe9, hbr9, y0, y1, y2, y3, y4⟩ := yy
  injection hbe9 with hbe9
  injection hbe9 with e1 e2
  subst e1 e2
  simp only [Nat.zero_add, Nat.zero_mul, show ob54[0]'(by decide) = obA from rfl] at y0 y1 y2 y3 y4
  refine wpAnyH_more (S' := (fun (w' : World) => w'.cell? ⟨cb, 2, none⟩ = some (.pointer (some ⟨gx, 0, none⟩)) ∧ w'.cell? ⟨go, 0, none⟩ = some (.int .i64 obA.kind) ∧ w'.cell? ⟨go, 1, none⟩ = some (.string (bs obA.owner)) ∧ w'.cell? ⟨go, 2, none⟩ = some (.int .i64 obA.num) ∧ w'.cell? ⟨go, 3, none⟩ = some (.int .i64 obA.idx) ∧ w'.cell? ⟨go, 4, none⟩ = some (.string (bs obA.text)))) (fun _ h => h.1) ?_
  clear hHeld
  have hHeld : (fun (w' : World) => w'.cell? ⟨cb, 2, none⟩ = some (.pointer (some ⟨gx, 0, none⟩)) ∧ w'.cell? ⟨go, 0, none⟩ = some (.int .i64 obA.kind) ∧ w'.cell? ⟨go, 1, none⟩ = some (.string (bs obA.owner)) ∧ w'.cell? ⟨go, 2, none⟩ = some (.int .i64 obA.num) ∧ w'.cell? ⟨go, 3, none⟩ = some (.int .i64 obA.idx) ∧ w'.cell? ⟨go, 4, none⟩ = some (.string (bs obA.text))) _ := ⟨(hb9.cell (p := ⟨cb, 2, none⟩) hcb).trans x2, y0, y1, y2, y3, y4⟩
  refine wpAnyH_take (i := 3) (v := ?_) rfl (by kernel_rfl) (by kernel_rfl) (by kernel_rfl) (fun _ _ _ h => h) (Or.inl ⟨by kernel_rfl, ?_⟩) hHeld ?_
  rotate_left
  · (intro w hSw; (try dsimp only at hSw); go_simp; try with_reducible rfl)
  try simp only [Act.put, List.setIfInBounds_toArray, List.set_cons_zero, List.set_cons_succ]
  refine wpAnyH_take (i := 4) (v := ?_) rfl (by kernel_rfl) (by kernel_rfl) (by kernel_rfl) (fun _ _ _ h => h) (Or.inl ⟨by kernel_rfl, ?_⟩) hHeld ?_
  rotate_left
  · (intro w hSw; (try dsimp only at hSw); go_simp; try with_reducible rfl)
  try simp only [Act.put, List.setIfInBounds_toArray, List.set_cons_zero, List.set_cons_succ]
  refine wpAnyH_take (i := 5) (v := ?_) rfl (by kernel_rfl) (by kernel_rfl) (by kernel_rfl) (fun _ _ _ h => h) (Or.inl ⟨by kernel_rfl, ?_⟩) hHeld ?_
  rotate_left
  · (intro w hSw; (try dsimp only at hSw); go_simp; try with_reducible rfl)
  try simp only [Act.put, List.setIfInBounds_toArray, List.set_cons_zero, List.set_cons_succ]
  refine wpAnyH_ready (rs := [6]) (by kernel_rfl) (by simp) ?_
  refine AllReadyH.cons rfl (fun K hK => ?_) AllReadyH.nil
  go_simp
  refine (origin_is (n := obA) 1 3 (HX.out.next HB9.out) obA_own HVO.out).mono ?_; rintro e w10 ⟨rfl, hb10⟩; rw [KB.out]; have HB10 := Lib.hid (HB9.out.trans (hb10.mono HB9.out.size))
  try (go_wp2_with fail)
  refine hK.out _ _ ?_ (fun hNew => ?_)
  · exact ⟨(HB10.out.cell (p := ⟨cb, 2, none⟩) hcb).trans x2, (hb10.cell (p := ⟨go, 0, none⟩) hbr9).trans y0, (hb10.cell (p := ⟨go, 1, none⟩) hbr9).trans y1, (hb10.cell (p := ⟨go, 2, none⟩) hbr9).trans y2, (hb10.cell (p := ⟨go, 3, none⟩) hbr9).trans y3, (hb10.cell (p := ⟨go, 4, none⟩) hbr9).trans y4⟩
  clear hK K hHeld
  have hHeld := hNew
  clear hNew
  try simp only [Act.put, List.setIfInBounds_toArray, List.set_cons_zero, List.set_cons_succ]
  refine wpAnyH_take (i := 7) (v := ?_) rfl (by kernel_rfl) (by kernel_rfl) (by kernel_rfl) (fun _ _ _ h => h) (Or.inl ⟨by kernel_rfl, ?_⟩) hHeld ?_
  rotate_left
  · (intro w hSw; (try dsimp only at hSw); go_simp; try with_reducible rfl)
  try simp only [Act.put, List.setIfInBounds_toArray, List.set_cons_zero, List.set_cons_succ]
  refine wpAnyH_take (i := 8) (v := ?_) rfl (by kernel_rfl) (by kernel_rfl) (by kernel_rfl) (fun _ _ _ h => h) (Or.inl ⟨by kernel_rfl, ?_⟩) hHeld ?_
  rotate_left
  · (intro w hSw; (try dsimp only at hSw); go_simp; try with_reducible rfl)
  try simp only [Act.put, List.setIfInBounds_toArray, List.set_cons_zero, List.set_cons_succ]
  refine wpAnyH_take (i := 9) (v := ?_) rfl (by kernel_rfl) (by kernel_rfl) (by kernel_rfl) (fun _ _ _ h => h) (Or.inl ⟨by kernel_rfl, ?_⟩) hHeld ?_
  rotate_left
  · (intro w hSw; (try dsimp only at hSw); go_simp; try with_reducible rfl)
  try simp only [Act.put, List.setIfInBounds_toArray, List.set_cons_zero, List.set_cons_succ]
  refine wpAnyH_take (i := 10) (v := ?_) rfl (by kernel_rfl) (by kernel_rfl) (by kernel_rfl) (fun _ _ _ h => h) (Or.inl ⟨by kernel_rfl, ?_⟩) hHeld ?_
  rotate_left
  · (intro w hSw; (try dsimp only at hSw); go_simp; try with_reducible rfl)
  try simp only [Act.put, List.setIfInBounds_toArray, List.set_cons_zero, List.set_cons_succ]
  refine wpAnyH_take (i := 11) (v := ?_) rfl (by kernel_rfl) (by kernel_rfl) (by kernel_rfl) (fun _ _ _ h => h) (Or.inl ⟨by kernel_rfl, ?_⟩) hHeld ?_
  rotate_left
  · (intro w hSw; (try dsimp only at hSw); go_simp; try with_reducible rfl)
  try simp only [Act.put, List.setIfInBounds_toArray, List.set_cons_zero, List.set_cons_succ]
  refine wpAnyH_done (by kernel_rfl) ?_ _
  clear hHeld
  try simp only [List.getElem_toArray, List.getElem_cons_zero, List.getElem_cons_succ, Act.put, List.setIfInBounds_toArray, List.set_cons_zero, List.set_cons_succ]
  refine NoPanic.normal ?_
  go_wp2_with fail
  go_ret
  exact ⟨rfl, HBB.out.trans (HB10.out.mono HBB.out.size)⟩
end Go.Proofs.YtamjllakfgphnaaGreatDoor
