/- Walks of layer 54: places, origins by the definition. -/
import Derived.Test.YtamjllakfgphnaaGreatDoorW88
import Derived.Test.YtamjllakfgphnaaGreatDoorW81
namespace Go.Proofs.YtamjllakfgphnaaGreatDoor
open Go.RowKit
set_option linter.unusedSimpArgs false
set_option linter.unusedVariables false
attribute [local go_sem ↓] Go.wp_at_zero Go.wp_at_succ
/-- The object of a spot. -/
def spN (wh : Int) : Nm := ob54.getD (wh % 4).toNat obT
theorem spN_own (wh : Int) : OwnE (spN wh) := by
  unfold spN
  by_cases h : (wh % 4).toNat < ob54.length
  · rw [List.getD_eq_getElem?_getD, List.getElem?_eq_getElem h]
    exact ob54_own _ (List.getElem_mem h)
  · rw [List.getD_eq_getElem?_getD, List.getElem?_eq_none (by omega)]
    rfl
set_option maxRecDepth 100000 in
set_option maxHeartbeats 1000000 in
theorem place_is (w : World) (wh a : Int) (h0 : 0 ≤ wh) (h1 : wh < 256) : Calls Tryz.prog 15 #[.agg #[.int .u8 wh, .int .i64 a]] w fun e w' => e = .returned (plV (spN wh) a) ∧ Below w.heap.size w w' := by
  have ha := ((Below.refl w.heap.size w).alloc (Nat.le_refl _) (.cells #[.int .u8 wh, .int .i64 a] 43)).alloc (by simp) (.cells #[.int .i64 0, .string ⟨#[]⟩, .int .i64 0, .int .i64 0, .string ⟨#[]⟩, .int .i64 0] 28)
  have zs := (Blk.new w 43 #[.int .u8 wh, .int .i64 a]).alloc (.cells #[.int .i64 0, .string ⟨#[]⟩, .int .i64 0, .int .i64 0, .string ⟨#[]⟩, .int .i64 0] 28)
  have zp := Blk.new (w.alloc (.cells #[.int .u8 wh, .int .i64 a] 43)) 28 #[.int .i64 0, .string ⟨#[]⟩, .int .i64 0, .int .i64 0, .string ⟨#[]⟩, .int .i64 0]
  rw [World.size_alloc] at zp
  have x0 := zs.cell 0
  have x1 := zs.cell 1
  simp only [List.getElem?_toArray, List.getElem?_cons_zero, List.getElem?_cons_succ] at x0 x1
  have HA := Lib.hid ha
  have ZP := Lib.hid zp
  have hsb := zs.lt
  obtain ⟨d, hd⟩ : ∃ d : Nat, wh % 4 = (d : Int) := ⟨(wh % 4).toNat, by omega⟩
  have hd4 : d < ob54.length := by show d < 4; omega
  have e1 : (0 : Int) ≤ (d : Int) := by omega
  have e2 : (d : Int) < 4 := by show (d : Int) < 4; have : d < 4 := hd4; omega
  have e3 : (d : Int) < (ob54.length : Int) := by omega
  have em : Int.tmod wh 4 = (d : Int) := by rw [Int.tmod_eq_emod_of_nonneg h0]; exact hd
  have em2 : Int.tmod wh (ob54.length : Int) = (d : Int) := em
  have ew : IntKind.i64.wrap (d : Int) = (d : Int) := IntWalk.i64_in _ (by omega)
  have ew2 : IntKind.i64.wrap wh = wh := IntWalk.i64_in _ (by omega)
  have hne : ¬ ob54 = [] := by decide
  have HSP := Lib.hid (show spN wh = ob54[d]'hd4 by
    unfold spN
    rw [hd, List.getD_eq_getElem?_getD, Int.toNat_natCast, List.getElem?_eq_getElem hd4]
    rfl)
  obtain ⟨on, hon⟩ : ∃ on, ob54[d]'hd4 = on := ⟨_, rfl⟩
  have HON := Lib.hid hon
  clear ha zs zp hd hon
  go_enter Tryz.func15, Tryz.ntmps15
  go_upto_region 1 with (fail)
  generalize (w.alloc (.cells #[.int .u8 wh, .int .i64 a] 43)).alloc (.cells #[.int .i64 0, .string ⟨#[]⟩, .int .i64 0, .int .i64 0, .string ⟨#[]⟩, .int .i64 0] 28) = W at *
  obtain ⟨pb, hpb⟩ : ∃ x, w.heap.size + 1 = x := ⟨_, rfl⟩
  rw [hpb] at ZP ⊢
  have HPB := Lib.hid hpb
  clear hpb
  obtain ⟨sb, hsb2⟩ : ∃ x, w.heap.size = x := ⟨_, rfl⟩
  have HSB := Lib.hid hsb2
  rw [hsb2] at x0 x1 HA hsb ⊢
  clear hsb2
  refine wp_region_noPanic ?_
  refine wp_region_last (S := (fun (w' : World) => w'.cell? ⟨sb, 0, none⟩ = some (.int .u8 wh) ∧ w'.cell? ⟨sb, 1, none⟩ = some (.int .i64 a))) 12 12 rfl (by kernel_rfl) (by kernel_rfl) ?_ (fun hHeld => ?_)
  · exact ⟨x0, x1⟩
  refine wpAnyH_take (i := 1) (v := ?_) rfl (by kernel_rfl) (by kernel_rfl) (by kernel_rfl) (fun _ _ _ h => h) (Or.inl ⟨by kernel_rfl, ?_⟩) hHeld ?_
  rotate_left
  · (intro w hSw; (try dsimp only at hSw); go_simp; try with_reducible rfl)
  try simp only [Act.put, List.setIfInBounds_toArray, List.set_cons_zero, List.set_cons_succ]
  refine wpAnyH_take (i := 2) (v := ?_) rfl (by kernel_rfl) (by kernel_rfl) (by kernel_rfl) (fun _ _ _ h => h) (Or.inl ⟨by kernel_rfl, ?_⟩) hHeld ?_
  rotate_left
  · (intro w hSw; (try dsimp only at hSw); go_simp; try with_reducible rfl)
  try simp only [Act.put, List.setIfInBounds_toArray, List.set_cons_zero, List.set_cons_succ]
  refine wpAnyH_take (i := 3) (v := ?_) rfl (by kernel_rfl) (by kernel_rfl) (by kernel_rfl) (fun _ _ _ h => h) (Or.inl ⟨by kernel_rfl, ?_⟩) hHeld ?_
  rotate_left
  · (intro w hSw; (try dsimp only at hSw); go_simp; try with_reducible rfl)
  try simp only [Act.put, List.setIfInBounds_toArray, List.set_cons_zero, List.set_cons_succ]
  refine wpAnyH_take (i := 9) (v := ?_) rfl (by kernel_rfl) (by kernel_rfl) (by kernel_rfl) (fun _ _ _ h => h) (Or.inl ⟨by kernel_rfl, ?_⟩) hHeld ?_
  rotate_left
  · (intro w hSw; (try dsimp only at hSw); go_simp; try with_reducible rfl)
  try simp only [Act.put, List.setIfInBounds_toArray, List.set_cons_zero, List.set_cons_succ]
  refine wpAnyH_take (i := 10) (v := ?_) rfl (by kernel_rfl) (by kernel_rfl) (by kernel_rfl) (fun _ _ _ h => h) (Or.inl ⟨by kernel_rfl, ?_⟩) hHeld ?_
  rotate_left
  · (intro w hSw; (try dsimp only at hSw); go_simp; try with_reducible rfl)
  try simp only [Act.put, List.setIfInBounds_toArray, List.set_cons_zero, List.set_cons_succ]
  refine wpAnyH_ready (rs := [0]) (by kernel_rfl) (by simp) ?_
  refine AllReadyH.cons rfl (fun K hK => ?_) AllReadyH.nil
  go_simp
  refine (objects_is W.drew).mono ?_; rintro e w9 ⟨go, co, rfl, how9, hb9'⟩; have hb9 := (Below.refl W.heap.size W).drew.trans hb9'; have HB9 := Lib.hid hb9; clear hb9'
  try (go_wp2_with fail)
  refine hK.out _ _ ?_ (fun hNew => ?_)
  · exact ⟨(hb9.cell (p := ⟨sb, 0, none⟩) hsb).trans x0, (hb9.cell (p := ⟨sb, 1, none⟩) hsb).trans x1⟩
  clear hK K hHeld
  have hHeld := hNew
  clear hNew
  try simp only [Act.put, List.setIfInBounds_toArray, List.set_cons_zero, List.set_cons_succ]
  have yy := RdNm.piece (show RdNm w9 (.slice (some ⟨go, 0, none⟩) ob54.length co) ob54 from Rd.of_own how9) (k := d) hd4
  obtain ⟨b9, o9, hbe9, hbr9, y0, y1, y2, y3, y4⟩ := yy
  injection hbe9 with hbe9
  injection hbe9 with e1 e2
  subst e1 e2
  simp only [Nat.zero_add] at y0 y1 y2 y3 y4
  rw [HON.out] at y0 y1 y2 y3 y4
  refine wpAnyH_more (S' := (fun (w' : World) => (w'.cell? ⟨sb, 0, none⟩ = some (.int .u8 wh) ∧ w'.cell? ⟨sb, 1, none⟩ = some (.int .i64 a)) ∧ w'.cell? ⟨go, d * 5, none⟩ = some (.int .i64 on.kind) ∧ w'.cell? ⟨go, d * 5 + 1, none⟩ = some (.string (bs on.owner)) ∧ w'.cell? ⟨go, d * 5 + 2, none⟩ = some (.int .i64 on.num) ∧ w'.cell? ⟨go, d * 5 + 3, none⟩ = some (.int .i64 on.idx) ∧ w'.cell? ⟨go, d * 5 + 4, none⟩ = some (.string (bs on.text)))) (fun _ h => h.1) ?_
  clear hHeld
  have hHeld : (fun (w' : World) => (w'.cell? ⟨sb, 0, none⟩ = some (.int .u8 wh) ∧ w'.cell? ⟨sb, 1, none⟩ = some (.int .i64 a)) ∧ w'.cell? ⟨go, d * 5, none⟩ = some (.int .i64 on.kind) ∧ w'.cell? ⟨go, d * 5 + 1, none⟩ = some (.string (bs on.owner)) ∧ w'.cell? ⟨go, d * 5 + 2, none⟩ = some (.int .i64 on.num) ∧ w'.cell? ⟨go, d * 5 + 3, none⟩ = some (.int .i64 on.idx) ∧ w'.cell? ⟨go, d * 5 + 4, none⟩ = some (.string (bs on.text))) _ := ⟨⟨(hb9.cell (p := ⟨sb, 0, none⟩) hsb).trans x0, (hb9.cell (p := ⟨sb, 1, none⟩) hsb).trans x1⟩, y0, y1, y2, y3, y4⟩
  refine wpAnyH_ready (rs := [4]) (by kernel_rfl) (by simp) ?_
  refine AllReadyH.cons rfl (fun K hK => ?_) AllReadyH.nil
  go_simp
  refine (objects_is w9).mono ?_; rintro e w10 ⟨go2, co2, rfl, how10, hb10⟩; have HB10 := Lib.hid hb10
  try (go_wp2_with fail)
  refine hK.out _ _ ?_ (fun hNew => ?_)
  · exact ⟨⟨(hb10.cell (p := ⟨sb, 0, none⟩) (Nat.lt_of_lt_of_le hsb HB9.out.size)).trans ((hb9.cell (p := ⟨sb, 0, none⟩) hsb).trans x0), (hb10.cell (p := ⟨sb, 1, none⟩) (Nat.lt_of_lt_of_le hsb HB9.out.size)).trans ((hb9.cell (p := ⟨sb, 1, none⟩) hsb).trans x1)⟩, (hb10.cell (p := ⟨go, d * 5, none⟩) hbr9).trans y0, (hb10.cell (p := ⟨go, d * 5 + 1, none⟩) hbr9).trans y1, (hb10.cell (p := ⟨go, d * 5 + 2, none⟩) hbr9).trans y2, (hb10.cell (p := ⟨go, d * 5 + 3, none⟩) hbr9).trans y3, (hb10.cell (p := ⟨go, d * 5 + 4, none⟩) hbr9).trans y4⟩
  clear hK K hHeld
  have hHeld := hNew
  clear hNew
  try simp only [Act.put, List.setIfInBounds_toArray, List.set_cons_zero, List.set_cons_succ]
  refine wpAnyH_take (i := 5) (v := ?_) rfl (by kernel_rfl) (by kernel_rfl) (by kernel_rfl) (fun _ _ _ h => h) (Or.inl ⟨by kernel_rfl, ?_⟩) hHeld ?_
  rotate_left
  · (intro w hSw; (try dsimp only at hSw); go_simp; try with_reducible rfl)
  try simp only [Act.put, List.setIfInBounds_toArray, List.set_cons_zero, List.set_cons_succ]
  refine wpAnyH_take (i := 6) (v := ?_) rfl (by kernel_rfl) (by kernel_rfl) (by kernel_rfl) (fun _ _ _ h => h) (Or.inl ⟨by kernel_rfl, ?_⟩) hHeld ?_
  rotate_left
  · (intro w hSw; (try dsimp only at hSw); go_simp; try with_reducible rfl)
  try simp only [Act.put, List.setIfInBounds_toArray, List.set_cons_zero, List.set_cons_succ]
  refine wpAnyH_take (i := 7) (v := ?_) rfl (by kernel_rfl) (by kernel_rfl) (by kernel_rfl) (fun _ _ _ h => h) (Or.inl ⟨by kernel_rfl, ?_⟩) hHeld ?_
  rotate_left
  · (intro w hSw; (try dsimp only at hSw); go_simp; try with_reducible rfl)
  try simp only [Act.put, List.setIfInBounds_toArray, List.set_cons_zero, List.set_cons_succ]
  refine wpAnyH_take (i := 8) (v := ?_) rfl (by kernel_rfl) (by kernel_rfl) (by kernel_rfl) (fun _ _ _ h => h) (Or.inl ⟨by kernel_rfl, ?_⟩) hHeld ?_
  rotate_left
  · (intro w hSw; (try dsimp only at hSw); go_simp; try with_reducible rfl)
  try simp only [Act.put, List.setIfInBounds_toArray, List.set_cons_zero, List.set_cons_succ]
  refine wpAnyH_take (i := 11) (v := ?_) rfl (by kernel_rfl) (by kernel_rfl) (by kernel_rfl) (fun _ _ _ h => h) (Or.inl ⟨by kernel_rfl, ?_⟩) hHeld ?_
  rotate_left
  · (intro w hSw; (try dsimp only at hSw); go_simp; try with_reducible rfl)
  try simp only [Act.put, List.setIfInBounds_toArray, List.set_cons_zero, List.set_cons_succ]
  have ZP10 := ZP.out.next (HB9.out.trans (HB10.out.mono HB9.out.size)) ZP.out.lt
  have HP10 := Lib.hid ZP10
  have p0 := ZP10.cell 0
  have p1 := ZP10.cell 1
  have p2 := ZP10.cell 2
  have p3 := ZP10.cell 3
  have p4 := ZP10.cell 4
  have p5 := ZP10.cell 5
  have f0 := ZP10.frozen 0
  have f1 := ZP10.frozen 1
  have f2 := ZP10.frozen 2
  have f3 := ZP10.frozen 3
  have f4 := ZP10.frozen 4
  have f5 := ZP10.frozen 5
  simp only [List.getElem?_toArray, List.getElem?_cons_zero, List.getElem?_cons_succ] at p0 p1 p2 p3 p4 p5
  clear ZP10
  refine wpAnyH_done (by kernel_rfl) ?_ _
  refine lastQ_step rfl (fun K hK => ?_)
  clear hHeld
  go_simp
  refine hK _ _ ?_
  clear hK K
  refine NoPanic.normal ?_
  have P0 := (HP10.out).set_ 0 (.int .i64 on.kind)
  have P1 := (P0).set_ 1 (.string (bs on.owner))
  have P2 := (P1).set_ 2 (.int .i64 on.num)
  have P3 := (P2).set_ 3 (.int .i64 on.idx)
  have P4 := (P3).set_ 4 (.string (bs on.text))
  have P5 := (P4).set_ 5 (.int .i64 a)
  have q0 := P5.cell 0
  have q1 := P5.cell 1
  have q2 := P5.cell 2
  have q3 := P5.cell 3
  have q4 := P5.cell 4
  have q5 := P5.cell 5
  simp only [List.setIfInBounds_toArray, List.set_cons_zero, List.set_cons_succ, List.getElem?_toArray, List.getElem?_cons_zero, List.getElem?_cons_succ] at q0 q1 q2 q3 q4 q5
  have hsw : sb ≤ W.heap.size := Nat.le_of_lt hsb
  have HBF := Lib.hid (HA.out.trans ((HB9.out.trans (HB10.out.mono HB9.out.size)).mono hsw))
  have hpb : sb ≤ pb := by have := HPB.out; have := HSB.out; omega
  have HBE := Lib.hid ((((((HBF.out.setCell (p := ⟨pb, 0, none⟩) hpb (.int .i64 on.kind)).setCell (p := ⟨pb, 1, none⟩) hpb (.string (bs on.owner))).setCell (p := ⟨pb, 2, none⟩) hpb (.int .i64 on.num)).setCell (p := ⟨pb, 3, none⟩) hpb (.int .i64 on.idx)).setCell (p := ⟨pb, 4, none⟩) hpb (.string (bs on.text))).setCell (p := ⟨pb, 5, none⟩) hpb (.int .i64 a))
  clear x0 x1 p0 p1 p2 p3 p4 p5 f0 f1 f2 f3 f4 f5 y0 y1 y2 y3 y4 hb9 hb10 how9 how10
  go_wp2_with fail
  exact bodyPost_ret (v := .agg #[.int .i64 on.kind, .string (bs on.owner), .int .i64 on.num, .int .i64 on.idx, .string (bs on.text), .int .i64 a]) (by simp [results, Tryz.results15, go_sem, q0, q1, q2, q3, q4, q5]) rfl ⟨by rw [HSP.out, HON.out]; rfl, by rw [HSB.out]; exact HBE.out⟩
end Go.Proofs.YtamjllakfgphnaaGreatDoor
