/- The law CommandEquals, walked. -/
import Derived.Test.YtiddchpkmcncdaaY2
import Derived.Test.YtiddchpkmcncdaaD1
import Derived.Test.YtiddchpkmcncdaaS2
import Derived.Test.YtiddchpkmcncdaaC3
import Derived.Test.YtiddchpkmcncdaaX26
import Derived.Deep.RegionWith
namespace Go.Proofs.Ytiddchpkmcncdaa
open Go.RowKit
set_option linter.unusedSimpArgs false
set_option linter.unusedVariables false
theorem cutS_in (d : Sm) : SmIn (cutS d) := by
  refine ⟨?_, ?_, ?_, ?_, cutW_tx _, cutW_tx _⟩
  · show ((d.asg.take 36).map cutA).length ≤ 1100
    rw [List.length_map, List.length_take]; omega
  · show ((d.words.take 36).map cutW).length ≤ 1100
    rw [List.length_map, List.length_take]; omega
  · intro a ha
    obtain ⟨b, _, rfl⟩ := List.mem_map.1 ha
    exact ⟨by show (b.name.take 60).length ≤ 2000; rw [List.length_take]; omega, cutW_tx _⟩
  · intro x hx
    obtain ⟨b, _, rfl⟩ := List.mem_map.1 hx
    exact cutW_tx _
theorem cutL_in (l : Ln) : LnIn (cutL l) := by
  refine ⟨by show ((l.parts.take 18).map cutQ).length ≤ 1100; rw [List.length_map, List.length_take]; omega, fun q hq => ?_⟩
  obtain ⟨p, _, rfl⟩ := List.mem_map.1 hq
  refine ⟨by show ((p.stages.take 10).map cutS).length ≤ 1100; rw [List.length_map, List.length_take]; omega, fun c hc => ?_⟩
  obtain ⟨d, _, rfl⟩ := List.mem_map.1 hc
  exact cutS_in d
theorem SmIn.lim' {c : Sm} (h : SmIn c) : SmLim c := by
  obtain ⟨h1, h2, h3, h4, h5, h6⟩ := h
  exact ⟨by omega, by omega, fun a ha => by have := (h3 a ha).2.1; omega, fun x hx => by have := (h4 x hx).1; omega, by have := h5.1; omega, by have := h6.1; omega⟩
theorem LnIn.lim' {l : Ln} (h : LnIn l) : LLen l := ⟨by have := h.1; omega, fun q hq => ⟨by have := (h.2 q hq).1; omega, fun c hc => ((h.2 q hq).2 c hc).lim'⟩⟩
theorem RL.next {w w' : World} {v : Value} {l : List Pl} (h : RowRd 101 plV (NPp 51 39 112 109) w v l) (hb : Below w.heap.size w w') : RowRd 101 plV (NPp 51 39 112 109) w' v l := h.next hb (fun _ _ h => NPp.next h hb)
theorem CL.next {w w' : World} {v : Value} {l : List Pl} (h : RowRd 49 plV (NPp 61 42 140 46) w v l) (hb : Below w.heap.size w w') : RowRd 49 plV (NPp 61 42 140 46) w' v l := h.next hb (fun _ _ h => NPp.next h hb)
theorem RL.keep {w w' : World} {v : Value} {l : List Pl} {L : List TypeId} (h : RowRd 101 plV (NPp 51 39 112 109) w v l) (k : Kept L w w') (h1 : L.contains 101 = false) (h2 : L.contains 51 = false) (h3 : L.contains 39 = false) (h4 : L.contains 112 = false) (h5 : L.contains 109 = false) : RowRd 101 plV (NPp 51 39 112 109) w' v l :=
  RowRd.keep h k h1 (fun _ _ h => NPp.keep h k h2 h3 h4 h5)
theorem RA.below {B : Nat} {w w' : World} {v : Value} {l : List Pl} (h : RowRa plV (AP B) B w v l) (hb : Below B w w') : RowRa plV (AP B) B w' v l := RowRa.below h hb (fun _ _ h => h.below hb)
theorem set2 {w : World} {g : Nat} {t : TypeId} {z0 z1 : Value} (h : Blk w g t #[z0, z1]) (a b : Value) :
    Blk ((w.setCell ⟨g, 0, none⟩ a).setCell ⟨g, 1, none⟩ b) g t #[a, b] ∧ w.grownBy ((w.setCell ⟨g, 0, none⟩ a).setCell ⟨g, 1, none⟩ b) (some g) :=
  ⟨blk_cast ((h.set_ 0 a).set_ 1 b) rfl, only_setCell (p := ⟨g, 1, none⟩) (only_setCell (p := ⟨g, 0, none⟩) (World.grownBy.refl _ _) (.inl rfl) _) (.inl rfl) _⟩
def CeS (w : World) (l m : Ln) (wx : World) : Prop :=
  ∃ va vb, Blk wx w.heap.size 30 #[va, .bool (cutL l).bg] ∧ Blk wx (w.heap.size + 1) 30 #[vb, .bool (cutL m).bg] ∧ RowRd 101 plV (NPp 51 39 112 109) wx va (cutL l).parts ∧ RowRd 101 plV (NPp 51 39 112 109) wx vb (cutL m).parts ∧ Below w.heap.size w wx
theorem ce_fin {w w2 : World} {l m : Ln} {z0 z1 z2 z3 va vb : Value} (hx : Blk w2 w.heap.size 30 #[z0, z1]) (hy : Blk w2 (w.heap.size + 1) 30 #[z2, z3]) (ha : RowRd 101 plV (NPp 51 39 112 109) w2 va (cutL l).parts) (hb : RowRd 101 plV (NPp 51 39 112 109) w2 vb (cutL m).parts) (hw : Below w.heap.size w w2) :
    CeS w l m ((((w2.setCell ⟨w.heap.size, 0, none⟩ va).setCell ⟨w.heap.size, 1, none⟩ (.bool l.bg)).setCell ⟨w.heap.size + 1, 0, none⟩ vb).setCell ⟨w.heap.size + 1, 1, none⟩ (.bool m.bg)) := by
  obtain ⟨b1, g1⟩ := set2 hx va (.bool l.bg)
  have k1 : Kept [30] w2 _ := Kept.of_blk [30] hx g1 rfl
  have hy1 := hy.grown g1 (by intro h; injection h with h; omega)
  obtain ⟨b2, g2⟩ := set2 hy1 vb (.bool m.bg)
  have k2 : Kept [30] _ _ := Kept.of_blk [30] hy1 g2 rfl
  refine ⟨va, vb, b1.grown g2 (by intro h; injection h with h; omega), b2, RL.keep (RL.keep ha k1 rfl rfl rfl rfl rfl) k2 rfl rfl rfl rfl rfl, RL.keep (RL.keep hb k1 rfl rfl rfl rfl rfl) k2 rfl rfl rfl rfl rfl, below_of_grown' (below_of_grown' hw g1 (Nat.le_refl _)) g2 (by omega)⟩
set_option maxRecDepth 100000 in
set_option maxHeartbeats 16000000 in
theorem equals_walk (w : World) (va : Value) (l : Ln) (vb : Value) (m : Ln) (ha : RowRa plV (AP w.heap.size) w.heap.size w va l.parts) (hb : RowRa plV (AP w.heap.size) w.heap.size w vb m.parts) :
    Calls Try.prog 5 #[.agg #[va, .bool l.bg], .agg #[vb, .bool m.bg]] w fun e w' => e = .returned (.bool true) ∧ Below w.heap.size w w' := by
  obtain ⟨A, ca, rfl, _, _⟩ := ha.form
  obtain ⟨B, cb, rfl, _, _⟩ := hb.form
  have HLA := Lib.hid ha
  have HMA := Lib.hid hb
  clear ha hb
  have HB0 := Lib.hid (((Below.refl w.heap.size w).alloc (Nat.le_refl _) (.cells #[.slice A l.parts.length ca, .bool l.bg] 30)).alloc (by simp) (.cells #[.slice B m.parts.length cb, .bool m.bg] 30))
  have HXA := Lib.hid ((Blk.new w 30 #[.slice A l.parts.length ca, .bool l.bg]).alloc (.cells #[.slice B m.parts.length cb, .bool m.bg] 30))
  have HYA := Lib.hid (show Blk ((w.alloc (.cells #[.slice A l.parts.length ca, .bool l.bg] 30)).alloc (.cells #[.slice B m.parts.length cb, .bool m.bg] 30)) (w.heap.size + 1) 30 #[.slice B m.parts.length cb, .bool m.bg] from by have := Blk.new (w.alloc (.cells #[.slice A l.parts.length ca, .bool l.bg] 30)) 30 #[.slice B m.parts.length cb, .bool m.bg]; simpa using this)
  go_enter Try.func5, Try.ntmps5
  go_upto_region 1 with (fail)
  generalize ((w.alloc (.cells #[.slice A l.parts.length ca, .bool l.bg] 30)).alloc (.cells #[.slice B m.parts.length cb, .bool m.bg] 30)) = wa at *
  have HU0 := Lib.hid HB0.out.drew
  have HX0 := Lib.hid HXA.out.drew
  have HY0 := Lib.hid HYA.out.drew
  have x00 := HXA.out.cell 0
  have x01 := HXA.out.cell 1
  have y00 := HYA.out.cell 0
  have y01 := HYA.out.cell 1
  simp only [List.getElem?_toArray, List.getElem?_cons_zero, List.getElem?_cons_succ] at x00 x01 y00 y01
  have xl0 := HXA.out.lt
  have yl0 := HYA.out.lt
  go_cut [6] (fun s6 wx => CeS w l m wx)
  case first =>
    go_region_with (first | (go_at_call 22; (with_reducible refine (short_any w.heap.size w1 _ m (RA.below HMA.out HU1.out) HU1.out.size).mono ?_); rintro e w2 ⟨v2, rfl, hr2, hb2⟩; obtain ⟨S2, c2, rfl, _⟩ := RowRd.form hr2; have HS2 := Lib.hid hr2; have HW2 := Lib.hid hb2; have HU2 := Lib.hid (HU1.out.trans (hb2.mono HU1.out.size)); have HX2 := Lib.hid (HX1.out.next hb2 HX1.out.lt); have HY2 := Lib.hid (HY1.out.next hb2 HY1.out.lt); have x20 := HX2.out.cell 0; have x21 := HX2.out.cell 1; have y20 := HY2.out.cell 0; have y21 := HY2.out.cell 1; have xf20 := HX2.out.frozen 0; have xf21 := HX2.out.frozen 1; have yf20 := HY2.out.frozen 0; have yf21 := HY2.out.frozen 1; have xl2 := HX2.out.lt; have yl2 := HY2.out.lt; simp only [List.getElem?_toArray, List.getElem?_cons_zero, List.getElem?_cons_succ] at x20 x21 y20 y21; clear hr2 hb2) | (go_at_call 22; (with_reducible refine (short_any w.heap.size wa.drew _ l (RA.below HLA.out HU0.out) HU0.out.size).mono ?_); rintro e w1 ⟨v1, rfl, hr1, hb1⟩; obtain ⟨S1, c1, rfl, _⟩ := RowRd.form hr1; have HS1 := Lib.hid hr1; have HW1 := Lib.hid hb1; have HU1 := Lib.hid (HU0.out.trans (hb1.mono HU0.out.size)); have HX1 := Lib.hid (HX0.out.next hb1 HX0.out.lt); have HY1 := Lib.hid (HY0.out.next hb1 HY0.out.lt); have x10 := HX1.out.cell 0; have x11 := HX1.out.cell 1; have y10 := HY1.out.cell 0; have y11 := HY1.out.cell 1; have xf10 := HX1.out.frozen 0; have xf11 := HX1.out.frozen 1; have yf10 := HY1.out.frozen 0; have yf11 := HY1.out.frozen 1; have xl1 := HX1.out.lt; have yl1 := HY1.out.lt; simp only [List.getElem?_toArray, List.getElem?_cons_zero, List.getElem?_cons_succ] at x10 x11 y10 y11; clear hr1 hb1))
    all_goals
      go_wp2_with fail
      go_meet
      case rel => exact ce_fin HX2.out HY2.out (RL.next HS1.out HW2.out) HS2.out HU2.out
  case rest =>
    obtain ⟨va, vb, hX, hY, hA, hB, hb⟩ := hcut
    have hLi := Lib.hid (cutL_in l)
    have hMi := Lib.hid (cutL_in m)
    generalize cutL l = L at *
    generalize cutL m = M at *
    obtain ⟨A, ca, rfl, _⟩ := RowRd.form hA
    obtain ⟨B, cb, rfl, _⟩ := RowRd.form hB
    have HU := Lib.hid hb
    have HX0 := Lib.hid hX.drew
    have HY0 := Lib.hid hY.drew
    have HA0 := Lib.hid (show RowRd 101 plV (NPp 51 39 112 109) wc.drew _ L.parts from RL.next hA ((Below.refl _ _).drew))
    have HB0 := Lib.hid (show RowRd 101 plV (NPp 51 39 112 109) wc.drew _ M.parts from RL.next hB ((Below.refl _ _).drew))
    have HK0 := Lib.hid (Below.refl wc.drew.heap.size wc.drew)
    have HLL := Lib.hid hLi.out.lim'
    have HML := Lib.hid hMi.out.lim'
    obtain ⟨r, hr⟩ : ∃ r, eqLn L M = r := ⟨_, rfl⟩
    have HEQ := Lib.hid hr
    have HEL := Lib.hid ((eqLn_iff L L).2 rfl)
    have hrr : (r == r) = true := by cases r <;> rfl
    have x00 : wc.cell? ⟨w.heap.size, 0, none⟩ = some (.slice A L.parts.length ca) := hX.cell 0
    have x01 : wc.cell? ⟨w.heap.size, 1, none⟩ = some (.bool L.bg) := hX.cell 1
    have y00 : wc.cell? ⟨w.heap.size + 1, 0, none⟩ = some (.slice B M.parts.length cb) := hY.cell 0
    have y01 : wc.cell? ⟨w.heap.size + 1, 1, none⟩ = some (.bool M.bg) := hY.cell 1
    have xl0 := hX.lt
    have yl0 := hY.lt
    clear hb hX hY hA hB hr HLA HMA HXA HYA
    go_upto_region 2 with (fail)
    go_region_held3 (fun w' => w'.cell? ⟨w.heap.size, 0, none⟩ = some (.slice A L.parts.length ca) ∧ w'.cell? ⟨w.heap.size, 1, none⟩ = some (.bool L.bg) ∧ w'.cell? ⟨w.heap.size + 1, 0, none⟩ = some (.slice B M.parts.length cb) ∧ w'.cell? ⟨w.heap.size + 1, 1, none⟩ = some (.bool M.bg))
      (first | (with_reducible exact ⟨z0, z1, z2, z3⟩) | go_keep)
      (first | (go_at_call 23; (with_reducible refine (Equal_is w7 _ _ L L true (CL.next HP6.out HB7.out) HP7.out HLL.out HLL.out HEL.out).mono ?_); rintro e w8 ⟨rfl, hb8⟩; have HB8 := Lib.hid hb8; have HK8 := Lib.hid (HK7.out.trans (hb8.mono HK7.out.size)); have HX8 := Lib.hid (HX0.out.next HK8.out HX0.out.lt); have HY8 := Lib.hid (HY0.out.next HK8.out HY0.out.lt); have z0 := HX8.out.cell 0; have z1 := HX8.out.cell 1; have z2 := HY8.out.cell 0; have z3 := HY8.out.cell 1; simp only [List.getElem?_toArray, List.getElem?_cons_zero, List.getElem?_cons_succ] at z0 z1 z2 z3; clear hb8) | (go_at_call 24; (with_reducible refine (To_any w6 _ L (RL.next HA0.out HK6.out) HLL.out).mono ?_); rintro e w7 ⟨t7, rfl, hq7, hb7⟩; obtain ⟨T7, d7, rfl, _⟩ := RowRd.form hq7; have HP7 := Lib.hid hq7; clear hq7; have HB7 := Lib.hid hb7; have HK7 := Lib.hid (HK6.out.trans (hb7.mono HK6.out.size)); have HX7 := Lib.hid (HX0.out.next HK7.out HX0.out.lt); have HY7 := Lib.hid (HY0.out.next HK7.out HY0.out.lt); have z0 := HX7.out.cell 0; have z1 := HX7.out.cell 1; have z2 := HY7.out.cell 0; have z3 := HY7.out.cell 1; simp only [List.getElem?_toArray, List.getElem?_cons_zero, List.getElem?_cons_succ] at z0 z1 z2 z3; clear hb7) | (go_at_call 24; (with_reducible refine (To_any w5 _ L (RL.next HA0.out HK5.out) HLL.out).mono ?_); rintro e w6 ⟨t6, rfl, hq6, hb6⟩; obtain ⟨T6, d6, rfl, _⟩ := RowRd.form hq6; have HP6 := Lib.hid hq6; clear hq6; have HB6 := Lib.hid hb6; have HK6 := Lib.hid (HK5.out.trans (hb6.mono HK5.out.size)); have HX6 := Lib.hid (HX0.out.next HK6.out HX0.out.lt); have HY6 := Lib.hid (HY0.out.next HK6.out HY0.out.lt); have z0 := HX6.out.cell 0; have z1 := HX6.out.cell 1; have z2 := HY6.out.cell 0; have z3 := HY6.out.cell 1; simp only [List.getElem?_toArray, List.getElem?_cons_zero, List.getElem?_cons_succ] at z0 z1 z2 z3; clear hb6) | (go_at_call 16; (with_reducible refine (Same_is w4 _ _ L M r (RL.next HA0.out HK4.out) (RL.next HB0.out HK4.out) HLL.out HML.out HEQ.out).mono ?_); rintro e w5 ⟨rfl, hb5⟩; have HB5 := Lib.hid hb5; have HK5 := Lib.hid (HK4.out.trans (hb5.mono HK4.out.size)); have HX5 := Lib.hid (HX0.out.next HK5.out HX0.out.lt); have HY5 := Lib.hid (HY0.out.next HK5.out HY0.out.lt); have z0 := HX5.out.cell 0; have z1 := HX5.out.cell 1; have z2 := HY5.out.cell 0; have z3 := HY5.out.cell 1; simp only [List.getElem?_toArray, List.getElem?_cons_zero, List.getElem?_cons_succ] at z0 z1 z2 z3; clear hb5) | (go_at_call 23; (with_reducible refine (Equal_is w3 _ _ L M r (CL.next HP2.out HB3.out) HP3.out HLL.out HML.out HEQ.out).mono ?_); rintro e w4 ⟨rfl, hb4⟩; have HB4 := Lib.hid hb4; have HK4 := Lib.hid (HK3.out.trans (hb4.mono HK3.out.size)); have HX4 := Lib.hid (HX0.out.next HK4.out HX0.out.lt); have HY4 := Lib.hid (HY0.out.next HK4.out HY0.out.lt); have z0 := HX4.out.cell 0; have z1 := HX4.out.cell 1; have z2 := HY4.out.cell 0; have z3 := HY4.out.cell 1; simp only [List.getElem?_toArray, List.getElem?_cons_zero, List.getElem?_cons_succ] at z0 z1 z2 z3; clear hb4) | (go_at_call 24; (with_reducible refine (To_any w2 _ M (RL.next HB0.out HK2.out) HML.out).mono ?_); rintro e w3 ⟨t3, rfl, hq3, hb3⟩; obtain ⟨T3, d3, rfl, _⟩ := RowRd.form hq3; have HP3 := Lib.hid hq3; clear hq3; have HB3 := Lib.hid hb3; have HK3 := Lib.hid (HK2.out.trans (hb3.mono HK2.out.size)); have HX3 := Lib.hid (HX0.out.next HK3.out HX0.out.lt); have HY3 := Lib.hid (HY0.out.next HK3.out HY0.out.lt); have z0 := HX3.out.cell 0; have z1 := HX3.out.cell 1; have z2 := HY3.out.cell 0; have z3 := HY3.out.cell 1; simp only [List.getElem?_toArray, List.getElem?_cons_zero, List.getElem?_cons_succ] at z0 z1 z2 z3; clear hb3) | (go_at_call 24; (with_reducible refine (To_any w1 _ L (RL.next HA0.out HK1.out) HLL.out).mono ?_); rintro e w2 ⟨t2, rfl, hq2, hb2⟩; obtain ⟨T2, d2, rfl, _⟩ := RowRd.form hq2; have HP2 := Lib.hid hq2; clear hq2; have HB2 := Lib.hid hb2; have HK2 := Lib.hid (HK1.out.trans (hb2.mono HK1.out.size)); have HX2 := Lib.hid (HX0.out.next HK2.out HX0.out.lt); have HY2 := Lib.hid (HY0.out.next HK2.out HY0.out.lt); have z0 := HX2.out.cell 0; have z1 := HX2.out.cell 1; have z2 := HY2.out.cell 0; have z3 := HY2.out.cell 1; simp only [List.getElem?_toArray, List.getElem?_cons_zero, List.getElem?_cons_succ] at z0 z1 z2 z3; clear hb2) | (go_at_call 15; (with_reducible refine (known_any wc.drew).mono ?_); rintro e w1 ⟨rfl, hb1⟩; have HB1 := Lib.hid hb1; have HK1 := Lib.hid (HK0.out.trans (hb1.mono HK0.out.size)); have HX1 := Lib.hid (HX0.out.next HK1.out HX0.out.lt); have HY1 := Lib.hid (HY0.out.next HK1.out HY0.out.lt); have z0 := HX1.out.cell 0; have z1 := HX1.out.cell 1; have z2 := HY1.out.cell 0; have z3 := HY1.out.cell 1; simp only [List.getElem?_toArray, List.getElem?_cons_zero, List.getElem?_cons_succ] at z0 z1 z2 z3; clear hb1))
    all_goals
      clear z0 z1 z2 z3
      go_wp2
      go_ret
      exact ⟨rfl, HU.out.drew.trans (HK8.out.mono HU.out.drew.size)⟩
end Go.Proofs.Ytiddchpkmcncdaa
