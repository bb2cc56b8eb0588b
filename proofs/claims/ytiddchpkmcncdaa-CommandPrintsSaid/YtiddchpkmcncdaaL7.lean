/- The law CommandPrints, walked. -/
import Derived.Test.YtiddchpkmcncdaaG6
import Derived.Test.YtiddchpkmcncdaaG7
namespace Go.Proofs.Ytiddchpkmcncdaa
open Go.RowKit
set_option linter.unusedSimpArgs false
set_option linter.unusedVariables false
theorem rPrint_is (w : World) (v : Value) (l : Ln) (bg : Bool) (T : Bs) (e0 : Int) (h : RowRd 101 plV (NPp 51 39 112 109) w v l.parts) (hlim : LnIn l) (hb : l.bg = bg) (hp : prtS l = (T, e0)) :
    Calls Try.prog 36 #[.agg #[v, .bool bg]] w fun e w' => e = .returned (.tuple #[.string (bs T), .int .i64 e0]) ∧ Below w.heap.size w w' := by
  subst hb
  refine (rPrint_any w v l h hlim).mono ?_
  rintro e w' ⟨h1, h2⟩
  rw [hp] at h1
  exact ⟨h1, h2⟩
set_option maxRecDepth 100000 in
set_option maxHeartbeats 16000000 in
theorem prints_walk (w : World) (va : Value) (l : Ln) (ha : RowRa plV (AP w.heap.size) w.heap.size w va l.parts) :
    Calls Try.prog 9 #[.agg #[va, .bool l.bg]] w fun e w' => e = .returned (.bool true) ∧ Below w.heap.size w w' := by
  obtain ⟨A, ca, rfl, _, _⟩ := ha.form
  have HLA := Lib.hid ha
  clear ha
  have HBA := Lib.hid ((Below.refl w.heap.size w).alloc (Nat.le_refl _) (.cells #[.slice A l.parts.length ca, .bool l.bg] 30))
  have HXA := Lib.hid (Blk.new w 30 #[.slice A l.parts.length ca, .bool l.bg])
  obtain ⟨L, hL⟩ : ∃ L, cutL l = L := ⟨_, rfl⟩
  have HL := Lib.hid hL
  have HIN := Lib.hid (show LnIn L by rw [← hL]; exact cutL_in l)
  have HLL := Lib.hid HIN.out.lim'
  clear hL
  go_enter Try.func9, Try.ntmps9
  go_wp2_with fail
  generalize (w.alloc (.cells #[.slice A l.parts.length ca, .bool l.bg] 30)) = wa at *
  (with_reducible refine (short_is w.heap.size wa _ l L HL.out (RA.below HLA.out HBA.out) HBA.out.size).mono ?_); rintro e w1 ⟨v1, rfl, hr1, hb1⟩
  obtain ⟨A1, c1, rfl, _⟩ := RowRd.form hr1
  have HB1 := Lib.hid (HBA.out.trans (hb1.mono HBA.out.size))
  have HX1 := Lib.hid (HXA.out.next hb1 HXA.out.lt)
  have HF := Lib.hid (box_fin (Nat.le_refl _) HX1.out hr1 HB1.out)
  have x0 : w1.cell? ⟨w.heap.size, 0, none⟩ = some (.slice A l.parts.length ca) := HX1.out.cell 0
  have x1 : w1.cell? ⟨w.heap.size, 1, none⟩ = some (.bool l.bg) := HX1.out.cell 1
  have xf0 := HX1.out.frozen 0
  have xf1 := HX1.out.frozen 1
  have xl := HX1.out.lt
  clear hr1 hb1 HBA HXA HLA
  go_wp2_with fail
  generalize ((w1.setCell ⟨w.heap.size, 0, none⟩ (.slice A1 L.parts.length c1)).setCell ⟨w.heap.size, 1, none⟩ (.bool L.bg)) = w2 at *
  obtain ⟨hX2, hR2, hB2⟩ := HF.out
  have HX2 := Lib.hid hX2
  have HR2 := Lib.hid hR2
  have HB2 := Lib.hid hB2
  clear hX2 hR2 hB2 HF x0 x1 xf0 xf1 xl HX1 HB1
  (with_reducible refine (To_any w2 _ L HR2.out HLL.out).mono ?_); rintro e w3 ⟨v3, rfl, hr3, hb3⟩
  obtain ⟨A3, c3, rfl, _⟩ := RowRd.form hr3
  have HR3 := Lib.hid hr3
  have HX3 := Lib.hid (HX2.out.next hb3 HX2.out.lt)
  have HQ3 := Lib.hid (RL.next HR2.out hb3)
  have HB3 := Lib.hid (HB2.out.trans (hb3.mono HB2.out.size))
  clear hr3 hb3 HX2 HR2 HB2
  go_wp2_with fail
  obtain ⟨T, ev, hp⟩ : ∃ T ev, prtS L = (T, ev) := ⟨_, _, rfl⟩
  have HP := Lib.hid hp
  clear hp
  obtain ⟨ck, hck⟩ : ∃ ck, lchk L = ck := ⟨_, rfl⟩
  have HCK := Lib.hid hck
  clear hck
  have ee : (ev == ev) = true := beq_self_eq_true ev
  have cc : (ck == ck) = true := beq_self_eq_true ck
  have tt : ((bs T).toList == (bs T).toList) = true := beq_self_eq_true _
  (with_reducible refine (Print_is w3 _ L L.bg T ev HR3.out HIN.out rfl HP.out).mono ?_); rintro e w4 ⟨rfl, hb4⟩
  have HX4 := Lib.hid (HX3.out.next hb4 HX3.out.lt); have HQ4 := Lib.hid (RL.next HQ3.out hb4); have HB4 := Lib.hid (HB3.out.trans (hb4.mono HB3.out.size)); clear hb4
  have x0 : w4.cell? ⟨w.heap.size, 0, none⟩ = some (.slice A1 L.parts.length c1) := HX4.out.cell 0
  have x1 : w4.cell? ⟨w.heap.size, 1, none⟩ = some (.bool L.bg) := HX4.out.cell 1
  go_wp2_with fail
  (with_reducible refine (rPrint_is w4 _ L L.bg T ev HQ4.out HIN.out rfl HP.out).mono ?_); rintro e w5 ⟨rfl, hb5⟩
  have HX5 := Lib.hid (HX4.out.next hb5 HX4.out.lt); have HQ5 := Lib.hid (RL.next HQ4.out hb5); have HB5 := Lib.hid (HB4.out.trans (hb5.mono HB4.out.size)); clear hb5
  go_upto_region 4 with (fail)
  clear x0 x1
  have x00 : w5.cell? ⟨w.heap.size, 0, none⟩ = some (.slice A1 L.parts.length c1) := HX5.out.cell 0
  have x01 : w5.cell? ⟨w.heap.size, 1, none⟩ = some (.bool L.bg) := HX5.out.cell 1
  have HK0 := Lib.hid (Below.refl w5.drew.heap.size w5.drew)
  have HXD := Lib.hid HX5.out.drew
  have HQD := Lib.hid (RL.next HQ5.out (Below.refl _ _).drew)
  clear HX4 HQ4 HB4 HX3 HQ3 HB3 HR3
  go_region_held3 (fun w' => w'.cell? ⟨w.heap.size, 0, none⟩ = some (.slice A1 L.parts.length c1) ∧ w'.cell? ⟨w.heap.size, 1, none⟩ = some (.bool L.bg))
    (first | (with_reducible exact ⟨z0, z1⟩) | go_keep)
    (first
      | (go_at_call 38; (with_reducible refine (rCheck_is k3 _ L L.bg ck (RL.next HQD.out HK3.out) HIN.out rfl HCK.out).mono ?_); rintro e k4 ⟨rfl, hb9⟩; have HK4 := Lib.hid (HK3.out.trans (hb9.mono HK3.out.size)); have HZ4 := Lib.hid (HXD.out.next HK4.out HXD.out.lt); have z0 := HZ4.out.cell 0; have z1 := HZ4.out.cell 1; simp only [List.getElem?_toArray, List.getElem?_cons_zero, List.getElem?_cons_succ] at z0 z1; clear hb9)
      | (go_at_call 37; (with_reducible refine (Check_is k2 _ L L.bg ck HP2.out HIN.out rfl HCK.out).mono ?_); rintro e k3 ⟨rfl, hb9⟩; have HK3 := Lib.hid (HK2.out.trans (hb9.mono HK2.out.size)); have HZ3 := Lib.hid (HXD.out.next HK3.out HXD.out.lt); have z0 := HZ3.out.cell 0; have z1 := HZ3.out.cell 1; simp only [List.getElem?_toArray, List.getElem?_cons_zero, List.getElem?_cons_succ] at z0 z1; clear hb9)
      | (go_at_call 24; (with_reducible refine (To_any k1 _ L (RL.next HQD.out HK1.out) HLL.out).mono ?_); rintro e k2 ⟨t2, rfl, hq2, hb9⟩; obtain ⟨T2, d2, rfl, _⟩ := RowRd.form hq2; have HP2 := Lib.hid hq2; clear hq2; have HK2 := Lib.hid (HK1.out.trans (hb9.mono HK1.out.size)); have HZ2 := Lib.hid (HXD.out.next HK2.out HXD.out.lt); have z0 := HZ2.out.cell 0; have z1 := HZ2.out.cell 1; simp only [List.getElem?_toArray, List.getElem?_cons_zero, List.getElem?_cons_succ] at z0 z1; clear hb9)
      | (go_at_call 15; (with_reducible refine (known_any w5.drew).mono ?_); rintro e k1 ⟨rfl, hb9⟩; have HK1 := Lib.hid (HK0.out.trans (hb9.mono HK0.out.size)); have HZ1 := Lib.hid (HXD.out.next HK1.out HXD.out.lt); have z0 := HZ1.out.cell 0; have z1 := HZ1.out.cell 1; simp only [List.getElem?_toArray, List.getElem?_cons_zero, List.getElem?_cons_succ] at z0 z1; clear hb9))
  all_goals
    clear z0 z1
    go_wp2
    go_ret
    exact ⟨rfl, HB5.out.drew.trans (HK4.out.mono HB5.out.drew.size)⟩
end Go.Proofs.Ytiddchpkmcncdaa
