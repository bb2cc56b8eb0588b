/- The law CommandRoundTrip, walked. -/
import Derived.Test.YtiddchpkmcncdaaL4
import Derived.Test.YtiddchpkmcncdaaL5
import Derived.Test.YtiddchpkmcncdaaC4
namespace Go.Proofs.Ytiddchpkmcncdaa
open Go.RowKit
set_option linter.unusedSimpArgs false
set_option linter.unusedVariables false
theorem short_is (B : Nat) (w : World) (v : Value) (l L : Ln) (hL : cutL l = L) (h : RowRa plV (AP B) B w v l.parts) (hB : B ≤ w.heap.size) :
    Calls Try.prog 22 #[.agg #[v, .bool l.bg]] w fun e w' => ∃ v', e = .returned (.agg #[v', .bool L.bg]) ∧ RowRd 101 plV (NPp 51 39 112 109) w' v' L.parts ∧ Below w.heap.size w w' := by
  subst hL; exact short_any B w v l h hB
theorem Print_is0 (w : World) (v : Value) (l : Ln) (bg : Bool) (e0 : Int) (h : RowRd 49 plV (NPp 61 42 140 46) w v l.parts) (hlim : LnIn l) (hb : l.bg = bg) (hp : prtS l = ([], e0)) :
    Calls Try.prog 35 #[.agg #[v, .bool bg]] w fun e w' => e = .returned (.tuple #[.string ⟨#[]⟩, .int .i64 e0]) ∧ Below w.heap.size w w' := Print_is w v l bg [] e0 h hlim hb hp
theorem prtS_cases (l : Ln) : (∃ e, prtS l = ([], e) ∧ e ≠ 0) ∨ (prtS l = (lnT l, 0) ∧ parS (lnT l) = .ok l ∧ (lnT l).length ≤ 1024 ∧ lchk l = 0) := by
  by_cases h : lchk l = 0
  · by_cases h2 : 1024 < (lnT l).length
    · exact .inl ⟨5, prtS_2 h h2, by decide⟩
    · exact .inr ⟨prtS_3 h h2, par_print l h (by omega), by omega, h⟩
  · exact .inl ⟨lchk l, prtS_1 rfl h, h⟩
/-- Behind the store of the shortened command line into its box. -/
theorem box_fin {w w1 : World} {g : Nat} {z0 z1 : Value} {L : Ln} {v1 : Value} (hg : w.heap.size ≤ g) (hx : Blk w1 g 30 #[z0, z1]) (hr : RowRd 101 plV (NPp 51 39 112 109) w1 v1 L.parts) (hb : Below w.heap.size w w1) :
    Blk ((w1.setCell ⟨g, 0, none⟩ v1).setCell ⟨g, 1, none⟩ (.bool L.bg)) g 30 #[v1, .bool L.bg] ∧ RowRd 101 plV (NPp 51 39 112 109) ((w1.setCell ⟨g, 0, none⟩ v1).setCell ⟨g, 1, none⟩ (.bool L.bg)) v1 L.parts ∧ Below w.heap.size w ((w1.setCell ⟨g, 0, none⟩ v1).setCell ⟨g, 1, none⟩ (.bool L.bg)) := by
  obtain ⟨b1, g1⟩ := set2 hx v1 (.bool L.bg)
  have k1 : Kept [30] w1 _ := Kept.of_blk [30] hx g1 rfl
  exact ⟨b1, RL.keep hr k1 rfl rfl rfl rfl rfl, below_of_grown' hb g1 hg⟩
set_option maxRecDepth 100000 in
set_option maxHeartbeats 16000000 in
theorem rt_walk (w : World) (va : Value) (l : Ln) (ha : RowRa plV (AP w.heap.size) w.heap.size w va l.parts) :
    Calls Try.prog 10 #[.agg #[va, .bool l.bg]] w fun e w' => e = .returned (.bool true) ∧ Below w.heap.size w w' := by
  obtain ⟨A, ca, rfl, _, _⟩ := ha.form
  have HLA := Lib.hid ha
  clear ha
  have HBA := Lib.hid ((Below.refl w.heap.size w).alloc (Nat.le_refl _) (.cells #[.slice A l.parts.length ca, .bool l.bg] 30))
  have HXA := Lib.hid (Blk.new w 30 #[.slice A l.parts.length ca, .bool l.bg])
  obtain ⟨L, hL⟩ : ∃ L, cutL l = L := ⟨_, rfl⟩
  have HL := Lib.hid hL
  have HIN := Lib.hid (show LnIn L by rw [← hL]; exact cutL_in l)
  have HLL := Lib.hid HIN.out.lim'
  clear hL
  go_enter Try.func10, Try.ntmps10
  go_wp2_with fail
  generalize (w.alloc (.cells #[.slice A l.parts.length ca, .bool l.bg] 30)) = wa at *
  (with_reducible refine (short_is w.heap.size wa _ l L HL.out (RA.below HLA.out HBA.out) HBA.out.size).mono ?_); rintro e w1 ⟨v1, rfl, hr1, hb1⟩
  obtain ⟨A1, c1, rfl, _⟩ := RowRd.form hr1
  have HB1 := Lib.hid (HBA.out.trans (hb1.mono HBA.out.size))
  have HX1 := Lib.hid (HXA.out.next hb1 HXA.out.lt)
  have HF := Lib.hid (box_fin (Nat.le_refl _) HX1.out hr1 HB1.out)
  have x0 : w1.cell? ⟨w.heap.size, 0, none⟩ = some (.slice A l.parts.length ca) := HX1.out.cell 0
  have x1 : w1.cell? ⟨w.heap.size, 1, none⟩ = some (.bool l.bg) := HX1.out.cell 1
  have xf0 := HX1.out.frozen 0
  have xf1 := HX1.out.frozen 1
  have xl := HX1.out.lt
  clear hr1 hb1 HBA HXA HLA
  go_wp2_with fail
  generalize ((w1.setCell ⟨w.heap.size, 0, none⟩ (.slice A1 L.parts.length c1)).setCell ⟨w.heap.size, 1, none⟩ (.bool L.bg)) = w2 at *
  obtain ⟨hX2, hR2, hB2⟩ := HF.out
  have HX2 := Lib.hid hX2
  have HR2 := Lib.hid hR2
  have HB2 := Lib.hid hB2
  clear hX2 hR2 hB2 HF x0 x1 xf0 xf1 xl HX1 HB1
  (with_reducible refine (To_any w2 _ L HR2.out HLL.out).mono ?_); rintro e w3 ⟨v3, rfl, hr3, hb3⟩
  obtain ⟨A3, c3, rfl, _⟩ := RowRd.form hr3
  have HR3 := Lib.hid hr3
  have HX3 := Lib.hid (HX2.out.next hb3 HX2.out.lt)
  have HQ3 := Lib.hid (RL.next HR2.out hb3)
  have HB3 := Lib.hid (HB2.out.trans (hb3.mono HB2.out.size))
  clear hr3 hb3 HX2 HR2 HB2
  go_wp2_with fail
  rcases prtS_cases L with ⟨ev, hp, hne⟩ | ⟨hp, hpp, hlen, hck⟩
  · have HP := Lib.hid hp
    have n1 : (ev == 0) = false := beq_false_of_ne hne
    have n2 : (ev != 0) = true := by simpa using hne
    clear hp hne
    (with_reducible refine (Print_is0 w3 _ L L.bg ev HR3.out HIN.out rfl HP.out).mono ?_); rintro e w4 ⟨rfl, hb4⟩
    have HB4 := Lib.hid (HB3.out.trans (hb4.mono HB3.out.size)); clear hb4
    go_wp2_with fail
    (with_reducible refine (known_any w4).mono ?_); rintro e w5 ⟨rfl, hb5⟩
    have HB5 := Lib.hid (HB4.out.trans (hb5.mono HB4.out.size)); clear hb5
    go_wp2_with fail
    (with_reducible refine (known_any w5).mono ?_); rintro e w6 ⟨rfl, hb6⟩
    have HB6 := Lib.hid (HB5.out.trans (hb6.mono HB5.out.size)); clear hb6
    go_wp2
    go_ret
    exact ⟨rfl, HB6.out⟩
  · have HP := Lib.hid hp
    have HPP := Lib.hid hpp
    obtain ⟨T, hT⟩ : ∃ T, lnT L = T := ⟨_, rfl⟩
    rw [hT] at HP HPP hlen
    clear hp hpp hT hck
    (with_reducible refine (Print_is w3 _ L L.bg T 0 HR3.out HIN.out rfl HP.out).mono ?_); rintro e w4 ⟨rfl, hb4⟩
    have HX4 := Lib.hid (HX3.out.next hb4 HX3.out.lt); have HQ4 := Lib.hid (RL.next HQ3.out hb4); have HB4 := Lib.hid (HB3.out.trans (hb4.mono HB3.out.size)); clear hb4
    go_wp2_with fail
    (with_reducible refine (known_any w4).mono ?_); rintro e w5 ⟨rfl, hb5⟩
    have HX5 := Lib.hid (HX4.out.next hb5 HX4.out.lt); have HQ5 := Lib.hid (RL.next HQ4.out hb5); have HB5 := Lib.hid (HB4.out.trans (hb5.mono HB4.out.size)); clear hb5
    go_wp2_with fail
    (with_reducible refine (Parse_is T w5 L L.bg HPP.out rfl (by omega)).mono ?_); rintro e w6 ⟨v6, rfl, hr6, hb6⟩
    obtain ⟨A6, c6, rfl, _⟩ := RowRd.form hr6
    have HM6 := Lib.hid hr6
    have HX6 := Lib.hid (HX5.out.next hb6 HX5.out.lt); have HQ6 := Lib.hid (RL.next HQ5.out hb6); have HB6 := Lib.hid (HB5.out.trans (hb6.mono HB5.out.size)); clear hb6
    have HX7 := Lib.hid (HX6.out.alloc (.cells #[.slice A6 L.parts.length c6, .bool L.bg] 24))
    have HY7 := Lib.hid (Blk.new w6 24 #[.slice A6 L.parts.length c6, .bool L.bg])
    have HN := Lib.hid ((Below.refl w6.heap.size w6).alloc (Nat.le_refl _) (.cells #[.slice A6 L.parts.length c6, .bool L.bg] 24))
    have HQ7 := Lib.hid (RL.next HQ6.out HN.out)
    have HM7 := Lib.hid (CL.next HM6.out HN.out)
    have HB7 := Lib.hid (HB6.out.trans (HN.out.mono HB6.out.size))
    clear hr6
    go_upto_region 6 with (fail)
    generalize (w6.alloc (.cells #[.slice A6 L.parts.length c6, .bool L.bg] 24)) = w7 at *
    generalize w6.heap.size = g at *
    have x00 : w7.cell? ⟨w.heap.size, 0, none⟩ = some (.slice A1 L.parts.length c1) := HX7.out.cell 0
    have x01 : w7.cell? ⟨w.heap.size, 1, none⟩ = some (.bool L.bg) := HX7.out.cell 1
    have y00 : w7.cell? ⟨g, 0, none⟩ = some (.slice A6 L.parts.length c6) := HY7.out.cell 0
    have y01 : w7.cell? ⟨g, 1, none⟩ = some (.bool L.bg) := HY7.out.cell 1
    have HEL := Lib.hid ((eqLn_iff L L).2 rfl)
    clear HX6 HQ6 HM6 HB6 HX5 HQ5 HB5 HX4 HQ4 HB4 HX3 HQ3 HB3 HR3 HN
    go_region_held3 (fun w' => w'.cell? ⟨w.heap.size, 0, none⟩ = some (.slice A1 L.parts.length c1) ∧ w'.cell? ⟨w.heap.size, 1, none⟩ = some (.bool L.bg) ∧ w'.cell? ⟨g, 0, none⟩ = some (.slice A6 L.parts.length c6) ∧ w'.cell? ⟨g, 1, none⟩ = some (.bool L.bg))
      (first | (with_reducible exact ⟨z0, z1, z2, z3⟩) | go_keep)
      (first
        | (go_at_call 16; (with_reducible refine (Same_is w8 _ _ L L true HM8.out HQ8.out HLL.out HLL.out HEL.out).mono ?_); rintro e w9 ⟨rfl, hb9⟩; have HX9 := Lib.hid (HX8.out.next hb9 HX8.out.lt); have HY9 := Lib.hid (HY8.out.next hb9 HY8.out.lt); have HB9 := Lib.hid (HB8.out.trans (hb9.mono HB8.out.size)); have z0 := HX9.out.cell 0; have z1 := HX9.out.cell 1; have z2 := HY9.out.cell 0; have z3 := HY9.out.cell 1; simp only [List.getElem?_toArray, List.getElem?_cons_zero, List.getElem?_cons_succ] at z0 z1 z2 z3; clear hb9)
        | (go_at_call 17; (with_reducible refine (Of_any w7.drew _ L (CL.next HM7.out (Below.refl _ _).drew) HLL.out).mono ?_); rintro e w8 ⟨v8, rfl, hr8, hb8⟩; obtain ⟨A8, c8, rfl, _⟩ := RowRd.form hr8; have HM8 := Lib.hid hr8; have HX8 := Lib.hid (HX7.out.drew.next hb8 HX7.out.drew.lt); have HY8 := Lib.hid (HY7.out.drew.next hb8 HY7.out.drew.lt); have HQ8 := Lib.hid (RL.next (RL.next HQ7.out (Below.refl _ _).drew) hb8); have HB8 := Lib.hid (HB7.out.drew.trans (hb8.mono HB7.out.drew.size)); have z0 := HX8.out.cell 0; have z1 := HX8.out.cell 1; have z2 := HY8.out.cell 0; have z3 := HY8.out.cell 1; simp only [List.getElem?_toArray, List.getElem?_cons_zero, List.getElem?_cons_succ] at z0 z1 z2 z3; clear hr8 hb8))
    all_goals
      clear z0 z1 z2 z3
      go_wp2
      go_ret
      exact ⟨rfl, HB9.out⟩
end Go.Proofs.Ytiddchpkmcncdaa
