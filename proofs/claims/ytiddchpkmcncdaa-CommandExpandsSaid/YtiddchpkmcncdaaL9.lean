/- The law CommandExpands, walked. -/
import Derived.Test.YtiddchpkmcncdaaV2
import Derived.Test.YtiddchpkmcncdaaV3
namespace Go.Proofs.Ytiddchpkmcncdaa
open Go.RowKit
set_option linter.unusedSimpArgs false
set_option linter.unusedVariables false
theorem cutW_pl (ps : Wd) : ∀ p ∈ cutW ps, p.text.length ≤ 60 := by
  intro p hp
  unfold cutW at hp
  obtain ⟨q, _, rfl⟩ := List.mem_map.1 hp
  show (q.text.take 60).length ≤ 60
  rw [List.length_take]; omega
theorem val_nil : valOf [] = fun _ => [] := rfl
theorem lk_of (w : World) (v : Value) (vs : Vl) (ps : Wd) (h : Rd 56 w v vs.length (vlC vs)) (hl : vs.length ≤ 100000) : LkOk w (ofV v) (valOf vs) ps :=
  fun p _ _ wx hb => lookup_of wx v vs p.text (Rd.next h hb) hl
theorem lk_nil (w : World) (ps : Wd) : LkOk w .nilFunc (valOf []) ps := fun p _ _ wx _ => lookup_nil wx p.text
set_option maxRecDepth 100000 in
set_option maxHeartbeats 8000000 in
theorem expands_walk (w : World) (va : Value) (ps : Wd) (vb : Value) (vl : Vl) (ha : AW w.heap.size w va ps) (hb : RowRa vlV VlN w.heap.size w vb vl) :
    Calls Try.prog 8 #[va, vb] w fun e w' => e = .returned (.bool true) ∧ Below w.heap.size w w' := by
  have hmf : ∀ (fn : Fn) (first cap : Array Value) (w : World), (Instr.makeFunc fn first cap).run Try.prog w = .ok (.func fn first cap) w := fun _ _ _ _ => rfl
  have HA := Lib.hid ha
  have HV := Lib.hid hb
  obtain ⟨A, ca, rfl, _, _⟩ := RowRa.form (show RowRa pfc PN w.heap.size w va ps from ha)
  obtain ⟨B, cb, rfl, _, _⟩ := hb.form
  clear ha hb
  go_enter Try.func8, Try.ntmps8
  go_wp2_with fail
  refine (shortWord_any w.heap.size w _ ps HA.out (Nat.le_refl _)).mono ?_
  rintro e w1 ⟨v1, rfl, ho1, hb1⟩
  have hP := Lib.hid (cutW_pl ps)
  have hPl := cutW_len ps
  generalize cutW ps = P at *
  obtain ⟨A1, c1, rfl, _⟩ := own_len ho1
  have HW1 := Lib.hid (Rd.of_own ho1)
  have HB1 := Lib.hid hb1
  clear ho1 hb1
  go_wp2_with fail
  refine (shortValues_any w.heap.size w1 _ vl (RowRa.below HV.out HB1.out (fun _ _ h => h)) HB1.out.size).mono ?_
  rintro e w2 ⟨v2, rfl, ho2, hb2⟩
  have hVv := Lib.hid (cutV_val vl)
  have hVl := cutV_len vl
  generalize cutV vl = V at *
  obtain ⟨A2, c2, rfl, _⟩ := own_len ho2
  have HV2 := Lib.hid (Rd.of_own ho2)
  have HW2 := Lib.hid (Rd.next HW1.out hb2)
  have HB2 := Lib.hid (HB1.out.trans (hb2.mono HB1.out.size))
  have hpl := Lib.hid (show ∀ p ∈ P, p.text.length ≤ 1000 ∧ (valOf V p.text).length ≤ 1000 from fun p hp => ⟨by have := hP.out p hp; omega, by have := hVv.out p.text; omega⟩)
  have hp0 := Lib.hid (show ∀ p ∈ P, p.text.length ≤ 1000 ∧ (valOf [] p.text).length ≤ 1000 from fun p hp => ⟨by have := hP.out p hp; omega, by simp [valOf]⟩)
  clear ho2 hb2 HV HA HW1 HB1
  go_wp2_with fail
  refine (toWord_any w2 _ P HW2.out (by omega)).mono ?_
  rintro e w3 ⟨v3, rfl, ho3, hb3⟩
  obtain ⟨A3, c3, rfl, _⟩ := own_len ho3
  have HP3 := Lib.hid (show RdW w3 (.slice A3 P.length c3) P from Rd.of_own ho3)
  have HV3 := Lib.hid (Rd.next HV2.out hb3)
  have HW3 := Lib.hid (Rd.next HW2.out hb3)
  have HB3 := Lib.hid (HB2.out.trans (hb3.mono HB2.out.size))
  clear ho3 hb3 HV2 HW2 HB2
  obtain ⟨L, hL⟩ : ∃ L, expS (valOf V) P = L := ⟨_, rfl⟩
  have HL := Lib.hid hL
  have hLl : L.length ≤ 8001 := by have := expS_len (valOf V) P hpl.out; rw [hL] at this; omega
  obtain ⟨M, hM⟩ : ∃ M, expS (valOf []) P = M := ⟨_, rfl⟩
  have HM := Lib.hid hM
  have hMl : M.length ≤ 8001 := by have := expS_len (valOf []) P hp0.out; rw [hM] at this; omega
  clear hL hM
  go_wp2_with fail
  refine (Expand_all w3 _ _ (valOf V) P HP3.out (by omega) hpl.out (lk_of w3 _ V P HV3.out (by omega))).mono ?_
  intro e w4 hx
  rw [HL.out] at hx
  obtain ⟨v4, rfl, hr4, hb4⟩ := hx.open
  obtain ⟨A4, c4, rfl, _⟩ := Rd.form hr4
  have HG4 := Lib.hid hr4
  have HV4 := Lib.hid (Rd.next HV3.out hb4)
  have HW4 := Lib.hid (Rd.next HW3.out hb4)
  have HB4 := Lib.hid (HB3.out.trans (hb4.mono HB3.out.size))
  clear hx hr4 hb4 HV3 HW3 HB3 HP3
  go_wp2_with fail
  refine (rExpand_any w4 _ _ P V HW4.out HV4.out (by omega) (by omega) hpl.out).mono ?_
  intro e w5 hx
  rw [HL.out] at hx
  obtain ⟨v5, rfl, hr5, hb5⟩ := hx.open
  obtain ⟨A5, c5, rfl, _⟩ := Rd.form hr5
  have HH5 := Lib.hid hr5
  have HG5 := Lib.hid (Rd.next HG4.out hb5)
  have HV5 := Lib.hid (Rd.next HV4.out hb5)
  have HW5 := Lib.hid (Rd.next HW4.out hb5)
  have HB5 := Lib.hid (HB4.out.trans (hb5.mono HB4.out.size))
  clear hx hr5 hb5 HG4 HV4 HW4 HB4
  go_wp2_with fail
  refine (toWord_any w5 _ P HW5.out (by omega)).mono ?_
  rintro e w6 ⟨v6, rfl, ho6, hb6⟩
  obtain ⟨A6, c6, rfl, _⟩ := own_len ho6
  have HP6 := Lib.hid (show RdW w6 (.slice A6 P.length c6) P from Rd.of_own ho6)
  have HH6 := Lib.hid (Rd.next HH5.out hb6)
  have HG6 := Lib.hid (Rd.next HG5.out hb6)
  have HV6 := Lib.hid (Rd.next HV5.out hb6)
  have HW6 := Lib.hid (Rd.next HW5.out hb6)
  have HB6 := Lib.hid (HB5.out.trans (hb6.mono HB5.out.size))
  clear ho6 hb6 HH5 HG5 HV5 HW5 HB5
  go_wp2_with fail
  refine (Expand_all w6 _ _ (valOf []) P HP6.out (by omega) hp0.out (lk_nil w6 P)).mono ?_
  intro e w7 hx
  rw [HM.out] at hx
  obtain ⟨v7, rfl, hr7, hb7⟩ := hx.open
  obtain ⟨A7, c7, rfl, _⟩ := Rd.form hr7
  have HN7 := Lib.hid hr7
  have HH7 := Lib.hid (Rd.next HH6.out hb7)
  have HG7 := Lib.hid (Rd.next HG6.out hb7)
  have HV7 := Lib.hid (Rd.next HV6.out hb7)
  have HW7 := Lib.hid (Rd.next HW6.out hb7)
  have HB7 := Lib.hid (HB6.out.trans (hb7.mono HB6.out.size))
  clear hx hr7 hb7 HH6 HG6 HV6 HW6 HB6 HP6
  go_wp2_with fail
  refine (toWord_any w7 _ P HW7.out (by omega)).mono ?_
  rintro e w8 ⟨v8, rfl, ho8, hb8⟩
  obtain ⟨A8, c8, rfl, _⟩ := own_len ho8
  have HP8 := Lib.hid (show RdW w8 (.slice A8 P.length c8) P from Rd.of_own ho8)
  have HN8 := Lib.hid (Rd.next HN7.out hb8)
  have HH8 := Lib.hid (Rd.next HH7.out hb8)
  have HG8 := Lib.hid (Rd.next HG7.out hb8)
  have HV8 := Lib.hid (Rd.next HV7.out hb8)
  have HW8 := Lib.hid (Rd.next HW7.out hb8)
  have HB8 := Lib.hid (HB7.out.trans (hb8.mono HB7.out.size))
  clear ho8 hb8 HN7 HH7 HG7 HV7 HW7 HB7
  have hcase : (L.length ≠ 1) ∨ ∃ x, L = [x] := by
    by_cases h : L.length = 1
    · right
      match L, h with
      | [x], _ => exact ⟨x, rfl⟩
    · exact .inl h
  go_wp2_with fail
  rcases hcase with hne | ⟨x, hx1⟩
  · refine (Join_no w8 _ _ (valOf V) P L HL.out HP8.out (by omega) hpl.out (lk_of w8 _ V P HV8.out (by omega)) hne).mono ?_
    rintro e w9 ⟨rfl, hb9⟩
    have HN9 := Lib.hid (Rd.next HN8.out hb9)
    have HH9 := Lib.hid (Rd.next HH8.out hb9)
    have HG9 := Lib.hid (Rd.next HG8.out hb9)
    have HW9 := Lib.hid (Rd.next HW8.out hb9)
    have HB9 := Lib.hid (HB8.out.trans (hb9.mono HB8.out.size))
    have n1 : ((L.length : Int) == 1) = false := beq_false_of_ne (by omega)
    have n2 : ((L.length : Int) != 1) = true := by simp; omega
    have n3 : (L.length == 1) = false := beq_false_of_ne hne
    have HNE := Lib.hid hne
    clear hb9 HN8 HH8 HG8 HW8 HB8 HV8 HP8 hne
    go_wp2_with fail
    refine (known_any w9).mono ?_
    rintro e w10 ⟨rfl, hb10⟩
    have HN10 := Lib.hid (Rd.next HN9.out hb10)
    have HH10 := Lib.hid (Rd.next HH9.out hb10)
    have HG10 := Lib.hid (Rd.next HG9.out hb10)
    have HW10 := Lib.hid (Rd.next HW9.out hb10)
    have HB10 := Lib.hid (HB9.out.trans (hb10.mono HB9.out.size))
    clear hb10 HN9 HH9 HG9 HW9 HB9
    go_wp2_with fail
    refine (sameS_is w10 _ _ L L HG10.out HH10.out (by omega) rfl).mono ?_
    rintro e w11 ⟨rfl, hb11⟩
    have HN11 := Lib.hid (Rd.next HN10.out hb11)
    have HW11 := Lib.hid (Rd.next HW10.out hb11)
    have HB11 := Lib.hid (HB10.out.trans (hb11.mono HB10.out.size))
    clear hb11 HN10 HH10 HG10 HW10 HB10
    go_wp2_with fail
    refine (rExpand_any w11 _ _ P [] HW11.out ⟨none, 0, rfl, Nat.le_refl _, Nat.zero_le _, .inl ⟨rfl, rfl⟩⟩ (by omega) (by simp) hp0.out).mono ?_
    intro e w12 hx
    rw [HM.out] at hx
    obtain ⟨v12, rfl, hr12, hb12⟩ := hx.open
    obtain ⟨A12, c12, rfl, _⟩ := Rd.form hr12
    have HK12 := Lib.hid hr12
    have HN12 := Lib.hid (Rd.next HN11.out hb12)
    have HB12 := Lib.hid (HB11.out.trans (hb12.mono HB11.out.size))
    clear hx hr12 hb12 HN11 HW11 HB11
    go_wp2_with fail
    refine (sameS_is w12 _ _ M M HN12.out HK12.out (by omega) rfl).mono ?_
    rintro e w13 ⟨rfl, hb13⟩
    have HB13 := Lib.hid (HB12.out.trans (hb13.mono HB12.out.size))
    clear hb13
    go_wp2
    go_ret
    exact ⟨rfl, HB13.out⟩
  · have HX1 := Lib.hid hx1
    refine (Join_yes w8 _ _ (valOf V) P x (HL.out.trans hx1) HP8.out (by omega) hpl.out (lk_of w8 _ V P HV8.out (by omega))).mono ?_
    rintro e w9 ⟨rfl, hb9⟩
    have HN9 := Lib.hid (Rd.next HN8.out hb9)
    have HH9 := Lib.hid (Rd.next HH8.out hb9)
    have HG9 := Lib.hid (Rd.next HG8.out hb9)
    have HW9 := Lib.hid (Rd.next HW8.out hb9)
    have HB9 := Lib.hid (HB8.out.trans (hb9.mono HB8.out.size))
    clear hb9 HN8 HH8 HG8 HW8 HB8 HV8 HP8 hx1
    go_wp2_with fail
    refine (known_any w9).mono ?_
    rintro e w10 ⟨rfl, hb10⟩
    have HN10 := Lib.hid (Rd.next HN9.out hb10)
    have HH10 := Lib.hid (Rd.next HH9.out hb10)
    have HG10 := Lib.hid (Rd.next HG9.out hb10)
    have HW10 := Lib.hid (Rd.next HW9.out hb10)
    have HB10 := Lib.hid (HB9.out.trans (hb10.mono HB9.out.size))
    clear hb10 HN9 HH9 HG9 HW9 HB9
    go_wp2_with fail
    refine (sameS_is w10 _ _ L L HG10.out HH10.out (by omega) rfl).mono ?_
    rintro e w11 ⟨rfl, hb11⟩
    have HN11 := Lib.hid (Rd.next HN10.out hb11)
    have HH11 := Lib.hid (Rd.next HH10.out hb11)
    have HW11 := Lib.hid (Rd.next HW10.out hb11)
    have HB11 := Lib.hid (HB10.out.trans (hb11.mono HB10.out.size))
    clear hb11 HN10 HH10 HG10 HW10 HB10
    go_wp2_with fail
    refine (rExpand_any w11 _ _ P [] HW11.out ⟨none, 0, rfl, Nat.le_refl _, Nat.zero_le _, .inl ⟨rfl, rfl⟩⟩ (by omega) (by simp) hp0.out).mono ?_
    intro e w12 hx
    rw [HM.out] at hx
    obtain ⟨v12, rfl, hr12, hb12⟩ := hx.open
    obtain ⟨A12, c12, rfl, _⟩ := Rd.form hr12
    have HK12 := Lib.hid hr12
    have HN12 := Lib.hid (Rd.next HN11.out hb12)
    have HH12 := Lib.hid (Rd.next HH11.out hb12)
    have HB12 := Lib.hid (HB11.out.trans (hb12.mono HB11.out.size))
    clear hx hr12 hb12 HN11 HW11 HB11 HH11
    go_wp2_with fail
    refine (sameS_is w12 _ _ M M HN12.out HK12.out (by omega) rfl).mono ?_
    rintro e w13 ⟨rfl, hb13⟩
    have HB13 := Lib.hid (HB12.out.trans (hb13.mono HB12.out.size))
    have hH := Rd.next HH12.out hb13
    rw [HX1.out] at hH
    obtain ⟨b, o, c, hv, hc, hbl, hcell⟩ := Rd.texts hH (by simp)
    have c0 : w13.cell? ⟨b, o, none⟩ = some (.string (bs x)) := hcell 0 (by simp)
    injection hv with hv1 hv2 hv3
    subst hv1
    have e1 : ((L.length : Int) == 1) = true := by rw [HX1.out]; rfl
    have e2 : ((L.length : Int) != 1) = false := by rw [HX1.out]; rfl
    have hl1 : (0 : Int) < (L.length : Int) := by rw [HX1.out]; simp
    have tt : ((bs x).toList == (bs x).toList) = true := beq_self_eq_true _
    clear hb13 hH hcell hv2 hv3
    go_wp2
    go_ret
    exact ⟨rfl, HB13.out⟩
end Go.Proofs.Ytiddchpkmcncdaa
