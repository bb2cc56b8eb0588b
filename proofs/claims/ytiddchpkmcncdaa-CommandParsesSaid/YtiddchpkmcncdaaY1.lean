/- Walks of layer 41: sameStage and Same of the reference. -/
import Derived.Test.YtiddchpkmcncdaaE1
namespace Go.Proofs.Ytiddchpkmcncdaa
open Go.RowKit
set_option linter.unusedSimpArgs false
set_option linter.unusedVariables false
theorem SameWord_is (w : World) (va vb : Value) (a b : Wd) (r : Bool) (ha : NWp 51 w va a) (hb : NWp 51 w vb b) (la : a.length ≤ 100000) (lb : b.length ≤ 100000) (hr : sameW a b = r) :
    Calls Try.prog 20 #[va, vb] w fun e w' => e = .returned (.bool r) ∧ Below w.heap.size w w' := by
  subst hr; exact SameWord_any w va vb a b ha hb la lb
set_option maxRecDepth 100000 in
set_option maxHeartbeats 16000000 in
theorem sst_is (w : World) (va vb vi vo ua ub ui uo : Value) (a b : Sm) (r : Bool) (ha : NSp 51 39 112 w ⟨va, vb, vi, vo⟩ a) (hb : NSp 51 39 112 w ⟨ua, ub, ui, uo⟩ b) (la : SmLim a) (lb : SmLim b) (hr : eqSm a b = r) :
    Calls Try.prog 48 #[.agg #[va, vb, vi, vo, .bool a.app], .agg #[ua, ub, ui, uo, .bool b.app]] w fun e w' => e = .returned (.bool r) ∧ Below w.heap.size w w' := by
  obtain ⟨sa1, na1, sb1, nb1, si1, ni1, so1, no1, h1⟩ := ha.forms
  obtain ⟨sa2, na2, sb2, nb2, si2, ni2, so2, no2, h2⟩ := hb.forms
  injection h1 with h11 h12 h13 h14
  injection h2 with h21 h22 h23 h24
  subst h11 h12 h13 h14 h21 h22 h23 h24
  have HX := Lib.hid (((Below.refl w.heap.size w).alloc (Nat.le_refl _) (.cells #[.slice sa1 a.asg.length na1, .slice sb1 a.words.length nb1, .slice si1 a.inn.length ni1, .slice so1 a.out.length no1, .bool a.app] 109)).alloc (by simp) (.cells #[.slice sa2 b.asg.length na2, .slice sb2 b.words.length nb2, .slice si2 b.inn.length ni2, .slice so2 b.out.length no2, .bool b.app] 109))
  have HA := Lib.hid (NSp.next ha HX.out)
  have HB := Lib.hid (NSp.next hb HX.out)
  obtain ⟨l1, l2, l3, l4, l5, l6⟩ := la
  obtain ⟨m1, m2, m3, m4, m5, m6⟩ := lb
  have HL3 := Lib.hid (show ∀ x ∈ a.asg, ALen x from l3)
  have HL4 := Lib.hid (show ∀ x ∈ a.words, WLen x from l4)
  have HM3 := Lib.hid (show ∀ x ∈ b.asg, ALen x from m3)
  have HM4 := Lib.hid (show ∀ x ∈ b.words, WLen x from m4)
  have K1 := Lib.hid ((Blk.new w 109 #[.slice sa1 a.asg.length na1, .slice sb1 a.words.length nb1, .slice si1 a.inn.length ni1, .slice so1 a.out.length no1, .bool a.app]).alloc (.cells #[.slice sa2 b.asg.length na2, .slice sb2 b.words.length nb2, .slice si2 b.inn.length ni2, .slice so2 b.out.length no2, .bool b.app] 109))
  have K2 := Lib.hid (show Blk ((w.alloc (.cells #[.slice sa1 a.asg.length na1, .slice sb1 a.words.length nb1, .slice si1 a.inn.length ni1, .slice so1 a.out.length no1, .bool a.app] 109)).alloc (.cells #[.slice sa2 b.asg.length na2, .slice sb2 b.words.length nb2, .slice si2 b.inn.length ni2, .slice so2 b.out.length no2, .bool b.app] 109)) (w.heap.size + 1) 109 #[.slice sa2 b.asg.length na2, .slice sb2 b.words.length nb2, .slice si2 b.inn.length ni2, .slice so2 b.out.length no2, .bool b.app] from by have := Blk.new (w.alloc (.cells #[.slice sa1 a.asg.length na1, .slice sb1 a.words.length nb1, .slice si1 a.inn.length ni1, .slice so1 a.out.length no1, .bool a.app] 109)) 109 #[.slice sa2 b.asg.length na2, .slice sb2 b.words.length nb2, .slice si2 b.inn.length ni2, .slice so2 b.out.length no2, .bool b.app]; simpa using this)
  unfold eqSm at hr
  clear ha hb l3 l4 m3 m4
  obtain ⟨q1, hq1⟩ : ∃ q1, (a.app == b.app) = q1 := ⟨_, rfl⟩
  obtain ⟨q2, hq2⟩ : ∃ q2, sameW a.inn b.inn = q2 := ⟨_, rfl⟩
  obtain ⟨q3, hq3⟩ : ∃ q3, sameW a.out b.out = q3 := ⟨_, rfl⟩
  rw [hq1, hq2, hq3] at hr
  have H1 := Lib.hid hq1
  have H2 := Lib.hid hq2
  have H3 := Lib.hid hq3
  clear hq1 hq2 hq3
  go_enter Try.func48, Try.ntmps48
  go_upto_region 1 with (fail)
  generalize ((w.alloc (.cells #[.slice sa1 a.asg.length na1, .slice sb1 a.words.length nb1, .slice si1 a.inn.length ni1, .slice so1 a.out.length no1, .bool a.app] 109)).alloc (.cells #[.slice sa2 b.asg.length na2, .slice sb2 b.words.length nb2, .slice si2 b.inn.length ni2, .slice so2 b.out.length no2, .bool b.app] 109)) = wa at *
  have HW0 := Lib.hid (Below.refl wa.heap.size wa)
  have x0 : wa.cell? ⟨w.heap.size, 0, none⟩ = some (.slice sa1 a.asg.length na1) := (K1.out).cell 0
  have y0 : wa.cell? ⟨w.heap.size + 1, 0, none⟩ = some (.slice sa2 b.asg.length na2) := (K2.out).cell 0
  have x1 : wa.cell? ⟨w.heap.size, 1, none⟩ = some (.slice sb1 a.words.length nb1) := (K1.out).cell 1
  have y1 : wa.cell? ⟨w.heap.size + 1, 1, none⟩ = some (.slice sb2 b.words.length nb2) := (K2.out).cell 1
  have x2 : wa.cell? ⟨w.heap.size, 2, none⟩ = some (.slice si1 a.inn.length ni1) := (K1.out).cell 2
  have y2 : wa.cell? ⟨w.heap.size + 1, 2, none⟩ = some (.slice si2 b.inn.length ni2) := (K2.out).cell 2
  have x3 : wa.cell? ⟨w.heap.size, 3, none⟩ = some (.slice so1 a.out.length no1) := (K1.out).cell 3
  have y3 : wa.cell? ⟨w.heap.size + 1, 3, none⟩ = some (.slice so2 b.out.length no2) := (K2.out).cell 3
  have x4 : wa.cell? ⟨w.heap.size, 4, none⟩ = some (.bool a.app) := (K1.out).cell 4
  have y4 : wa.cell? ⟨w.heap.size + 1, 4, none⟩ = some (.bool b.app) := (K2.out).cell 4
  have hw0 : w.heap.size < wa.heap.size := (K1.out).lt
  have hw1 : w.heap.size + 1 < wa.heap.size := (K2.out).lt
  by_cases c1 : a.asg.length = b.asg.length
  rotate_left
  ·
    have HR := Lib.hid (show r = false by rw [← hr]; simp [allB_len c1])
    clear hr
    have e1 : ((a.asg.length : Int) == (b.asg.length : Int)) = false := beq_false_of_ne (by omega)
    have e2 : ((a.asg.length : Int) != (b.asg.length : Int)) = true := by simp; omega
    have e3 : (a.asg.length == b.asg.length) = false := beq_false_of_ne c1
    have HN := Lib.hid c1
    clear c1
    go_wp2
    go_ret
    exact ⟨ret_bool HR.out.symm, HX.out.trans (HW0.out.mono HX.out.size)⟩
  have e11 : ((a.asg.length : Int) == (b.asg.length : Int)) = true := beq_iff_eq.2 (by omega)
  have e12 : ((a.asg.length : Int) != (b.asg.length : Int)) = false := by simp [c1]
  have e13 : (a.asg.length == b.asg.length) = true := beq_iff_eq.2 c1
  have HLasg := Lib.hid c1
  clear c1
  by_cases c2 : a.words.length = b.words.length
  rotate_left
  ·
    have HR := Lib.hid (show r = false by rw [← hr]; simp [allB_len c2])
    clear hr
    have e1 : ((a.words.length : Int) == (b.words.length : Int)) = false := beq_false_of_ne (by omega)
    have e2 : ((a.words.length : Int) != (b.words.length : Int)) = true := by simp; omega
    have e3 : (a.words.length == b.words.length) = false := beq_false_of_ne c2
    have HN := Lib.hid c2
    clear c2
    go_wp2
    go_ret
    exact ⟨ret_bool HR.out.symm, HX.out.trans (HW0.out.mono HX.out.size)⟩
  have e21 : ((a.words.length : Int) == (b.words.length : Int)) = true := beq_iff_eq.2 (by omega)
  have e22 : ((a.words.length : Int) != (b.words.length : Int)) = false := by simp [c2]
  have e23 : (a.words.length == b.words.length) = true := beq_iff_eq.2 c2
  have HLwords := Lib.hid c2
  clear c2
  cases q2 with
  | false =>
    have HR := Lib.hid (show r = false by rw [← hr]; simp)
    clear hr
    go_wp2_with fail
    (with_reducible refine (SameWord_is wa _ _ a.inn b.inn false (NWp.next HA.out.pi HW0.out) (NWp.next HB.out.pi HW0.out) l5 m5 H2.out).mono ?_); rintro e w2 ⟨rfl, hb2⟩; have HWw2 := Lib.hid (HW0.out.trans (hb2.mono HW0.out.size)); clear hb2
    go_wp2
    go_ret
    exact ⟨ret_bool HR.out.symm, HX.out.trans (HWw2.out.mono HX.out.size)⟩
  | true =>
    go_wp2_with fail
    (with_reducible refine (SameWord_is wa _ _ a.inn b.inn true (NWp.next HA.out.pi HW0.out) (NWp.next HB.out.pi HW0.out) l5 m5 H2.out).mono ?_); rintro e w2 ⟨rfl, hb2⟩; have HWw2 := Lib.hid (HW0.out.trans (hb2.mono HW0.out.size)); clear hb2
    clear x0 y0 x1 y1 x2 y2 x3 y3 x4 y4 hw0 hw1
    have x0 : w2.cell? ⟨w.heap.size, 0, none⟩ = some (.slice sa1 a.asg.length na1) := (K1.out.next HWw2.out K1.out.lt).cell 0
    have y0 : w2.cell? ⟨w.heap.size + 1, 0, none⟩ = some (.slice sa2 b.asg.length na2) := (K2.out.next HWw2.out K2.out.lt).cell 0
    have x1 : w2.cell? ⟨w.heap.size, 1, none⟩ = some (.slice sb1 a.words.length nb1) := (K1.out.next HWw2.out K1.out.lt).cell 1
    have y1 : w2.cell? ⟨w.heap.size + 1, 1, none⟩ = some (.slice sb2 b.words.length nb2) := (K2.out.next HWw2.out K2.out.lt).cell 1
    have x2 : w2.cell? ⟨w.heap.size, 2, none⟩ = some (.slice si1 a.inn.length ni1) := (K1.out.next HWw2.out K1.out.lt).cell 2
    have y2 : w2.cell? ⟨w.heap.size + 1, 2, none⟩ = some (.slice si2 b.inn.length ni2) := (K2.out.next HWw2.out K2.out.lt).cell 2
    have x3 : w2.cell? ⟨w.heap.size, 3, none⟩ = some (.slice so1 a.out.length no1) := (K1.out.next HWw2.out K1.out.lt).cell 3
    have y3 : w2.cell? ⟨w.heap.size + 1, 3, none⟩ = some (.slice so2 b.out.length no2) := (K2.out.next HWw2.out K2.out.lt).cell 3
    have x4 : w2.cell? ⟨w.heap.size, 4, none⟩ = some (.bool a.app) := (K1.out.next HWw2.out K1.out.lt).cell 4
    have y4 : w2.cell? ⟨w.heap.size + 1, 4, none⟩ = some (.bool b.app) := (K2.out.next HWw2.out K2.out.lt).cell 4
    have hw0 : w.heap.size < w2.heap.size := (K1.out.next HWw2.out K1.out.lt).lt
    have hw1 : w.heap.size + 1 < w2.heap.size := (K2.out.next HWw2.out K2.out.lt).lt
    cases q3 with
    | false =>
      have HR := Lib.hid (show r = false by rw [← hr]; simp)
      clear hr
      go_wp2_with fail
      (with_reducible refine (SameWord_is w2 _ _ a.out b.out false (NWp.next HA.out.po HWw2.out) (NWp.next HB.out.po HWw2.out) l6 m6 H3.out).mono ?_); rintro e w3 ⟨rfl, hb2⟩; have HWw3 := Lib.hid (HWw2.out.trans (hb2.mono HWw2.out.size)); clear hb2
      go_wp2
      go_ret
      exact ⟨ret_bool HR.out.symm, HX.out.trans (HWw3.out.mono HX.out.size)⟩
    | true =>
      go_wp2_with fail
      (with_reducible refine (SameWord_is w2 _ _ a.out b.out true (NWp.next HA.out.po HWw2.out) (NWp.next HB.out.po HWw2.out) l6 m6 H3.out).mono ?_); rintro e w3 ⟨rfl, hb2⟩; have HWw3 := Lib.hid (HWw2.out.trans (hb2.mono HWw2.out.size)); clear hb2
      clear x0 y0 x1 y1 x2 y2 x3 y3 x4 y4 hw0 hw1
      have x0 : w3.cell? ⟨w.heap.size, 0, none⟩ = some (.slice sa1 a.asg.length na1) := (K1.out.next HWw3.out K1.out.lt).cell 0
      have y0 : w3.cell? ⟨w.heap.size + 1, 0, none⟩ = some (.slice sa2 b.asg.length na2) := (K2.out.next HWw3.out K2.out.lt).cell 0
      have x1 : w3.cell? ⟨w.heap.size, 1, none⟩ = some (.slice sb1 a.words.length nb1) := (K1.out.next HWw3.out K1.out.lt).cell 1
      have y1 : w3.cell? ⟨w.heap.size + 1, 1, none⟩ = some (.slice sb2 b.words.length nb2) := (K2.out.next HWw3.out K2.out.lt).cell 1
      have x2 : w3.cell? ⟨w.heap.size, 2, none⟩ = some (.slice si1 a.inn.length ni1) := (K1.out.next HWw3.out K1.out.lt).cell 2
      have y2 : w3.cell? ⟨w.heap.size + 1, 2, none⟩ = some (.slice si2 b.inn.length ni2) := (K2.out.next HWw3.out K2.out.lt).cell 2
      have x3 : w3.cell? ⟨w.heap.size, 3, none⟩ = some (.slice so1 a.out.length no1) := (K1.out.next HWw3.out K1.out.lt).cell 3
      have y3 : w3.cell? ⟨w.heap.size + 1, 3, none⟩ = some (.slice so2 b.out.length no2) := (K2.out.next HWw3.out K2.out.lt).cell 3
      have x4 : w3.cell? ⟨w.heap.size, 4, none⟩ = some (.bool a.app) := (K1.out.next HWw3.out K1.out.lt).cell 4
      have y4 : w3.cell? ⟨w.heap.size + 1, 4, none⟩ = some (.bool b.app) := (K2.out.next HWw3.out K2.out.lt).cell 4
      have hw0 : w.heap.size < w3.heap.size := (K1.out.next HWw3.out K1.out.lt).lt
      have hw1 : w.heap.size + 1 < w3.heap.size := (K2.out.next HWw3.out K2.out.lt).lt
      cases q1 with
      | false =>
        have HR := Lib.hid (show r = false by rw [← hr]; simp)
        clear hr
        have e4 : (a.app == b.app) = false := H1.out
        have e5 : (a.app != b.app) = true := by rw [bne, H1.out]; rfl
        go_wp2
        go_ret
        exact ⟨ret_bool HR.out.symm, HX.out.trans (HWw3.out.mono HX.out.size)⟩
      | true =>
        have e4 : (a.app == b.app) = true := H1.out
        have e5 : (a.app != b.app) = false := by rw [bne, H1.out]; rfl
        have HRR := Lib.hid (show (allB eqA a.asg b.asg && allB sameW a.words b.words) = r by rw [← hr]; simp [Bool.and_comm])
        clear hr
        go_wp2
        clear x0 y0 x1 y1 x2 y2 x3 y3 x4 y4 hw0 hw1
        clear e4 e5
        obtain ⟨sA1, cA1, hv1, _, hA⟩ := (HA.out.pa.next HWw3.out (fun _ _ h => NAp.next h HWw3.out)).all asgV_len
        obtain ⟨sA2, cA2, hv2, _, hB⟩ := (HB.out.pa.next HWw3.out (fun _ _ h => NAp.next h HWw3.out)).all asgV_len
        simp only at hv1 hv2
        cases hv1
        cases hv2
        have HEA := Lib.hid hA
        have HEB := Lib.hid hB
        clear hA hB
        go_loopg [5] (a.asg.length + 1) (fun gk v wr => EqRel eqA w3 a.asg b.asg gk v wr)
        case atStart => exact ⟨0, rfl, Nat.zero_le _, by omega, Below.refl _ _, rfl⟩
        case round =>
          obtain ⟨k, rfl, hk, hgk, hb, hr⟩ := hrel
          have HR := Lib.hid hr
          have HBW := Lib.hid (HWw3.out.trans (hb.mono HWw3.out.size))
          have HBR := Lib.hid hb
          clear hr
          by_cases hlt : k < a.asg.length
          · have hltb : k < b.asg.length := by have := HLasg.out; omega
            obtain ⟨b1, o1, u1, hs1, hb1, hN1, hx1⟩ := HEA.out k hlt
            obtain ⟨b2, o2, u2, hs2, hb2, hN2, hx2⟩ := HEB.out k hltb
            cases hs1
            cases hs2
            have hl1 := HL3.out a.asg[k] (List.getElem_mem hlt)
            have hl2 := HM3.out b.asg[k] (List.getElem_mem hltb)
            have HD := Lib.hid (HR.out.trans (allB_drop a.asg b.asg k hlt hltb))
            obtain ⟨x, hx⟩ : ∃ x, a.asg[k] = x := ⟨_, rfl⟩
            obtain ⟨y, hy⟩ : ∃ y, b.asg[k] = y := ⟨_, rfl⟩
            rw [hx] at hN1 hx1 hl1 HD
            rw [hy] at hN2 hx2 hl2 HD
            clear hx hy HR
            obtain ⟨A1, c1, rfl, _⟩ := Rd.form (show NWp 51 w3 _ x.value from hN1)
            obtain ⟨A2, c2, rfl, _⟩ := Rd.form (show NWp 51 w3 _ y.value from hN2)
            have p10 := hx1 0 _ rfl
            rw [Nat.add_zero] at p10
            have e10 := ((bcell hb).1 b1 _ hb1).trans p10
            have p11 := hx1 1 _ rfl
            rw [← Nat.add_assoc] at p11
            have e11 := ((bcell hb).1 b1 _ hb1).trans p11
            have p20 := hx2 0 _ rfl
            rw [Nat.add_zero] at p20
            have e20 := ((bcell hb).1 b2 _ hb2).trans p20
            have p21 := hx2 1 _ rfl
            rw [← Nat.add_assoc] at p21
            have e21 := ((bcell hb).1 b2 _ hb2).trans p21
            have i1 : (0 : Int) ≤ (k : Int) := by omega
            have i2 : (k : Int) < (a.asg.length : Int) := by omega
            have i3 : (k : Int) < (b.asg.length : Int) := by omega
            have hbr1 : b1 < wr.heap.size := Nat.lt_of_lt_of_le hb1 hb.size
            have hbr2 : b2 < wr.heap.size := Nat.lt_of_lt_of_le hb2 hb.size
            have HL1 := Lib.hid (show x.value.length ≤ 100000 from hl1)
            have HL2 := Lib.hid (show y.value.length ≤ 100000 from hl2)
            have HN1 := Lib.hid (show NWp 51 wr.drew _ x.value from Rd.drew (NAp.next hN1 hb))
            have HN2 := Lib.hid (show NWp 51 wr.drew _ y.value from Rd.drew (NAp.next hN2 hb))
            clear hx1 hx2 p10 p11 p20 p21 hN1 hN2 hl1 hl2 hb
            have x0 : wr.cell? ⟨w.heap.size, 0, none⟩ = some (.slice (some ⟨b1, o1, none⟩) a.asg.length na1) := (K1.out.next HBW.out K1.out.lt).cell 0
            have y0 : wr.cell? ⟨w.heap.size + 1, 0, none⟩ = some (.slice (some ⟨b2, o2, none⟩) b.asg.length na2) := (K2.out.next HBW.out K2.out.lt).cell 0
            have hw0 : w.heap.size < wr.heap.size := (K1.out.next HBW.out K1.out.lt).lt
            have hw1 : w.heap.size + 1 < wr.heap.size := (K2.out.next HBW.out K2.out.lt).lt
            by_cases hnm : x.name = y.name
            · have n1 : ((bs x.name).toList == (bs y.name).toList) = true := by rw [hnm]; simp
              have n2 : ((bs x.name).toList != (bs y.name).toList) = false := by rw [hnm]; simp
              have HNM := Lib.hid hnm
              clear hnm
              cases hf : sameW x.value y.value with
              | true =>
                have HF := Lib.hid hf
                have HQ := Lib.hid (show eqA x y = true by rw [eqA, hf, HNM.out]; simp)
                rw [HQ.out] at HD
                clear hf
                go_wp2
                go_region_held3 (fun w' => w'.cell? ⟨w.heap.size, 0, none⟩ = some (.slice (some ⟨b1, o1, none⟩) a.asg.length na1) ∧ w'.cell? ⟨w.heap.size + 1, 0, none⟩ = some (.slice (some ⟨b2, o2, none⟩) b.asg.length na2) ∧ w'.cell? ⟨b1, o1 + k * 2, none⟩ = some (.string (bs x.name)) ∧ w'.cell? ⟨b1, o1 + k * 2 + 1, none⟩ = some (.slice A1 x.value.length c1) ∧ w'.cell? ⟨b2, o2 + k * 2, none⟩ = some (.string (bs y.name)) ∧ w'.cell? ⟨b2, o2 + k * 2 + 1, none⟩ = some (.slice A2 y.value.length c2))
                  (first | (with_reducible exact ⟨z0, z1, z2, z3, z4, z5⟩) | go_keep)
                  (first | (go_at_call 20; (with_reducible refine (SameWord_is wr.drew _ _ x.value y.value true HN1.out HN2.out HL1.out HL2.out HF.out).mono ?_); rintro e w5 ⟨rfl, hb5⟩; have hbz := bcell hb5; have z0 := (hbz.1 _ 0 hw0).trans x0; have z1 := (hbz.1 _ 0 hw1).trans y0; have z2 := (hbz.1 b1 _ hbr1).trans e10; have z3 := (hbz.1 b1 _ hbr1).trans e11; have z4 := (hbz.1 b2 _ hbr2).trans e20; have z5 := (hbz.1 b2 _ hbr2).trans e21; have HB5 := Lib.hid (HBR.out.drew.trans (hb5.mono HBR.out.size)); clear hb5 hbz))
                all_goals
                  clear z0 z1 z2 z3 z4 z5
                  go_wp2
                  go_roundg (gk - 1)
                  case rel => exact ⟨k + 1, by go_num, by omega, by omega, HB5.out, HD.out⟩
                  case measure => omega
              | false =>
                have HF := Lib.hid hf
                have HQ := Lib.hid (show eqA x y = false by rw [eqA, hf, HNM.out]; simp)
                rw [HQ.out] at HD
                clear hf
                go_wp2
                go_region_held3 (fun w' => w'.cell? ⟨w.heap.size, 0, none⟩ = some (.slice (some ⟨b1, o1, none⟩) a.asg.length na1) ∧ w'.cell? ⟨w.heap.size + 1, 0, none⟩ = some (.slice (some ⟨b2, o2, none⟩) b.asg.length na2) ∧ w'.cell? ⟨b1, o1 + k * 2, none⟩ = some (.string (bs x.name)) ∧ w'.cell? ⟨b1, o1 + k * 2 + 1, none⟩ = some (.slice A1 x.value.length c1) ∧ w'.cell? ⟨b2, o2 + k * 2, none⟩ = some (.string (bs y.name)) ∧ w'.cell? ⟨b2, o2 + k * 2 + 1, none⟩ = some (.slice A2 y.value.length c2))
                  (first | (with_reducible exact ⟨z0, z1, z2, z3, z4, z5⟩) | go_keep)
                  (first | (go_at_call 20; (with_reducible refine (SameWord_is wr.drew _ _ x.value y.value false HN1.out HN2.out HL1.out HL2.out HF.out).mono ?_); rintro e w5 ⟨rfl, hb5⟩; have hbz := bcell hb5; have z0 := (hbz.1 _ 0 hw0).trans x0; have z1 := (hbz.1 _ 0 hw1).trans y0; have z2 := (hbz.1 b1 _ hbr1).trans e10; have z3 := (hbz.1 b1 _ hbr1).trans e11; have z4 := (hbz.1 b2 _ hbr2).trans e20; have z5 := (hbz.1 b2 _ hbr2).trans e21; have HB5 := Lib.hid (HBR.out.drew.trans (hb5.mono HBR.out.size)); clear hb5 hbz))
                all_goals
                  clear z0 z1 z2 z3 z4 z5
                  go_wp2
                  go_ret
                  exact ⟨ret_bool (by rw [← HRR.out, HD.out]; rfl), HX.out.trans ((HWw3.out.trans (HB5.out.mono HWw3.out.size)).mono HX.out.size)⟩
            · have n1 : ((bs x.name).toList == (bs y.name).toList) = false := by rw [bs_tl, bs_tl]; exact beq_false_of_ne hnm
              have n2 : ((bs x.name).toList != (bs y.name).toList) = true := by rw [bs_tl, bs_tl]; simpa using hnm
              have HQ := Lib.hid (show eqA x y = false by rw [eqA]; simp [hnm])
              rw [HQ.out] at HD
              clear hnm
              go_wp2
              go_quiet (fail)
              go_wp2
              go_ret
              exact ⟨ret_bool (by rw [← HRR.out, HD.out]; rfl), HX.out.trans ((below_drewN HBW.out _).mono HX.out.size)⟩
          · obtain rfl : k = a.asg.length := by omega
            have HZ := Lib.hid (show allB eqA a.asg b.asg = true by rw [HR.out, allB_end HLasg.out])
            have HR2 := Lib.hid (show allB sameW a.words b.words = r by rw [← HRR.out, HZ.out]; rfl)
            clear hb HR HRR hk hgk
            have x0 : wr.cell? ⟨w.heap.size, 0, none⟩ = some (.slice sa1 a.asg.length na1) := (K1.out.next HBW.out K1.out.lt).cell 0
            have y0 : wr.cell? ⟨w.heap.size + 1, 0, none⟩ = some (.slice sa2 b.asg.length na2) := (K2.out.next HBW.out K2.out.lt).cell 0
            have hw0 : w.heap.size < wr.heap.size := (K1.out.next HBW.out K1.out.lt).lt
            have hw1 : w.heap.size + 1 < wr.heap.size := (K2.out.next HBW.out K2.out.lt).lt
            go_wp2
            clear x0 y0 hw0 hw1 HEA HEB
            obtain ⟨wo, rfl⟩ : ∃ wo : World, wo = wr := ⟨_, rfl⟩
            obtain ⟨gk0, rfl⟩ : ∃ gk0 : Nat, gk0 = gk := ⟨_, rfl⟩
            have HBO := Lib.hid HBW.out
            clear HBW
            obtain ⟨sA1, cA1, hv1, _, hA⟩ := (HA.out.pw.next HBO.out (fun _ _ h => NWp.next h HBO.out)).all wdV_len
            obtain ⟨sA2, cA2, hv2, _, hB⟩ := (HB.out.pw.next HBO.out (fun _ _ h => NWp.next h HBO.out)).all wdV_len
            simp only at hv1 hv2
            cases hv1
            cases hv2
            have HEA := Lib.hid hA
            have HEB := Lib.hid hB
            clear hA hB HBR
            go_loopg [6] (a.words.length + 1) (fun gk v wr => EqRel sameW wo a.words b.words gk v wr)
            case atStart => exact ⟨0, rfl, Nat.zero_le _, by omega, Below.refl _ _, rfl⟩
            case round =>
              obtain ⟨k, rfl, hk, hgk, hb, hr⟩ := hrel
              have HR := Lib.hid hr
              have HBW := Lib.hid (HBO.out.trans (hb.mono HBO.out.size))
              have HBR := Lib.hid hb
              clear hr
              by_cases hlt : k < a.words.length
              · have hltb : k < b.words.length := by have := HLwords.out; omega
                obtain ⟨b1, o1, u1, hs1, hb1, hN1, hx1⟩ := HEA.out k hlt
                obtain ⟨b2, o2, u2, hs2, hb2, hN2, hx2⟩ := HEB.out k hltb
                cases hs1
                cases hs2
                have hl1 := HL4.out a.words[k] (List.getElem_mem hlt)
                have hl2 := HM4.out b.words[k] (List.getElem_mem hltb)
                have HD := Lib.hid (HR.out.trans (allB_drop a.words b.words k hlt hltb))
                obtain ⟨x, hx⟩ : ∃ x, a.words[k] = x := ⟨_, rfl⟩
                obtain ⟨y, hy⟩ : ∃ y, b.words[k] = y := ⟨_, rfl⟩
                rw [hx] at hN1 hx1 hl1 HD
                rw [hy] at hN2 hx2 hl2 HD
                clear hx hy HR
                obtain ⟨A1, c1, rfl, _⟩ := Rd.form (show NWp 51 wo _ x from hN1)
                obtain ⟨A2, c2, rfl, _⟩ := Rd.form (show NWp 51 wo _ y from hN2)
                have p10 := hx1 0 _ rfl
                rw [Nat.mul_one, Nat.add_zero] at p10
                have e10 := ((bcell hb).1 b1 _ hb1).trans p10
                have p20 := hx2 0 _ rfl
                rw [Nat.mul_one, Nat.add_zero] at p20
                have e20 := ((bcell hb).1 b2 _ hb2).trans p20
                have i1 : (0 : Int) ≤ (k : Int) := by omega
                have i2 : (k : Int) < (a.words.length : Int) := by omega
                have i3 : (k : Int) < (b.words.length : Int) := by omega
                have hbr1 : b1 < wr.heap.size := Nat.lt_of_lt_of_le hb1 hb.size
                have hbr2 : b2 < wr.heap.size := Nat.lt_of_lt_of_le hb2 hb.size
                have HL1 := Lib.hid (show x.length ≤ 100000 from hl1)
                have HL2 := Lib.hid (show y.length ≤ 100000 from hl2)
                have HN1 := Lib.hid (show NWp 51 wr.drew _ x from Rd.drew (NWp.next hN1 hb))
                have HN2 := Lib.hid (show NWp 51 wr.drew _ y from Rd.drew (NWp.next hN2 hb))
                clear hx1 hx2 p10 p20 hN1 hN2 hl1 hl2 hb
                have x1 : wr.cell? ⟨w.heap.size, 1, none⟩ = some (.slice (some ⟨b1, o1, none⟩) a.words.length nb1) := (K1.out.next HBW.out K1.out.lt).cell 1
                have y1 : wr.cell? ⟨w.heap.size + 1, 1, none⟩ = some (.slice (some ⟨b2, o2, none⟩) b.words.length nb2) := (K2.out.next HBW.out K2.out.lt).cell 1
                have hw0 : w.heap.size < wr.heap.size := (K1.out.next HBW.out K1.out.lt).lt
                have hw1 : w.heap.size + 1 < wr.heap.size := (K2.out.next HBW.out K2.out.lt).lt
                cases hf : sameW x y with
                | true =>
                  have HF := Lib.hid hf
                  rw [hf] at HD
                  clear hf
                  go_wp2
                  go_region_held3 (fun w' => w'.cell? ⟨w.heap.size, 1, none⟩ = some (.slice (some ⟨b1, o1, none⟩) a.words.length nb1) ∧ w'.cell? ⟨w.heap.size + 1, 1, none⟩ = some (.slice (some ⟨b2, o2, none⟩) b.words.length nb2) ∧ w'.cell? ⟨b1, o1 + k, none⟩ = some (.slice A1 x.length c1) ∧ w'.cell? ⟨b2, o2 + k, none⟩ = some (.slice A2 y.length c2))
                    (first | (with_reducible exact ⟨z0, z1, z2, z3⟩) | go_keep)
                    (first | (go_at_call 20; (with_reducible refine (SameWord_is wr.drew _ _ x y true HN1.out HN2.out HL1.out HL2.out HF.out).mono ?_); rintro e w5 ⟨rfl, hb5⟩; have hbz := bcell hb5; have z0 := (hbz.1 _ 1 hw0).trans x1; have z1 := (hbz.1 _ 1 hw1).trans y1; have z2 := (hbz.1 b1 _ hbr1).trans e10; have z3 := (hbz.1 b2 _ hbr2).trans e20; have HB5 := Lib.hid (HBR.out.drew.trans (hb5.mono HBR.out.size)); clear hb5 hbz))
                  all_goals
                    clear z0 z1 z2 z3
                    go_wp2
                    go_roundg (gk - 1)
                    case rel => exact ⟨k + 1, by go_num, by omega, by omega, HB5.out, HD.out⟩
                    case measure => omega
                | false =>
                  have HF := Lib.hid hf
                  rw [hf] at HD
                  clear hf
                  go_wp2
                  go_region_held3 (fun w' => w'.cell? ⟨w.heap.size, 1, none⟩ = some (.slice (some ⟨b1, o1, none⟩) a.words.length nb1) ∧ w'.cell? ⟨w.heap.size + 1, 1, none⟩ = some (.slice (some ⟨b2, o2, none⟩) b.words.length nb2) ∧ w'.cell? ⟨b1, o1 + k, none⟩ = some (.slice A1 x.length c1) ∧ w'.cell? ⟨b2, o2 + k, none⟩ = some (.slice A2 y.length c2))
                    (first | (with_reducible exact ⟨z0, z1, z2, z3⟩) | go_keep)
                    (first | (go_at_call 20; (with_reducible refine (SameWord_is wr.drew _ _ x y false HN1.out HN2.out HL1.out HL2.out HF.out).mono ?_); rintro e w5 ⟨rfl, hb5⟩; have hbz := bcell hb5; have z0 := (hbz.1 _ 1 hw0).trans x1; have z1 := (hbz.1 _ 1 hw1).trans y1; have z2 := (hbz.1 b1 _ hbr1).trans e10; have z3 := (hbz.1 b2 _ hbr2).trans e20; have HB5 := Lib.hid (HBR.out.drew.trans (hb5.mono HBR.out.size)); clear hb5 hbz))
                  all_goals
                    clear z0 z1 z2 z3
                    go_wp2
                    go_ret
                    exact ⟨ret_bool (by rw [← HR2.out, HD.out]; rfl), HX.out.trans ((HBO.out.trans (HB5.out.mono HBO.out.size)).mono HX.out.size)⟩
              · obtain rfl : k = a.words.length := by omega
                have HZ := Lib.hid (show true = r by rw [← HR2.out, HR.out, allB_end HLwords.out])
                have x1 : wr.cell? ⟨w.heap.size, 1, none⟩ = some (.slice sb1 a.words.length nb1) := (K1.out.next HBW.out K1.out.lt).cell 1
                have y1 : wr.cell? ⟨w.heap.size + 1, 1, none⟩ = some (.slice sb2 b.words.length nb2) := (K2.out.next HBW.out K2.out.lt).cell 1
                have hw0 : w.heap.size < wr.heap.size := (K1.out.next HBW.out K1.out.lt).lt
                have hw1 : w.heap.size + 1 < wr.heap.size := (K2.out.next HBW.out K2.out.lt).lt
                clear hb
                go_wp2
                go_ret
                exact ⟨ret_bool HZ.out, HX.out.trans (HBW.out.mono HX.out.size)⟩
end Go.Proofs.Ytiddchpkmcncdaa
