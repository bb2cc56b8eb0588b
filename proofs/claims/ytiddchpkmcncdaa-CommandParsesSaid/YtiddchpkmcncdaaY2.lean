/- Walks of layer 41: Same of the reference. -/
import Derived.Test.YtiddchpkmcncdaaY1
namespace Go.Proofs.Ytiddchpkmcncdaa
open Go.RowKit
set_option linter.unusedSimpArgs false
set_option linter.unusedVariables false
set_option maxRecDepth 100000 in
set_option maxHeartbeats 16000000 in
theorem Same_is (w : World) (va vb : Value) (a b : Ln) (r : Bool) (ha : RowRd 101 plV (NPp 51 39 112 109) w va a.parts) (hb : RowRd 101 plV (NPp 51 39 112 109) w vb b.parts) (la : LLen a) (lb : LLen b) (hr : eqLn a b = r) :
    Calls Try.prog 16 #[.agg #[va, .bool a.bg], .agg #[vb, .bool b.bg]] w fun e w' => e = .returned (.bool r) ∧ Below w.heap.size w w' := by
  obtain ⟨A, ca, rfl, _, hA⟩ := ha.all plV_len
  obtain ⟨B, cb, rfl, _, hB⟩ := hb.all plV_len
  have HA := Lib.hid hA
  have HB := Lib.hid hB
  obtain ⟨la1, la2⟩ := la
  obtain ⟨lb1, lb2⟩ := lb
  have HL3 := Lib.hid la2
  have HM3 := Lib.hid lb2
  have HX := Lib.hid (((Below.refl w.heap.size w).alloc (Nat.le_refl _) (.cells #[.slice A a.parts.length ca, .bool a.bg] 30)).alloc (by simp) (.cells #[.slice B b.parts.length cb, .bool b.bg] 30))
  have K1 := Lib.hid ((Blk.new w 30 #[.slice A a.parts.length ca, .bool a.bg]).alloc (.cells #[.slice B b.parts.length cb, .bool b.bg] 30))
  have K2 := Lib.hid (show Blk ((w.alloc (.cells #[.slice A a.parts.length ca, .bool a.bg] 30)).alloc (.cells #[.slice B b.parts.length cb, .bool b.bg] 30)) (w.heap.size + 1) 30 #[.slice B b.parts.length cb, .bool b.bg] from by have := Blk.new (w.alloc (.cells #[.slice A a.parts.length ca, .bool a.bg] 30)) 30 #[.slice B b.parts.length cb, .bool b.bg]; simpa using this)
  unfold eqLn at hr
  clear ha hb hA hB la2 lb2
  by_cases hn : a.bg = b.bg
  rotate_left
  · have e1 : (a.bg == b.bg) = false := by simpa using hn
    have e2 : (a.bg != b.bg) = true := by rw [bne, e1]; rfl
    have HR := Lib.hid (show r = false by rw [← hr, e1]; rfl)
    clear hn hr
    go_enter Try.func16, Try.ntmps16
    go_wp2
    go_ret
    exact ⟨ret_bool HR.out.symm, HX.out⟩
  have e1 : (a.bg == b.bg) = true := by simpa using hn
  have e2 : (a.bg != b.bg) = false := by rw [bne, e1]; rfl
  have HR0 := Lib.hid (show allB eqP a.parts b.parts = r by rw [← hr, e1]; rfl)
  clear hn hr
  by_cases hl : a.parts.length = b.parts.length
  rotate_left
  · have e3 : ((a.parts.length : Int) == (b.parts.length : Int)) = false := beq_false_of_ne (by omega)
    have e4 : ((a.parts.length : Int) != (b.parts.length : Int)) = true := by simp; omega
    have e5 : (a.parts.length == b.parts.length) = false := beq_false_of_ne hl
    have HR := Lib.hid (show r = false by rw [← HR0.out]; exact allB_len hl)
    have HN := Lib.hid hl
    clear hl
    go_enter Try.func16, Try.ntmps16
    go_wp2
    go_ret
    exact ⟨ret_bool HR.out.symm, HX.out⟩
  have e3 : ((a.parts.length : Int) == (b.parts.length : Int)) = true := beq_iff_eq.2 (by omega)
  have e4 : ((a.parts.length : Int) != (b.parts.length : Int)) = false := by simp [hl]
  have e5 : (a.parts.length == b.parts.length) = true := beq_iff_eq.2 hl
  have HLP := Lib.hid hl
  clear hl
  go_enter Try.func16, Try.ntmps16
  go_wp2
  generalize ((w.alloc (.cells #[.slice A a.parts.length ca, .bool a.bg] 30)).alloc (.cells #[.slice B b.parts.length cb, .bool b.bg] 30)) = wa at *
  clear e1 e2 e3 e4 e5
  go_loopg [5] (a.parts.length + 1) (fun gk v wr => EqRel eqP wa a.parts b.parts gk v wr)
  case atStart => exact ⟨0, rfl, Nat.zero_le _, by omega, Below.refl _ _, rfl⟩
  case round =>
    obtain ⟨k, rfl, hk, hgk, hb, hr⟩ := hrel
    have HR := Lib.hid hr
    have HBW := Lib.hid hb
    have HBX := Lib.hid (HX.out.trans (hb.mono HX.out.size))
    clear hr
    have hw0 : w.heap.size < wr.heap.size := (K1.out.next HBW.out K1.out.lt).lt
    have hw1 : w.heap.size + 1 < wr.heap.size := (K2.out.next HBW.out K2.out.lt).lt
    by_cases hlt : k < a.parts.length
    · have hltb : k < b.parts.length := by have := HLP.out; omega
      obtain ⟨b1, o1, u1, hs1, hb1, hN1, hx1⟩ := HA.out k hlt
      obtain ⟨b2, o2, u2, hs2, hb2, hN2, hx2⟩ := HB.out k hltb
      subst hs1 hs2
      have hl1 := HL3.out a.parts[k] (List.getElem_mem hlt)
      have hl2 := HM3.out b.parts[k] (List.getElem_mem hltb)
      have HD := Lib.hid (HR.out.trans (allB_drop a.parts b.parts k hlt hltb))
      obtain ⟨x, hx⟩ : ∃ x, a.parts[k] = x := ⟨_, rfl⟩
      obtain ⟨y, hy⟩ : ∃ y, b.parts[k] = y := ⟨_, rfl⟩
      rw [hx] at hN1 hx1 hl1 HD
      rw [hy] at hN2 hx2 hl2 HD
      clear hx hy HR
      obtain ⟨A1, c1, rfl, xs1, hS1⟩ := RowRd.all (show RowRd 109 smV (NSp 51 39 112) w u1 x.stages from hN1) smV_len
      obtain ⟨A2, c2, rfl, xs2, hS2⟩ := RowRd.all (show RowRd 109 smV (NSp 51 39 112) w u2 y.stages from hN2) smV_len
      have HS1 := Lib.hid hS1
      have HS2 := Lib.hid hS2
      have p10 := hx1 0 _ rfl
      have p11 := hx1 1 _ rfl
      have p20 := hx2 0 _ rfl
      have p21 := hx2 1 _ rfl
      rw [Nat.add_zero] at p10 p20
      rw [← Nat.add_assoc] at p11 p21
      have hbr1 : b1 < wr.heap.size := Nat.lt_of_lt_of_le hb1 HBX.out.size
      have hbr2 : b2 < wr.heap.size := Nat.lt_of_lt_of_le hb2 HBX.out.size
      have x0 : wr.cell? ⟨w.heap.size, 0, none⟩ = some (.slice (some ⟨b1, o1, none⟩) a.parts.length ca) := (K1.out.next HBW.out K1.out.lt).cell 0
      have y0 : wr.cell? ⟨w.heap.size + 1, 0, none⟩ = some (.slice (some ⟨b2, o2, none⟩) b.parts.length cb) := (K2.out.next HBW.out K2.out.lt).cell 0
      have e10 := ((bcell HBX.out).1 b1 _ hb1).trans p10
      have e11 := ((bcell HBX.out).1 b1 _ hb1).trans p11
      have e20 := ((bcell HBX.out).1 b2 _ hb2).trans p20
      have e21 := ((bcell HBX.out).1 b2 _ hb2).trans p21
      have P11 := Lib.hid p11
      have P21 := Lib.hid p21
      have i1 : (0 : Int) ≤ (k : Int) := by omega
      have i2 : (k : Int) < (a.parts.length : Int) := by omega
      have i3 : (k : Int) < (b.parts.length : Int) := by omega
      have hls1 := hl1.1
      have hls2 := hl2.1
      have HL1 := Lib.hid hl1.2
      have HL2 := Lib.hid hl2.2
      clear hx1 hx2 p10 p11 p20 p21 hN1 hN2 hl1 hl2 hS1 hS2 hb
      by_cases hwh : x.wh = y.wh
      rotate_left
      · have n1 : (x.wh == y.wh) = false := beq_false_of_ne hwh
        have n2 : (x.wh != y.wh) = true := by simpa using hwh
        have HQ := Lib.hid (show eqP x y = false by rw [eqP]; simp [hwh])
        rw [HQ.out] at HD
        clear hwh
        go_wp2
        go_quiet (fail)
        go_wp2
        go_ret
        exact ⟨ret_bool (by rw [← HR0.out, HD.out]; rfl), below_drewN HBX.out _⟩
      have n1 : (x.wh == y.wh) = true := beq_iff_eq.2 hwh
      have n2 : (x.wh != y.wh) = false := by simp [hwh]
      have HWH := Lib.hid hwh
      clear hwh
      by_cases hsl : x.stages.length = y.stages.length
      rotate_left
      · have n3 : ((x.stages.length : Int) == (y.stages.length : Int)) = false := beq_false_of_ne (by omega)
        have n4 : ((x.stages.length : Int) != (y.stages.length : Int)) = true := by simp; omega
        have n5 : (x.stages.length == y.stages.length) = false := beq_false_of_ne hsl
        have HQ := Lib.hid (show eqP x y = false by rw [eqP, allB_len hsl]; simp)
        rw [HQ.out] at HD
        clear hsl
        go_wp2
        go_quiet (fail)
        go_wp2
        go_ret
        exact ⟨ret_bool (by rw [← HR0.out, HD.out]; rfl), below_drewN HBX.out _⟩
      have n3 : ((x.stages.length : Int) == (y.stages.length : Int)) = true := beq_iff_eq.2 (by omega)
      have n4 : ((x.stages.length : Int) != (y.stages.length : Int)) = false := by simp [hsl]
      have n5 : (x.stages.length == y.stages.length) = true := beq_iff_eq.2 hsl
      have HSL := Lib.hid hsl
      have HQE := Lib.hid (show eqP x y = allB eqSm x.stages y.stages by rw [eqP, HWH.out]; simp)
      clear hsl
      go_wp2
      go_quiet (fail)
      go_wp2
      clear n1 n2 n3 n4 n5
      have HBO := Lib.hid (below_drewN HBX.out nq)
      have HBOW := Lib.hid (below_drewN HBW.out nq)
      clear x0 y0 e10 e11 e20 e21 hbr1 hbr2 hw0 hw1
      generalize wr.drewN nq = wo at *
      have X0 := Lib.hid ((K1.out.next HBOW.out K1.out.lt).cell 0)
      have Y0 := Lib.hid ((K2.out.next HBOW.out K2.out.lt).cell 0)
      have E11 := Lib.hid (((bcell HBO.out).1 b1 _ hb1).trans P11.out)
      have E21 := Lib.hid (((bcell HBO.out).1 b2 _ hb2).trans P21.out)
      have HW0 := Lib.hid (K1.out.next HBOW.out K1.out.lt).lt
      have HW1 := Lib.hid (K2.out.next HBOW.out K2.out.lt).lt
      obtain ⟨gk0, rfl⟩ : ∃ gk0 : Nat, gk0 = gk := ⟨_, rfl⟩
      clear HBX HBW
      go_loopg [6] (x.stages.length + 1) (fun gk v wr => EqRel eqSm wo x.stages y.stages gk v wr)
      case atStart => exact ⟨0, rfl, Nat.zero_le _, by omega, Below.refl _ _, rfl⟩
      case round =>
        obtain ⟨j, rfl, hj, hgj, hb, hr⟩ := hrel
        have HRJ := Lib.hid hr
        have HBR := Lib.hid hb
        have HBX := Lib.hid (HBO.out.trans (hb.mono HBO.out.size))
        clear hr
        have hw0 : w.heap.size < wr.heap.size := Nat.lt_of_lt_of_le HW0.out hb.size
        have hw1 : w.heap.size + 1 < wr.heap.size := Nat.lt_of_lt_of_le HW1.out hb.size
        have hbo1 : b1 < wo.heap.size := Nat.lt_of_lt_of_le hb1 HBO.out.size
        have hbo2 : b2 < wo.heap.size := Nat.lt_of_lt_of_le hb2 HBO.out.size
        have hbr1 : b1 < wr.heap.size := Nat.lt_of_lt_of_le hbo1 hb.size
        have hbr2 : b2 < wr.heap.size := Nat.lt_of_lt_of_le hbo2 hb.size
        have x0 : wr.cell? ⟨w.heap.size, 0, none⟩ = some (.slice (some ⟨b1, o1, none⟩) a.parts.length ca) := ((bcell hb).1 _ 0 HW0.out).trans X0.out
        have y0 : wr.cell? ⟨w.heap.size + 1, 0, none⟩ = some (.slice (some ⟨b2, o2, none⟩) b.parts.length cb) := ((bcell hb).1 _ 0 HW1.out).trans Y0.out
        have e11 : wr.cell? ⟨b1, o1 + k * 2 + 1, none⟩ = some (.slice A1 x.stages.length c1) := ((bcell hb).1 b1 _ hbo1).trans E11.out
        have e21 : wr.cell? ⟨b2, o2 + k * 2 + 1, none⟩ = some (.slice A2 y.stages.length c2) := ((bcell hb).1 b2 _ hbo2).trans E21.out
        have i1 : (0 : Int) ≤ (k : Int) := by omega
        have i2 : (k : Int) < (a.parts.length : Int) := by omega
        have i3 : (k : Int) < (b.parts.length : Int) := by omega
        clear hbo1 hbo2
        by_cases hjl : j < x.stages.length
        · have hjlb : j < y.stages.length := by have := HSL.out; omega
          obtain ⟨b3, o3, u3, hs3, hb3, hN3, hx3⟩ := HS1.out j hjl
          obtain ⟨b4, o4, u4x, hs4, hb4, hN4, hx4⟩ := HS2.out j hjlb
          subst hs3 hs4
          have hm1 := HL1.out x.stages[j] (List.getElem_mem hjl)
          have hm2 := HL2.out y.stages[j] (List.getElem_mem hjlb)
          have HDJ := Lib.hid (HRJ.out.trans (allB_drop x.stages y.stages j hjl hjlb))
          obtain ⟨c, hc⟩ : ∃ c, x.stages[j] = c := ⟨_, rfl⟩
          obtain ⟨d, hd⟩ : ∃ d, y.stages[j] = d := ⟨_, rfl⟩
          rw [hc] at hN3 hx3 hm1 HDJ
          rw [hd] at hN4 hx4 hm2 HDJ
          clear hc hd HRJ
          obtain ⟨sa3, na3, sb3, nb3, si3, ni3, so3, no3, rfl⟩ := hN3.forms
          obtain ⟨sa4, na4, sb4, nb4, si4, ni4, so4, no4, rfl⟩ := hN4.forms
          have p30 := hx3 0 _ rfl
          have p31 := hx3 1 _ rfl
          have p32 := hx3 2 _ rfl
          have p33 := hx3 3 _ rfl
          have p34 := hx3 4 _ rfl
          have p40 := hx4 0 _ rfl
          have p41 := hx4 1 _ rfl
          have p42 := hx4 2 _ rfl
          have p43 := hx4 3 _ rfl
          have p44 := hx4 4 _ rfl
          rw [Nat.add_zero] at p30 p40
          rw [← Nat.add_assoc] at p31 p32 p33 p34 p41 p42 p43 p44
          have f30 := ((bcell HBX.out).1 b3 _ hb3).trans p30
          have f31 := ((bcell HBX.out).1 b3 _ hb3).trans p31
          have f32 := ((bcell HBX.out).1 b3 _ hb3).trans p32
          have f33 := ((bcell HBX.out).1 b3 _ hb3).trans p33
          have f34 := ((bcell HBX.out).1 b3 _ hb3).trans p34
          have f40 := ((bcell HBX.out).1 b4 _ hb4).trans p40
          have f41 := ((bcell HBX.out).1 b4 _ hb4).trans p41
          have f42 := ((bcell HBX.out).1 b4 _ hb4).trans p42
          have f43 := ((bcell HBX.out).1 b4 _ hb4).trans p43
          have f44 := ((bcell HBX.out).1 b4 _ hb4).trans p44
          have hbr3 : b3 < wr.heap.size := Nat.lt_of_lt_of_le hb3 HBX.out.size
          have hbr4 : b4 < wr.heap.size := Nat.lt_of_lt_of_le hb4 HBX.out.size
          have i4 : (0 : Int) ≤ (j : Int) := by omega
          have i5 : (j : Int) < (x.stages.length : Int) := by omega
          have i6 : (j : Int) < (y.stages.length : Int) := by omega
          have HN3 := Lib.hid (show NSp 51 39 112 wr.drew _ c from NSp.next (w := w) hN3 HBX.out.drew)
          have HN4 := Lib.hid (show NSp 51 39 112 wr.drew _ d from NSp.next (w := w) hN4 HBX.out.drew)
          have HM1 := Lib.hid hm1
          have HM2 := Lib.hid hm2
          clear hx3 hx4 p30 p31 p32 p33 p34 p40 p41 p42 p43 p44 hN3 hN4 hm1 hm2 hb
          cases hf : eqSm c d with
          | true =>
            have HF := Lib.hid hf
            rw [hf] at HDJ
            clear hf
            go_wp2
            go_region_held3 (fun w' => w'.cell? ⟨w.heap.size, 0, none⟩ = some (.slice (some ⟨b1, o1, none⟩) a.parts.length ca) ∧ w'.cell? ⟨w.heap.size + 1, 0, none⟩ = some (.slice (some ⟨b2, o2, none⟩) b.parts.length cb) ∧ w'.cell? ⟨b1, o1 + k * 2 + 1, none⟩ = some (.slice (some ⟨b3, o3, none⟩) x.stages.length c1) ∧ w'.cell? ⟨b2, o2 + k * 2 + 1, none⟩ = some (.slice (some ⟨b4, o4, none⟩) y.stages.length c2) ∧ w'.cell? ⟨b3, o3 + j * 5, none⟩ = some (.slice sa3 c.asg.length na3) ∧ w'.cell? ⟨b3, o3 + j * 5 + 1, none⟩ = some (.slice sb3 c.words.length nb3) ∧ w'.cell? ⟨b3, o3 + j * 5 + 2, none⟩ = some (.slice si3 c.inn.length ni3) ∧ w'.cell? ⟨b3, o3 + j * 5 + 3, none⟩ = some (.slice so3 c.out.length no3) ∧ w'.cell? ⟨b3, o3 + j * 5 + 4, none⟩ = some (.bool c.app) ∧ w'.cell? ⟨b4, o4 + j * 5, none⟩ = some (.slice sa4 d.asg.length na4) ∧ w'.cell? ⟨b4, o4 + j * 5 + 1, none⟩ = some (.slice sb4 d.words.length nb4) ∧ w'.cell? ⟨b4, o4 + j * 5 + 2, none⟩ = some (.slice si4 d.inn.length ni4) ∧ w'.cell? ⟨b4, o4 + j * 5 + 3, none⟩ = some (.slice so4 d.out.length no4) ∧ w'.cell? ⟨b4, o4 + j * 5 + 4, none⟩ = some (.bool d.app))
              (first | (with_reducible exact ⟨z0, z1, z2, z3, z4, z5, z6, z7, z8, z9, z10, z11, z12, z13⟩) | go_keep)
              (first | (go_at_call 48; (with_reducible refine (sst_is wr.drew _ _ _ _ _ _ _ _ c d true HN3.out HN4.out HM1.out HM2.out HF.out).mono ?_); rintro e w5 ⟨rfl, hb5⟩; have hbz := bcell hb5; have z0 := (hbz.1 _ 0 hw0).trans x0; have z1 := (hbz.1 _ 0 hw1).trans y0; have z2 := (hbz.1 b1 _ hbr1).trans e11; have z3 := (hbz.1 b2 _ hbr2).trans e21; have z4 := (hbz.1 b3 _ hbr3).trans f30; have z5 := (hbz.1 b3 _ hbr3).trans f31; have z6 := (hbz.1 b3 _ hbr3).trans f32; have z7 := (hbz.1 b3 _ hbr3).trans f33; have z8 := (hbz.1 b3 _ hbr3).trans f34; have z9 := (hbz.1 b4 _ hbr4).trans f40; have z10 := (hbz.1 b4 _ hbr4).trans f41; have z11 := (hbz.1 b4 _ hbr4).trans f42; have z12 := (hbz.1 b4 _ hbr4).trans f43; have z13 := (hbz.1 b4 _ hbr4).trans f44; have HB5 := Lib.hid (HBR.out.drew.trans (hb5.mono HBR.out.size)); clear hb5 hbz))
            all_goals
              clear z0 z1 z2 z3 z4 z5 z6 z7 z8 z9 z10 z11 z12 z13
              go_wp2
              go_roundg (gk - 1)
              case rel => exact ⟨j + 1, by go_num, by omega, by omega, HB5.out, HDJ.out⟩
              case measure => omega
          | false =>
            have HF := Lib.hid hf
            rw [hf] at HDJ
            clear hf
            go_wp2
            go_region_held3 (fun w' => w'.cell? ⟨w.heap.size, 0, none⟩ = some (.slice (some ⟨b1, o1, none⟩) a.parts.length ca) ∧ w'.cell? ⟨w.heap.size + 1, 0, none⟩ = some (.slice (some ⟨b2, o2, none⟩) b.parts.length cb) ∧ w'.cell? ⟨b1, o1 + k * 2 + 1, none⟩ = some (.slice (some ⟨b3, o3, none⟩) x.stages.length c1) ∧ w'.cell? ⟨b2, o2 + k * 2 + 1, none⟩ = some (.slice (some ⟨b4, o4, none⟩) y.stages.length c2) ∧ w'.cell? ⟨b3, o3 + j * 5, none⟩ = some (.slice sa3 c.asg.length na3) ∧ w'.cell? ⟨b3, o3 + j * 5 + 1, none⟩ = some (.slice sb3 c.words.length nb3) ∧ w'.cell? ⟨b3, o3 + j * 5 + 2, none⟩ = some (.slice si3 c.inn.length ni3) ∧ w'.cell? ⟨b3, o3 + j * 5 + 3, none⟩ = some (.slice so3 c.out.length no3) ∧ w'.cell? ⟨b3, o3 + j * 5 + 4, none⟩ = some (.bool c.app) ∧ w'.cell? ⟨b4, o4 + j * 5, none⟩ = some (.slice sa4 d.asg.length na4) ∧ w'.cell? ⟨b4, o4 + j * 5 + 1, none⟩ = some (.slice sb4 d.words.length nb4) ∧ w'.cell? ⟨b4, o4 + j * 5 + 2, none⟩ = some (.slice si4 d.inn.length ni4) ∧ w'.cell? ⟨b4, o4 + j * 5 + 3, none⟩ = some (.slice so4 d.out.length no4) ∧ w'.cell? ⟨b4, o4 + j * 5 + 4, none⟩ = some (.bool d.app))
              (first | (with_reducible exact ⟨z0, z1, z2, z3, z4, z5, z6, z7, z8, z9, z10, z11, z12, z13⟩) | go_keep)
              (first | (go_at_call 48; (with_reducible refine (sst_is wr.drew _ _ _ _ _ _ _ _ c d false HN3.out HN4.out HM1.out HM2.out HF.out).mono ?_); rintro e w5 ⟨rfl, hb5⟩; have hbz := bcell hb5; have z0 := (hbz.1 _ 0 hw0).trans x0; have z1 := (hbz.1 _ 0 hw1).trans y0; have z2 := (hbz.1 b1 _ hbr1).trans e11; have z3 := (hbz.1 b2 _ hbr2).trans e21; have z4 := (hbz.1 b3 _ hbr3).trans f30; have z5 := (hbz.1 b3 _ hbr3).trans f31; have z6 := (hbz.1 b3 _ hbr3).trans f32; have z7 := (hbz.1 b3 _ hbr3).trans f33; have z8 := (hbz.1 b3 _ hbr3).trans f34; have z9 := (hbz.1 b4 _ hbr4).trans f40; have z10 := (hbz.1 b4 _ hbr4).trans f41; have z11 := (hbz.1 b4 _ hbr4).trans f42; have z12 := (hbz.1 b4 _ hbr4).trans f43; have z13 := (hbz.1 b4 _ hbr4).trans f44; have HB5 := Lib.hid (HBR.out.drew.trans (hb5.mono HBR.out.size)); clear hb5 hbz))
            all_goals
              clear z0 z1 z2 z3 z4 z5 z6 z7 z8 z9 z10 z11 z12 z13
              go_wp2
              have HZ := Lib.hid (show eqP x y = false by rw [HQE.out, HDJ.out]; rfl)
              go_ret
              exact ⟨ret_bool (by rw [← HR0.out, HD.out, HZ.out]; rfl), HBO.out.trans (HB5.out.mono HBO.out.size)⟩
        · obtain rfl : j = x.stages.length := by omega
          have HZ := Lib.hid (show eqP x y = true by rw [HQE.out, HRJ.out, allB_end HSL.out])
          rw [HZ.out] at HD
          clear hb
          go_wp2
          go_roundg (gk0 - 1)
          case rel => exact ⟨k + 1, by go_num, by omega, by omega, HBOW.out.trans (HBR.out.mono HBOW.out.size), HD.out⟩
          case measure => omega
    · obtain rfl : k = a.parts.length := by omega
      have HZ := Lib.hid (show true = r by rw [← HR0.out, HR.out, allB_end HLP.out])
      have x0 : wr.cell? ⟨w.heap.size, 0, none⟩ = some (.slice A a.parts.length ca) := (K1.out.next HBW.out K1.out.lt).cell 0
      clear hb
      go_wp2
      go_ret
      exact ⟨ret_bool HZ.out, HBX.out⟩
end Go.Proofs.Ytiddchpkmcncdaa
