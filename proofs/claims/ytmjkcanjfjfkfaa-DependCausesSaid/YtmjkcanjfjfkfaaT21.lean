/- Walks of layer 47: comparing changes, the deed of an action. -/
import Derived.Test.YtmjkcanjfjfkfaaP10
import Derived.Test.YtmjkcanjfjfkfaaT11
import Derived.Test.YtmjkcanjfjfkfaaLA
import Derived.Test.YtmjkcanjfjfkfaaL2
namespace Go.Proofs.Ytmjkcanjfjfkfaa
open Go.RowKit
set_option linter.unusedSimpArgs false
set_option linter.unusedVariables false
attribute [local go_sem ↓] Go.wp_at_zero Go.wp_at_succ
def sameRel (a b : List Ch) (w : World) (i : Value) (wr : World) : Prop := ∃ k : Nat, k ≤ a.length ∧ i = .int .i64 k ∧ (∀ j (h1 : j < a.length) (h2 : j < b.length), j < k → a[j] = b[j]) ∧ Below w.heap.size w wr
set_option maxRecDepth 100000 in
set_option maxHeartbeats 4000000 in
theorem same_is {w : World} {v1 v2 : Value} {a b : List Ch} (h1 : RdCh w v1 a) (h2 : RdCh w v2 b) (l1 : a.length ≤ 1000) (l2 : b.length ≤ 1000) : Calls Try.prog 24 #[v1, v2] w fun e w' => e = .returned (.bool (decide (a = b))) ∧ Below w.heap.size w w' := by
  obtain ⟨A1, c1, rfl, hc1⟩ := RdP.form h1
  obtain ⟨A2, c2, rfl, hc2⟩ := RdP.form h2
  have H1 := Lib.hid h1
  have H2 := Lib.hid h2
  clear h1 h2
  by_cases hl : a.length = b.length
  · have k1 : ((a.length : Int) != (b.length : Int)) = false := by rw [hl]; simp
    have HLL := Lib.hid hl
    rw [← hl] at hc2 k1
    have H0 : Hid (sameRel a b w (.int .i64 (0 : Nat)) w) := Lib.hid ⟨0, Nat.zero_le _, rfl, fun j _ _ h => by omega, Below.refl _ _⟩
    go_enter Try.func24, Try.ntmps24
    rw [← HLL.out]
    clear hl
    go_wp2_with fail
    go_loopw [5] (fun i wr => sameRel a b w i wr) (fun i _ => a.length - (intOf i).toNat)
    case atStart => exact H0.out
    case round =>
      clear H0
      obtain ⟨k, hkl, rfl, hz, hbw⟩ := hrel
      have HZ := Lib.hid hz
      have HBW := Lib.hid hbw
      clear hz hbw
      by_cases hk : k < a.length
      · have j1 : (0 : Int) ≤ (k : Int) := by omega
        have j2 : (k : Int) < (a.length : Int) := by omega
        have j3 : decide ((k : Int) < (a.length : Int)) = true := decide_eq_true j2
        have hkb : k < b.length := by rw [← HLL.out]; exact hk
        obtain ⟨b1, o1, hbe, hb1, x0, x1, x2, x3, x4, x5, x6⟩ := RdCh.piece (RdP.next H1.out HBW.out) hk
        subst hbe
        obtain ⟨b2, o2, hbe, hb2, y0, y1, y2, y3, y4, y5, y6⟩ := RdCh.piece (RdP.next H2.out HBW.out) hkb
        subst hbe
        obtain ⟨x, hx⟩ : ∃ x, a[k] = x := ⟨_, rfl⟩
        obtain ⟨y, hy⟩ : ∃ y, b[k] = y := ⟨_, rfl⟩
        rw [hx] at x0 x1 x2 x3 x4 x5 x6
        rw [hy] at y0 y1 y2 y3 y4 y5 y6
        have HX := Lib.hid hx
        have HY := Lib.hid hy
        clear hx hy hb1 hb2
        obtain ⟨bq, hbq⟩ : ∃ bq, decide (x = y) = bq := ⟨_, rfl⟩
        have HQ := Lib.hid hbq
        have he := fun W => neqCh x y bq hbq W
        unfold chV at he
        clear hbq
        have HKK := Lib.hid hk
        cases bq with
        | true =>
          go_upto_region 6 with (fail)
          go_quiet (fail)
          clear x0 x1 x2 x3 x4 x5 x6 y0 y1 y2 y3 y4 y5 y6 he
          go_wp2_with fail
          go_roundw
          case rel => exact ⟨k + 1, HKK.out, by go_num, fun j h1 h2 h3 => by
            rcases Nat.lt_or_ge j k with h | h
            · exact HZ.out j h1 h2 h
            · obtain rfl : j = k := by omega
              rw [HX.out, HY.out]; exact of_decide_eq_true HQ.out, HBW.out.trans (below_drewN (Below.refl _ _) nq)⟩
          case measure => have := HKK.out; simp [intOf]; omega
        | false =>
          have hne : decide (a = b) = false := decide_eq_false (fun e => by
            subst e
            exact (of_decide_eq_false HQ.out) (HX.out.symm.trans HY.out))
          have HNE := Lib.hid hne
          clear hne
          go_upto_region 6 with (fail)
          go_quiet (fail)
          clear x0 x1 x2 x3 x4 x5 x6 y0 y1 y2 y3 y4 y5 y6 he
          go_wp2_with fail
          go_ret
          exact ⟨by rw [HNE.out]; rfl, HBW.out.trans (below_drewN (Below.refl _ _) nq)⟩
      · have j3 : decide ((k : Int) < (a.length : Int)) = false := decide_eq_false (by omega)
        have HEQ := Lib.hid (show decide (a = b) = true from decide_eq_true (List.ext_getElem HLL.out (fun j h1 h2 => HZ.out j h1 h2 (by omega))))
        go_wp2_with fail
        go_ret
        exact ⟨by rw [HEQ.out]; rfl, HBW.out⟩
  · have k1 : ((a.length : Int) != (b.length : Int)) = true := by rw [bne_iff_ne]; omega
    have k2 : (a.length != b.length) = true := by rw [bne_iff_ne]; exact hl
    have HNE := Lib.hid (show decide (a = b) = false from decide_eq_false (fun e => hl (by rw [e])))
    clear hl
    go_enter Try.func24, Try.ntmps24
    go_wp2_with fail
    go_ret
    exact ⟨by rw [HNE.out]; rfl, Below.refl _ _⟩
theorem fstQ_drop (lin : Bs) {ds : List De} {i : Nat} (h : i < ds.length) : fstQ lin (ds.drop i) = if 0 < ds[i].who % 4 ∧ whoS (ds[i].who % 4) = lin then ds[i] else fstQ lin (ds.drop (i + 1)) := by
  rw [List.drop_eq_getElem_cons h]
  unfold fstQ
  rw [List.find?_cons]
  by_cases h1 : 0 < ds[i].who % 4 ∧ whoS (ds[i].who % 4) = lin
  · rw [if_pos h1, decide_eq_true h1.1, decide_eq_true h1.2]
    rfl
  · rw [if_neg h1]
    have : (decide (0 < ds[i].who % 4) && decide (whoS (ds[i].who % 4) = lin)) = false := by
      rw [Bool.and_eq_false_iff]
      by_cases h2 : 0 < ds[i].who % 4
      · exact .inr (decide_eq_false fun h3 => h1 ⟨h2, h3⟩)
      · exact .inl (decide_eq_false h2)
    rw [this]
def deeRel (w : World) (u : Value) (ds : List De) (k : Ky) (D : De) (T : Nat) (kb db : Nat) (v5 : Value) (wr : World) : Prop := ∃ i : Nat, T ≤ i ∧ i ≤ max T ds.length ∧ v5 = .int .i64 (i : Int) ∧ fstQ k.lin (ds.drop i) = D ∧ Blk wr w.heap.size 24 #[u] ∧ Blk wr kb 56 #[.int .i64 k.tick, .int .i64 k.cls, .int .i64 k.num, .string (bs k.lin)] ∧ Blk wr db 62 #[.int .u8 0, .int .u8 0, .int .u8 0, .int .u8 0, .bool false] ∧ Below w.heap.size w wr
set_option maxRecDepth 100000 in
set_option maxHeartbeats 4000000 in
theorem deed_is {w : World} {u : Value} {ds : List De} {k : Ky} (hd : DeAt w.heap.size w u ds) (hk : k.cls = 0 → 1 ≤ k.num ∧ k.num ≤ (ds.length : Int)) (ht : 0 ≤ k.tick ∧ k.tick ≤ 100) : Calls Try.prog 23 #[.agg #[u], kyV k] w fun e w' => e = .returned (.agg #[.int .u8 (deedS ds k).who, .int .u8 (deedS ds k).reads, .int .u8 (deedS ds k).writes, .int .u8 (deedS ds k).spawn, .bool (deedS ds k).same]) ∧ Below w.heap.size w w' := by
  obtain ⟨A, c, rfl, hc, hcm⟩ := Ra.form hd.1
  have HD := Lib.hid hd
  have hcl : ds.length ≤ 9223372036854775807 := by unfold maxLen at hcm; omega
  have hb1 := (Below.refl w.heap.size w).alloc (Nat.le_refl _) (.cells #[.slice A ds.length c] 24)
  have hb2 := hb1.alloc hb1.size (.cells #[.int .i64 k.tick, .int .i64 k.cls, .int .i64 k.num, .string (bs k.lin)] 56)
  have hb3 := hb2.alloc hb2.size (.cells #[.int .u8 0, .int .u8 0, .int .u8 0, .int .u8 0, .bool false] 62)
  have z1 := ((Blk.new w 24 #[.slice A ds.length c]).alloc (.cells #[.int .i64 k.tick, .int .i64 k.cls, .int .i64 k.num, .string (bs k.lin)] 56)).alloc (.cells #[.int .u8 0, .int .u8 0, .int .u8 0, .int .u8 0, .bool false] 62)
  have z2 := (Blk.newE (w.alloc (.cells #[.slice A ds.length c] 24)) 56 #[.int .i64 k.tick, .int .i64 k.cls, .int .i64 k.num, .string (bs k.lin)] (w.heap.size + 1) (by simp)).alloc (.cells #[.int .u8 0, .int .u8 0, .int .u8 0, .int .u8 0, .bool false] 62)
  have z3 := Blk.newE ((w.alloc (.cells #[.slice A ds.length c] 24)).alloc (.cells #[.int .i64 k.tick, .int .i64 k.cls, .int .i64 k.num, .string (bs k.lin)] 56)) 62 #[.int .u8 0, .int .u8 0, .int .u8 0, .int .u8 0, .bool false] (w.heap.size + 1 + 1) (by simp)
  have HB0 := Lib.hid hb3
  have Z1 := Lib.hid z1
  have Z2 := Lib.hid z2
  have Z3 := Lib.hid z3
  clear hd hb1 hb2 hb3 z1 z2 z3 hcm
  unfold kyV
  obtain ⟨D, hD⟩ : ∃ D, deedS ds k = D := ⟨_, rfl⟩
  have HDD := Lib.hid hD
  rw [hD]
  clear hD
  by_cases h0 : k.cls = 0
  · have e0 : (k.cls == 0) = true := by rw [h0]; rfl
    obtain ⟨k1, k2⟩ := hk h0
    obtain ⟨p, hp⟩ : ∃ p : Nat, k.num = (p : Int) + 1 := ⟨(k.num - 1).toNat, by omega⟩
    have hpl : p < ds.length := by omega
    have HDE := Lib.hid (show D = ds[p] by
      rw [← HDD.out]
      unfold deedS
      rw [if_pos h0, hp, show ((p : Int) + 1 - 1).toNat = p by omega, List.getD_eq_getElem?_getD, List.getElem?_eq_getElem hpl]
      rfl)
    obtain ⟨xb, xo, rfl, hxb, y0, y1, y2, y3, y4⟩ := DeAt.piece (HD.out.below HB0.out) hpl
    obtain ⟨d, hdd⟩ : ∃ d, ds[p] = d := ⟨_, rfl⟩
    rw [hdd] at y0 y1 y2 y3 y4 HDE
    have p1 : (0 : Int) ≤ (p : Int) := by omega
    have p2 : (p : Int) < (ds.length : Int) := by omega
    have e1 : IntKind.i64.wrap ((p : Int) + 1 - 1) = (p : Int) := by rw [Int.add_sub_cancel]; exact IntWalk.i64_in _ (by omega)
    have z0 := Z1.out.cell 0
    have t1 := Z2.out.cell 1
    have t2 := Z2.out.cell 2
    simp only [List.getElem?_toArray, List.getElem?_cons_zero, List.getElem?_cons_succ] at z0 t1 t2
    have HP := Lib.hid hp
    have hp63 : p ≤ 9223372036854775806 := by omega
    clear hk h0 k1 k2 hdd hp
    rw [HDE.out]
    go_enter Try.func23, Try.ntmps23
    go_upto_region 1 with (fail)
    generalize ((w.alloc (.cells #[.slice (some ⟨xb, xo, none⟩) ds.length c] 24)).alloc (.cells #[.int .i64 k.tick, .int .i64 k.cls, .int .i64 k.num, .string (bs k.lin)] 56)).alloc (.cells #[.int .u8 0, .int .u8 0, .int .u8 0, .int .u8 0, .bool false] 62) = wr at *
    obtain ⟨db, hdb⟩ : ∃ db, w.heap.size + 1 + 1 = db := ⟨_, rfl⟩
    have HDB := Lib.hid hdb
    rw [hdb] at Z3 ⊢
    rw [HP.out] at t2
    clear hdb
    have q0 := Z3.out.cell 0
    have q1 := Z3.out.cell 1
    have q2 := Z3.out.cell 2
    have q3 := Z3.out.cell 3
    have q4 := Z3.out.cell 4
    simp only [List.getElem?_toArray, List.getElem?_cons_zero, List.getElem?_cons_succ] at q0 q1 q2 q3 q4
    have f0 := Z3.out.frozen 0
    have f1 := Z3.out.frozen 1
    have f2 := Z3.out.frozen 2
    have f3 := Z3.out.frozen 3
    have f4 := Z3.out.frozen 4
    have ZE := Lib.hid (set5_ (.int .u8 d.who) (.int .u8 d.reads) (.int .u8 d.writes) (.int .u8 d.spawn) (.bool d.same) Z3.out)
    have BE := Lib.hid (low5_ (.int .u8 d.who) (.int .u8 d.reads) (.int .u8 d.writes) (.int .u8 d.spawn) (.bool d.same) HB0.out (by have := HDB.out; omega : w.heap.size ≤ db))
    go_wp2_with fail
    clear q0 q1 q2 q3 q4 f0 f1 f2 f3 f4
    have q0 := ZE.out.cell 0
    have q1 := ZE.out.cell 1
    have q2 := ZE.out.cell 2
    have q3 := ZE.out.cell 3
    have q4 := ZE.out.cell 4
    simp only [List.getElem?_toArray, List.getElem?_cons_zero, List.getElem?_cons_succ] at q0 q1 q2 q3 q4
    generalize (((((wr.setCell ⟨db, 0, none⟩ (.int .u8 d.who)).setCell ⟨db, 1, none⟩ (.int .u8 d.reads)).setCell ⟨db, 2, none⟩ (.int .u8 d.writes)).setCell ⟨db, 3, none⟩ (.int .u8 d.spawn)).setCell ⟨db, 4, none⟩ (.bool d.same)) = W9 at *
    exact bodyPost_ret (v := .agg #[.int .u8 d.who, .int .u8 d.reads, .int .u8 d.writes, .int .u8 d.spawn, .bool d.same]) (by simp [results, Try.results23, go_sem, q0, q1, q2, q3, q4]) rfl ⟨rfl, BE.out⟩
  · have e0 : (k.cls == 0) = false := by rw [beq_eq_false_iff_ne]; exact h0
    obtain ⟨tk, htk⟩ : ∃ tk : Nat, k.tick = (tk : Int) := ⟨k.tick.toNat, by omega⟩
    have htk100 : tk ≤ 100 := by omega
    have HFD0 := Lib.hid (show fstQ k.lin (ds.drop (4 * tk)) = D by
      rw [← HDD.out]
      unfold deedS
      rw [if_neg h0, htk, show (4 * (tk : Int)).toNat = 4 * tk by omega])
    have t0 := Z2.out.cell 0
    have t1 := Z2.out.cell 1
    have z0 := Z1.out.cell 0
    simp only [List.getElem?_toArray, List.getElem?_cons_zero, List.getElem?_cons_succ] at t0 t1 z0
    have HTK := Lib.hid htk
    clear hk h0 htk ht
    go_enter Try.func23, Try.ntmps23
    go_upto_region 3 with (fail)
    generalize ((w.alloc (.cells #[.slice A ds.length c] 24)).alloc (.cells #[.int .i64 k.tick, .int .i64 k.cls, .int .i64 k.num, .string (bs k.lin)] 56)).alloc (.cells #[.int .u8 0, .int .u8 0, .int .u8 0, .int .u8 0, .bool false] 62) = w3 at *
    obtain ⟨db, hdb⟩ : ∃ db, w.heap.size + 1 + 1 = db := ⟨_, rfl⟩
    have HDB := Lib.hid hdb
    rw [hdb] at Z3 ⊢
    obtain ⟨kb, hkb⟩ : ∃ kb, w.heap.size + 1 = kb := ⟨_, rfl⟩
    rw [hkb] at Z2 t0 t1 ⊢
    rw [HTK.out] at t0
    clear hdb hkb
    have H0 : Hid (deeRel w (.slice A ds.length c) ds k D (4 * tk) kb db (.int .i64 ((4 * tk : Nat) : Int)) w3) := Lib.hid ⟨4 * tk, Nat.le_refl _, by omega, rfl, HFD0.out, Z1.out, Z2.out, Z3.out, HB0.out⟩
    go_upto_region 4 with (fail)
    clear Z1 Z2 Z3 HB0 t0 t1 z0
    rw [show (4 : Int) * (tk : Int) = ((4 * tk : Nat) : Int) by omega]
    go_loopw [5] (fun v5 wr => deeRel w (.slice A ds.length c) ds k D (4 * tk) kb db v5 wr) (fun v5 _ => ds.length - (intOf v5).toNat)
    case atStart => exact H0.out
    case round =>
      clear H0
      obtain ⟨i, hti, himax, rfl, hfd, hz1, hz2, hz3, hB⟩ := hrel
      have HTI := Lib.hid hti
      have HFD := Lib.hid hfd
      have Z1 := Lib.hid hz1
      have Z2 := Lib.hid hz2
      have Z3 := Lib.hid hz3
      have HB := Lib.hid hB
      have z0 := hz1.cell 0
      simp only [List.getElem?_toArray, List.getElem?_cons_zero, List.getElem?_cons_succ] at z0
      clear hti hfd hz1 hz2 hz3 hB himax
      by_cases hil : i < ds.length
      · have j1 : decide ((i : Int) < (ds.length : Int)) = true := decide_eq_true (by omega)
        have j2 : (0 : Int) ≤ (i : Int) := by omega
        have j3 : (i : Int) < (ds.length : Int) := by omega
        obtain ⟨xb, xo, hbe, hxb, y0, y1, y2, y3, y4⟩ := DeAt.piece (HD.out.below HB.out) hil
        subst hbe
        have HFX := Lib.hid (fstQ_drop k.lin hil)
        have HDR := Lib.hid (HD.out.2 ds[i] (List.getElem_mem hil))
        obtain ⟨d, hdd⟩ : ∃ d, ds[i] = d := ⟨_, rfl⟩
        rw [hdd] at y0 y1 y2 y3 y4 HFX HDR
        have HIL := Lib.hid hil
        have HDI0 := Lib.hid (show ds[i]'HIL.out = d from hdd)
        obtain ⟨n, hn⟩ : ∃ n, d.who % 4 = n := ⟨_, rfl⟩
        have hn4 : n < 4 := by rw [← hn]; exact Nat.mod_lt _ (by decide)
        have HN := Lib.hid hn
        have e4 : (d.who : Int) % 4 = (n : Int) := by omega
        rw [hn] at HFX
        clear hdd hn
        by_cases hn0 : 1 ≤ n
        · have g1 : decide ((0 : Int) < (n : Int)) = true := decide_eq_true (by omega)
          have g2 : decide (0 < n) = true := decide_eq_true (by omega)
          have k3 := Z2.out.cell 3
          simp only [List.getElem?_toArray, List.getElem?_cons_zero, List.getElem?_cons_succ] at k3
          have Z1Q := Lib.hid (Z1.out.next (Below.refl wr.heap.size wr).drew Z1.out.lt)
          have Z2Q := Lib.hid (Z2.out.next (Below.refl wr.heap.size wr).drew Z2.out.lt)
          have Z3Q := Lib.hid (Z3.out.next (Below.refl wr.heap.size wr).drew Z3.out.lt)
          have BQ := Lib.hid (HB.out.trans ((Below.refl wr.heap.size wr).drew.mono HB.out.size))
          by_cases hw : whoS n = k.lin
          · have e5 : ((bs (whoS n)).toList == (bs k.lin).toList) = true := by rw [hw]; exact beq_self_eq_true _
            have e6 : (whoS n == k.lin) = true := by rw [hw]; exact beq_self_eq_true _
            have HFQ := Lib.hid (show D = d by rw [← HFD.out, HFX.out, if_pos ⟨by omega, hw⟩])
            have HYY := Lib.hid (fun (W : World) (hW : Below w.heap.size w W) => DeAt.piece (HD.out.below hW) HIL.out)
            have HDI := HDI0
            clear hw
            go_upto_region 7 with (fail)
            refine wp_region_noPanic ?_
            refine wp_region_held_drew (S := (fun (w' : World) => w'.cell? ⟨kb, 3, none⟩ = some (.string (bs k.lin)))) (by kernel_rfl) ?_ (fun hHeld => ?_)
            · exact k3
            refine wpAnyH_take (i := 0) (v := ?_) rfl (by kernel_rfl) (by kernel_rfl) (by kernel_rfl) (fun _ _ _ h => h) (Or.inl ⟨by kernel_rfl, ?_⟩) hHeld ?_
            rotate_left
            · (intro w hSw; (try dsimp only at hSw); go_simp; try with_reducible rfl)
            try simp only [Act.put, List.setIfInBounds_toArray, List.set_cons_zero, List.set_cons_succ]
            refine wpAnyH_take (i := 1) (v := ?_) rfl (by kernel_rfl) (by kernel_rfl) (by kernel_rfl) (fun _ _ _ h => h) (Or.inl ⟨by kernel_rfl, ?_⟩) hHeld ?_
            rotate_left
            · (intro w hSw; (try dsimp only at hSw); go_simp; try with_reducible rfl)
            try simp only [Act.put, List.setIfInBounds_toArray, List.set_cons_zero, List.set_cons_succ]
            refine wpAnyH_take (i := 2) (v := ?_) rfl (by kernel_rfl) (by kernel_rfl) (by kernel_rfl) (fun _ _ _ h => h) (Or.inl ⟨by kernel_rfl, ?_⟩) hHeld ?_
            rotate_left
            · (intro w hSw; (try dsimp only at hSw); go_simp; try with_reducible rfl)
            try simp only [Act.put, List.setIfInBounds_toArray, List.set_cons_zero, List.set_cons_succ]
            refine wpAnyH_take (i := 3) (v := ?_) rfl (by kernel_rfl) (by kernel_rfl) (by kernel_rfl) (fun _ _ _ h => h) (Or.inl ⟨by kernel_rfl, ?_⟩) hHeld ?_
            rotate_left
            · (intro w hSw; (try dsimp only at hSw); go_simp; try with_reducible rfl)
            try simp only [Act.put, List.setIfInBounds_toArray, List.set_cons_zero, List.set_cons_succ]
            refine wpAnyH_take (i := 5) (v := ?_) rfl (by kernel_rfl) (by kernel_rfl) (by kernel_rfl) (fun _ _ _ h => h) (Or.inl ⟨by kernel_rfl, ?_⟩) hHeld ?_
            rotate_left
            · (intro w hSw; (try dsimp only at hSw); go_simp; try with_reducible rfl)
            try simp only [Act.put, List.setIfInBounds_toArray, List.set_cons_zero, List.set_cons_succ]
            refine wpAnyH_take (i := 6) (v := ?_) rfl (by kernel_rfl) (by kernel_rfl) (by kernel_rfl) (fun _ _ _ h => h) (Or.inl ⟨by kernel_rfl, ?_⟩) hHeld ?_
            rotate_left
            · (intro w hSw; (try dsimp only at hSw); go_simp; try with_reducible rfl)
            try simp only [Act.put, List.setIfInBounds_toArray, List.set_cons_zero, List.set_cons_succ]
            refine wpAnyH_ready (rs := [4]) (by kernel_rfl) (by simp) ?_
            refine AllReadyH.cons rfl (fun K hK => ?_) AllReadyH.nil
            go_simp
            refine (who_is n hn0 (by omega) _).mono ?_; rintro e w5 ⟨rfl, hb⟩; have Z15 := Lib.hid (Z1Q.out.next hb Z1Q.out.lt); have Z25 := Lib.hid (Z2Q.out.next hb Z2Q.out.lt); have Z35 := Lib.hid (Z3Q.out.next hb Z3Q.out.lt); have B5 := Lib.hid (BQ.out.trans (hb.mono BQ.out.size)); have k5 := Z25.out.cell 3; simp only [List.getElem?_toArray, List.getElem?_cons_zero, List.getElem?_cons_succ] at k5; clear hb
            try (go_wp2_with fail)
            refine hK.out _ _ ?_ (fun hNew => ?_)
            · exact k5
            clear hK K hHeld
            have hHeld := hNew
            clear hNew
            try simp only [Act.put, List.setIfInBounds_toArray, List.set_cons_zero, List.set_cons_succ]
            refine wpAnyH_take (i := 7) (v := ?_) rfl (by kernel_rfl) (by kernel_rfl) (by kernel_rfl) (fun _ _ _ h => h) (Or.inl ⟨by kernel_rfl, ?_⟩) hHeld ?_
            rotate_left
            · (intro w hSw; (try dsimp only at hSw); go_simp; try with_reducible rfl)
            try simp only [Act.put, List.setIfInBounds_toArray, List.set_cons_zero, List.set_cons_succ]
            refine wpAnyH_take (i := 8) (v := ?_) rfl (by kernel_rfl) (by kernel_rfl) (by kernel_rfl) (fun _ _ _ h => h) (Or.inl ⟨by kernel_rfl, ?_⟩) hHeld ?_
            rotate_left
            · (intro w hSw; (try dsimp only at hSw); go_simp; try with_reducible rfl)
            try simp only [Act.put, List.setIfInBounds_toArray, List.set_cons_zero, List.set_cons_succ]
            refine wpAnyH_done (by kernel_rfl) ?_ _
            clear hHeld
            try simp only [List.getElem_toArray, List.getElem_cons_zero, List.getElem_cons_succ, Act.put, List.setIfInBounds_toArray, List.set_cons_zero, List.set_cons_succ]
            refine NoPanic.normal ?_
            obtain ⟨xb5, xo5, hb5, _, y0, y1, y2, y3, y4⟩ := HYY.out w5 B5.out
            injection hb5 with hb5
            injection hb5 with hb5 hb6
            subst hb5 hb6
            rw [HDI.out] at y0 y1 y2 y3 y4
            have z0 := Z15.out.cell 0
            simp only [List.getElem?_toArray, List.getElem?_cons_zero, List.getElem?_cons_succ] at z0
            clear k5 k3
            have q0 := Z35.out.cell 0
            have q1 := Z35.out.cell 1
            have q2 := Z35.out.cell 2
            have q3 := Z35.out.cell 3
            have q4 := Z35.out.cell 4
            simp only [List.getElem?_toArray, List.getElem?_cons_zero, List.getElem?_cons_succ] at q0 q1 q2 q3 q4
            have f0 := Z35.out.frozen 0
            have f1 := Z35.out.frozen 1
            have f2 := Z35.out.frozen 2
            have f3 := Z35.out.frozen 3
            have f4 := Z35.out.frozen 4
            have ZE := Lib.hid (set5_ (.int .u8 d.who) (.int .u8 d.reads) (.int .u8 d.writes) (.int .u8 d.spawn) (.bool d.same) Z35.out)
            have BE := Lib.hid (low5_ (.int .u8 d.who) (.int .u8 d.reads) (.int .u8 d.writes) (.int .u8 d.spawn) (.bool d.same) B5.out (by have := HDB.out; omega : w.heap.size ≤ db))
            go_wp2_with fail
            clear q0 q1 q2 q3 q4 f0 f1 f2 f3 f4
            have q0 := ZE.out.cell 0
            have q1 := ZE.out.cell 1
            have q2 := ZE.out.cell 2
            have q3 := ZE.out.cell 3
            have q4 := ZE.out.cell 4
            simp only [List.getElem?_toArray, List.getElem?_cons_zero, List.getElem?_cons_succ] at q0 q1 q2 q3 q4
            generalize (((((w5.setCell ⟨db, 0, none⟩ (.int .u8 d.who)).setCell ⟨db, 1, none⟩ (.int .u8 d.reads)).setCell ⟨db, 2, none⟩ (.int .u8 d.writes)).setCell ⟨db, 3, none⟩ (.int .u8 d.spawn)).setCell ⟨db, 4, none⟩ (.bool d.same)) = W9 at *
            exact bodyPost_ret (v := .agg #[.int .u8 d.who, .int .u8 d.reads, .int .u8 d.writes, .int .u8 d.spawn, .bool d.same]) (by simp [results, Try.results23, go_sem, q0, q1, q2, q3, q4]) rfl ⟨by rw [HFQ.out], BE.out⟩
          · have e5 : ((bs (whoS n)).toList == (bs k.lin).toList) = false := by rw [beq_eq_false_iff_ne]; intro h; exact hw (by simpa [bs, ByteArray.toList_eq] using h)
            have e6 : (whoS n == k.lin) = false := by rw [beq_eq_false_iff_ne]; exact hw
            have HFQ := Lib.hid (show fstQ k.lin (ds.drop (i + 1)) = fstQ k.lin (ds.drop i) by rw [HFX.out, if_neg (fun h => hw h.2)])
            clear hw
            go_upto_region 7 with (fail)
            refine wp_region_noPanic ?_
            refine wp_region_held_drew (S := (fun (w' : World) => w'.cell? ⟨kb, 3, none⟩ = some (.string (bs k.lin)))) (by kernel_rfl) ?_ (fun hHeld => ?_)
            · exact k3
            refine wpAnyH_take (i := 0) (v := ?_) rfl (by kernel_rfl) (by kernel_rfl) (by kernel_rfl) (fun _ _ _ h => h) (Or.inl ⟨by kernel_rfl, ?_⟩) hHeld ?_
            rotate_left
            · (intro w hSw; (try dsimp only at hSw); go_simp; try with_reducible rfl)
            try simp only [Act.put, List.setIfInBounds_toArray, List.set_cons_zero, List.set_cons_succ]
            refine wpAnyH_take (i := 1) (v := ?_) rfl (by kernel_rfl) (by kernel_rfl) (by kernel_rfl) (fun _ _ _ h => h) (Or.inl ⟨by kernel_rfl, ?_⟩) hHeld ?_
            rotate_left
            · (intro w hSw; (try dsimp only at hSw); go_simp; try with_reducible rfl)
            try simp only [Act.put, List.setIfInBounds_toArray, List.set_cons_zero, List.set_cons_succ]
            refine wpAnyH_take (i := 2) (v := ?_) rfl (by kernel_rfl) (by kernel_rfl) (by kernel_rfl) (fun _ _ _ h => h) (Or.inl ⟨by kernel_rfl, ?_⟩) hHeld ?_
            rotate_left
            · (intro w hSw; (try dsimp only at hSw); go_simp; try with_reducible rfl)
            try simp only [Act.put, List.setIfInBounds_toArray, List.set_cons_zero, List.set_cons_succ]
            refine wpAnyH_take (i := 3) (v := ?_) rfl (by kernel_rfl) (by kernel_rfl) (by kernel_rfl) (fun _ _ _ h => h) (Or.inl ⟨by kernel_rfl, ?_⟩) hHeld ?_
            rotate_left
            · (intro w hSw; (try dsimp only at hSw); go_simp; try with_reducible rfl)
            try simp only [Act.put, List.setIfInBounds_toArray, List.set_cons_zero, List.set_cons_succ]
            refine wpAnyH_take (i := 5) (v := ?_) rfl (by kernel_rfl) (by kernel_rfl) (by kernel_rfl) (fun _ _ _ h => h) (Or.inl ⟨by kernel_rfl, ?_⟩) hHeld ?_
            rotate_left
            · (intro w hSw; (try dsimp only at hSw); go_simp; try with_reducible rfl)
            try simp only [Act.put, List.setIfInBounds_toArray, List.set_cons_zero, List.set_cons_succ]
            refine wpAnyH_take (i := 6) (v := ?_) rfl (by kernel_rfl) (by kernel_rfl) (by kernel_rfl) (fun _ _ _ h => h) (Or.inl ⟨by kernel_rfl, ?_⟩) hHeld ?_
            rotate_left
            · (intro w hSw; (try dsimp only at hSw); go_simp; try with_reducible rfl)
            try simp only [Act.put, List.setIfInBounds_toArray, List.set_cons_zero, List.set_cons_succ]
            refine wpAnyH_ready (rs := [4]) (by kernel_rfl) (by simp) ?_
            refine AllReadyH.cons rfl (fun K hK => ?_) AllReadyH.nil
            go_simp
            refine (who_is n hn0 (by omega) _).mono ?_; rintro e w5 ⟨rfl, hb⟩; have Z15 := Lib.hid (Z1Q.out.next hb Z1Q.out.lt); have Z25 := Lib.hid (Z2Q.out.next hb Z2Q.out.lt); have Z35 := Lib.hid (Z3Q.out.next hb Z3Q.out.lt); have B5 := Lib.hid (BQ.out.trans (hb.mono BQ.out.size)); have k5 := Z25.out.cell 3; simp only [List.getElem?_toArray, List.getElem?_cons_zero, List.getElem?_cons_succ] at k5; clear hb
            try (go_wp2_with fail)
            refine hK.out _ _ ?_ (fun hNew => ?_)
            · exact k5
            clear hK K hHeld
            have hHeld := hNew
            clear hNew
            try simp only [Act.put, List.setIfInBounds_toArray, List.set_cons_zero, List.set_cons_succ]
            refine wpAnyH_take (i := 7) (v := ?_) rfl (by kernel_rfl) (by kernel_rfl) (by kernel_rfl) (fun _ _ _ h => h) (Or.inl ⟨by kernel_rfl, ?_⟩) hHeld ?_
            rotate_left
            · (intro w hSw; (try dsimp only at hSw); go_simp; try with_reducible rfl)
            try simp only [Act.put, List.setIfInBounds_toArray, List.set_cons_zero, List.set_cons_succ]
            refine wpAnyH_take (i := 8) (v := ?_) rfl (by kernel_rfl) (by kernel_rfl) (by kernel_rfl) (fun _ _ _ h => h) (Or.inl ⟨by kernel_rfl, ?_⟩) hHeld ?_
            rotate_left
            · (intro w hSw; (try dsimp only at hSw); go_simp; try with_reducible rfl)
            try simp only [Act.put, List.setIfInBounds_toArray, List.set_cons_zero, List.set_cons_succ]
            refine wpAnyH_done (by kernel_rfl) ?_ _
            clear hHeld
            try simp only [List.getElem_toArray, List.getElem_cons_zero, List.getElem_cons_succ, Act.put, List.setIfInBounds_toArray, List.set_cons_zero, List.set_cons_succ]
            refine NoPanic.normal ?_
            clear k5 k3
            go_wp2_with fail
            go_roundw
            case rel => first | exact ⟨i + 1, by have := HTI.out; omega, by have := HIL.out; omega, by go_num, by rw [HFQ.out]; exact HFD.out, Z15.out, Z25.out, Z35.out, B5.out⟩ | ((repeat apply Exists.intro); exact ⟨⟨i + 1, by have := HTI.out; omega, by have := HIL.out; omega, by go_num, by rw [HFQ.out]; exact HFD.out, Z15.out, Z25.out, Z35.out, B5.out⟩, rfl⟩)
            case measure => have := HIL.out; simp [intOf]; omega
        · have g1 : decide ((0 : Int) < (n : Int)) = false := decide_eq_false (by omega)
          have g2 : decide (0 < n) = false := decide_eq_false (by omega)
          have HFQ := Lib.hid (show fstQ k.lin (ds.drop (i + 1)) = fstQ k.lin (ds.drop i) by rw [HFX.out, if_neg (fun h => hn0 (by omega))])
          go_upto_region 7 with (fail)
          go_quiet (fail)
          have Z15 := Lib.hid (Z1.out.drewN nq)
          have Z25 := Lib.hid (Z2.out.drewN nq)
          have Z35 := Lib.hid (Z3.out.drewN nq)
          have B5 := Lib.hid (HB.out.trans ((below_drewN (Below.refl _ wr) nq).mono HB.out.size))
          generalize wr.drewN nq = w5 at *
          go_wp2_with fail
          go_roundw
          case rel => first | exact ⟨i + 1, by have := HTI.out; omega, by have := HIL.out; omega, by go_num, by rw [HFQ.out]; exact HFD.out, Z15.out, Z25.out, Z35.out, B5.out⟩ | ((repeat apply Exists.intro); exact ⟨⟨i + 1, by have := HTI.out; omega, by have := HIL.out; omega, by go_num, by rw [HFQ.out]; exact HFD.out, Z15.out, Z25.out, Z35.out, B5.out⟩, rfl⟩)
          case measure => have := HIL.out; simp [intOf]; omega
      · have j1 : decide ((i : Int) < (ds.length : Int)) = false := decide_eq_false (by omega)
        have HFQ := Lib.hid (show D = de0 by rw [← HFD.out, List.drop_eq_nil_of_le (by omega)]; rfl)
        obtain ⟨d, hdd⟩ : ∃ d, de0 = d := ⟨_, rfl⟩
        have HDZ := Lib.hid hdd
        have ZE := Z3.out
        have q0 := ZE.cell 0
        have q1 := ZE.cell 1
        have q2 := ZE.cell 2
        have q3 := ZE.cell 3
        have q4 := ZE.cell 4
        simp only [List.getElem?_toArray, List.getElem?_cons_zero, List.getElem?_cons_succ] at q0 q1 q2 q3 q4
        have f0 := ZE.frozen 0
        have f1 := ZE.frozen 1
        have f2 := ZE.frozen 2
        have f3 := ZE.frozen 3
        have f4 := ZE.frozen 4
        have ZS := Lib.hid (set5_ (.int .u8 0) (.int .u8 0) (.int .u8 0) (.int .u8 0) (.bool false) ZE)
        have BE := Lib.hid (low5_ (.int .u8 0) (.int .u8 0) (.int .u8 0) (.int .u8 0) (.bool false) HB.out (by have := HDB.out; omega : w.heap.size ≤ db))
        clear hdd ZE
        go_wp2_with fail
        clear q0 q1 q2 q3 q4 f0 f1 f2 f3 f4
        have q0 := ZS.out.cell 0
        have q1 := ZS.out.cell 1
        have q2 := ZS.out.cell 2
        have q3 := ZS.out.cell 3
        have q4 := ZS.out.cell 4
        simp only [List.getElem?_toArray, List.getElem?_cons_zero, List.getElem?_cons_succ] at q0 q1 q2 q3 q4
        generalize (((((wr.setCell ⟨db, 0, none⟩ (.int .u8 0)).setCell ⟨db, 1, none⟩ (.int .u8 0)).setCell ⟨db, 2, none⟩ (.int .u8 0)).setCell ⟨db, 3, none⟩ (.int .u8 0)).setCell ⟨db, 4, none⟩ (.bool false)) = W9 at *
        exact bodyPost_ret (v := .agg #[.int .u8 0, .int .u8 0, .int .u8 0, .int .u8 0, .bool false]) (by simp [results, Try.results23, go_sem, q0, q1, q2, q3, q4]) rfl ⟨by rw [HFQ.out]; rfl, BE.out⟩
end Go.Proofs.Ytmjkcanjfjfkfaa
