/- Walks of layer 46: Versions.Readers. -/
import Derived.Test.YtobkmkplhbaepaaDoorGQ
import Derived.Test.YtobkmkplhbaepaaDoorGB
namespace Go.Proofs.YtobkmkplhbaepaaDoor
open Go.RowKit
set_option linter.unusedSimpArgs false
set_option linter.unusedVariables false
attribute [local go_sem ↓] Go.wp_at_zero Go.wp_at_succ
/-- What Readers answers. -/
def RdrP (l : List Ac) (n : Nm) (t : Int) (w : World) (e : Ending) (w' : World) : Prop := ∃ v, e = .returned (.tuple #[v, .int .i64 (rdrA l n t).1]) ∧ OwnP 3 1 inC w' w.heap.size v (rdrA l n t).2 ∧ Below w.heap.size w w'
def RdrIn (l : List Ac) (n : Nm) (t z : Int) (w : World) (v i : Value) (wr : World) : Prop := ∃ k : Nat, k ≤ (rdrs n 0 l).length ∧ i = .int .i64 k ∧ OwnP 3 1 inC wr w.heap.size v (((rdrs n 0 l).take k).filter (rdF t z)) ∧ Below w.heap.size w wr
def AtOk (l : List Ac) (n : Nm) (t : Int) (W : World) (v : Value) (wx : World) : Prop := ∃ a : Nat, v = .int .i64 a ∧ a ≤ (vers n 0 l).length ∧ rdrA l n t = (0, (rdrs n 0 l).filter (rdF t (lastOf l.length (vers n 0 l) a))) ∧ Below W.heap.size W wx
set_option maxRecDepth 100000 in
set_option maxHeartbeats 2000000 in
theorem readers_is {w : World} {F : Nat → Prop} {g : Nat} {s0 : St} {l : List Ac} {n : Nm} (t : Int) (hv : VAt w F g s0 l) (hn : OwnE n) (ho : VOk l) : Calls Tryd.prog 13 #[.pointer (some ⟨g, 0, none⟩), nmV n, .int .i64 t] w (RdrP l n t w) := by
  obtain ⟨pb, va, vk, pl, bw, br, hv⟩ := hv
  obtain ⟨B, rfl⟩ : ∃ B, pb = some ⟨B, 0, none⟩ := by obtain ⟨B, _, _, e, _⟩ := hv.base; exact ⟨B, e⟩
  obtain ⟨Aa, ca, rfl, hca⟩ : ∃ A c, va = .slice A l.length c ∧ l.length ≤ c := by obtain ⟨us, _, ho⟩ := hv.act; exact own_len ho
  have ha := (Below.refl w.heap.size w).alloc (Nat.le_refl _) (.cells #[.int .i64 n.kind, .string (bs n.owner), .int .i64 n.num, .int .i64 n.idx, .string (bs n.text)] 40)
  have hz : w.heap.size < (w.alloc (.cells #[.int .i64 n.kind, .string (bs n.owner), .int .i64 n.num, .int .i64 n.idx, .string (bs n.text)] 40)).heap.size := by simp
  have zb := Blk.new w 40 #[.int .i64 n.kind, .string (bs n.owner), .int .i64 n.num, .int .i64 n.idx, .string (bs n.text)]
  have VW := Lib.hid (hv.next ha)
  have HA := Lib.hid ha
  have HNB := Lib.hid zb
  have x0 := VW.out.blk.cell 0
  have x1 := VW.out.blk.cell 1
  have x4 := VW.out.blk.cell 4
  have x5 := VW.out.blk.cell 5
  have z0 := zb.cell 0
  have z1 := zb.cell 1
  have z2 := zb.cell 2
  have z3 := zb.cell 3
  have z4 := zb.cell 4
  simp only [List.getElem?_toArray, List.getElem?_cons_zero, List.getElem?_cons_succ] at x0 x1 x4 x5 z0 z1 z2 z3 z4
  obtain ⟨ents, hm, hown⟩ := VW.out.wr.find n
  obtain ⟨A, c, hve, hc⟩ := own_len hown.1
  rw [hve] at hown
  obtain ⟨entr, hmr, hownr⟩ := VW.out.rd.find n
  obtain ⟨Ar, cr, hvr, hcr⟩ := own_len hownr.1
  rw [hvr] at hownr
  have HM := Lib.hid hm
  have HVE := Lib.hid hve
  have HMR := Lib.hid hmr
  have HVr := Lib.hid hvr
  have HRV := Lib.hid (show RdVe _ (.slice A (vers n 0 l).length c) (vers n 0 l) from Rd.of_own hown.1)
  have HRI := Lib.hid (show RdP 3 inC _ (.slice Ar (rdrs n 0 l).length cr) (rdrs n 0 l) from Rd.of_own hownr.1)
  have HINC := Lib.hid (ho.inc n)
  have hvl := ho.vlen n
  have hrl := ho.rlen n
  have hlen := ho.len
  have HLI := Lib.hid (fun v (hv : v ∈ vers n 0 l) => vers_idx n 0 l v hv)
  have HRB := Lib.hid (rdrs_bound n 0 l)
  clear hm hown hve hmr hownr hvr ha zb hv
  go_enter Tryd.func13, Tryd.ntmps13
  simp only [nmV, nmA]
  go_upto_region 3 with (go_at_call 40; refine (none_is x0).mono ?_; rintro e w' ⟨rfl, rfl⟩)
  generalize w.alloc (.cells #[.int .i64 n.kind, .string (bs n.owner), .int .i64 n.num, .int .i64 n.idx, .string (bs n.text)] 40) = W at *
  generalize hcb : w.heap.size = cb at *
  have HCB := Lib.hid hcb
  clear hcb x0
  by_cases hr1 : t < -1
  · have k1 : decide (t < -1) = true := decide_eq_true hr1
    have HE := Lib.hid (show rdrA l n t = (2, []) by unfold rdrA; rw [if_pos (.inl hr1)])
    clear hr1
    go_wp2_with fail
    go_ret2
    exact ⟨_, by rw [HE.out]; rfl, by rw [HE.out]; exact OwnP.nil, by rw [HCB.out]; exact HA.out⟩
  · have k1 : decide (t < -1) = false := decide_eq_false hr1
    by_cases hr2 : (l.length : Int) ≤ t
    · have k2 : decide ((l.length : Int) ≤ t) = true := decide_eq_true hr2
      have HE := Lib.hid (show rdrA l n t = (2, []) by unfold rdrA; rw [if_pos (.inr hr2)])
      have HR1 := Lib.hid hr1
      clear hr1 hr2
      go_wp2_with fail
      go_ret2
      exact ⟨_, by rw [HE.out]; rfl, by rw [HE.out]; exact OwnP.nil, by rw [HCB.out]; exact HA.out⟩
    · have k2 : decide ((l.length : Int) ≤ t) = false := decide_eq_false hr2
      have HRR := Lib.hid (show ¬ (t < -1 ∨ (l.length : Int) ≤ t) from fun h => h.elim hr1 hr2)
      clear hr1 hr2
      go_upto_region 5 with (fail)
      refine wp_region_noPanic ?_
      refine wp_region_held_drew (S := (fun (w' : World) => w'.cell? ⟨g, 4, none⟩ = some (.map (some bw)) ∧ w'.cell? ⟨cb, 0, none⟩ = some (.int .i64 n.kind) ∧ w'.cell? ⟨cb, 1, none⟩ = some (.string (bs n.owner)) ∧ w'.cell? ⟨cb, 2, none⟩ = some (.int .i64 n.num) ∧ w'.cell? ⟨cb, 3, none⟩ = some (.int .i64 n.idx) ∧ w'.cell? ⟨cb, 4, none⟩ = some (.string (bs n.text)))) (by kernel_rfl) ?_ (fun hHeld => ?_)
      · exact ⟨x4, z0, z1, z2, z3, z4⟩
      refine wpAnyH_take (i := 0) (v := ?_) rfl (by kernel_rfl) (by kernel_rfl) (by kernel_rfl) (fun _ _ _ h => h) (Or.inl ⟨by kernel_rfl, ?_⟩) hHeld ?_
      rotate_left
      · (intro w hSw; (try dsimp only at hSw); go_simp; try with_reducible rfl)
      try simp only [Act.put, List.setIfInBounds_toArray, List.set_cons_zero, List.set_cons_succ]
      refine wpAnyH_take (i := 1) (v := ?_) rfl (by kernel_rfl) (by kernel_rfl) (by kernel_rfl) (fun _ _ _ h => h) (Or.inl ⟨by kernel_rfl, ?_⟩) hHeld ?_
      rotate_left
      · (intro w hSw; (try dsimp only at hSw); go_simp; try with_reducible rfl)
      try simp only [Act.put, List.setIfInBounds_toArray, List.set_cons_zero, List.set_cons_succ]
      refine wpAnyH_take (i := 2) (v := ?_) rfl (by kernel_rfl) (by kernel_rfl) (by kernel_rfl) (fun _ _ _ h => h) (Or.inl ⟨by kernel_rfl, ?_⟩) hHeld ?_
      rotate_left
      · (intro w hSw; (try dsimp only at hSw); go_simp; try with_reducible rfl)
      try simp only [Act.put, List.setIfInBounds_toArray, List.set_cons_zero, List.set_cons_succ]
      refine wpAnyH_take (i := 3) (v := ?_) rfl (by kernel_rfl) (by kernel_rfl) (by kernel_rfl) (fun _ _ _ h => h) (Or.inl ⟨by kernel_rfl, ?_⟩) hHeld ?_
      rotate_left
      · (intro w hSw; (try dsimp only at hSw); go_simp; try with_reducible rfl)
      try simp only [Act.put, List.setIfInBounds_toArray, List.set_cons_zero, List.set_cons_succ]
      refine wpAnyH_take (i := 4) (v := ?_) rfl (by kernel_rfl) (by kernel_rfl) (by kernel_rfl) (fun _ _ _ h => h) (Or.inl ⟨by kernel_rfl, ?_⟩) hHeld ?_
      rotate_left
      · (intro w hSw; (try dsimp only at hSw); go_simp; try with_reducible rfl)
      try simp only [Act.put, List.setIfInBounds_toArray, List.set_cons_zero, List.set_cons_succ]
      refine wpAnyH_ready (rs := [5]) (by kernel_rfl) (by simp) ?_
      refine AllReadyH.cons rfl (fun K hK => ?_) AllReadyH.nil
      refine step_look_nm _ (by rfl) _ _ 79 (by rfl) Tryd.underlying79 (zeroveC _) bw ents (by rfl) (show MapAt W.drew bw ents from HM.out) n (by rfl) ?_; rw [HVE.out]
      refine hK.out _ _ ?_ (fun hNew => ?_)
      · exact ⟨x4, z0, z1, z2, z3, z4⟩
      clear hK K hHeld
      have hHeld := hNew
      clear hNew
      try simp only [Act.put, List.setIfInBounds_toArray, List.set_cons_zero, List.set_cons_succ]
      refine wpAnyH_take (i := 6) (v := ?_) rfl (by kernel_rfl) (by kernel_rfl) (by kernel_rfl) (fun _ _ _ h => h) (Or.inl ⟨by kernel_rfl, ?_⟩) hHeld ?_
      rotate_left
      · (intro w hSw; (try dsimp only at hSw); go_simp; try with_reducible rfl)
      try simp only [Act.put, List.setIfInBounds_toArray, List.set_cons_zero, List.set_cons_succ]
      refine wpAnyH_done (by kernel_rfl) ?_ _
      clear hHeld
      try simp only [List.getElem_toArray, List.getElem_cons_zero, List.getElem_cons_succ, Act.put, List.setIfInBounds_toArray, List.set_cons_zero, List.set_cons_succ]
      refine NoPanic.normal ?_
      clear k1 k2
      have k4 : decide (t = -1) = (t == -1) := rfl
      clear k4
      go_upto_if 34 with (fail)
      go_cut [9] (fun v9 wx => AtOk l n t W v9 wx)
      case first =>
        by_cases ht : t = -1
        · have k3 : (t == -1) = true := by rw [beq_iff_eq]; exact ht
          have k4 : (t != -1) = false := by rw [bne_eq_false_iff_eq]; exact ht
          have HT := Lib.hid ht
          clear ht
          go_wp2_with fail
          go_meet
          case rel => exact ⟨0, rfl, Nat.zero_le _, by unfold rdrA; rw [if_neg HRR.out, if_pos HT.out], (Below.refl _ _).drew⟩
        · have k3 : (t == -1) = false := by rw [beq_eq_false_iff_ne]; exact ht
          have k4 : (t != -1) = true := by rw [bne_iff_ne]; exact ht
          have HT := Lib.hid ht
          clear ht
          go_wp2_with fail
          refine (search_is t (RdP.drew HRV.out) HINC.out (by omega)).mono ?_
          rintro e w2 ⟨rfl, hb2'⟩
          have hb2 := (Below.refl W.heap.size W).drew.trans hb2'
          have HB2 := Lib.hid hb2
          have hsl := srch_le (vers n 0 l) t
          clear hb2'
          by_cases hs : srch (vers n 0 l) t < (vers n 0 l).length
          · have g1 : ((srch (vers n 0 l) t : Int) == ((vers n 0 l).length : Int)) = false := by rw [beq_eq_false_iff_ne]; omega
            have g2 : (srch (vers n 0 l) t == (vers n 0 l).length) = false := by rw [beq_eq_false_iff_ne]; omega
            have g3 : decide (srch (vers n 0 l) t = (vers n 0 l).length) = false := decide_eq_false (by omega)
            obtain ⟨b, o, hbe, hbw, y0, y1, y2⟩ := RdVe.piece (RdP.next HRV.out hb2) hs
            subst hbe
            obtain ⟨xi, hxi⟩ : ∃ xi, ((vers n 0 l)[srch (vers n 0 l) t]).idx = xi := ⟨_, rfl⟩
            rw [hxi] at y0
            have HS := Lib.hid hs
            have j1 : (srch (vers n 0 l) t : Int) < ((vers n 0 l).length : Int) := by omega
            have j2 : (0 : Int) ≤ (srch (vers n 0 l) t : Int) := by omega
            have j3 : (srch (vers n 0 l) t : Int) ≤ 1000 := by omega
            have hsn : srch (vers n 0 l) t + 1 ≤ (vers n 0 l).length := by omega
            have HSN := Lib.hid hsn
            have HEQ : Hid (rdrA l n t = if xi = t then (0, (rdrs n 0 l).filter (rdF t (lastOf l.length (vers n 0 l) (srch (vers n 0 l) t + 1)))) else (8, [])) := Lib.hid (by
              unfold rdrA
              rw [if_neg HRR.out, if_neg HT.out, dif_pos hs, hxi])
            clear hxi hs hb2 y1 y2 hsn
            generalize srch (vers n 0 l) t = sk at *
            by_cases hx : xi = t
            · have m1 : (xi == t) = true := by rw [beq_iff_eq]; exact hx
              have m2 : (xi != t) = false := by rw [bne_eq_false_iff_eq]; exact hx
              have HX := Lib.hid hx
              clear hx
              go_wp2_with fail
              go_meet
              case rel => exact ⟨sk + 1, by go_num, HSN.out, by rw [HEQ.out, if_pos HX.out], HB2.out⟩
            · have m1 : (xi == t) = false := by rw [beq_eq_false_iff_ne]; exact hx
              have m2 : (xi != t) = true := by rw [bne_iff_ne]; exact hx
              have HX := Lib.hid hx
              clear hx
              go_wp2_with fail
              go_ret2
              have HE : rdrA l n t = (8, []) := by rw [HEQ.out, if_neg HX.out]
              exact ⟨_, by rw [HE]; rfl, by rw [HE]; exact OwnP.nil, by rw [HCB.out]; exact HA.out.trans (HB2.out.mono (Nat.le_of_lt hz))⟩
          · have g1 : ((srch (vers n 0 l) t : Int) == ((vers n 0 l).length : Int)) = true := by rw [beq_iff_eq]; omega
            have g2 : (srch (vers n 0 l) t == (vers n 0 l).length) = true := by rw [beq_iff_eq]; omega
            have HE : Hid (rdrA l n t = (8, [])) := Lib.hid (by
              unfold rdrA
              rw [if_neg HRR.out, if_neg HT.out, dif_neg hs])
            clear hs hb2
            generalize srch (vers n 0 l) t = sk at *
            go_wp2_with fail
            go_ret2
            exact ⟨_, by rw [HE.out]; rfl, by rw [HE.out]; exact OwnP.nil, by rw [HCB.out]; exact HA.out.trans (HB2.out.mono (Nat.le_of_lt hz))⟩
      case rest =>
        obtain ⟨a, rfl, hal, hae, hbx⟩ := hcut
        have HAE := Lib.hid hae
        have HBX := Lib.hid hbx
        have y1 := (hbx.cell (p := ⟨g, 1, none⟩) VW.out.blk.lt).trans x1
        clear hae hbx
        go_upto_if 61 with (fail)
        go_cut [10] (fun v10 wx => v10 = .int .i64 (lastOf l.length (vers n 0 l) a) ∧ wc = wx)
        case first =>
          by_cases hlt : a < (vers n 0 l).length
          · have g1 : decide ((a : Int) < ((vers n 0 l).length : Int)) = true := decide_eq_true (by omega)
            have g2 : decide (a < (vers n 0 l).length) = true := decide_eq_true hlt
            obtain ⟨b, o, hbe, hbw, t0, t1, t2⟩ := RdVe.piece (RdP.next HRV.out HBX.out) hlt
            subst hbe
            have HLE := Lib.hid (show lastOf l.length (vers n 0 l) a = ((vers n 0 l)[a]).idx by unfold lastOf; rw [dif_pos hlt])
            have j1 : (a : Int) < ((vers n 0 l).length : Int) := by omega
            have j2 : (0 : Int) ≤ (a : Int) := by omega
            obtain ⟨xi, hxi⟩ : ∃ xi, ((vers n 0 l)[a]).idx = xi := ⟨_, rfl⟩
            rw [hxi] at t0 HLE
            clear hxi t1 t2
            go_wp2_with fail
            go_meet
            case rel => exact ⟨by rw [HLE.out], rfl⟩
          · have g1 : decide ((a : Int) < ((vers n 0 l).length : Int)) = false := decide_eq_false (by omega)
            have g2 : decide (a < (vers n 0 l).length) = false := decide_eq_false hlt
            have HLE := Lib.hid (show lastOf l.length (vers n 0 l) a = l.length by unfold lastOf; rw [dif_neg hlt])
            go_wp2_with fail
            go_meet
            case rel => exact ⟨by rw [HLE.out], rfl⟩
        case rest =>
          obtain ⟨rfl, hwx⟩ := hcut
          subst hwx
          obtain ⟨zl, hzl⟩ : ∃ z, lastOf l.length (vers n 0 l) a = z := ⟨_, rfl⟩
          rw [hzl] at HAE ⊢
          clear hzl y1
          have y5 := (HBX.out.cell (p := ⟨g, 5, none⟩) VW.out.blk.lt).trans x5
          have y0 := (HBX.out.cell (p := ⟨cb, 0, none⟩) hz).trans z0
          have y1 := (HBX.out.cell (p := ⟨cb, 1, none⟩) hz).trans z1
          have y2 := (HBX.out.cell (p := ⟨cb, 2, none⟩) hz).trans z2
          have y3 := (HBX.out.cell (p := ⟨cb, 3, none⟩) hz).trans z3
          have y4 := (HBX.out.cell (p := ⟨cb, 4, none⟩) hz).trans z4
          have HMr := Lib.hid (HMR.out.next HBX.out)
          have HR2 := Lib.hid (RdP.next HRI.out HBX.out)
          clear x1 x4 x5 z0 z1 z2 z3 z4
          go_upto_region 16 with (fail)
          refine wp_region_noPanic ?_
          refine wp_region_held_drew (S := (fun (w' : World) => w'.cell? ⟨g, 5, none⟩ = some (.map (some br)) ∧ w'.cell? ⟨cb, 0, none⟩ = some (.int .i64 n.kind) ∧ w'.cell? ⟨cb, 1, none⟩ = some (.string (bs n.owner)) ∧ w'.cell? ⟨cb, 2, none⟩ = some (.int .i64 n.num) ∧ w'.cell? ⟨cb, 3, none⟩ = some (.int .i64 n.idx) ∧ w'.cell? ⟨cb, 4, none⟩ = some (.string (bs n.text)))) (by kernel_rfl) ?_ (fun hHeld => ?_)
          · exact ⟨y5, y0, y1, y2, y3, y4⟩
          refine wpAnyH_take (i := 0) (v := ?_) rfl (by kernel_rfl) (by kernel_rfl) (by kernel_rfl) (fun _ _ _ h => h) (Or.inl ⟨by kernel_rfl, ?_⟩) hHeld ?_
          rotate_left
          · (intro w hSw; (try dsimp only at hSw); go_simp; try with_reducible rfl)
          try simp only [Act.put, List.setIfInBounds_toArray, List.set_cons_zero, List.set_cons_succ]
          refine wpAnyH_take (i := 1) (v := ?_) rfl (by kernel_rfl) (by kernel_rfl) (by kernel_rfl) (fun _ _ _ h => h) (Or.inl ⟨by kernel_rfl, ?_⟩) hHeld ?_
          rotate_left
          · (intro w hSw; (try dsimp only at hSw); go_simp; try with_reducible rfl)
          try simp only [Act.put, List.setIfInBounds_toArray, List.set_cons_zero, List.set_cons_succ]
          refine wpAnyH_take (i := 2) (v := ?_) rfl (by kernel_rfl) (by kernel_rfl) (by kernel_rfl) (fun _ _ _ h => h) (Or.inl ⟨by kernel_rfl, ?_⟩) hHeld ?_
          rotate_left
          · (intro w hSw; (try dsimp only at hSw); go_simp; try with_reducible rfl)
          try simp only [Act.put, List.setIfInBounds_toArray, List.set_cons_zero, List.set_cons_succ]
          refine wpAnyH_take (i := 3) (v := ?_) rfl (by kernel_rfl) (by kernel_rfl) (by kernel_rfl) (fun _ _ _ h => h) (Or.inl ⟨by kernel_rfl, ?_⟩) hHeld ?_
          rotate_left
          · (intro w hSw; (try dsimp only at hSw); go_simp; try with_reducible rfl)
          try simp only [Act.put, List.setIfInBounds_toArray, List.set_cons_zero, List.set_cons_succ]
          refine wpAnyH_take (i := 4) (v := ?_) rfl (by kernel_rfl) (by kernel_rfl) (by kernel_rfl) (fun _ _ _ h => h) (Or.inl ⟨by kernel_rfl, ?_⟩) hHeld ?_
          rotate_left
          · (intro w hSw; (try dsimp only at hSw); go_simp; try with_reducible rfl)
          try simp only [Act.put, List.setIfInBounds_toArray, List.set_cons_zero, List.set_cons_succ]
          refine wpAnyH_take (i := 7) (v := ?_) rfl (by kernel_rfl) (by kernel_rfl) (by kernel_rfl) (fun _ _ _ h => h) (Or.inl ⟨by kernel_rfl, ?_⟩) hHeld ?_
          rotate_left
          · (intro w hSw; (try dsimp only at hSw); go_simp; try with_reducible rfl)
          try simp only [Act.put, List.setIfInBounds_toArray, List.set_cons_zero, List.set_cons_succ]
          refine wpAnyH_ready (rs := [5]) (by kernel_rfl) (by simp) ?_
          refine AllReadyH.cons rfl (fun K hK => ?_) AllReadyH.nil
          refine step_look_nm _ (by rfl) _ _ 80 (by rfl) Tryd.underlying80 (zeroinC _) br entr (by rfl) (show MapAt wc.drew br entr from HMr.out) n (by rfl) ?_; rw [HVr.out]
          refine hK.out _ _ ?_ (fun hNew => ?_)
          · exact ⟨y5, y0, y1, y2, y3, y4⟩
          clear hK K hHeld
          have hHeld := hNew
          clear hNew
          try simp only [Act.put, List.setIfInBounds_toArray, List.set_cons_zero, List.set_cons_succ]
          refine wpAnyH_take (i := 6) (v := ?_) rfl (by kernel_rfl) (by kernel_rfl) (by kernel_rfl) (fun _ _ _ h => h) (Or.inl ⟨by kernel_rfl, ?_⟩) hHeld ?_
          rotate_left
          · (intro w hSw; (try dsimp only at hSw); go_simp; try with_reducible rfl)
          try simp only [Act.put, List.setIfInBounds_toArray, List.set_cons_zero, List.set_cons_succ]
          refine wpAnyH_done (by kernel_rfl) ?_ _
          clear hHeld
          try simp only [List.getElem_toArray, List.getElem_cons_zero, List.getElem_cons_succ, Act.put, List.setIfInBounds_toArray, List.set_cons_zero, List.set_cons_succ]
          refine NoPanic.normal ?_
          clear y0 y1 y2 y3 y4 y5
          have HWC := Lib.hid (HA.out.trans (HBX.out.mono (Nat.le_of_lt hz)))
          have H0 : Hid (RdrIn l n t zl wc.drew (.slice none 0 0) (.int .i64 (0 : Nat)) wc.drew) := Lib.hid ⟨0, Nat.zero_le _, rfl, OwnP.nil, Below.refl _ _⟩
          have hcc : Hid (cb ≤ wc.heap.size) := Lib.hid (Nat.le_trans (Nat.le_of_lt hz) HBX.out.size)
          obtain ⟨i0, hi, hz0, hz1, hz2⟩ := info_parts infoIn
          go_wp2_with fail
          go_loopw [11, 74] (fun v i wr => RdrIn l n t zl wc.drew v i wr) (fun _ i _ => (rdrs n 0 l).length - (intOf i).toNat)
          case atStart => exact H0.out
          case round =>
            clear H0
            obtain ⟨k, hkl, rfl, how, hbw⟩ := hrel
            have HOW := Lib.hid how
            have HB := Lib.hid hbw
            obtain ⟨A3, c3, rfl, hc3⟩ := own_len how
            clear how hbw
            have hfl := List.length_filter_le (rdF t zl) ((rdrs n 0 l).take k)
            rw [List.length_take] at hfl
            by_cases hk : k < (rdrs n 0 l).length
            · have j1 : (0 : Int) ≤ (k : Int) := by omega
              have j2 : (k : Int) < ((rdrs n 0 l).length : Int) := by omega
              have j3 : decide ((k : Int) < ((rdrs n 0 l).length : Int)) = true := decide_eq_true j2
              obtain ⟨b, o, hbe, hbr, y⟩ := RdP.at_ (RdP.next (RdP.drew HR2.out) HB.out) inC_len hk
              subst hbe
              have y0 : wr.cell? ⟨b, o + k, none⟩ = some (.int .i64 (rdrs n 0 l)[k]) := by
                have := y 0 _ rfl
                simpa using this
              clear y
              obtain ⟨xi, hxi⟩ : ∃ xi, (rdrs n 0 l)[k] = xi := ⟨_, rfl⟩
              have HFT := Lib.hid (filter_take (rdF t zl) (rdrs n 0 l) k hk)
              rw [hxi] at y0 HFT
              have hxb := HRB.out xi (by rw [← hxi]; exact List.getElem_mem hk)
              have hx1 : 0 ≤ xi := by omega
              have hx2 : xi ≤ 100 := by omega
              clear hxi hxb
              by_cases h1 : t < xi
              · have g1 : decide (t < xi) = true := decide_eq_true h1
                by_cases h2 : xi ≤ zl
                · have g2 : decide (xi ≤ zl) = true := decide_eq_true h2
                  have HF := Lib.hid (rdF_t h1 h2)
                  clear h1 h2
                  go_wp2_with (at_builtin; refine wpList_append_w _ rfl _ _ _ rfl wc.drew.heap.size 3 i0 _ 1 8 Tryd.underlying41 hi hz0 hz1 hz2 rfl (by omega) (.slice A3 (((rdrs n 0 l).take k).filter (rdF t zl)).length c3) (((rdrs n 0 l).take k).filter (rdF t zl)).length ((((rdrs n 0 l).take k).filter (rdF t zl)).flatMap inC) rfl (own_next HOW.out ((Below.refl _ _).alloc (Nat.le_refl _) _)) (.slice (some ⟨wr.heap.size, 0, none⟩) 1 1) 1 [.int .i64 xi] rfl (Rd.of_own (own_new wr 0 3 1 [.int .i64 xi] rfl (Nat.zero_le _))) (by omega) rfl (by simp [Value.oneCell']) (by unfold maxLen; omega) (by omega) (by have := HB.out.size; simp at this ⊢; omega) ?_; intro v5 w5 hown5 hg5 hat5; have HOW5 := Lib.hid hown5; have HG5 := Lib.hid hg5; clear hown5 hg5 hat5)
                  go_roundw
                  case rel =>
                    have hbe : Below wc.drew.heap.size wc.drew w5 := below_own (HB.out.alloc HB.out.size (.cells #[.int .i64 xi] 3)) (own_next HOW.out ((Below.refl _ _).alloc (Nat.le_refl _) _)) HG5.out (Nat.le_refl _) (by have := HB.out.size; simp at this ⊢; omega)
                    refine ⟨k + 1, by omega, by go_num, ?_, hbe⟩
                    rw [HFT.out, HF.out, if_pos rfl]
                    exact OwnP.snoc HOW5.out
                  case measure => simp [intOf]; omega
                · have g2 : decide (xi ≤ zl) = false := decide_eq_false h2
                  have HF := Lib.hid (rdF_f2 (t := t) h2)
                  clear h1 h2
                  go_wp2_with fail
                  go_roundw
                  case rel =>
                    refine ⟨k + 1, by omega, by go_num, ?_, HB.out⟩
                    rw [HFT.out, HF.out, if_neg (by simp), List.append_nil]
                    exact HOW.out
                  case measure => simp [intOf]; omega
              · have g1 : decide (t < xi) = false := decide_eq_false h1
                have HF := Lib.hid (rdF_f1 (z := zl) h1)
                clear h1
                go_wp2_with fail
                go_roundw
                case rel =>
                  refine ⟨k + 1, by omega, by go_num, ?_, HB.out⟩
                  rw [HFT.out, HF.out, if_neg (by simp), List.append_nil]
                  exact HOW.out
                case measure => simp [intOf]; omega
            · have j3 : decide ((k : Int) < ((rdrs n 0 l).length : Int)) = false := decide_eq_false (by omega)
              have HK := Lib.hid (show k = (rdrs n 0 l).length by omega)
              go_wp2_with fail
              go_outline
              go_ret2
              have h := HOW.out
              rw [HK.out, List.take_length] at h
              refine ⟨_, by rw [HAE.out]; rfl, ?_, by rw [HCB.out]; exact HWC.out.trans (((Below.refl _ _).drew.trans HB.out).mono hcc.out)⟩
              rw [HAE.out, HCB.out]
              rw [HK.out, List.take_length]
              exact own_base h (b0 := cb) hcc.out
end Go.Proofs.YtobkmkplhbaepaaDoor
