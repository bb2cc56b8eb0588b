/- Walks of layer 54: origins by the definition. -/
import Derived.Test.YtamjllakfgphnaaGreatDoorW89
namespace Go.Proofs.YtamjllakfgphnaaGreatDoor
open Go.RowKit
set_option linter.unusedSimpArgs false
set_option linter.unusedVariables false
attribute [local go_sem ↓] Go.wp_at_zero Go.wp_at_succ
def FLoop (vs : List Ver) (i : Int) (w : World) (v9 v10 : Value) (wr : World) : Prop := ∃ f k : Nat, ∃ hf : f < vs.length, k ≤ vs.length ∧ v9 = .int .i64 f ∧ v10 = .int .i64 k ∧ vs[f].idx < i ∧ (∀ (j : Nat) (hj : j < vs.length), f < j → j < k → ¬ vs[j].idx < i) ∧ w = wr
def BLoop (vs : List Ver) (A : Nat) (bb : UInt8) (res : Option (Int × UInt8)) (w : World) (v9 : Value) (wr : World) : Prop := ∃ f : Nat, ∃ hf : f < vs.length, v9 = .int .i64 f ∧ orgF A (some (vs[f].idx, bb)) (vs.take f).reverse = res ∧ Below w.heap.size w wr
theorem take_rev {α : Type} (l : List α) (m : Nat) (h : m < l.length) : (l.take (m + 1)).reverse = l[m] :: (l.take m).reverse := by
  rw [List.take_succ_eq_append_getElem h, List.reverse_append]
  rfl
theorem verL_pair {s0 : St} {l : List Ac} {n : Nm} (ho : VOk l) : (verL s0 l n).Pairwise fun a b => a.idx < b.idx := by
  unfold verL
  refine List.pairwise_cons.2 ⟨fun u hu => ?_, ho.inc n⟩
  have := vers_idx n 0 l u hu
  show (-1 : Int) < u.idx
  omega
set_option maxRecDepth 100000 in
set_option maxHeartbeats 4000000 in
theorem worigin_is {w : World} {F0 : Nat → Prop} {g : Nat} {s0 : St} {l : List Ac} {n : Nm} {pb : Option Addr} {A1 : Option Addr} {c1 : Nat} {vg : Value} (a i : Int) (hv : VAt w F0 g s0 l) (hn : OwnE n) (ho : VOk l) :
    Calls Tryz.prog 16 #[.agg #[.pointer pb, .slice A1 l.length c1, .pointer (some ⟨g, 0, none⟩), vg], plV n a, .int .i64 i] w (OrgP (orgR l.length (verL s0 l n) a i) w) := by
  have ha := ((Below.refl w.heap.size w).alloc (Nat.le_refl _) (.cells #[.pointer pb, .slice A1 l.length c1, .pointer (some ⟨g, 0, none⟩), vg] 49)).alloc (by simp) (.cells #[.int .i64 n.kind, .string (bs n.owner), .int .i64 n.num, .int .i64 n.idx, .string (bs n.text), .int .i64 a] 28)
  have z := (Blk.new w 49 #[.pointer pb, .slice A1 l.length c1, .pointer (some ⟨g, 0, none⟩), vg]).alloc (.cells #[.int .i64 n.kind, .string (bs n.owner), .int .i64 n.num, .int .i64 n.idx, .string (bs n.text), .int .i64 a] 28)
  have zp := Blk.new (w.alloc (.cells #[.pointer pb, .slice A1 l.length c1, .pointer (some ⟨g, 0, none⟩), vg] 49)) 28 #[.int .i64 n.kind, .string (bs n.owner), .int .i64 n.num, .int .i64 n.idx, .string (bs n.text), .int .i64 a]
  rw [World.size_alloc] at zp
  have HV := Lib.hid (hv.next ha)
  have HZ := Lib.hid zp
  have HA := Lib.hid ha
  have HN := Lib.hid hn
  have HO := Lib.hid ho
  have u1 := z.cell 1
  have u2 := z.cell 2
  have x0 := zp.cell 0
  have x1 := zp.cell 1
  have x2 := zp.cell 2
  have x3 := zp.cell 3
  have x4 := zp.cell 4
  have x5 := zp.cell 5
  simp only [List.getElem?_toArray, List.getElem?_cons_zero, List.getElem?_cons_succ] at u1 u2 x0 x1 x2 x3 x4 x5
  have hll : l.length ≤ 100 := ho.len
  clear hv ha z zp hn ho
  simp only [plV]
  go_enter Tryz.func16, Tryz.ntmps16
  by_cases h1 : i < 0
  · have HR := Lib.hid (show orgR l.length (verL s0 l n) a i = (0, 2) by unfold orgR; rw [if_pos (.inl h1)])
    have d1 : decide (i < 0) = true := decide_eq_true h1
    go_wp2_with fail
    go_ret2
    exact ⟨by rw [HR.out]; rfl, HA.out⟩
  · have d1 : decide (i < 0) = false := decide_eq_false h1
    by_cases h2 : (l.length : Int) < i
    · have HR := Lib.hid (show orgR l.length (verL s0 l n) a i = (0, 2) by unfold orgR; rw [if_pos (.inr (.inl h2))])
      have d2 : decide ((l.length : Int) < i) = true := decide_eq_true h2
      go_wp2_with fail
      go_ret2
      exact ⟨by rw [HR.out]; rfl, HA.out⟩
    · have d2 : decide ((l.length : Int) < i) = false := decide_eq_false h2
      by_cases h3 : a < 0
      · have HR := Lib.hid (show orgR l.length (verL s0 l n) a i = (0, 2) by unfold orgR; rw [if_pos (.inr (.inr h3))])
        have d3 : decide (a < 0) = true := decide_eq_true h3
        go_wp2_with fail
        go_ret2
        exact ⟨by rw [HR.out]; rfl, HA.out⟩
      · obtain ⟨A, rfl⟩ : ∃ A : Nat, a = (A : Int) := ⟨a.toNat, by omega⟩
        have d3 : decide ((A : Int) < 0) = false := decide_eq_false h3
        have HR := Lib.hid (show orgR l.length (verL s0 l n) (A : Int) i = match orgF A none (backL i (verL s0 l n)) with | none => (0, 8) | some (o, _) => (o, 0) by unfold orgR; rw [if_neg (by omega)]; rfl)
        go_wp2_with fail
        generalize (w.alloc (.cells #[.pointer pb, .slice A1 l.length c1, .pointer (some ⟨g, 0, none⟩), vg] 49)).alloc (.cells #[.int .i64 n.kind, .string (bs n.owner), .int .i64 n.num, .int .i64 n.idx, .string (bs n.text), .int .i64 (A : Int)] 28) = W at *
        obtain ⟨pp, hpp⟩ : ∃ x, w.heap.size + 1 = x := ⟨_, rfl⟩
        have HPP := Lib.hid hpp
        rw [hpp] at HZ x0 x1 x2 x3 x4 x5 ⊢
        clear hpp
        obtain ⟨cb, hcb⟩ : ∃ x, w.heap.size = x := ⟨_, rfl⟩
        have HCB := Lib.hid hcb
        rw [hcb] at HA u1 u2 ⊢
        clear hcb
        go_at_call 42
        refine (of_is (n := n) HV.out HN.out HO.out).mono ?_
        rintro e w2 ⟨v2, rfl, hov, hb2⟩
        have hvp : 0 < (verL s0 l n).length := by unfold verL; simp
        have hvl : (verL s0 l n).length ≤ 1001 := by
          have := HO.out.vlen n
          unfold verL; simp; omega
        have HPW := Lib.hid (verL_pair (s0 := s0) (n := n) HO.out)
        have hid0 : ((verL s0 l n)[0]'hvp).idx < i := by
          show (-1 : Int) < i
          omega
        have HRV := Lib.hid (OwnP.rd hov)
        obtain ⟨vs, hvs⟩ : ∃ vs, verL s0 l n = vs := ⟨_, rfl⟩
        have HVS := Lib.hid hvs
        simp only [hvs] at HR HRV hvp hvl HPW hid0
        rw [hvs] at hov
        obtain ⟨A2, c2, rfl, hc2⟩ := own_len hov
        have HB2 := Lib.hid hb2
        have HBF := Lib.hid HA.out
        have hppl : pp < W.heap.size := HZ.out.lt
        have HZ2 := Lib.hid (HZ.out.next hb2 HZ.out.lt)
        have hcbs : cb ≤ W.heap.size := by have := HA.out.size; rw [← HCB.out]; exact this
        have H0 : Hid (FLoop vs i w2 (.int .i64 (0 : Nat)) (.int .i64 (0 : Nat)) w2) := Lib.hid ⟨0, 0, hvp, Nat.zero_le _, rfl, rfl, hid0, fun j hj h1 h2 => by omega, rfl⟩
        clear hov hb2 hvs hid0 u1 u2 x0 x1 x2 x3 x4 x5 HV HZ hvp
        go_wp2_with fail
        go_loopw [9, 10] (fun v9 v10 wr => FLoop vs i w2 v9 v10 wr) (fun _ v10 _ => vs.length - (intOf v10).toNat)
        case atStart => exact H0.out
        case round =>
          clear H0
          obtain ⟨f, k, hf, hkl, rfl, rfl, hfi, hbt, hwr⟩ := hrel
          subst hwr
          have HBT := Lib.hid hbt
          have HFI := Lib.hid hfi
          clear hbt hfi
          by_cases hk : k < vs.length
          · have j1 : (0 : Int) ≤ (k : Int) := by omega
            have j2 : (k : Int) < (vs.length : Int) := by omega
            have j3 : decide (k < vs.length) = true := decide_eq_true hk
            obtain ⟨b, o, hbe, hbr, y0, y1, y2⟩ := RdVe.piece HRV.out hk
            subst hbe
            obtain ⟨q, hq⟩ : ∃ q, decide (vs[k].idx < i) = q := ⟨_, rfl⟩
            have HQ := Lib.hid hq
            obtain ⟨xi, hxi⟩ : ∃ q, vs[k].idx = q := ⟨_, rfl⟩
            rw [hxi] at hq y0
            clear hxi
            cases q with
            | true =>
              go_wp2_with fail
              go_roundw
              case rel => exact ⟨k, k + 1, hk, by omega, rfl, by go_num, of_decide_eq_true HQ.out, fun j hj h1 h2 => by omega, rfl⟩
              case measure => simp [intOf]; omega
            | false =>
              go_wp2_with fail
              go_roundw
              case rel => exact ⟨f, k + 1, hf, by omega, rfl, by go_num, HFI.out, fun j hj h1 h2 => by
                rcases Nat.lt_or_ge j k with h | h
                · exact HBT.out j hj h1 h
                · obtain rfl : j = k := by omega
                  exact of_decide_eq_false HQ.out, rfl⟩
              case measure => simp [intOf]; omega
          · have j3 : decide (k < vs.length) = false := decide_eq_false hk
            have HBL := Lib.hid (backL_take HPW.out hf HFI.out (fun j hj h => HBT.out j hj h (by omega)))
            have j1 : (0 : Int) ≤ (f : Int) := by omega
            have j2 : (f : Int) < (vs.length : Int) := by omega
            obtain ⟨b, o, hbe, hbr, y0, y1, y2⟩ := RdVe.piece HRV.out hf
            subst hbe
            have x5 := HZ2.out.cell 5
            simp only [List.getElem?_toArray, List.getElem?_cons_zero, List.getElem?_cons_succ] at x5
            obtain ⟨xa, hxa⟩ : ∃ q, vs[f].absent = q := ⟨_, rfl⟩
            obtain ⟨xv, hxv⟩ : ∃ q, vs[f].value = q := ⟨_, rfl⟩
            have HXA := Lib.hid hxa
            have HXV := Lib.hid hxv
            rw [hxa] at y2
            rw [hxv] at y1
            clear hxa hxv hk hkl HBT HFI
            cases xa with
            | true =>
              have HN0 := Lib.hid (orgF_no A none (v := vs[f]) (by unfold hasAt; rw [HXA.out]; rfl) (vs.take f).reverse)
              go_wp2_with fail
              go_quiet (fail)
              go_wp2_with fail
              go_ret2
              exact ⟨by rw [HVS.out, HR.out, HBL.out, HN0.out]; rfl, by rw [HCB.out]; exact HBF.out.trans ((HB2.out.trans (below_drewN (Below.refl _ _) nq)).mono hcbs)⟩
            | false =>
              rcases Nat.lt_or_ge A xv.length with hlA | hlA
              · have e1 : decide ((bs xv).size ≤ A) = false := decide_eq_false (by rw [bs_size]; omega)
                have e2 : ((A : Nat) : Int) < ((bs xv).size : Int) := by rw [bs_size]; omega
                have e3 : A < (bs xv).size := by rw [bs_size]; omega
                obtain ⟨bb, hbb⟩ : ∃ q, xv.getD A 0 = q := ⟨_, rfl⟩
                have HBB2 := Lib.hid hbb
                have e4 : (bs xv)[A]'e3 = bb := by
                  rw [← hbb, List.getD_eq_getElem?_getD, List.getElem?_eq_getElem hlA]
                  rfl
                have HRES := Lib.hid (show orgF A (some (vs[f].idx, bb)) (vs.take f).reverse = orgF A none (backL i vs) by
                  rw [HBL.out, orgF_first A (by unfold hasAt; rw [HXA.out, HXV.out]; simp [hlA]), HXV.out, HBB2.out])
                obtain ⟨res, hres⟩ : ∃ q, orgF A none (backL i vs) = q := ⟨_, rfl⟩
                have HRS := Lib.hid hres
                rw [hres] at HRES
                clear hbb hres
                go_wp2_with fail
                go_quiet (fail)
                generalize nq = n1
                go_wp2_with fail
                go_quiet (fail)
                generalize nq = n2
                have HBW := Lib.hid (below_drewN (below_drewN (Below.refl w2.heap.size w2) n1) n2)
                have HZ3 := Lib.hid (HZ2.out.next HBW.out HZ2.out.lt)
                have HRV3 := Lib.hid (RdP.next HRV.out HBW.out)
                clear y0 y1 y2 x5 e1 e2 e3 e4 hlA j1 j2 j3 hbr
                generalize (w2.drewN n1).drewN n2 = W3 at *
                have H0 : Hid (BLoop vs A bb res W3 (.int .i64 f) W3) := Lib.hid ⟨f, hf, rfl, HRES.out, Below.refl _ _⟩
                go_wp2_with fail
                go_loopw [9] (fun v9 wr => BLoop vs A bb res W3 v9 wr) (fun v9 _ => (intOf v9).toNat)
                case atStart => exact H0.out
                case round =>
                  clear H0 HRES HXA HXV HBL HBB2 hf
                  obtain ⟨f, hf, rfl, hres, hbw⟩ := hrel
                  have HRES := Lib.hid hres
                  have HBR := Lib.hid hbw
                  clear hres hbw
                  have hW3 : w2.heap.size ≤ W3.heap.size := HBW.out.size
                  have HBE := Lib.hid (HBF.out.trans ((HB2.out.trans ((HBW.out.trans (HBR.out.mono hW3)).mono HB2.out.size)).mono hcbs))
                  have HRVr := Lib.hid (RdP.next HRV3.out HBR.out)
                  have HZr := Lib.hid (HZ3.out.next HBR.out HZ3.out.lt)
                  have x5 := HZr.out.cell 5
                  simp only [List.getElem?_toArray, List.getElem?_cons_zero, List.getElem?_cons_succ] at x5
                  clear hW3 HRV HRV3 HZ2 HZ3
                  rcases Nat.eq_zero_or_pos f with hf0 | hf0
                  · subst hf0
                    obtain ⟨b, o, hbe, hbr, y0, y1, y2⟩ := RdVe.piece HRVr.out hf
                    injection hbe with hbe
                    injection hbe with q1 q2
                    subst q1 q2
                    have k1 : (0 : Int) < (vs.length : Int) := by omega
                    have HRE := Lib.hid (show res = some (vs[0].idx, bb) from by rw [← HRES.out]; exact orgF_nil _ _)
                    simp only [Nat.zero_mul, Nat.add_zero] at y0 y1 y2
                    clear y1 y2
                    go_wp2_with fail
                    go_quiet (fail)
                    go_wp2_with fail
                    go_ret2
                    exact ⟨by rw [HVS.out, HR.out, HRS.out, HRE.out]; rfl, by rw [HCB.out]; exact HBE.out.trans (below_drewN (Below.refl _ _) nq)⟩
                  · obtain ⟨m, rfl⟩ : ∃ m, f = m + 1 := ⟨f - 1, by omega⟩
                    have hm : m < vs.length := by omega
                    have HTR := Lib.hid (take_rev vs m hm)
                    obtain ⟨b, o, hbe, hbr, y0, y1, y2⟩ := RdVe.piece HRVr.out hm
                    obtain ⟨b', o', hbe', hbr', y0', _, _⟩ := RdVe.piece HRVr.out hf
                    injection hbe with hbe
                    injection hbe with q1 q2
                    subst q1 q2
                    injection hbe' with hbe'
                    injection hbe' with q1 q2
                    subst q1 q2
                    obtain ⟨z, hz⟩ : ∃ z : Int, ((m + 1 : Nat) : Int) = z := ⟨_, rfl⟩
                    have k1 : decide ((0 : Int) < z) = true := decide_eq_true (by omega)
                    have k2 : IntKind.i64.wrap (z - 1) = (m : Int) := by rw [show z - 1 = (m : Int) by omega]; exact IntWalk.i64_in _ (by omega)
                    have k2' : z - 1 = (m : Int) := by omega
                    have k3 : (0 : Int) ≤ (m : Int) := by omega
                    have k4 : (m : Int) < (vs.length : Int) := by omega
                    have k5 : (0 : Int) ≤ z := by omega
                    have k6 : z < (vs.length : Int) := by omega
                    have k7 : z.toNat = m + 1 := by omega
                    rw [hz]
                    have HZZ := Lib.hid hz
                    obtain ⟨xa, hxa⟩ : ∃ q, vs[m].absent = q := ⟨_, rfl⟩
                    obtain ⟨xv, hxv⟩ : ∃ q, vs[m].value = q := ⟨_, rfl⟩
                    have HXA := Lib.hid hxa
                    have HXV := Lib.hid hxv
                    rw [hxa] at y2
                    rw [hxv] at y1
                    clear hxa hxv hz hf0
                    cases xa with
                    | true =>
                      have HRE := Lib.hid (show res = some (vs[m + 1].idx, bb) from by
                        rw [← HRES.out, HTR.out]
                        exact orgF_no A _ (by unfold hasAt; rw [HXA.out]; rfl) _)
                      go_wp2_with fail
                      go_quiet (fail)
                      go_wp2_with fail
                      go_ret2
                      exact ⟨by rw [HVS.out, HR.out, HRS.out, HRE.out]; rfl, by rw [HCB.out]; exact HBE.out.trans (below_drewN (Below.refl _ _) nq)⟩
                    | false =>
                      rcases Nat.lt_or_ge A xv.length with hlA | hlA
                      · have e1 : decide (A < (bs xv).size) = true := decide_eq_true (by rw [bs_size]; omega)
                        have e2 : ((A : Nat) : Int) < ((bs xv).size : Int) := by rw [bs_size]; omega
                        have e3 : A < (bs xv).size := by rw [bs_size]; omega
                        have e0 : (0 : Int) ≤ (A : Int) := by omega
                        have hha := Lib.hid (show hasAt A vs[m] = true by unfold hasAt; rw [HXA.out, HXV.out]; simp [hlA])
                        obtain ⟨b2, hb2⟩ : ∃ q, xv.getD A 0 = q := ⟨_, rfl⟩
                        have HB2Q := Lib.hid hb2
                        have e4 : (bs xv)[A]'e3 = b2 := by
                          rw [← hb2, List.getD_eq_getElem?_getD, List.getElem?_eq_getElem hlA]
                          rfl
                        clear hb2
                        by_cases hne : b2 = bb
                        · subst hne
                          have e5 : (((b2.toNat : Int)) == ((b2.toNat : Int))) = true := by simp
                          have HN2 := Lib.hid (show orgF A (some (vs[m].idx, b2)) (vs.take m).reverse = res by
                            rw [← HRES.out, HTR.out, orgF_eq A hha.out (by rw [HXV.out]; exact HB2Q.out)])
                          go_wp2_with fail
                          go_quiet (fail)
                          go_wp2_with fail
                          go_roundw
                          case rel => exact ⟨m, hm, rfl, HN2.out, HBR.out.trans (below_drewN (Below.refl _ _) nq)⟩
                          case measure => simp [intOf]; omega
                        · have e5 : (((b2.toNat : Int)) == ((bb.toNat : Int))) = false := by
                            rw [beq_eq_false_iff_ne]
                            intro e
                            exact hne (UInt8.toNat_inj.1 (by omega))
                          have HRE := Lib.hid (show res = some (vs[m + 1].idx, bb) from by
                            rw [← HRES.out, HTR.out]
                            exact orgF_ne A (by rw [HXV.out, HB2Q.out]; exact hne) _)
                          clear hne
                          go_wp2_with fail
                          go_quiet (fail)
                          go_wp2_with fail
                          go_ret2
                          exact ⟨by rw [HVS.out, HR.out, HRS.out, HRE.out]; rfl, by rw [HCB.out]; exact HBE.out.trans (below_drewN (Below.refl _ _) nq)⟩
                      · have e1 : decide (A < (bs xv).size) = false := decide_eq_false (by rw [bs_size]; omega)
                        have HRE := Lib.hid (show res = some (vs[m + 1].idx, bb) from by
                          rw [← HRES.out, HTR.out]
                          exact orgF_no A _ (by unfold hasAt; rw [HXA.out, HXV.out]; simp; omega) _)
                        go_wp2_with fail
                        go_quiet (fail)
                        go_wp2_with fail
                        go_ret2
                        exact ⟨by rw [HVS.out, HR.out, HRS.out, HRE.out]; rfl, by rw [HCB.out]; exact HBE.out.trans (below_drewN (Below.refl _ _) nq)⟩
              · have e1 : decide ((bs xv).size ≤ A) = true := decide_eq_true (by rw [bs_size]; omega)
                have HN0 := Lib.hid (orgF_no A none (v := vs[f]) (by unfold hasAt; rw [HXA.out, HXV.out]; simp; omega) (vs.take f).reverse)
                go_wp2_with fail
                go_quiet (fail)
                go_wp2_with fail
                go_ret2
                exact ⟨by rw [HVS.out, HR.out, HBL.out, HN0.out]; rfl, by rw [HCB.out]; exact HBF.out.trans ((HB2.out.trans (below_drewN (Below.refl _ _) nq)).mono hcbs)⟩
end Go.Proofs.YtamjllakfgphnaaGreatDoor
