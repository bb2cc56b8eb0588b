/- Walks of layer 47: the last writer of a name. -/
import Derived.Test.YtamjllakfgphnaaGreatDoorW80
namespace Go.Proofs.YtamjllakfgphnaaGreatDoor
open Go.RowKit
set_option linter.unusedSimpArgs false
set_option linter.unusedVariables false
attribute [local go_sem ↓] Go.wp_at_zero Go.wp_at_succ
/-- The last one before a number, or -1. -/
def wrI (l : List Int) (t : Int) : Int := if cntL l t = 0 then -1 else l.getD (cntL l t - 1) 0
set_option maxRecDepth 100000 in
set_option maxHeartbeats 1000000 in
theorem writer_is {w : World} {B g : Nat} {vk vl vu : Value} {bw : Nat} {ks : List Ky} {vL vU : List Value} {L U : List (List Lk)} {D : Nm → List Int} (n : Nm) (t : Int) (h : GIn w B g vk vl vu bw ks vL vU L U D) (hs : Asc (D n)) (hl : (D n).length ≤ 10000) :
    Calls Tryz.prog 58 #[.pointer (some ⟨g, 0, none⟩), nmV n, .int .i64 t] w fun e w' => e = .returned (.int .i64 (wrI (D n) t)) ∧ Below w.heap.size w w' := by
  have ha := (Below.refl w.heap.size w).alloc (Nat.le_refl _) (.cells #[.int .i64 n.kind, .string (bs n.owner), .int .i64 n.num, .int .i64 n.idx, .string (bs n.text)] 26)
  have zb := Blk.new w 26 #[.int .i64 n.kind, .string (bs n.owner), .int .i64 n.num, .int .i64 n.idx, .string (bs n.text)]
  have GW := Lib.hid (h.next ha)
  have HA := Lib.hid ha
  have x3 := GW.out.blk.cell 3
  have z0 := zb.cell 0
  have z1 := zb.cell 1
  have z2 := zb.cell 2
  have z3 := zb.cell 3
  have z4 := zb.cell 4
  simp only [List.getElem?_toArray, List.getElem?_cons_zero, List.getElem?_cons_succ] at x3 z0 z1 z2 z3 z4
  obtain ⟨ents, hm, hown⟩ := GW.out.wr.find n
  (try simp only at hown)
  obtain ⟨A, c, hve, hc⟩ := own_len hown.1
  rw [hve] at hown
  have HM := Lib.hid hm
  have HVE := Lib.hid hve
  have HRD := Lib.hid (show RdIn _ (.slice A (D n).length c) (D n) from Rd.of_own hown.1)
  have HS := Lib.hid hs
  obtain ⟨xs, hxs⟩ : ∃ xs, D n = xs := ⟨_, rfl⟩
  rw [hxs] at HRD HS hl HVE hc
  have HXS := Lib.hid hxs
  rw [HXS.out]
  clear h hm hown hve hxs hs zb ha GW
  go_enter Tryz.func58, Tryz.ntmps58
  simp only [nmV, nmA]
  go_upto_region 3 with (fail)
  generalize w.alloc (.cells #[.int .i64 n.kind, .string (bs n.owner), .int .i64 n.num, .int .i64 n.idx, .string (bs n.text)] 26) = W at *
  obtain ⟨cb, hcb⟩ : ∃ cb, w.heap.size = cb := ⟨_, rfl⟩
  have HCB := Lib.hid hcb
  rw [hcb] at z0 z1 z2 z3 z4 HA ⊢
  clear hcb
  refine wp_region_noPanic ?_
  refine wp_region_held_drew (S := (fun (w' : World) => w'.cell? ⟨g, 3, none⟩ = some (.map (some bw)) ∧ w'.cell? ⟨cb, 0, none⟩ = some (.int .i64 n.kind) ∧ w'.cell? ⟨cb, 1, none⟩ = some (.string (bs n.owner)) ∧ w'.cell? ⟨cb, 2, none⟩ = some (.int .i64 n.num) ∧ w'.cell? ⟨cb, 3, none⟩ = some (.int .i64 n.idx) ∧ w'.cell? ⟨cb, 4, none⟩ = some (.string (bs n.text)))) (by kernel_rfl) ?_ (fun hHeld => ?_)
  · exact ⟨x3, z0, z1, z2, z3, z4⟩
  refine wpAnyH_take (i := 0) (v := ?_) rfl (by kernel_rfl) (by kernel_rfl) (by kernel_rfl) (fun _ _ _ h => h) (Or.inl ⟨by kernel_rfl, ?_⟩) hHeld ?_
  rotate_left
  · (intro w hSw; (try dsimp only at hSw); go_simp; try with_reducible rfl)
  try simp only [Act.put, List.setIfInBounds_toArray, List.set_cons_zero, List.set_cons_succ]
  refine wpAnyH_take (i := 1) (v := ?_) rfl (by kernel_rfl) (by kernel_rfl) (by kernel_rfl) (fun _ _ _ h => h) (Or.inl ⟨by kernel_rfl, ?_⟩) hHeld ?_
  rotate_left
  · (intro w hSw; (try dsimp only at hSw); go_simp; try with_reducible rfl)
  try simp only [Act.put, List.setIfInBounds_toArray, List.set_cons_zero, List.set_cons_succ]
  refine wpAnyH_take (i := 2) (v := ?_) rfl (by kernel_rfl) (by kernel_rfl) (by kernel_rfl) (fun _ _ _ h => h) (Or.inl ⟨by kernel_rfl, ?_⟩) hHeld ?_
  rotate_left
  · (intro w hSw; (try dsimp only at hSw); go_simp; try with_reducible rfl)
  try simp only [Act.put, List.setIfInBounds_toArray, List.set_cons_zero, List.set_cons_succ]
  refine wpAnyH_take (i := 3) (v := ?_) rfl (by kernel_rfl) (by kernel_rfl) (by kernel_rfl) (fun _ _ _ h => h) (Or.inl ⟨by kernel_rfl, ?_⟩) hHeld ?_
  rotate_left
  · (intro w hSw; (try dsimp only at hSw); go_simp; try with_reducible rfl)
  try simp only [Act.put, List.setIfInBounds_toArray, List.set_cons_zero, List.set_cons_succ]
  refine wpAnyH_take (i := 4) (v := ?_) rfl (by kernel_rfl) (by kernel_rfl) (by kernel_rfl) (fun _ _ _ h => h) (Or.inl ⟨by kernel_rfl, ?_⟩) hHeld ?_
  rotate_left
  · (intro w hSw; (try dsimp only at hSw); go_simp; try with_reducible rfl)
  try simp only [Act.put, List.setIfInBounds_toArray, List.set_cons_zero, List.set_cons_succ]
  refine wpAnyH_ready (rs := [5]) (by kernel_rfl) (by simp) ?_
  refine AllReadyH.cons rfl (fun K hK => ?_) AllReadyH.nil
  refine step_look_nm _ (by rfl) _ _ 116 (by rfl) Tryz.underlying116 (zeroinC _) bw ents (by rfl) (show MapAt W.drew bw ents from HM.out) n (by rfl) ?_; rw [HVE.out]
  refine hK.out _ _ ?_ (fun hNew => ?_)
  · exact ⟨x3, z0, z1, z2, z3, z4⟩
  clear hK K hHeld
  have hHeld := hNew
  clear hNew
  try simp only [Act.put, List.setIfInBounds_toArray, List.set_cons_zero, List.set_cons_succ]
  refine wpAnyH_take (i := 6) (v := ?_) rfl (by kernel_rfl) (by kernel_rfl) (by kernel_rfl) (fun _ _ _ h => h) (Or.inl ⟨by kernel_rfl, ?_⟩) hHeld ?_
  rotate_left
  · (intro w hSw; (try dsimp only at hSw); go_simp; try with_reducible rfl)
  try simp only [Act.put, List.setIfInBounds_toArray, List.set_cons_zero, List.set_cons_succ]
  refine wpAnyH_done (by kernel_rfl) ?_ _
  clear hHeld
  try simp only [List.getElem_toArray, List.getElem_cons_zero, List.getElem_cons_succ, Act.put, List.setIfInBounds_toArray, List.set_cons_zero, List.set_cons_succ]
  refine NoPanic.normal ?_
  have HSI := Lib.hid (search_ints t (RdP.drew HRD.out) HS.out (by omega))
  obtain ⟨q, hq⟩ : ∃ q, cntL xs t = q := ⟨_, rfl⟩
  rw [hq] at HSI
  have HQ := Lib.hid hq
  have hql : q ≤ xs.length := by rw [← hq]; exact cntL_le xs t
  clear hq x3 z0 z1 z2 z3 z4
  cases q with
  | zero =>
    have HR := Lib.hid (show wrI xs t = -1 by unfold wrI; rw [if_pos HQ.out])
    go_wp2_with (go_at_call 102; refine HSI.out.mono ?_; rintro e w2 ⟨rfl, hb2⟩; have HB2 := Lib.hid hb2; clear hb2)
    go_ret
    exact ⟨by rw [HR.out]; rfl, by rw [HCB.out]; exact HA.out.drew.trans (HB2.out.mono (HCB.out ▸ HA.out.size))⟩
  | succ c1 =>
    have HR := Lib.hid (show wrI xs t = xs[c1]'(by omega) by
      unfold wrI
      rw [if_neg (by rw [HQ.out]; omega), HQ.out, Nat.add_sub_cancel, List.getD_eq_getElem?_getD, List.getElem?_eq_getElem (by omega)]
      rfl)
    have e1 : (((c1 + 1 : Nat) : Int) == 0) = false := by rw [beq_eq_false_iff_ne]; omega
    have e2 : ((c1 + 1 : Nat) : Int) - 1 = (c1 : Int) := by omega
    have e3 : IntKind.i64.wrap (c1 : Int) = (c1 : Int) := IntWalk.i64_in _ (by omega)
    have e4 : (0 : Int) ≤ (c1 : Int) := by omega
    have e5 : (c1 : Int) < (xs.length : Int) := by omega
    have hkl : c1 < xs.length := by omega
    obtain ⟨cn, hcn⟩ : ∃ z : Int, ((c1 + 1 : Nat) : Int) = z := ⟨_, rfl⟩
    rw [hcn] at e1 e2 HSI
    have HCN := Lib.hid hcn
    clear hcn
    go_wp2_with (go_at_call 102; refine HSI.out.mono ?_; rintro e w2 ⟨rfl, hb2⟩; have HB2 := Lib.hid hb2; obtain ⟨b, o, hb, hbl, hc1⟩ := RdP.at_ (RdP.next (RdP.drew HRD.out) hb2) inC_len hkl; subst hb; have y := hc1 0 _ rfl; rw [Nat.mul_one, Nat.add_zero] at y; clear hb2 hc1)
    go_ret
    exact ⟨by rw [HR.out]; rfl, by rw [HCB.out]; exact HA.out.drew.trans (HB2.out.mono (HCB.out ▸ HA.out.size))⟩
end Go.Proofs.YtamjllakfgphnaaGreatDoor
