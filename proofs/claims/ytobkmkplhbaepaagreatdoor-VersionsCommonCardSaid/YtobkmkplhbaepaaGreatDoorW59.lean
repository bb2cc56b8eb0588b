/- Walks of layer 46: the law of equal beginnings. -/
import Derived.Test.YtobkmkplhbaepaaGreatDoorHZ
import Derived.Test.YtobkmkplhbaepaaGreatDoorW56
import Derived.Test.YtobkmkplhbaepaaGreatDoorW58
namespace Go.Proofs.YtobkmkplhbaepaaGreatDoor
open Go.RowKit
set_option linter.unusedSimpArgs false
set_option linter.unusedVariables false
attribute [local go_sem ↓] Go.wp_at_zero Go.wp_at_succ
theorem Rd.take {e : TypeId} {w : World} {A : Option Addr} {n c s k : Nat} {xs : List Value} (h : Rd e w (.slice A n c) n xs) (hk : k ≤ n) (hs : xs.length = n * s) : Rd e w (.slice A k c) k (xs.take (k * s)) := by
  obtain ⟨A', c', hv, hc, hm, h0 | ⟨b, o, cs, fr, hA, hb, hx⟩⟩ := h
  · injection hv with e1 e2 e3
    subst e1 e3
    exact ⟨A, c, rfl, by omega, hm, .inl ⟨by omega, by simp [h0.2]⟩⟩
  · injection hv with e1 e2 e3
    subst e1 e3
    refine ⟨A, c, rfl, by omega, hm, .inr ⟨b, o, cs, fr, hA, hb, fun j u hj => hx j u ?_⟩⟩
    rw [List.getElem?_take] at hj
    split at hj
    · exact hj
    · cases hj
theorem rowC_app {α β : Type} {f : α → β → List Value} : ∀ {a b : List α} {u v : List β}, u.length = a.length → rowC f (a ++ b) (u ++ v) = rowC f a u ++ rowC f b v
  | [], b, u, v, h => by
    obtain rfl : u = [] := List.eq_nil_of_length_eq_zero h
    rfl
  | x :: a, b, [], v, h => by simp at h
  | x :: a, b, y :: u, v, h => by
    simp only [List.cons_append, rowC]
    rw [rowC_app (by simpa using h), List.append_assoc]
theorem rowC_tk {α β : Type} {f : α → β → List Value} {s : Nat} (hf : ∀ x u, (f x u).length = s) : ∀ {a : List α} {u : List β} {k : Nat}, u.length = a.length → k ≤ a.length → (rowC f a u).take (k * s) = rowC f (a.take k) (u.take k)
  | a, u, 0, _, _ => by cases a <;> simp [rowC]
  | [], u, k + 1, _, h => by simp at h
  | x :: a, [], k + 1, h, _ => by simp at h
  | x :: a, y :: u, k + 1, h, hk => by
    have ih := rowC_tk hf (a := a) (u := u) (k := k) (by simpa using h) (by simpa using hk)
    simp only [List.take_succ_cons, rowC]
    rw [← ih, List.take_append, hf, List.take_of_length_le (by rw [hf, Nat.succ_mul]; omega), show (k + 1) * s - s = k * s by rw [Nat.succ_mul]; omega]
theorem RowW.tk {α β : Type} {N : World → β → α → Prop} {w : World} {l : List α} {us : List β} (h : RowW N w l us) (k : Nat) : RowW N w (l.take k) (us.take k) :=
  ⟨by rw [List.length_take, List.length_take, h.1], fun i x v h1 h2 => by
    rw [List.getElem?_take] at h1 h2
    split at h1
    · rename_i hlt
      rw [if_pos hlt] at h2
      exact h.2 i x v h1 h2
    · cases h1⟩
theorem RowW.app {α β : Type} {N : World → β → α → Prop} {w : World} {l m : List α} {us vs : List β} (h : RowW N w l us) (k : RowW N w m vs) : RowW N w (l ++ m) (us ++ vs) :=
  ⟨by rw [List.length_append, List.length_append, h.1, k.1], fun i x v h1 h2 => by
    rw [List.getElem?_append] at h1 h2
    rw [h.1] at h2
    split at h1
    · rename_i hlt
      rw [if_pos hlt] at h2
      exact h.2 i x v h1 h2
    · rename_i hlt
      rw [if_neg hlt] at h2
      exact k.2 _ x v h1 h2⟩
set_option maxRecDepth 100000 in
set_option maxHeartbeats 8000000 in
theorem law_common {w : World} {v1 v2 v3 v4 : Value} {r q : Rn} (cut : Int) (hit : RaIt w.heap.size w v1 r.base) (hac : RaAct w.heap.size w v2 r.acts) (hit2 : RaIt w.heap.size w v3 q.base) (hac2 : RaAct w.heap.size w v4 q.acts) (hcut : (Lit.int .u8 cut).wf = true) (hu : UseAt w) :
    Calls Tryz.prog 6 #[.agg #[v1, v2], .agg #[v3, v4], .int .u8 cut] w fun e w' => e = .returned (.bool true) ∧ Below w.heap.size w w' := by
  have hcu : 0 ≤ cut ∧ cut ≤ 255 := by
    simp only [Lit.wf, Bool.and_eq_true, decide_eq_true_eq] at hcut
    have e1 : IntKind.min .u8 = 0 := by decide
    have e2 : IntKind.max .u8 = 255 := by decide
    rw [e1, e2] at hcut
    exact hcut
  clear hcut
  obtain ⟨cn, rfl⟩ := Int.eq_ofNat_of_zero_le hcu.1
  have hcn : cn ≤ 255 := by omega
  have ha := ((Below.refl w.heap.size w).alloc (Nat.le_refl _) (.cells #[v1, v2] 25)).alloc (by simp) (.cells #[v3, v4] 25)
  have zb := (Blk.new w 25 #[v1, v2]).next ((Below.refl (w.alloc (.cells #[v1, v2] 25)).heap.size (w.alloc (.cells #[v1, v2] 25))).alloc (Nat.le_refl _) (.cells #[v3, v4] 25)) (by simp)
  have zd := Blk.new (w.alloc (.cells #[v1, v2] 25)) 25 #[v3, v4]
  rw [World.size_alloc] at zd
  have z0 := zb.cell 0
  have z1 := zb.cell 1
  have z2 := zd.cell 0
  have z3 := zd.cell 1
  simp only [List.getElem?_toArray, List.getElem?_cons_zero, List.getElem?_cons_succ] at z0 z1 z2 z3
  have hcw := zb.lt
  have hdw := zd.lt
  obtain ⟨A1, c1, rfl, _, _⟩ := hit.form
  obtain ⟨A2, c2, rfl, _, _⟩ := RowRa.form hac
  obtain ⟨A3, c3, rfl, _, _⟩ := hit2.form
  obtain ⟨A4, c4, rfl, _, _⟩ := RowRa.form hac2
  have hsz : w.heap.size ≤ ((w.alloc (.cells #[.slice A1 r.base.length c1, .slice A2 r.acts.length c2] 25)).alloc (.cells #[.slice A3 q.base.length c3, .slice A4 q.acts.length c4] 25)).heap.size := by simp; omega
  have HA := Lib.hid ha
  have HU := Lib.hid (hu.next ha hu.1)
  have HLB := Lib.hid hit.len
  have HLQ := Lib.hid hit2.len
  have HOK := Lib.hid hac.ok
  have HOQ := Lib.hid hac2.ok
  have HIT := Lib.hid ((hit.below ha).next_ hsz)
  have HAC := Lib.hid ((hac.below ha).next_ hsz)
  have HIQ := Lib.hid ((hit2.below ha).next_ hsz)
  have HAD := Lib.hid ((hac2.below ha).next_ hsz)
  have HSW := Lib.hid hsz
  clear hit hac hit2 hac2 hu ha zb zd hcu
  go_enter Tryz.func6, Tryz.ntmps6
  go_upto_region 1 with (fail)
  generalize (w.alloc (.cells #[.slice A1 r.base.length c1, .slice A2 r.acts.length c2] 25)).alloc (.cells #[.slice A3 q.base.length c3, .slice A4 q.acts.length c4] 25) = W at *
  obtain ⟨cb, hcb⟩ : ∃ cb, w.heap.size = cb := ⟨_, rfl⟩
  rw [hcb] at z0 z1 z2 z3 hcw hdw hsz ⊢
  obtain ⟨db, hdb⟩ : ∃ db, cb + 1 = db := ⟨_, rfl⟩
  rw [hdb] at z2 z3 hdw ⊢
  clear hdb
  have HCB := Lib.hid hcb
  clear hcb
  have HZ0 := Lib.hid z0
  have HZ1 := Lib.hid z1
  have HZ2 := Lib.hid z2
  have HZ3 := Lib.hid z3
  go_upto_region 3 with (go_at_call 8; refine (known_is HU.out).mono ?_; rintro e w1 ⟨rfl, hb1⟩; have HB1 := Lib.hid hb1; clear hb1)
  clear z0 z1 z2 z3
  have z0 := (HB1.out.cell (p := ⟨cb, 0, none⟩) hcw).trans HZ0.out
  have z1 := (HB1.out.cell (p := ⟨cb, 1, none⟩) hcw).trans HZ1.out
  have z2 := (HB1.out.cell (p := ⟨db, 0, none⟩) hdw).trans HZ2.out
  have z3 := (HB1.out.cell (p := ⟨db, 1, none⟩) hdw).trans HZ3.out
  refine wp_region_noPanic ?_
  refine wp_region_held_drew (S := (fun (w' : World) => w'.cell? ⟨cb, 0, none⟩ = some (.slice A1 r.base.length c1) ∧ w'.cell? ⟨cb, 1, none⟩ = some (.slice A2 r.acts.length c2) ∧ w'.cell? ⟨db, 0, none⟩ = some (.slice A3 q.base.length c3) ∧ w'.cell? ⟨db, 1, none⟩ = some (.slice A4 q.acts.length c4))) (by kernel_rfl) ?_ (fun hHeld => ?_)
  · exact ⟨z0, z1, z2, z3⟩
  refine wpAnyH_take (i := 0) (v := ?_) rfl (by kernel_rfl) (by kernel_rfl) (by kernel_rfl) (fun _ _ _ h => h) (Or.inl ⟨by kernel_rfl, ?_⟩) hHeld ?_
  rotate_left
  · (intro w hSw; (try dsimp only at hSw); go_simp; try with_reducible rfl)
  try simp only [Act.put, List.setIfInBounds_toArray, List.set_cons_zero, List.set_cons_succ]
  refine wpAnyH_take (i := 2) (v := ?_) rfl (by kernel_rfl) (by kernel_rfl) (by kernel_rfl) (fun _ _ _ h => h) (Or.inl ⟨by kernel_rfl, ?_⟩) hHeld ?_
  rotate_left
  · (intro w hSw; (try dsimp only at hSw); go_simp; try with_reducible rfl)
  try simp only [Act.put, List.setIfInBounds_toArray, List.set_cons_zero, List.set_cons_succ]
  refine wpAnyH_take (i := 4) (v := ?_) rfl (by kernel_rfl) (by kernel_rfl) (by kernel_rfl) (fun _ _ _ h => h) (Or.inl ⟨by kernel_rfl, ?_⟩) hHeld ?_
  rotate_left
  · (intro w hSw; (try dsimp only at hSw); go_simp; try with_reducible rfl)
  try simp only [Act.put, List.setIfInBounds_toArray, List.set_cons_zero, List.set_cons_succ]
  refine wpAnyH_ready (rs := [1]) (by kernel_rfl) (by simp) ?_
  refine AllReadyH.cons rfl (fun K hK => ?_) AllReadyH.nil
  go_simp
  refine (base_is (w := w1.drew) (r := r) ((HIT.out.below HB1.out.drew).next_ HB1.out.size) HLB.out ((HU.out.below HB1.out).next (Below.refl w1.heap.size w1).drew (Nat.lt_of_lt_of_le HU.out.1 HB1.out.size))).mono ?_; rintro e w2 ⟨p, rfl, hp, hb2⟩; have HB2 := Lib.hid (HB1.out.trans (((Below.refl w1.heap.size w1).drew.trans hb2).mono HB1.out.size)); have HP2 := Lib.hid hp; clear hb2 hp
  try (go_wp2_with fail)
  refine hK.out _ _ ?_ (fun hNew => ?_)
  · exact ⟨(HB2.out.cell (p := ⟨cb, 0, none⟩) hcw).trans HZ0.out, (HB2.out.cell (p := ⟨cb, 1, none⟩) hcw).trans HZ1.out, (HB2.out.cell (p := ⟨db, 0, none⟩) hdw).trans HZ2.out, (HB2.out.cell (p := ⟨db, 1, none⟩) hdw).trans HZ3.out⟩
  clear hK K hHeld
  have hHeld := hNew
  clear hNew
  try simp only [Act.put, List.setIfInBounds_toArray, List.set_cons_zero, List.set_cons_succ]
  refine wpAnyH_ready (rs := [3]) (by kernel_rfl) (by simp) ?_
  refine AllReadyH.cons rfl (fun K hK => ?_) AllReadyH.nil
  go_simp
  refine (actions_is (r := r) ((HAC.out.below HB2.out).next_ HB2.out.size)).mono ?_; rintro e w3 ⟨vl, rfl, hl3, hb3⟩; have HB3 := Lib.hid (HB2.out.trans (hb3.mono HB2.out.size)); have HP3 := Lib.hid (HP2.out.next hb3); have HL3 := Lib.hid hl3; clear hb3 hl3
  try (go_wp2_with fail)
  refine hK.out _ _ ?_ (fun hNew => ?_)
  · exact ⟨(HB3.out.cell (p := ⟨cb, 0, none⟩) hcw).trans HZ0.out, (HB3.out.cell (p := ⟨cb, 1, none⟩) hcw).trans HZ1.out, (HB3.out.cell (p := ⟨db, 0, none⟩) hdw).trans HZ2.out, (HB3.out.cell (p := ⟨db, 1, none⟩) hdw).trans HZ3.out⟩
  clear hK K hHeld
  have hHeld := hNew
  clear hNew
  try simp only [Act.put, List.setIfInBounds_toArray, List.set_cons_zero, List.set_cons_succ]
  refine wpAnyH_ready (rs := [5]) (by kernel_rfl) (by simp) ?_
  refine AllReadyH.cons rfl (fun K hK => ?_) AllReadyH.nil
  go_simp
  refine (actions_is (r := q) ((HAD.out.below HB3.out).next_ HB3.out.size)).mono ?_; rintro e w4 ⟨vm, rfl, hm4, hb4⟩; have HB4 := Lib.hid (HB3.out.trans (hb4.mono HB3.out.size)); have HP4 := Lib.hid (HP3.out.next hb4); have HL4 := Lib.hid (OwnAc.next HL3.out hb4); have HM4 := Lib.hid hm4; clear hb4 hm4
  try (go_wp2_with fail)
  refine hK.out _ _ ?_ (fun hNew => ?_)
  · exact ⟨(HB4.out.cell (p := ⟨cb, 0, none⟩) hcw).trans HZ0.out, (HB4.out.cell (p := ⟨cb, 1, none⟩) hcw).trans HZ1.out, (HB4.out.cell (p := ⟨db, 0, none⟩) hdw).trans HZ2.out, (HB4.out.cell (p := ⟨db, 1, none⟩) hdw).trans HZ3.out⟩
  clear hK K hHeld
  have hHeld := hNew
  clear hNew
  try simp only [Act.put, List.setIfInBounds_toArray, List.set_cons_zero, List.set_cons_succ]
  refine wpAnyH_take (i := 6) (v := ?_) rfl (by kernel_rfl) (by kernel_rfl) (by kernel_rfl) (fun _ _ _ h => h) (Or.inl ⟨by kernel_rfl, ?_⟩) hHeld ?_
  rotate_left
  · (intro w hSw; (try dsimp only at hSw); go_simp; try with_reducible rfl)
  try simp only [Act.put, List.setIfInBounds_toArray, List.set_cons_zero, List.set_cons_succ]
  refine wpAnyH_take (i := 7) (v := ?_) rfl (by kernel_rfl) (by kernel_rfl) (by kernel_rfl) (fun _ _ _ h => h) (Or.inl ⟨by kernel_rfl, ?_⟩) hHeld ?_
  rotate_left
  · (intro w hSw; (try dsimp only at hSw); go_simp; try with_reducible rfl)
  try simp only [Act.put, List.setIfInBounds_toArray, List.set_cons_zero, List.set_cons_succ]
  refine wpAnyH_take (i := 8) (v := ?_) rfl (by kernel_rfl) (by kernel_rfl) (by kernel_rfl) (fun _ _ _ h => h) (Or.inl ⟨by kernel_rfl, ?_⟩) hHeld ?_
  rotate_left
  · (intro w hSw; (try dsimp only at hSw); go_simp; try with_reducible rfl)
  try simp only [Act.put, List.setIfInBounds_toArray, List.set_cons_zero, List.set_cons_succ]
  refine wpAnyH_done (by kernel_rfl) ?_ _
  clear hHeld
  try simp only [List.getElem_toArray, List.getElem_cons_zero, List.getElem_cons_succ, Act.put, List.setIfInBounds_toArray, List.set_cons_zero, List.set_cons_succ]
  refine NoPanic.normal ?_
  obtain ⟨s0, hs0⟩ : ∃ s, baseS r = s := ⟨_, rfl⟩
  obtain ⟨t0, ht0⟩ : ∃ s, baseS q = s := ⟨_, rfl⟩
  obtain ⟨l, hl⟩ : ∃ l, actsS r = l := ⟨_, rfl⟩
  obtain ⟨m0, hm0⟩ : ∃ l, actsS q = l := ⟨_, rfl⟩
  have HAR : Hid (∀ a ∈ l, AcR a) := Lib.hid (by rw [← hl]; exact acts_r HOK.out)
  have HAQ : Hid (∀ a ∈ m0, AcR a) := Lib.hid (by rw [← hm0]; exact acts_r HOQ.out)
  have HSV : Hid (StV s0) := Lib.hid (by rw [← hs0]; exact base_v r)
  have HTV : Hid (StV t0) := Lib.hid (by rw [← ht0]; exact base_v q)
  have HT0 := Lib.hid ht0
  have hll : l.length ≤ 20 := by rw [← hl]; exact acts_len r
  have hml : m0.length ≤ 20 := by rw [← hm0]; exact acts_len q
  rw [hs0] at HP2 HP3 HP4
  rw [hl] at HL3 HL4
  rw [hm0] at HM4
  obtain ⟨us, hur, hus⟩ := HL4.out
  obtain ⟨Al, cl, rfl, hcl⟩ := own_len hus
  obtain ⟨um, hurm, husm⟩ := HM4.out
  obtain ⟨Am, cm, rfl, hcm⟩ := own_len husm
  have HLR4 := Lib.hid (show RdAc w4 (.slice Al l.length cl) l from RowOwn.rd HL4.out)
  have HUR := Lib.hid hur
  have HUS := Lib.hid hus
  have HURM := Lib.hid hurm
  have HUSM := Lib.hid husm
  obtain ⟨kn, hkn⟩ : ∃ kn, cn % (l.length + 1) = kn := ⟨_, rfl⟩
  have hkl : kn ≤ l.length := by rw [← hkn]; have := Nat.mod_lt cn (show 0 < l.length + 1 by omega); omega
  have q1 : Int.tmod (cn : Int) ((l.length : Int) + 1) = (kn : Int) := by
    rw [Int.tmod_eq_emod_of_nonneg (by omega), ← hkn, Int.natCast_emod]; rfl
  have q2 : (cn : Int) % ((l.length : Int) + 1) = (kn : Int) := by rw [← hkn, Int.natCast_emod]; rfl
  have q3 : (((l.length : Int) + 1) == 0) = false := by rw [beq_eq_false_iff_ne]; omega
  have q4 : ¬ ((l.length : Int) + 1 = 0) := by omega
  have q5 : IntKind.i64.wrap (cn : Int) = (cn : Int) := IntWalk.i64_in _ (by omega)
  obtain ⟨i0, hi, hz0, hz1, hz2⟩ := info_parts infoAc
  clear hs0 ht0 hl hm0 hur hus hurm husm hkn HL3 HL4 HM4 HP2 HP3 HOK HOQ z0 z1 z2 z3
  have k1 : (0 : Int) ≤ (kn : Int) := by omega
  have k2 : (kn : Int) ≤ (l.length : Int) := by omega
  have k3 : (kn : Int) ≤ (cl : Int) := by omega
  have HN1 := Lib.hid (Rd.take (Rd.of_own HUS.out) hkl HUS.out.1)
  have HONL := Lib.hid (fun u (hu : u ∈ (rowC acC l us).take (kn * 6)) => rowC_one acC_one HUR.out u (List.mem_of_mem_take hu))
  have HONM := Lib.hid (rowC_one acC_one HURM.out)
  have HEM := Lib.hid (own_empty w4 w4.heap.size 61 6 (Nat.le_refl _))
  have HBE := Lib.hid ((Below.refl w4.heap.size w4).alloc (Nat.le_refl _) (.cells #[] 61))
  have HTL : Hid (((rowC acC l us).take (kn * 6)).length = kn * 6) := Lib.hid (by rw [List.length_take, HUS.out.1]; exact Nat.min_eq_left (Nat.mul_le_mul_right _ hkl))
  go_upto_region 5 with (fail)
  have ONCE : True := trivial
  go_upto_region 6 with (first
    | (clear ONCE; at_builtin; refine wpList_append_rd _ rfl _ _ _ rfl w4.heap.size 61 i0 _ 6 88 Tryz.underlying29 hi hz0 hz1 hz2 rfl (by omega) _ 0 [] (by rfl) HEM.out (.slice Al kn cl) kn ((rowC acC l us).take (kn * 6)) (by rfl) (Rd.next HN1.out HBE.out) HTL.out HONL.out (by unfold maxLen; omega) (by omega) (by simp) ?_; intro ao c5 w5 hown5 hg5; (simp only [Nat.zero_add, List.nil_append] at hown5 ⊢); have HO5 := Lib.hid hown5; have HB5 := Lib.hid (below_own HBE.out HEM.out hg5 (Nat.le_refl _) HBE.out.size); clear hown5 hg5)
    | (at_builtin; refine wpList_append_rd _ rfl _ _ _ rfl w4.heap.size 61 i0 _ 6 88 Tryz.underlying29 hi hz0 hz1 hz2 rfl (by omega) _ kn _ (by rfl) HO5.out (.slice Am m0.length cm) m0.length (rowC acC m0 um) (by rfl) (Rd.next (Rd.of_own HUSM.out) HB5.out) HUSM.out.1 HONM.out (by unfold maxLen; omega) (by omega) HB5.out.size ?_; intro ap c6 w6 hown6 hg6; have HO6 := Lib.hid hown6; have HB6 := Lib.hid (below_own HB5.out HO5.out hg6 (Nat.le_refl _) HB5.out.size); clear hown6 hg6))
  obtain ⟨mm, hmm⟩ : ∃ mm, l.take kn ++ m0 = mm := ⟨_, rfl⟩
  have hmlen : kn + m0.length = mm.length := by rw [← hmm, List.length_append, List.length_take, Nat.min_eq_left hkl]
  have hmr : RdAc w6 (.slice ap (kn + m0.length) c6) mm := by
    refine RowOwn.rd (base := w4.heap.size) (size := 6) ⟨us.take kn ++ um, ?_, ?_⟩
    · rw [← hmm]
      exact RowW.app ((HUR.out.imp fun _ _ h => NAc.next HB6.out h).tk kn) (HURM.out.imp fun _ _ h => NAc.next HB6.out h)
    · rw [← hmlen, ← hmm, rowC_app (by rw [List.length_take, List.length_take, HUR.out.1]), ← rowC_tk acC_len HUR.out.1 hkl]
      exact HO6.out
  rw [hmlen] at hmr ⊢
  have HMR := Lib.hid hmr
  have HAM : Hid (∀ a ∈ mm, AcR a) := Lib.hid (by
    rw [← hmm]
    intro a ha
    rcases List.mem_append.1 ha with h | h
    · exact HAR.out a (List.mem_of_mem_take h)
    · exact HAQ.out a h)
  have hmml : mm.length ≤ 40 := by omega
  have HBW6 := Lib.hid (HB4.out.trans (HB6.out.mono HB4.out.size))
  have HU6 := Lib.hid (HU.out.below HBW6.out)
  have HP6 := Lib.hid (HP4.out.next HB6.out)
  have HLR6 := Lib.hid (RdAc.next HLR4.out HB6.out)
  clear hmr hmm hi hz0 hz1 hz2 HN1 HONL HONM HEM HBE HTL HO5 HO6 HUR HUS HURM HUSM HB5
  obtain ⟨E1, hE1⟩ : ∃ E, bldR [] l = E := ⟨_, rfl⟩
  obtain ⟨E2, hE2⟩ : ∃ E, bldR [] mm = E := ⟨_, rfl⟩
  have HE1 := Lib.hid hE1
  have HE2 := Lib.hid hE2
  clear hE1 hE2 q1 q2 q3 q4 q5 k1 k2 k3
  go_wp2_with (go_at_call 11; refine (build_is HP6.out HLR6.out HU6.out HAR.out HSV.out (by omega)).mono ?_)
  rintro e w7 ⟨hb7, ⟨hok1, g, F, rfl, hv7, _⟩ | ⟨hbad1, rfl⟩⟩
  · rw [HE1.out] at hok1
    have HV7 := Lib.hid hv7
    subst hok1
    have HBW7 := Lib.hid (HBW6.out.trans (hb7.mono HBW6.out.size))
    have HB67 := Lib.hid hb7
    have HU7 := Lib.hid (HU.out.below HBW7.out)
    have z2 := (HBW7.out.cell (p := ⟨db, 0, none⟩) hdw).trans HZ2.out
    have z3 := (HBW7.out.cell (p := ⟨db, 1, none⟩) hdw).trans HZ3.out
    clear hb7
    go_wp2_with (first
      | (go_at_call 9; refine (base_is (w := w7) (r := q) ((HIQ.out.below HBW7.out).next_ HBW7.out.size) HLQ.out HU7.out).mono ?_; rintro e w8 ⟨p2, rfl, hp8, hb8⟩; rw [HT0.out] at hp8; have HP8 := Lib.hid hp8; have HB78 := Lib.hid hb8; have HBW8 := Lib.hid (HBW7.out.trans (hb8.mono HBW7.out.size)); have HMR8 := Lib.hid (RdAc.next HMR.out (HB67.out.trans (hb8.mono HB67.out.size))); clear hp8 hb8 z2 z3)
      | (go_at_call 11; refine (build_is HP8.out HMR8.out (HU.out.below HBW8.out) HAM.out HTV.out (by omega)).mono ?_))
    rintro e w9 ⟨hb9, ⟨hok2, g2, F2, rfl, hv9, _⟩ | ⟨hbad2, rfl⟩⟩
    · have HV9 := Lib.hid (HV7.out.next (HB78.out.trans (hb9.mono HB78.out.size)))
      have HVY := Lib.hid hv9
      have HVO : Hid (VOk l) := Lib.hid ⟨ok_all HE1.out, HAR.out, by omega⟩
      have HBW9 := Lib.hid (HBW8.out.trans (hb9.mono HBW8.out.size))
      have HB69 := Lib.hid (HB67.out.trans ((HB78.out.trans (hb9.mono HB78.out.size)).mono HB67.out.size))
      have HU9 := Lib.hid (HU.out.below HBW9.out)
      have HP9 := Lib.hid (HP6.out.next HB69.out)
      have HLR9 := Lib.hid (RdAc.next HLR6.out HB69.out)
      have HMR9 := Lib.hid (RdAc.next HMR8.out hb9)
      clear hb9
      rw [HE2.out] at hok2
      subst hok2
      obtain ⟨n, hn⟩ : ∃ n, comN l mm = n := ⟨_, rfl⟩
      have HN := Lib.hid hn
      clear hn
      have H0 : Hid (ComRel l mm w9 (.int .i64 (0 : Nat)) w9) := Lib.hid ⟨0, Nat.zero_le _, Nat.zero_le _, rfl, fun j _ _ h => by omega, Below.refl _ _⟩
      go_upto_block 0 with (fail)
      go_cut [15] (fun v15 wx => v15 = .int .i64 n ∧ Below w9.heap.size w9 wx)
      case first =>
        go_wp2_with fail
        go_loopw [15] (fun i wr => ComRel l mm w9 i wr) (fun i _ => l.length - (intOf i).toNat)
        case atStart => exact H0.out
        case round =>
          clear H0
          obtain ⟨k, hka, hkb, rfl, hz, hbw⟩ := hrel
          have HZ := Lib.hid hz
          have HBW := Lib.hid hbw
          clear hz hbw
          have j1 : (0 : Int) ≤ (k : Int) := by omega
          by_cases hk : k < l.length
          · have j2 : (k : Int) < (l.length : Int) := by omega
            have j3 : decide ((k : Int) < (l.length : Int)) = true := decide_eq_true j2
            by_cases hkb2 : k < mm.length
            · have j4 : (k : Int) < (mm.length : Int) := by omega
              have j5 : decide ((k : Int) < (mm.length : Int)) = true := decide_eq_true j4
              obtain ⟨b1, o1, u1, u2, hbe, hb1, m1, m2, x0, x1, x2, x3, x4, x5⟩ := RdAc.piece (RdAc.next HLR9.out HBW.out) hk
              subst hbe
              obtain ⟨b2, o2, v1, v2, hbe, hb2, n1, n2, y0, y1, y2, y3, y4, y5⟩ := RdAc.piece (RdAc.next HMR9.out HBW.out) hkb2
              subst hbe
              obtain ⟨x, hx⟩ : ∃ x, l[k] = x := ⟨_, rfl⟩
              obtain ⟨y, hy⟩ : ∃ y, mm[k] = y := ⟨_, rfl⟩
              have hrx := HAR.out _ (List.getElem_mem hk)
              have hry := HAM.out _ (List.getElem_mem hkb2)
              rw [hx] at m1 m2 x0 x1 x2 x3 hrx
              rw [hy] at n1 n2 y0 y1 y2 y3 hry
              have HX := Lib.hid hx
              have HY := Lib.hid hy
              have LX : Hid (x.reads.length ≤ 100000 ∧ x.writes.length ≤ 100000) := Lib.hid ⟨Nat.le_trans hrx.2.2.2.1 (by omega), Nat.le_trans hrx.2.2.2.2 (by omega)⟩
              have LY : Hid (y.reads.length ≤ 100000 ∧ y.writes.length ≤ 100000) := Lib.hid ⟨Nat.le_trans hry.2.2.2.1 (by omega), Nat.le_trans hry.2.2.2.2 (by omega)⟩
              have M1 := Lib.hid m1
              have M2 := Lib.hid m2
              have N1 := Lib.hid n1
              have N2 := Lib.hid n2
              obtain ⟨bq, hbq⟩ : ∃ bq, decide (x = y) = bq := ⟨_, rfl⟩
              have HBQ := Lib.hid hbq
              clear hx hy hrx hry m1 m2 n1 n2 hbq
              go_upto_region 11 with (fail)
              refine wp_region_noPanic ?_
              refine wp_region_held_drew (S := (fun (w' : World) => w'.cell? ⟨b1, o1 + k * 6, none⟩ = some (.int .i64 x.key.tick) ∧ w'.cell? ⟨b1, o1 + k * 6 + 1, none⟩ = some (.int .i64 x.key.cls) ∧ w'.cell? ⟨b1, o1 + k * 6 + 2, none⟩ = some (.int .i64 x.key.num) ∧ w'.cell? ⟨b1, o1 + k * 6 + 3, none⟩ = some (.string (bs x.key.lin)) ∧ w'.cell? ⟨b1, o1 + k * 6 + 4, none⟩ = some (u1) ∧ w'.cell? ⟨b1, o1 + k * 6 + 5, none⟩ = some (u2) ∧ w'.cell? ⟨b2, o2 + k * 6, none⟩ = some (.int .i64 y.key.tick) ∧ w'.cell? ⟨b2, o2 + k * 6 + 1, none⟩ = some (.int .i64 y.key.cls) ∧ w'.cell? ⟨b2, o2 + k * 6 + 2, none⟩ = some (.int .i64 y.key.num) ∧ w'.cell? ⟨b2, o2 + k * 6 + 3, none⟩ = some (.string (bs y.key.lin)) ∧ w'.cell? ⟨b2, o2 + k * 6 + 4, none⟩ = some (v1) ∧ w'.cell? ⟨b2, o2 + k * 6 + 5, none⟩ = some (v2))) (by kernel_rfl) ?_ (fun hHeld => ?_)
              · exact ⟨x0, x1, x2, x3, x4, x5, y0, y1, y2, y3, y4, y5⟩
              refine wpAnyH_take (i := 0) (v := ?_) rfl (by kernel_rfl) (by kernel_rfl) (by kernel_rfl) (fun _ _ _ h => h) (Or.inl ⟨by kernel_rfl, ?_⟩) hHeld ?_
              rotate_left
              · (intro w hSw; (try dsimp only at hSw); go_simp; try with_reducible rfl)
              try simp only [Act.put, List.setIfInBounds_toArray, List.set_cons_zero, List.set_cons_succ]
              refine wpAnyH_take (i := 1) (v := ?_) rfl (by kernel_rfl) (by kernel_rfl) (by kernel_rfl) (fun _ _ _ h => h) (Or.inl ⟨by kernel_rfl, ?_⟩) hHeld ?_
              rotate_left
              · (intro w hSw; (try dsimp only at hSw); go_simp; try with_reducible rfl)
              try simp only [Act.put, List.setIfInBounds_toArray, List.set_cons_zero, List.set_cons_succ]
              refine wpAnyH_take (i := 2) (v := ?_) rfl (by kernel_rfl) (by kernel_rfl) (by kernel_rfl) (fun _ _ _ h => h) (Or.inl ⟨by kernel_rfl, ?_⟩) hHeld ?_
              rotate_left
              · (intro w hSw; (try dsimp only at hSw); go_simp; try with_reducible rfl)
              try simp only [Act.put, List.setIfInBounds_toArray, List.set_cons_zero, List.set_cons_succ]
              refine wpAnyH_take (i := 3) (v := ?_) rfl (by kernel_rfl) (by kernel_rfl) (by kernel_rfl) (fun _ _ _ h => h) (Or.inl ⟨by kernel_rfl, ?_⟩) hHeld ?_
              rotate_left
              · (intro w hSw; (try dsimp only at hSw); go_simp; try with_reducible rfl)
              try simp only [Act.put, List.setIfInBounds_toArray, List.set_cons_zero, List.set_cons_succ]
              refine wpAnyH_take (i := 4) (v := ?_) rfl (by kernel_rfl) (by kernel_rfl) (by kernel_rfl) (fun _ _ _ h => h) (Or.inl ⟨by kernel_rfl, ?_⟩) hHeld ?_
              rotate_left
              · (intro w hSw; (try dsimp only at hSw); go_simp; try with_reducible rfl)
              try simp only [Act.put, List.setIfInBounds_toArray, List.set_cons_zero, List.set_cons_succ]
              refine wpAnyH_take (i := 5) (v := ?_) rfl (by kernel_rfl) (by kernel_rfl) (by kernel_rfl) (fun _ _ _ h => h) (Or.inl ⟨by kernel_rfl, ?_⟩) hHeld ?_
              rotate_left
              · (intro w hSw; (try dsimp only at hSw); go_simp; try with_reducible rfl)
              try simp only [Act.put, List.setIfInBounds_toArray, List.set_cons_zero, List.set_cons_succ]
              refine wpAnyH_take (i := 6) (v := ?_) rfl (by kernel_rfl) (by kernel_rfl) (by kernel_rfl) (fun _ _ _ h => h) (Or.inl ⟨by kernel_rfl, ?_⟩) hHeld ?_
              rotate_left
              · (intro w hSw; (try dsimp only at hSw); go_simp; try with_reducible rfl)
              try simp only [Act.put, List.setIfInBounds_toArray, List.set_cons_zero, List.set_cons_succ]
              refine wpAnyH_take (i := 7) (v := ?_) rfl (by kernel_rfl) (by kernel_rfl) (by kernel_rfl) (fun _ _ _ h => h) (Or.inl ⟨by kernel_rfl, ?_⟩) hHeld ?_
              rotate_left
              · (intro w hSw; (try dsimp only at hSw); go_simp; try with_reducible rfl)
              try simp only [Act.put, List.setIfInBounds_toArray, List.set_cons_zero, List.set_cons_succ]
              refine wpAnyH_take (i := 8) (v := ?_) rfl (by kernel_rfl) (by kernel_rfl) (by kernel_rfl) (fun _ _ _ h => h) (Or.inl ⟨by kernel_rfl, ?_⟩) hHeld ?_
              rotate_left
              · (intro w hSw; (try dsimp only at hSw); go_simp; try with_reducible rfl)
              try simp only [Act.put, List.setIfInBounds_toArray, List.set_cons_zero, List.set_cons_succ]
              refine wpAnyH_take (i := 9) (v := ?_) rfl (by kernel_rfl) (by kernel_rfl) (by kernel_rfl) (fun _ _ _ h => h) (Or.inl ⟨by kernel_rfl, ?_⟩) hHeld ?_
              rotate_left
              · (intro w hSw; (try dsimp only at hSw); go_simp; try with_reducible rfl)
              try simp only [Act.put, List.setIfInBounds_toArray, List.set_cons_zero, List.set_cons_succ]
              refine wpAnyH_take (i := 10) (v := ?_) rfl (by kernel_rfl) (by kernel_rfl) (by kernel_rfl) (fun _ _ _ h => h) (Or.inl ⟨by kernel_rfl, ?_⟩) hHeld ?_
              rotate_left
              · (intro w hSw; (try dsimp only at hSw); go_simp; try with_reducible rfl)
              try simp only [Act.put, List.setIfInBounds_toArray, List.set_cons_zero, List.set_cons_succ]
              refine wpAnyH_take (i := 11) (v := ?_) rfl (by kernel_rfl) (by kernel_rfl) (by kernel_rfl) (fun _ _ _ h => h) (Or.inl ⟨by kernel_rfl, ?_⟩) hHeld ?_
              rotate_left
              · (intro w hSw; (try dsimp only at hSw); go_simp; try with_reducible rfl)
              try simp only [Act.put, List.setIfInBounds_toArray, List.set_cons_zero, List.set_cons_succ]
              refine wpAnyH_take (i := 12) (v := ?_) rfl (by kernel_rfl) (by kernel_rfl) (by kernel_rfl) (fun _ _ _ h => h) (Or.inl ⟨by kernel_rfl, ?_⟩) hHeld ?_
              rotate_left
              · (intro w hSw; (try dsimp only at hSw); go_simp; try with_reducible rfl)
              try simp only [Act.put, List.setIfInBounds_toArray, List.set_cons_zero, List.set_cons_succ]
              refine wpAnyH_take (i := 13) (v := ?_) rfl (by kernel_rfl) (by kernel_rfl) (by kernel_rfl) (fun _ _ _ h => h) (Or.inl ⟨by kernel_rfl, ?_⟩) hHeld ?_
              rotate_left
              · (intro w hSw; (try dsimp only at hSw); go_simp; try with_reducible rfl)
              try simp only [Act.put, List.setIfInBounds_toArray, List.set_cons_zero, List.set_cons_succ]
              refine wpAnyH_take (i := 14) (v := ?_) rfl (by kernel_rfl) (by kernel_rfl) (by kernel_rfl) (fun _ _ _ h => h) (Or.inl ⟨by kernel_rfl, ?_⟩) hHeld ?_
              rotate_left
              · (intro w hSw; (try dsimp only at hSw); go_simp; try with_reducible rfl)
              try simp only [Act.put, List.setIfInBounds_toArray, List.set_cons_zero, List.set_cons_succ]
              refine wpAnyH_take (i := 15) (v := ?_) rfl (by kernel_rfl) (by kernel_rfl) (by kernel_rfl) (fun _ _ _ h => h) (Or.inl ⟨by kernel_rfl, ?_⟩) hHeld ?_
              rotate_left
              · (intro w hSw; (try dsimp only at hSw); go_simp; try with_reducible rfl)
              try simp only [Act.put, List.setIfInBounds_toArray, List.set_cons_zero, List.set_cons_succ]
              refine wpAnyH_take (i := 16) (v := ?_) rfl (by kernel_rfl) (by kernel_rfl) (by kernel_rfl) (fun _ _ _ h => h) (Or.inl ⟨by kernel_rfl, ?_⟩) hHeld ?_
              rotate_left
              · (intro w hSw; (try dsimp only at hSw); go_simp; try with_reducible rfl)
              try simp only [Act.put, List.setIfInBounds_toArray, List.set_cons_zero, List.set_cons_succ]
              refine wpAnyH_take (i := 17) (v := ?_) rfl (by kernel_rfl) (by kernel_rfl) (by kernel_rfl) (fun _ _ _ h => h) (Or.inl ⟨by kernel_rfl, ?_⟩) hHeld ?_
              rotate_left
              · (intro w hSw; (try dsimp only at hSw); go_simp; try with_reducible rfl)
              try simp only [Act.put, List.setIfInBounds_toArray, List.set_cons_zero, List.set_cons_succ]
              refine wpAnyH_take (i := 18) (v := ?_) rfl (by kernel_rfl) (by kernel_rfl) (by kernel_rfl) (fun _ _ _ h => h) (Or.inl ⟨by kernel_rfl, ?_⟩) hHeld ?_
              rotate_left
              · (intro w hSw; (try dsimp only at hSw); go_simp; try with_reducible rfl)
              try simp only [Act.put, List.setIfInBounds_toArray, List.set_cons_zero, List.set_cons_succ]
              refine wpAnyH_ready (rs := [19]) (by kernel_rfl) (by simp) ?_
              refine AllReadyH.cons rfl (fun K hK => ?_) AllReadyH.nil
              go_simp
              refine (aeq_is (RdP.next M1.out (Below.refl wr.heap.size wr).drew) (RdP.next M2.out (Below.refl wr.heap.size wr).drew) (RdP.next N1.out (Below.refl wr.heap.size wr).drew) (RdP.next N2.out (Below.refl wr.heap.size wr).drew) LX.out LY.out).mono ?_; rintro e w2 ⟨rfl, hb⟩; rw [HBQ.out]; have hq := (Below.refl wr.heap.size wr).drew.trans hb; have HB2 := Lib.hid hq; clear hb
              try (go_wp2_with fail)
              refine hK.out _ _ ?_ (fun hNew => ?_)
              · exact ⟨(hq.cell (p := ⟨b1, o1 + k * 6, none⟩) hb1).trans x0, (hq.cell (p := ⟨b1, o1 + k * 6 + 1, none⟩) hb1).trans x1, (hq.cell (p := ⟨b1, o1 + k * 6 + 2, none⟩) hb1).trans x2, (hq.cell (p := ⟨b1, o1 + k * 6 + 3, none⟩) hb1).trans x3, (hq.cell (p := ⟨b1, o1 + k * 6 + 4, none⟩) hb1).trans x4, (hq.cell (p := ⟨b1, o1 + k * 6 + 5, none⟩) hb1).trans x5, (hq.cell (p := ⟨b2, o2 + k * 6, none⟩) hb2).trans y0, (hq.cell (p := ⟨b2, o2 + k * 6 + 1, none⟩) hb2).trans y1, (hq.cell (p := ⟨b2, o2 + k * 6 + 2, none⟩) hb2).trans y2, (hq.cell (p := ⟨b2, o2 + k * 6 + 3, none⟩) hb2).trans y3, (hq.cell (p := ⟨b2, o2 + k * 6 + 4, none⟩) hb2).trans y4, (hq.cell (p := ⟨b2, o2 + k * 6 + 5, none⟩) hb2).trans y5⟩
              clear hK K hHeld
              have hHeld := hNew
              clear hNew
              try simp only [Act.put, List.setIfInBounds_toArray, List.set_cons_zero, List.set_cons_succ]
              refine wpAnyH_take (i := 20) (v := ?_) rfl (by kernel_rfl) (by kernel_rfl) (by kernel_rfl) (fun _ _ _ h => h) (Or.inl ⟨by kernel_rfl, ?_⟩) hHeld ?_
              rotate_left
              · (intro w hSw; (try dsimp only at hSw); go_simp; try with_reducible rfl)
              try simp only [Act.put, List.setIfInBounds_toArray, List.set_cons_zero, List.set_cons_succ]
              refine wpAnyH_done (by kernel_rfl) ?_ _
              clear hHeld
              try simp only [List.getElem_toArray, List.getElem_cons_zero, List.getElem_cons_succ, Act.put, List.setIfInBounds_toArray, List.set_cons_zero, List.set_cons_succ]
              refine NoPanic.normal ?_
              cases bq with
              | true =>
                have HE := Lib.hid (of_decide_eq_true HBQ.out)
                clear x0 x1 x2 x3 x4 x5 y0 y1 y2 y3 y4 y5
                go_wp2_with fail
                go_roundw
                case rel => exact ⟨k + 1, by omega, by omega, by go_num, fun j h1 h2 hjk => by
                  by_cases e : j = k
                  · subst e
                    rw [HX.out, HY.out, HE.out]
                  · exact HZ.out j h1 h2 (by omega), HBW.out.trans (HB2.out.mono HBW.out.size)⟩
                case measure => simp [intOf]; omega
              | false =>
                have HE := Lib.hid (of_decide_eq_false HBQ.out)
                clear x0 x1 x2 x3 x4 x5 y0 y1 y2 y3 y4 y5
                go_wp2_with fail
                go_meet
                case rel => exact ⟨by rw [← HN.out, comN_at hka hkb HZ.out fun h1 h2 e => HE.out (by rw [← HX.out, ← HY.out]; exact e)], HBW.out.trans (HB2.out.mono HBW.out.size)⟩
            · have j5 : decide ((k : Int) < (mm.length : Int)) = false := decide_eq_false (by omega)
              have HK := Lib.hid hkb2
              go_upto_region 11 with (fail)
              refine wp_region_noPanic ?_
              refine wp_region_held_drew (S := (fun (w' : World) => 0 ≤ w'.heap.size)) (by kernel_rfl) ?_ (fun hHeld => ?_)
              · exact Nat.zero_le _
              refine wpAnyH_take (i := 0) (v := ?_) rfl (by kernel_rfl) (by kernel_rfl) (by kernel_rfl) (fun _ _ _ h => h) (Or.inl ⟨by kernel_rfl, ?_⟩) hHeld ?_
              rotate_left
              · (intro w hSw; (try dsimp only at hSw); go_simp; try with_reducible rfl)
              try simp only [Act.put, List.setIfInBounds_toArray, List.set_cons_zero, List.set_cons_succ]
              refine wpAnyH_take (i := 1) (v := ?_) rfl (by kernel_rfl) (by kernel_rfl) (by kernel_rfl) (fun _ _ _ h => h) (Or.inl ⟨by kernel_rfl, ?_⟩) hHeld ?_
              rotate_left
              · (intro w hSw; (try dsimp only at hSw); go_simp; try with_reducible rfl)
              try simp only [Act.put, List.setIfInBounds_toArray, List.set_cons_zero, List.set_cons_succ]
              refine wpAnyH_take (i := 2) (v := ?_) rfl (by kernel_rfl) (by kernel_rfl) (by kernel_rfl) (fun _ _ _ h => h) (Or.inl ⟨by kernel_rfl, ?_⟩) hHeld ?_
              rotate_left
              · (intro w hSw; (try dsimp only at hSw); go_simp; try with_reducible rfl)
              try simp only [Act.put, List.setIfInBounds_toArray, List.set_cons_zero, List.set_cons_succ]
              refine wpAnyH_take (i := 3) (v := ?_) rfl (by kernel_rfl) (by kernel_rfl) (by kernel_rfl) (fun _ _ _ h => h) (Or.inl ⟨by kernel_rfl, ?_⟩) hHeld ?_
              rotate_left
              · (intro w hSw; (try dsimp only at hSw); go_simp; try with_reducible rfl)
              try simp only [Act.put, List.setIfInBounds_toArray, List.set_cons_zero, List.set_cons_succ]
              refine wpAnyH_take (i := 4) (v := ?_) rfl (by kernel_rfl) (by kernel_rfl) (by kernel_rfl) (fun _ _ _ h => h) (Or.inl ⟨by kernel_rfl, ?_⟩) hHeld ?_
              rotate_left
              · (intro w hSw; (try dsimp only at hSw); go_simp; try with_reducible rfl)
              try simp only [Act.put, List.setIfInBounds_toArray, List.set_cons_zero, List.set_cons_succ]
              refine wpAnyH_take (i := 5) (v := ?_) rfl (by kernel_rfl) (by kernel_rfl) (by kernel_rfl) (fun _ _ _ h => h) (Or.inl ⟨by kernel_rfl, ?_⟩) hHeld ?_
              rotate_left
              · (intro w hSw; (try dsimp only at hSw); go_simp; try with_reducible rfl)
              try simp only [Act.put, List.setIfInBounds_toArray, List.set_cons_zero, List.set_cons_succ]
              refine wpAnyH_take (i := 6) (v := ?_) rfl (by kernel_rfl) (by kernel_rfl) (by kernel_rfl) (fun _ _ _ h => h) (Or.inl ⟨by kernel_rfl, ?_⟩) hHeld ?_
              rotate_left
              · (intro w hSw; (try dsimp only at hSw); go_simp; try with_reducible rfl)
              try simp only [Act.put, List.setIfInBounds_toArray, List.set_cons_zero, List.set_cons_succ]
              refine wpAnyH_take (i := 7) (v := ?_) rfl (by kernel_rfl) (by kernel_rfl) (by kernel_rfl) (fun _ _ _ h => h) (Or.inl ⟨by kernel_rfl, ?_⟩) hHeld ?_
              rotate_left
              · (intro w hSw; (try dsimp only at hSw); go_simp; try with_reducible rfl)
              try simp only [Act.put, List.setIfInBounds_toArray, List.set_cons_zero, List.set_cons_succ]
              refine wpAnyH_take (i := 8) (v := ?_) rfl (by kernel_rfl) (by kernel_rfl) (by kernel_rfl) (fun _ _ _ h => h) (Or.inl ⟨by kernel_rfl, ?_⟩) hHeld ?_
              rotate_left
              · (intro w hSw; (try dsimp only at hSw); go_simp; try with_reducible rfl)
              try simp only [Act.put, List.setIfInBounds_toArray, List.set_cons_zero, List.set_cons_succ]
              refine wpAnyH_take (i := 9) (v := ?_) rfl (by kernel_rfl) (by kernel_rfl) (by kernel_rfl) (fun _ _ _ h => h) (Or.inl ⟨by kernel_rfl, ?_⟩) hHeld ?_
              rotate_left
              · (intro w hSw; (try dsimp only at hSw); go_simp; try with_reducible rfl)
              try simp only [Act.put, List.setIfInBounds_toArray, List.set_cons_zero, List.set_cons_succ]
              refine wpAnyH_take (i := 10) (v := ?_) rfl (by kernel_rfl) (by kernel_rfl) (by kernel_rfl) (fun _ _ _ h => h) (Or.inl ⟨by kernel_rfl, ?_⟩) hHeld ?_
              rotate_left
              · (intro w hSw; (try dsimp only at hSw); go_simp; try with_reducible rfl)
              try simp only [Act.put, List.setIfInBounds_toArray, List.set_cons_zero, List.set_cons_succ]
              refine wpAnyH_take (i := 11) (v := undef) rfl (by kernel_rfl) (by kernel_rfl) (by kernel_rfl) (fun _ _ _ h => h) (Or.inr ⟨by kernel_rfl, rfl⟩) hHeld ?_
              try simp only [Act.put, List.setIfInBounds_toArray, List.set_cons_zero, List.set_cons_succ]
              refine wpAnyH_take (i := 12) (v := undef) rfl (by kernel_rfl) (by kernel_rfl) (by kernel_rfl) (fun _ _ _ h => h) (Or.inr ⟨by kernel_rfl, rfl⟩) hHeld ?_
              try simp only [Act.put, List.setIfInBounds_toArray, List.set_cons_zero, List.set_cons_succ]
              refine wpAnyH_take (i := 13) (v := undef) rfl (by kernel_rfl) (by kernel_rfl) (by kernel_rfl) (fun _ _ _ h => h) (Or.inr ⟨by kernel_rfl, rfl⟩) hHeld ?_
              try simp only [Act.put, List.setIfInBounds_toArray, List.set_cons_zero, List.set_cons_succ]
              refine wpAnyH_take (i := 14) (v := undef) rfl (by kernel_rfl) (by kernel_rfl) (by kernel_rfl) (fun _ _ _ h => h) (Or.inr ⟨by kernel_rfl, rfl⟩) hHeld ?_
              try simp only [Act.put, List.setIfInBounds_toArray, List.set_cons_zero, List.set_cons_succ]
              refine wpAnyH_take (i := 15) (v := undef) rfl (by kernel_rfl) (by kernel_rfl) (by kernel_rfl) (fun _ _ _ h => h) (Or.inr ⟨by kernel_rfl, rfl⟩) hHeld ?_
              try simp only [Act.put, List.setIfInBounds_toArray, List.set_cons_zero, List.set_cons_succ]
              refine wpAnyH_take (i := 16) (v := undef) rfl (by kernel_rfl) (by kernel_rfl) (by kernel_rfl) (fun _ _ _ h => h) (Or.inr ⟨by kernel_rfl, rfl⟩) hHeld ?_
              try simp only [Act.put, List.setIfInBounds_toArray, List.set_cons_zero, List.set_cons_succ]
              refine wpAnyH_take (i := 17) (v := undef) rfl (by kernel_rfl) (by kernel_rfl) (by kernel_rfl) (fun _ _ _ h => h) (Or.inr ⟨by kernel_rfl, rfl⟩) hHeld ?_
              try simp only [Act.put, List.setIfInBounds_toArray, List.set_cons_zero, List.set_cons_succ]
              refine wpAnyH_take (i := 18) (v := undef) rfl (by kernel_rfl) (by kernel_rfl) (by kernel_rfl) (fun _ _ _ h => h) (Or.inr ⟨by kernel_rfl, rfl⟩) hHeld ?_
              try simp only [Act.put, List.setIfInBounds_toArray, List.set_cons_zero, List.set_cons_succ]
              refine wpAnyH_take (i := 19) (v := undef) rfl (by kernel_rfl) (by kernel_rfl) (by kernel_rfl) (fun _ _ _ h => h) (Or.inr ⟨by kernel_rfl, rfl⟩) hHeld ?_
              try simp only [Act.put, List.setIfInBounds_toArray, List.set_cons_zero, List.set_cons_succ]
              refine wpAnyH_take (i := 20) (v := ?_) rfl (by kernel_rfl) (by kernel_rfl) (by kernel_rfl) (fun _ _ _ h => h) (Or.inl ⟨by kernel_rfl, ?_⟩) hHeld ?_
              rotate_left
              · (intro w hSw; (try dsimp only at hSw); go_simp; try with_reducible rfl)
              try simp only [Act.put, List.setIfInBounds_toArray, List.set_cons_zero, List.set_cons_succ]
              refine wpAnyH_done (by kernel_rfl) ?_ _
              clear hHeld
              try simp only [List.getElem_toArray, List.getElem_cons_zero, List.getElem_cons_succ, Act.put, List.setIfInBounds_toArray, List.set_cons_zero, List.set_cons_succ]
              refine NoPanic.normal ?_
              go_wp2_with fail
              go_meet
              case rel => exact ⟨by rw [← HN.out, comN_at hka hkb HZ.out fun h1 h2 e => HK.out h2], HBW.out.drew⟩
          · have j3 : decide ((k : Int) < (l.length : Int)) = false := decide_eq_false (by omega)
            have HK := Lib.hid hk
            go_upto_region 11 with (fail)
            refine wp_region_noPanic ?_
            refine wp_region_held_drew (S := (fun (w' : World) => 0 ≤ w'.heap.size)) (by kernel_rfl) ?_ (fun hHeld => ?_)
            · exact Nat.zero_le _
            refine wpAnyH_take (i := 0) (v := ?_) rfl (by kernel_rfl) (by kernel_rfl) (by kernel_rfl) (fun _ _ _ h => h) (Or.inl ⟨by kernel_rfl, ?_⟩) hHeld ?_
            rotate_left
            · (intro w hSw; (try dsimp only at hSw); go_simp; try with_reducible rfl)
            try simp only [Act.put, List.setIfInBounds_toArray, List.set_cons_zero, List.set_cons_succ]
            refine wpAnyH_take (i := 1) (v := ?_) rfl (by kernel_rfl) (by kernel_rfl) (by kernel_rfl) (fun _ _ _ h => h) (Or.inl ⟨by kernel_rfl, ?_⟩) hHeld ?_
            rotate_left
            · (intro w hSw; (try dsimp only at hSw); go_simp; try with_reducible rfl)
            try simp only [Act.put, List.setIfInBounds_toArray, List.set_cons_zero, List.set_cons_succ]
            refine wpAnyH_take (i := 2) (v := ?_) rfl (by kernel_rfl) (by kernel_rfl) (by kernel_rfl) (fun _ _ _ h => h) (Or.inl ⟨by kernel_rfl, ?_⟩) hHeld ?_
            rotate_left
            · (intro w hSw; (try dsimp only at hSw); go_simp; try with_reducible rfl)
            try simp only [Act.put, List.setIfInBounds_toArray, List.set_cons_zero, List.set_cons_succ]
            refine wpAnyH_take (i := 3) (v := ?_) rfl (by kernel_rfl) (by kernel_rfl) (by kernel_rfl) (fun _ _ _ h => h) (Or.inl ⟨by kernel_rfl, ?_⟩) hHeld ?_
            rotate_left
            · (intro w hSw; (try dsimp only at hSw); go_simp; try with_reducible rfl)
            try simp only [Act.put, List.setIfInBounds_toArray, List.set_cons_zero, List.set_cons_succ]
            refine wpAnyH_take (i := 4) (v := ?_) rfl (by kernel_rfl) (by kernel_rfl) (by kernel_rfl) (fun _ _ _ h => h) (Or.inl ⟨by kernel_rfl, ?_⟩) hHeld ?_
            rotate_left
            · (intro w hSw; (try dsimp only at hSw); go_simp; try with_reducible rfl)
            try simp only [Act.put, List.setIfInBounds_toArray, List.set_cons_zero, List.set_cons_succ]
            refine wpAnyH_take (i := 5) (v := undef) rfl (by kernel_rfl) (by kernel_rfl) (by kernel_rfl) (fun _ _ _ h => h) (Or.inr ⟨by kernel_rfl, rfl⟩) hHeld ?_
            try simp only [Act.put, List.setIfInBounds_toArray, List.set_cons_zero, List.set_cons_succ]
            refine wpAnyH_take (i := 6) (v := undef) rfl (by kernel_rfl) (by kernel_rfl) (by kernel_rfl) (fun _ _ _ h => h) (Or.inr ⟨by kernel_rfl, rfl⟩) hHeld ?_
            try simp only [Act.put, List.setIfInBounds_toArray, List.set_cons_zero, List.set_cons_succ]
            refine wpAnyH_take (i := 7) (v := undef) rfl (by kernel_rfl) (by kernel_rfl) (by kernel_rfl) (fun _ _ _ h => h) (Or.inr ⟨by kernel_rfl, rfl⟩) hHeld ?_
            try simp only [Act.put, List.setIfInBounds_toArray, List.set_cons_zero, List.set_cons_succ]
            refine wpAnyH_take (i := 8) (v := undef) rfl (by kernel_rfl) (by kernel_rfl) (by kernel_rfl) (fun _ _ _ h => h) (Or.inr ⟨by kernel_rfl, rfl⟩) hHeld ?_
            try simp only [Act.put, List.setIfInBounds_toArray, List.set_cons_zero, List.set_cons_succ]
            refine wpAnyH_take (i := 9) (v := ?_) rfl (by kernel_rfl) (by kernel_rfl) (by kernel_rfl) (fun _ _ _ h => h) (Or.inl ⟨by kernel_rfl, ?_⟩) hHeld ?_
            rotate_left
            · (intro w hSw; (try dsimp only at hSw); go_simp; try with_reducible rfl)
            try simp only [Act.put, List.setIfInBounds_toArray, List.set_cons_zero, List.set_cons_succ]
            refine wpAnyH_take (i := 10) (v := ?_) rfl (by kernel_rfl) (by kernel_rfl) (by kernel_rfl) (fun _ _ _ h => h) (Or.inl ⟨by kernel_rfl, ?_⟩) hHeld ?_
            rotate_left
            · (intro w hSw; (try dsimp only at hSw); go_simp; try with_reducible rfl)
            try simp only [Act.put, List.setIfInBounds_toArray, List.set_cons_zero, List.set_cons_succ]
            refine wpAnyH_take (i := 11) (v := undef) rfl (by kernel_rfl) (by kernel_rfl) (by kernel_rfl) (fun _ _ _ h => h) (Or.inr ⟨by kernel_rfl, rfl⟩) hHeld ?_
            try simp only [Act.put, List.setIfInBounds_toArray, List.set_cons_zero, List.set_cons_succ]
            refine wpAnyH_take (i := 12) (v := undef) rfl (by kernel_rfl) (by kernel_rfl) (by kernel_rfl) (fun _ _ _ h => h) (Or.inr ⟨by kernel_rfl, rfl⟩) hHeld ?_
            try simp only [Act.put, List.setIfInBounds_toArray, List.set_cons_zero, List.set_cons_succ]
            refine wpAnyH_take (i := 13) (v := undef) rfl (by kernel_rfl) (by kernel_rfl) (by kernel_rfl) (fun _ _ _ h => h) (Or.inr ⟨by kernel_rfl, rfl⟩) hHeld ?_
            try simp only [Act.put, List.setIfInBounds_toArray, List.set_cons_zero, List.set_cons_succ]
            refine wpAnyH_take (i := 14) (v := undef) rfl (by kernel_rfl) (by kernel_rfl) (by kernel_rfl) (fun _ _ _ h => h) (Or.inr ⟨by kernel_rfl, rfl⟩) hHeld ?_
            try simp only [Act.put, List.setIfInBounds_toArray, List.set_cons_zero, List.set_cons_succ]
            refine wpAnyH_take (i := 15) (v := undef) rfl (by kernel_rfl) (by kernel_rfl) (by kernel_rfl) (fun _ _ _ h => h) (Or.inr ⟨by kernel_rfl, rfl⟩) hHeld ?_
            try simp only [Act.put, List.setIfInBounds_toArray, List.set_cons_zero, List.set_cons_succ]
            refine wpAnyH_take (i := 16) (v := undef) rfl (by kernel_rfl) (by kernel_rfl) (by kernel_rfl) (fun _ _ _ h => h) (Or.inr ⟨by kernel_rfl, rfl⟩) hHeld ?_
            try simp only [Act.put, List.setIfInBounds_toArray, List.set_cons_zero, List.set_cons_succ]
            refine wpAnyH_take (i := 17) (v := undef) rfl (by kernel_rfl) (by kernel_rfl) (by kernel_rfl) (fun _ _ _ h => h) (Or.inr ⟨by kernel_rfl, rfl⟩) hHeld ?_
            try simp only [Act.put, List.setIfInBounds_toArray, List.set_cons_zero, List.set_cons_succ]
            refine wpAnyH_take (i := 18) (v := undef) rfl (by kernel_rfl) (by kernel_rfl) (by kernel_rfl) (fun _ _ _ h => h) (Or.inr ⟨by kernel_rfl, rfl⟩) hHeld ?_
            try simp only [Act.put, List.setIfInBounds_toArray, List.set_cons_zero, List.set_cons_succ]
            refine wpAnyH_take (i := 19) (v := undef) rfl (by kernel_rfl) (by kernel_rfl) (by kernel_rfl) (fun _ _ _ h => h) (Or.inr ⟨by kernel_rfl, rfl⟩) hHeld ?_
            try simp only [Act.put, List.setIfInBounds_toArray, List.set_cons_zero, List.set_cons_succ]
            refine wpAnyH_take (i := 20) (v := ?_) rfl (by kernel_rfl) (by kernel_rfl) (by kernel_rfl) (fun _ _ _ h => h) (Or.inl ⟨by kernel_rfl, ?_⟩) hHeld ?_
            rotate_left
            · (intro w hSw; (try dsimp only at hSw); go_simp; try with_reducible rfl)
            try simp only [Act.put, List.setIfInBounds_toArray, List.set_cons_zero, List.set_cons_succ]
            refine wpAnyH_done (by kernel_rfl) ?_ _
            clear hHeld
            try simp only [List.getElem_toArray, List.getElem_cons_zero, List.getElem_cons_succ, Act.put, List.setIfInBounds_toArray, List.set_cons_zero, List.set_cons_succ]
            refine NoPanic.normal ?_
            go_wp2_with fail
            go_meet
            case rel => exact ⟨by rw [← HN.out, comN_at hka hkb HZ.out fun h1 h2 e => HK.out h1], HBW.out.drew⟩
      case rest =>
        obtain ⟨rfl, hbx⟩ := hcut
        obtain ⟨wx, hwx⟩ : ∃ W, W = wc := ⟨_, rfl⟩
        subst hwx
        have HBX := Lib.hid hbx
        have HBWX := Lib.hid (HBW9.out.trans (hbx.mono HBW9.out.size))
        have HPX := Lib.hid (HP9.out.next hbx)
        have z2 := (HBWX.out.cell (p := ⟨db, 0, none⟩) hdw).trans HZ2.out
        have z3 := (HBWX.out.cell (p := ⟨db, 1, none⟩) hdw).trans HZ3.out
        obtain ⟨sm, hsm⟩ : ∃ b, (decide (s0 = t0) && decide (l = mm)) = b := ⟨_, rfl⟩
        have HSM := Lib.hid hsm
        have HSM2 : Hid ((decide (t0 = s0) && decide (mm = l)) = sm) := Lib.hid (by rw [← hsm]; simp only [eq_comm])
        clear hbx hsm H0
        go_upto_region 13 with (fail)
        go_cut [16] (fun v16 wy => v16 = .bool sm ∧ Below wx.heap.size wx wy)
        case first =>
          by_cases h1 : n = l.length
          · have i1 : ((n : Int) == (l.length : Int)) = true := by rw [beq_iff_eq]; omega
            have i1' : (n == l.length) = true := by rw [beq_iff_eq]; exact h1
            by_cases h2 : n = mm.length
            · have i2 : ((n : Int) == (mm.length : Int)) = true := by rw [beq_iff_eq]; omega
              have i2' : (n == mm.length) = true := by rw [beq_iff_eq]; exact h2
              have HLM : Hid (l = mm) := Lib.hid (comN_eq.1 ⟨by rw [HN.out]; exact h1, by rw [HN.out]; exact h2⟩)
              clear h1 h2
              go_wp2_with (first
                | (go_at_call 9; refine (base_is (w := wx) (r := q) ((HIQ.out.below HBWX.out).next_ HBWX.out.size) HLQ.out (HU.out.below HBWX.out)).mono ?_; rintro e wa ⟨p3, rfl, hpa, hba⟩; rw [HT0.out] at hpa; have HPa := Lib.hid hpa; have HBa := Lib.hid hba; clear hpa hba z2 z3)
                | (go_at_call 28; refine (sequal_is (HPX.out.next HBa.out) HPa.out HSV.out.1 HTV.out.1).mono ?_; rintro e wb ⟨rfl, hbb⟩; have HBb := Lib.hid (HBa.out.trans (hbb.mono HBa.out.size)); clear hbb))
              go_meet
              case rel => exact ⟨by rw [← HSM.out, decide_eq_true HLM.out, Bool.and_true], HBb.out⟩
            · have i2 : ((n : Int) == (mm.length : Int)) = false := by rw [beq_eq_false_iff_ne]; omega
              have i2' : (n == mm.length) = false := by rw [beq_eq_false_iff_ne]; exact h2
              have HLM : Hid (¬ l = mm) := Lib.hid fun e => h2 (by have := comN_eq.2 e; rw [← HN.out]; exact this.2)
              clear h1 h2
              go_wp2_with fail
              go_meet
              case rel => exact ⟨by rw [← HSM.out, decide_eq_false HLM.out, Bool.and_false], Below.refl _ _⟩
          · have i1 : ((n : Int) == (l.length : Int)) = false := by rw [beq_eq_false_iff_ne]; omega
            have i1' : (n == l.length) = false := by rw [beq_eq_false_iff_ne]; exact h1
            have HLM : Hid (¬ l = mm) := Lib.hid fun e => h1 (by have := comN_eq.2 e; rw [← HN.out]; exact this.1)
            clear h1
            go_wp2_with fail
            go_meet
            case rel => exact ⟨by rw [← HSM.out, decide_eq_false HLM.out, Bool.and_false], Below.refl _ _⟩
        case rest =>
          obtain ⟨rfl, hby⟩ := hcut
          obtain ⟨wy, hwy⟩ : ∃ W, W = wc := ⟨_, rfl⟩
          subst hwy
          have HBY := Lib.hid (HBWX.out.trans (hby.mono HBWX.out.size))
          have HVa := Lib.hid (HV9.out.next (HBX.out.trans (hby.mono HBX.out.size)))
          have HYa := Lib.hid (HVY.out.next (HBX.out.trans (hby.mono HBX.out.size)))
          clear hby z2 z3
          have O1 : True := trivial
          have O2 : True := trivial
          have O3 : True := trivial
          go_wp2_with (first
            | (clear O1; go_at_call 29; refine (common_is HVa.out HYa.out (by omega) (by omega) HAR.out HAM.out).mono ?_; rintro e wa ⟨rfl, hba⟩; rw [HN.out]; have HBa := Lib.hid (HBY.out.trans (hba.mono HBY.out.size)); have HVb := Lib.hid (HVa.out.next hba); have HYb := Lib.hid (HYa.out.next hba); clear hba)
            | (go_at_call 29; refine (common_is HYb.out HVb.out (by omega) (by omega) HAM.out HAR.out).mono ?_; rintro e wb ⟨rfl, hbb⟩; rw [comN_comm, HN.out]; have HBb := Lib.hid (HBa.out.trans (hbb.mono HBa.out.size)); have HVc := Lib.hid (HVb.out.next hbb); have HYc := Lib.hid (HYb.out.next hbb); clear hbb)
            | (clear O2; go_at_call 25; refine (veq_is HVc.out HYc.out HSV.out.1 HTV.out.1 (by omega) (by omega) HAR.out HAM.out).mono ?_; rintro e wd ⟨rfl, hbd⟩; rw [HSM.out]; have HBd := Lib.hid (HBb.out.trans (hbd.mono HBb.out.size)); have HVd := Lib.hid (HVc.out.next hbd); have HYd := Lib.hid (HYc.out.next hbd); clear hbd)
            | (clear O3; go_at_call 25; refine (veq_is HYd.out HVd.out HTV.out.1 HSV.out.1 (by omega) (by omega) HAM.out HAR.out).mono ?_; rintro e we ⟨rfl, hbe⟩; rw [HSM2.out]; have HBe := Lib.hid (HBd.out.trans (hbe.mono HBd.out.size)); have HVe := Lib.hid (HVd.out.next hbe); clear hbe)
            | (go_at_call 23; refine (clone_is HVe.out HVO.out).mono ?_; rintro e wf ⟨gc, rfl, hbf, hvf⟩; have HBf := Lib.hid (HBe.out.trans (hbf.mono HBe.out.size)); have HVf := Lib.hid (HVe.out.next hbf); have HCf := Lib.hid hvf; clear hbf hvf)
            | (go_at_call 25; refine (veq_is HVf.out HCf.out HSV.out.1 HSV.out.1 (by omega) (by omega) HAR.out HAR.out).mono ?_; rintro e wg ⟨rfl, hbg⟩; rw [decide_eq_true rfl, decide_eq_true rfl]; have HBg := Lib.hid (HBf.out.trans (hbg.mono HBf.out.size)); clear hbg))
          go_ret
          exact ⟨rfl, HA.out.trans (HBg.out.mono HSW.out)⟩
    · rw [HE2.out] at hbad2 ⊢
      have HBW9 := Lib.hid (HBW8.out.trans (hb9.mono HBW8.out.size))
      have HB69 := Lib.hid (HB67.out.trans ((HB78.out.trans (hb9.mono HB78.out.size)).mono HB67.out.size))
      have HU9 := Lib.hid (HU.out.below HBW9.out)
      have HP9 := Lib.hid (HP6.out.next HB69.out)
      have HLR9 := Lib.hid (RdAc.next HLR6.out HB69.out)
      have HMR9 := Lib.hid (RdAc.next HMR8.out hb9)
      clear hb9
      have n2 : (E2 != 0) = true := by rw [bne_iff_ne]; exact hbad2
      have z2 := (HBW9.out.cell (p := ⟨db, 0, none⟩) hdw).trans HZ2.out
      have z3 := (HBW9.out.cell (p := ⟨db, 1, none⟩) hdw).trans HZ3.out
      have ONCE : True := trivial
      go_wp2_with (first
        | (clear ONCE; go_at_call 12; refine (rcheck_is HLR9.out HU9.out HAR.out (by omega)).mono ?_; rintro e wa ⟨rfl, hba⟩; rw [HE1.out]; have HBa := Lib.hid hba; replace z2 := (hba.cell (p := ⟨db, 0, none⟩) (Nat.lt_of_lt_of_le hdw HBW9.out.size)).trans z2; replace z3 := (hba.cell (p := ⟨db, 1, none⟩) (Nat.lt_of_lt_of_le hdw HBW9.out.size)).trans z3; have HBWa := Lib.hid (HBW9.out.trans (hba.mono HBW9.out.size)); clear hba)
        | (go_at_call 9; refine (base_is (w := wa) (r := q) ((HIQ.out.below HBWa.out).next_ HBWa.out.size) HLQ.out (HU.out.below HBWa.out)).mono ?_; rintro e wb ⟨p3, rfl, hpb, hbb⟩; have HBWb := Lib.hid (HBWa.out.trans (hbb.mono HBWa.out.size)); have HMRb := Lib.hid (RdAc.next HMR9.out (HBa.out.trans (hbb.mono HBa.out.size))); clear hpb hbb z2 z3)
        | (go_at_call 12; refine (rcheck_is HMRb.out (HU.out.below HBWb.out) HAM.out (by omega)).mono ?_; rintro e wc ⟨rfl, hbc⟩; rw [HE2.out]; have HBWc := Lib.hid (HBWb.out.trans (hbc.mono HBWb.out.size)); clear hbc))
      go_ret
      exact ⟨rfl, HA.out.trans (HBWc.out.mono HSW.out)⟩
  · rw [HE1.out] at hbad1 ⊢
    have n1 : (E1 != 0) = true := by rw [bne_iff_ne]; exact hbad1
    have HBW7 := Lib.hid (HBW6.out.trans (hb7.mono HBW6.out.size))
    have HB67 := Lib.hid hb7
    have HU7 := Lib.hid (HU.out.below HBW7.out)
    have z2 := (HBW7.out.cell (p := ⟨db, 0, none⟩) hdw).trans HZ2.out
    have z3 := (HBW7.out.cell (p := ⟨db, 1, none⟩) hdw).trans HZ3.out
    clear hb7
    go_wp2_with (first
      | (go_at_call 9; refine (base_is (w := w7) (r := q) ((HIQ.out.below HBW7.out).next_ HBW7.out.size) HLQ.out HU7.out).mono ?_; rintro e w8 ⟨p2, rfl, hp8, hb8⟩; rw [HT0.out] at hp8; have HP8 := Lib.hid hp8; have HB78 := Lib.hid hb8; have HBW8 := Lib.hid (HBW7.out.trans (hb8.mono HBW7.out.size)); have HMR8 := Lib.hid (RdAc.next HMR.out (HB67.out.trans (hb8.mono HB67.out.size))); clear hp8 hb8 z2 z3)
      | (go_at_call 11; refine (build_is HP8.out HMR8.out (HU.out.below HBW8.out) HAM.out HTV.out (by omega)).mono ?_))
    rintro e w9 ⟨hb9, ⟨hok2, g2, F2, rfl, hv9, _⟩ | ⟨hbad2, rfl⟩⟩
    · clear hv9
      have HBW9 := Lib.hid (HBW8.out.trans (hb9.mono HBW8.out.size))
      have HB69 := Lib.hid (HB67.out.trans ((HB78.out.trans (hb9.mono HB78.out.size)).mono HB67.out.size))
      have HU9 := Lib.hid (HU.out.below HBW9.out)
      have HP9 := Lib.hid (HP6.out.next HB69.out)
      have HLR9 := Lib.hid (RdAc.next HLR6.out HB69.out)
      have HMR9 := Lib.hid (RdAc.next HMR8.out hb9)
      clear hb9
      go_wp2_with (go_at_call 12; refine (rcheck_is HLR9.out HU9.out HAR.out (by omega)).mono ?_; rintro e wa ⟨rfl, hba⟩; rw [HE1.out]; have HBWa := Lib.hid (HBW9.out.trans (hba.mono HBW9.out.size)); clear hba)
      go_ret
      exact ⟨rfl, HA.out.trans (HBWa.out.mono HSW.out)⟩
    · 
      have HBW9 := Lib.hid (HBW8.out.trans (hb9.mono HBW8.out.size))
      have HB69 := Lib.hid (HB67.out.trans ((HB78.out.trans (hb9.mono HB78.out.size)).mono HB67.out.size))
      have HU9 := Lib.hid (HU.out.below HBW9.out)
      have HP9 := Lib.hid (HP6.out.next HB69.out)
      have HLR9 := Lib.hid (RdAc.next HLR6.out HB69.out)
      have HMR9 := Lib.hid (RdAc.next HMR8.out hb9)
      clear hb9
      go_wp2_with (go_at_call 12; refine (rcheck_is HLR9.out HU9.out HAR.out (by omega)).mono ?_; rintro e wa ⟨rfl, hba⟩; rw [HE1.out]; have HBWa := Lib.hid (HBW9.out.trans (hba.mono HBW9.out.size)); clear hba)
      go_ret
      exact ⟨rfl, HA.out.trans (HBWa.out.mono HSW.out)⟩
end Go.Proofs.YtobkmkplhbaepaaGreatDoor
