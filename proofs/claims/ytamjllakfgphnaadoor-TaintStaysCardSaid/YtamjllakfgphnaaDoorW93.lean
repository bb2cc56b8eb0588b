/- Walks of layer 54: the law of origins that stay. -/
import Derived.Test.YtamjllakfgphnaaDoorW91
import Derived.Test.YtamjllakfgphnaaDoorQ3
namespace Go.Proofs.YtamjllakfgphnaaDoor
open Go.RowKit
set_option linter.unusedSimpArgs false
set_option linter.unusedVariables false
attribute [local go_sem ↓] Go.wp_at_zero Go.wp_at_succ
theorem Rd.take {e : TypeId} {w : World} {A : Option Addr} {n c s k : Nat} {xs : List Value} (h : Rd e w (.slice A n c) n xs) (hk : k ≤ n) (hs : xs.length = n * s) : Rd e w (.slice A k c) k (xs.take (k * s)) := by
  obtain ⟨A', c', hv, hc, hm, h0 | ⟨b, o, cs, fr, hA, hb, hx⟩⟩ := h
  · injection hv with e1 e2 e3
    subst e1 e3
    exact ⟨A, c, rfl, by omega, hm, .inl ⟨by omega, by simp [h0.2]⟩⟩
  · injection hv with e1 e2 e3
    subst e1 e3
    refine ⟨A, c, rfl, by omega, hm, .inr ⟨b, o, cs, fr, hA, hb, fun j u hj => hx j u ?_⟩⟩
    rw [List.getElem?_take] at hj
    split at hj
    · exact hj
    · cases hj
theorem rowC_tk {α β : Type} {f : α → β → List Value} {s : Nat} (hf : ∀ x u, (f x u).length = s) : ∀ {a : List α} {u : List β} {k : Nat}, u.length = a.length → k ≤ a.length → (rowC f a u).take (k * s) = rowC f (a.take k) (u.take k)
  | a, u, 0, _, _ => by cases a <;> simp [rowC]
  | [], u, k + 1, _, h => by simp at h
  | x :: a, [], k + 1, h, _ => by simp at h
  | x :: a, y :: u, k + 1, h, hk => by
    have ih := rowC_tk hf (a := a) (u := u) (k := k) (by simpa using h) (by simpa using hk)
    simp only [List.take_succ_cons, rowC]
    rw [← ih, List.take_append, hf, List.take_of_length_le (by rw [hf, Nat.succ_mul]; omega), show (k + 1) * s - s = k * s by rw [Nat.succ_mul]; omega]
theorem rowC_length {α β : Type} {f : α → β → List Value} {s : Nat} (hf : ∀ x u, (f x u).length = s) : ∀ {a : List α} {u : List β}, u.length = a.length → (rowC f a u).length = a.length * s
  | [], [], _ => by simp [rowC]
  | [], _ :: _, h => by simp at h
  | _ :: _, [], h => by simp at h
  | x :: a, y :: u, h => by
    simp only [rowC, List.length_append, hf, rowC_length hf (a := a) (u := u) (by simpa using h), List.length_cons, Nat.succ_mul]
    omega
theorem RowW.tk {α β : Type} {N : World → β → α → Prop} {w : World} {l : List α} {us : List β} (h : RowW N w l us) (k : Nat) : RowW N w (l.take k) (us.take k) :=
  ⟨by rw [List.length_take, List.length_take, h.1], fun i x v h1 h2 => by
    rw [List.getElem?_take] at h1 h2
    split at h1
    · rename_i hlt
      rw [if_pos hlt] at h2
      exact h.2 i x v h1 h2
    · cases h1⟩
theorem RdAc.take {w : World} {A : Option Addr} {c k : Nat} {l : List Ac} (h : RdAc w (.slice A l.length c) l) (hk : k ≤ l.length) : RdAc w (.slice A k c) (l.take k) := by
  obtain ⟨vs, h1, h2⟩ := h
  refine ⟨vs.take k, h1.tk k, ?_⟩
  have h3 := Rd.take (s := 6) h2 hk (rowC_length acC_len h1.1)
  rw [rowC_tk acC_len h1.1 hk] at h3
  have e : (l.take k).length = k := by rw [List.length_take]; omega
  rw [e]
  exact h3
theorem good_bld {b : B54} {n : Nat} (hg : Good b n) (k : Nat) (hk : k ≤ b.l.length) : bldR [] (b.l.take k) = 0 := bldR_all fun j hj => by
  rw [List.length_take] at hj
  rw [List.nil_append, List.take_take, List.getElem_take, Nat.min_eq_left (by omega)]
  exact hg.app j (by omega)
theorem A54At.up {B B' : Nat} {w : World} {v : Value} {l : List A54} (h : A54At B w v l) (hb : B ≤ B') : A54At B' w v l := by
  obtain ⟨⟨A, c, e, h1, h2, h3⟩, h4⟩ := h
  refine ⟨⟨A, c, e, h1, h2, ?_⟩, h4⟩
  rcases h3 with h3 | ⟨b, o, e2, h5, h6⟩
  · exact .inl h3
  · exact .inr ⟨b, o, e2, Nat.lt_of_lt_of_le h5 hb, h6⟩
set_option maxRecDepth 100000 in
set_option maxHeartbeats 4000000 in
theorem law_tstays {w : World} {v : Value} {l : List A54} (wh a : Int) (ix : Int) (h : A54At w.heap.size w v l) (hw0 : 0 ≤ wh) (hw1 : wh < 256) (hix : (Lit.int .u8 ix).wf = true) (hu : UseAt w) : Calls Tryd.prog 4 #[v, .agg #[.int .u8 wh, .int .i64 a], .int .u8 ix] w fun e w' => e = .returned (.bool true) ∧ Below w.heap.size w w' := by
  have ha := (Below.refl w.heap.size w).alloc (Nat.le_refl _) (.cells #[.int .u8 wh, .int .i64 a] 24)
  have hz : w.heap.size < (w.alloc (.cells #[.int .u8 wh, .int .i64 a] 24)).heap.size := by simp
  have zs := Blk.new w 24 #[.int .u8 wh, .int .i64 a]
  obtain ⟨A0, c0, rfl, hc0, hcm0⟩ := h.form
  have HA := Lib.hid ha
  have HAT := Lib.hid ((h.below ha).up (Nat.le_of_lt hz))
  have HU := Lib.hid (hu.below ha)
  have HVO := Lib.hid (W54_vok l)
  have ZS := Lib.hid zs
  clear ha hu h zs
  go_enter Tryd.func4, Tryd.ntmps4
  go_wp2_with fail
  go_at_call 5
  refine (build54_is HAT.out HU.out).mono ?_
  rintro e w2 ⟨pb, lv, gx, gg, F, B', rfl, hst, hac, hvx, hgx, hF, hb2⟩
  obtain ⟨A9, c9, rfl, hc9⟩ := RowRd.form hac
  have HW54 := Lib.hid (good_W l)
  have HLE := Lib.hid (show W54 l = (fold54 (l.take 20)).l from rfl)
  generalize W54 l = L at *
  have hal := (Below.refl w2.heap.size w2).alloc (Nat.le_refl _) (.cells #[.pointer pb, .slice A9 L.length c9, .pointer (some ⟨gx, 0, none⟩), .pointer (some ⟨gg, 0, none⟩)] 30)
  have zc := Blk.new w2 30 #[.pointer pb, .slice A9 L.length c9, .pointer (some ⟨gx, 0, none⟩), .pointer (some ⟨gg, 0, none⟩)]
  have hcb : w2.heap.size < (w2.alloc (.cells #[.pointer pb, .slice A9 L.length c9, .pointer (some ⟨gx, 0, none⟩), .pointer (some ⟨gg, 0, none⟩)] 30)).heap.size := by simp
  have HX := Lib.hid (hvx.next hal)
  have HG := Lib.hid (hgx.next hal)
  have HST := Lib.hid (hst.next hal)
  have HAC := Lib.hid (RdAc.next hac hal)
  have HB2 := Lib.hid (hb2.trans (hal.mono hb2.size))
  have HUX := Lib.hid ((HU.out.below hb2).below hal)
  have ZC := Lib.hid zc
  clear hal hb2 hst hac hvx hgx zc HAT HU
  go_wp2_with fail
  generalize w2.alloc (.cells #[.pointer pb, .slice A9 L.length c9, .pointer (some ⟨gx, 0, none⟩), .pointer (some ⟨gg, 0, none⟩)] 30) = W at *
  generalize w2.heap.size = cb at *
  have ZSW := Lib.hid (ZS.out.next HB2.out hz)
  generalize hsb : w.heap.size = sb at *
  have HSB := Lib.hid hsb
  clear hsb ZS
  go_at_call 6
  refine (known54_is HUX.out).mono ?_
  rintro e w3 ⟨rfl, hb3⟩
  have HB3 := Lib.hid (HB2.out.trans (hb3.mono HB2.out.size))
  replace HX := Lib.hid (HX.out.next hb3)
  replace HG := Lib.hid (HG.out.next hb3)
  replace HST := Lib.hid (HST.out.next hb3)
  replace HAC := Lib.hid (RdAc.next HAC.out hb3)
  replace HUX := Lib.hid (HUX.out.below hb3)
  replace ZSW := Lib.hid (ZSW.out.next hb3 ZSW.out.lt)
  replace ZC := Lib.hid (ZC.out.next hb3 hcb)
  replace hcb := ZC.out.lt
  have hsb := ZSW.out.lt
  have s0 := ZSW.out.cell 0
  have s1 := ZSW.out.cell 1
  have x0 := ZC.out.cell 0
  have x1 := ZC.out.cell 1
  have x2 := ZC.out.cell 2
  have x3 := ZC.out.cell 3
  simp only [List.getElem?_toArray, List.getElem?_cons_zero, List.getElem?_cons_succ] at s0 s1 x0 x1 x2 x3
  have HBW := Lib.hid (HA.out.trans (HB3.out.mono (Nat.le_of_lt hz)))
  have hnn := spN_own wh
  clear hb3 HB2 HB3 HA hz
  go_upto_region 4 with (fail)
  have hix2 : 0 ≤ ix ∧ ix < 256 := by
    simp only [Lit.wf, Bool.and_eq_true, decide_eq_true_eq] at hix
    have e1 : IntKind.min .u8 = 0 := by decide
    have e2 : IntKind.max .u8 = 255 := by decide
    rw [e1, e2] at hix
    exact ⟨hix.1, by omega⟩
  have hLL : L.length ≤ 20 := by
    have := HW54.out.len
    rw [← HLE.out] at this
    omega
  obtain ⟨k, hk⟩ : ∃ k : Nat, ix % ((L.length : Int) + 1) = (k : Int) := ⟨(ix % ((L.length : Int) + 1)).toNat, by have := Int.emod_nonneg ix (show (L.length : Int) + 1 ≠ 0 by omega); omega⟩
  have hkL : k ≤ L.length := by have := Int.emod_lt_of_pos ix (show (0 : Int) < (L.length : Int) + 1 by omega); omega
  have em : Int.tmod ix ((L.length : Int) + 1) = (k : Int) := by rw [Int.tmod_eq_emod_of_nonneg hix2.1]; exact hk
  have k1 : (0 : Int) ≤ (k : Int) := by omega
  have k2 : (k : Int) ≤ (L.length : Int) := by omega
  have ew : IntKind.i64.wrap (k : Int) = (k : Int) := IntWalk.i64_in _ (by omega)
  have ex0 := hix2.1
  have ex1 := hix2.2
  have hkc : k ≤ c9 := by omega
  have HARk := Lib.hid (show ∀ x ∈ L.take k, AcR x from fun x hx => HVO.out.r x (List.mem_of_mem_take hx))
  have HBK := Lib.hid (show bldR [] (L.take k) = 0 by
    have h1 := good_bld HW54.out k (by rw [← HLE.out]; exact hkL)
    rw [← HLE.out] at h1
    exact h1)
  have HVK : Hid (VOk (L.take k)) := Lib.hid ⟨fun x hx => HVO.out.ok x (List.mem_of_mem_take hx), HARk.out, by rw [List.length_take]; omega⟩
  have HS := Lib.hid (orgR_stays (s0 := base54) (n := spN wh) a hkL)
  have HLT := Lib.hid (fun h => orgR_lt (N := L.length) (vs := verL base54 L (spN wh)) (a := a) (k := k) h)
  obtain ⟨ro, re, hr⟩ : ∃ o e, orgR L.length (verL base54 L (spN wh)) a k = (o, e) := ⟨_, _, rfl⟩
  rw [hr] at HS HLT
  have HR := Lib.hid hr
  clear hr hk hix hix2
  go_upto_region 5 with (fail)
  refine wp_region_noPanic ?_
  refine wp_region_held_drew (S := (fun (w' : World) => w'.cell? ⟨cb, 0, none⟩ = some (.pointer pb) ∧ w'.cell? ⟨cb, 1, none⟩ = some (.slice A9 L.length c9))) (by kernel_rfl) ?_ (fun hHeld => ?_)
  · exact ⟨x0, x1⟩
  refine wpAnyH_take (i := 0) (v := ?_) rfl (by kernel_rfl) (by kernel_rfl) (by kernel_rfl) (fun _ _ _ h => h) (Or.inl ⟨by kernel_rfl, ?_⟩) hHeld ?_
  rotate_left
  · (intro w hSw; (try dsimp only at hSw); go_simp; try with_reducible rfl)
  try simp only [Act.put, List.setIfInBounds_toArray, List.set_cons_zero, List.set_cons_succ]
  refine wpAnyH_take (i := 1) (v := ?_) rfl (by kernel_rfl) (by kernel_rfl) (by kernel_rfl) (fun _ _ _ h => h) (Or.inl ⟨by kernel_rfl, ?_⟩) hHeld ?_
  rotate_left
  · (intro w hSw; (try dsimp only at hSw); go_simp; try with_reducible rfl)
  try simp only [Act.put, List.setIfInBounds_toArray, List.set_cons_zero, List.set_cons_succ]
  refine wpAnyH_take (i := 2) (v := ?_) rfl (by kernel_rfl) (by kernel_rfl) (by kernel_rfl) (fun _ _ _ h => h) (Or.inl ⟨by kernel_rfl, ?_⟩) hHeld ?_
  rotate_left
  · (intro w hSw; (try dsimp only at hSw); go_simp; try with_reducible rfl)
  try simp only [Act.put, List.setIfInBounds_toArray, List.set_cons_zero, List.set_cons_succ]
  refine wpAnyH_take (i := 3) (v := ?_) rfl (by kernel_rfl) (by kernel_rfl) (by kernel_rfl) (fun _ _ _ h => h) (Or.inl ⟨by kernel_rfl, ?_⟩) hHeld ?_
  rotate_left
  · (intro w hSw; (try dsimp only at hSw); go_simp; try with_reducible rfl)
  try simp only [Act.put, List.setIfInBounds_toArray, List.set_cons_zero, List.set_cons_succ]
  refine wpAnyH_take (i := 4) (v := ?_) rfl (by kernel_rfl) (by kernel_rfl) (by kernel_rfl) (fun _ _ _ h => h) (Or.inl ⟨by kernel_rfl, ?_⟩) hHeld ?_
  rotate_left
  · (intro w hSw; (try dsimp only at hSw); go_simp; try with_reducible rfl)
  try simp only [Act.put, List.setIfInBounds_toArray, List.set_cons_zero, List.set_cons_succ]
  refine wpAnyH_take (i := 5) (v := ?_) rfl (by kernel_rfl) (by kernel_rfl) (by kernel_rfl) (fun _ _ _ h => h) (Or.inl ⟨by kernel_rfl, ?_⟩) hHeld ?_
  rotate_left
  · (intro w hSw; (try dsimp only at hSw); go_simp; try with_reducible rfl)
  try simp only [Act.put, List.setIfInBounds_toArray, List.set_cons_zero, List.set_cons_succ]
  refine wpAnyH_ready (rs := [6]) (by kernel_rfl) (by simp) ?_
  refine AllReadyH.cons rfl (fun K hK => ?_) AllReadyH.nil
  go_simp
  refine (build_is (HST.out.next (Below.refl w3.heap.size w3).drew) (RdAc.take (RdAc.next HAC.out (Below.refl w3.heap.size w3).drew) hkL) (HUX.out.below (Below.refl w3.heap.size w3).drew) HARk.out base54_v (by rw [List.length_take]; omega)).mono ?_; rintro e w10 ⟨hb10', ⟨hok, gy, Fy, rfl, hvy, hFy⟩ | ⟨hbad, rfl⟩⟩; rotate_left; exact absurd HBK.out hbad; have hb10 := (Below.refl w3.heap.size w3).drew.trans hb10'; have HB10 := Lib.hid hb10; have HY := Lib.hid hvy; clear hb10' hvy hFy hok
  try (go_wp2_with fail)
  refine hK.out _ _ ?_ (fun hNew => ?_)
  · exact ⟨(hb10.cell (p := ⟨cb, 0, none⟩) hcb).trans x0, (hb10.cell (p := ⟨cb, 1, none⟩) hcb).trans x1⟩
  clear hK K hHeld
  have hHeld := hNew
  clear hNew
  try simp only [Act.put, List.setIfInBounds_toArray, List.set_cons_zero, List.set_cons_succ]
  refine wpAnyH_take (i := 7) (v := ?_) rfl (by kernel_rfl) (by kernel_rfl) (by kernel_rfl) (fun _ _ _ h => h) (Or.inl ⟨by kernel_rfl, ?_⟩) hHeld ?_
  rotate_left
  · (intro w hSw; (try dsimp only at hSw); go_simp; try with_reducible rfl)
  try simp only [Act.put, List.setIfInBounds_toArray, List.set_cons_zero, List.set_cons_succ]
  refine wpAnyH_take (i := 8) (v := ?_) rfl (by kernel_rfl) (by kernel_rfl) (by kernel_rfl) (fun _ _ _ h => h) (Or.inl ⟨by kernel_rfl, ?_⟩) hHeld ?_
  rotate_left
  · (intro w hSw; (try dsimp only at hSw); go_simp; try with_reducible rfl)
  try simp only [Act.put, List.setIfInBounds_toArray, List.set_cons_zero, List.set_cons_succ]
  refine wpAnyH_take (i := 9) (v := ?_) rfl (by kernel_rfl) (by kernel_rfl) (by kernel_rfl) (fun _ _ _ h => h) (Or.inl ⟨by kernel_rfl, ?_⟩) hHeld ?_
  rotate_left
  · (intro w hSw; (try dsimp only at hSw); go_simp; try with_reducible rfl)
  try simp only [Act.put, List.setIfInBounds_toArray, List.set_cons_zero, List.set_cons_succ]
  refine wpAnyH_take (i := 10) (v := ?_) rfl (by kernel_rfl) (by kernel_rfl) (by kernel_rfl) (fun _ _ _ h => h) (Or.inl ⟨by kernel_rfl, ?_⟩) hHeld ?_
  rotate_left
  · (intro w hSw; (try dsimp only at hSw); go_simp; try with_reducible rfl)
  try simp only [Act.put, List.setIfInBounds_toArray, List.set_cons_zero, List.set_cons_succ]
  refine wpAnyH_take (i := 11) (v := ?_) rfl (by kernel_rfl) (by kernel_rfl) (by kernel_rfl) (fun _ _ _ h => h) (Or.inl ⟨by kernel_rfl, ?_⟩) hHeld ?_
  rotate_left
  · (intro w hSw; (try dsimp only at hSw); go_simp; try with_reducible rfl)
  try simp only [Act.put, List.setIfInBounds_toArray, List.set_cons_zero, List.set_cons_succ]
  refine wpAnyH_done (by kernel_rfl) ?_ _
  clear hHeld
  try simp only [List.getElem_toArray, List.getElem_cons_zero, List.getElem_cons_succ, Act.put, List.setIfInBounds_toArray, List.set_cons_zero, List.set_cons_succ]
  refine NoPanic.normal ?_
  replace HBW := Lib.hid (HBW.out.trans (HB10.out.mono (by have := HBW.out.size; have := HSB.out; omega)))
  replace HX := Lib.hid (HX.out.next HB10.out)
  replace ZSW := Lib.hid (ZSW.out.next HB10.out hsb)
  replace ZC := Lib.hid (ZC.out.next HB10.out hcb)
  replace hcb := ZC.out.lt
  replace hsb := ZSW.out.lt
  replace s0 := ZSW.out.cell 0
  replace s1 := ZSW.out.cell 1
  replace x0 := ZC.out.cell 0
  replace x1 := ZC.out.cell 1
  replace x2 := ZC.out.cell 2
  replace x3 := ZC.out.cell 3
  simp only [List.getElem?_toArray, List.getElem?_cons_zero, List.getElem?_cons_succ] at s0 s1 x0 x1 x2 x3
  clear hb10 HB10 HST HAC HUX HG
  generalize w10 = W at *
  go_upto_region 6 with (fail)
  refine wp_region_noPanic ?_
  refine wp_region_held_drew (S := (fun (w' : World) => w'.cell? ⟨cb, 2, none⟩ = some (.pointer (some ⟨gx, 0, none⟩)) ∧ w'.cell? ⟨sb, 0, none⟩ = some (.int .u8 wh) ∧ w'.cell? ⟨sb, 1, none⟩ = some (.int .i64 a))) (by kernel_rfl) ?_ (fun hHeld => ?_)
  · exact ⟨x2, s0, s1⟩
  refine wpAnyH_take (i := 0) (v := ?_) rfl (by kernel_rfl) (by kernel_rfl) (by kernel_rfl) (fun _ _ _ h => h) (Or.inl ⟨by kernel_rfl, ?_⟩) hHeld ?_
  rotate_left
  · (intro w hSw; (try dsimp only at hSw); go_simp; try with_reducible rfl)
  try simp only [Act.put, List.setIfInBounds_toArray, List.set_cons_zero, List.set_cons_succ]
  refine wpAnyH_take (i := 1) (v := ?_) rfl (by kernel_rfl) (by kernel_rfl) (by kernel_rfl) (fun _ _ _ h => h) (Or.inl ⟨by kernel_rfl, ?_⟩) hHeld ?_
  rotate_left
  · (intro w hSw; (try dsimp only at hSw); go_simp; try with_reducible rfl)
  try simp only [Act.put, List.setIfInBounds_toArray, List.set_cons_zero, List.set_cons_succ]
  refine wpAnyH_take (i := 2) (v := ?_) rfl (by kernel_rfl) (by kernel_rfl) (by kernel_rfl) (fun _ _ _ h => h) (Or.inl ⟨by kernel_rfl, ?_⟩) hHeld ?_
  rotate_left
  · (intro w hSw; (try dsimp only at hSw); go_simp; try with_reducible rfl)
  try simp only [Act.put, List.setIfInBounds_toArray, List.set_cons_zero, List.set_cons_succ]
  refine wpAnyH_take (i := 4) (v := ?_) rfl (by kernel_rfl) (by kernel_rfl) (by kernel_rfl) (fun _ _ _ h => h) (Or.inl ⟨by kernel_rfl, ?_⟩) hHeld ?_
  rotate_left
  · (intro w hSw; (try dsimp only at hSw); go_simp; try with_reducible rfl)
  try simp only [Act.put, List.setIfInBounds_toArray, List.set_cons_zero, List.set_cons_succ]
  refine wpAnyH_ready (rs := [3]) (by kernel_rfl) (by simp) ?_
  refine AllReadyH.cons rfl (fun K hK => ?_) AllReadyH.nil
  go_simp
  refine (place_is W.drew wh a hw0 hw1).mono ?_; rintro e w9 ⟨rfl, hb9'⟩; have hb9 := (Below.refl W.heap.size W).drew.trans hb9'; have HB9 := Lib.hid hb9; clear hb9'
  try (go_wp2_with fail)
  refine hK.out _ _ ?_ (fun hNew => ?_)
  · exact ⟨(hb9.cell (p := ⟨cb, 2, none⟩) hcb).trans x2, (hb9.cell (p := ⟨sb, 0, none⟩) hsb).trans s0, (hb9.cell (p := ⟨sb, 1, none⟩) hsb).trans s1⟩
  clear hK K hHeld
  have hHeld := hNew
  clear hNew
  try simp only [Act.put, List.setIfInBounds_toArray, List.set_cons_zero, List.set_cons_succ]
  refine wpAnyH_ready (rs := [5]) (by kernel_rfl) (by simp) ?_
  refine AllReadyH.cons rfl (fun K hK => ?_) AllReadyH.nil
  go_simp
  refine (origin_is (n := spN wh) a (k : Int) (HX.out.next HB9.out) hnn HVO.out).mono ?_; rintro e w11 ⟨rfl, hb11⟩; rw [HR.out]; have HB11 := Lib.hid (HB9.out.trans (hb11.mono HB9.out.size)); clear hb11
  try (go_wp2_with fail)
  refine hK.out _ _ ?_ (fun hNew => ?_)
  · exact ⟨(HB11.out.cell (p := ⟨cb, 2, none⟩) hcb).trans x2, (HB11.out.cell (p := ⟨sb, 0, none⟩) hsb).trans s0, (HB11.out.cell (p := ⟨sb, 1, none⟩) hsb).trans s1⟩
  clear hK K hHeld
  have hHeld := hNew
  clear hNew
  try simp only [Act.put, List.setIfInBounds_toArray, List.set_cons_zero, List.set_cons_succ]
  refine wpAnyH_take (i := 6) (v := ?_) rfl (by kernel_rfl) (by kernel_rfl) (by kernel_rfl) (fun _ _ _ h => h) (Or.inl ⟨by kernel_rfl, ?_⟩) hHeld ?_
  rotate_left
  · (intro w hSw; (try dsimp only at hSw); go_simp; try with_reducible rfl)
  try simp only [Act.put, List.setIfInBounds_toArray, List.set_cons_zero, List.set_cons_succ]
  refine wpAnyH_take (i := 7) (v := ?_) rfl (by kernel_rfl) (by kernel_rfl) (by kernel_rfl) (fun _ _ _ h => h) (Or.inl ⟨by kernel_rfl, ?_⟩) hHeld ?_
  rotate_left
  · (intro w hSw; (try dsimp only at hSw); go_simp; try with_reducible rfl)
  try simp only [Act.put, List.setIfInBounds_toArray, List.set_cons_zero, List.set_cons_succ]
  refine wpAnyH_take (i := 8) (v := ?_) rfl (by kernel_rfl) (by kernel_rfl) (by kernel_rfl) (fun _ _ _ h => h) (Or.inl ⟨by kernel_rfl, ?_⟩) hHeld ?_
  rotate_left
  · (intro w hSw; (try dsimp only at hSw); go_simp; try with_reducible rfl)
  try simp only [Act.put, List.setIfInBounds_toArray, List.set_cons_zero, List.set_cons_succ]
  refine wpAnyH_take (i := 9) (v := ?_) rfl (by kernel_rfl) (by kernel_rfl) (by kernel_rfl) (fun _ _ _ h => h) (Or.inl ⟨by kernel_rfl, ?_⟩) hHeld ?_
  rotate_left
  · (intro w hSw; (try dsimp only at hSw); go_simp; try with_reducible rfl)
  try simp only [Act.put, List.setIfInBounds_toArray, List.set_cons_zero, List.set_cons_succ]
  refine wpAnyH_take (i := 10) (v := ?_) rfl (by kernel_rfl) (by kernel_rfl) (by kernel_rfl) (fun _ _ _ h => h) (Or.inl ⟨by kernel_rfl, ?_⟩) hHeld ?_
  rotate_left
  · (intro w hSw; (try dsimp only at hSw); go_simp; try with_reducible rfl)
  try simp only [Act.put, List.setIfInBounds_toArray, List.set_cons_zero, List.set_cons_succ]
  refine wpAnyH_done (by kernel_rfl) ?_ _
  clear hHeld
  try simp only [List.getElem_toArray, List.getElem_cons_zero, List.getElem_cons_succ, Act.put, List.setIfInBounds_toArray, List.set_cons_zero, List.set_cons_succ]
  refine NoPanic.normal ?_
  clear hb9 HB9
  replace HBW := Lib.hid (HBW.out.trans (HB11.out.mono (by have := HBW.out.size; have := HSB.out; omega)))
  replace HX := Lib.hid (HX.out.next HB11.out)
  replace HY := Lib.hid (HY.out.next HB11.out)
  replace ZSW := Lib.hid (ZSW.out.next HB11.out hsb)
  replace ZC := Lib.hid (ZC.out.next HB11.out hcb)
  replace hcb := ZC.out.lt
  replace hsb := ZSW.out.lt
  replace s0 := ZSW.out.cell 0
  replace s1 := ZSW.out.cell 1
  replace x0 := ZC.out.cell 0
  replace x1 := ZC.out.cell 1
  replace x2 := ZC.out.cell 2
  replace x3 := ZC.out.cell 3
  simp only [List.getElem?_toArray, List.getElem?_cons_zero, List.getElem?_cons_succ] at s0 s1 x0 x1 x2 x3
  clear HB11
  generalize w11 = W at *
  go_wp2_with fail
  go_at_call 8
  refine (place_is W wh a hw0 hw1).mono ?_
  rintro e w12 ⟨rfl, hb12⟩
  have HB12 := Lib.hid hb12
  have HY12 := Lib.hid (HY.out.next hb12)
  clear hb12
  go_wp2_with fail
  go_at_call 7
  refine (origin_is (n := spN wh) a (k : Int) HY12.out hnn HVK.out).mono ?_
  rintro e w13 ⟨rfl, hb13⟩
  rw [HS.out]
  have HB13 := Lib.hid (HB12.out.trans (hb13.mono HB12.out.size))
  clear hb13
  by_cases hre : re = 0
  · subst hre
    have t1 : decide (ro < (k : Int)) = true := decide_eq_true (HLT.out rfl)
    go_wp2_with fail
    go_ret
    exact ⟨rfl, by rw [HSB.out]; exact HBW.out.trans (HB13.out.mono (by have := HBW.out.size; have := HSB.out; omega))⟩
  · have t1 : (re != 0) = true := by rw [bne_iff_ne]; exact hre
    clear hre
    go_wp2_with fail
    go_ret
    exact ⟨rfl, by rw [HSB.out]; exact HBW.out.trans (HB13.out.mono (by have := HBW.out.size; have := HSB.out; omega))⟩
end Go.Proofs.YtamjllakfgphnaaDoor
