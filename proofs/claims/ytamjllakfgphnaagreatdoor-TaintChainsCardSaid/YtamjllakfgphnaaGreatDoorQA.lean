/- Walks of layer 46: versions: first, Len, Of. -/
import Derived.Test.YtamjllakfgphnaaGreatDoorGP
import Derived.Test.YtamjllakfgphnaaGreatDoorGB
namespace Go.Proofs.YtamjllakfgphnaaGreatDoor
open Go.RowKit
set_option linter.unusedSimpArgs false
set_option linter.unusedVariables false
attribute [local go_sem ↓] Go.wp_at_zero Go.wp_at_succ
/-- What the queries want of the actions. -/
structure VOk (l : List Ac) : Prop where
  ok : ∀ a ∈ l, okAc a = true
  r : ∀ a ∈ l, AcR a
  len : l.length ≤ 100
theorem VOk.inc {l : List Ac} (h : VOk l) (n : Nm) : Inc (vers n 0 l) := vers_inc n 0 l fun a ha => (ok_ch (h.ok a ha)).2
theorem VOk.vlen {l : List Ac} (h : VOk l) (n : Nm) : (vers n 0 l).length ≤ 1000 := by
  have := vers_len n 0 l fun a ha => (h.r a ha).2.2.2.2
  have := h.len
  omega
theorem VOk.rlen {l : List Ac} (h : VOk l) (n : Nm) : (rdrs n 0 l).length ≤ 1000 := by
  have := rdrs_len n 0 l fun a ha => (h.r a ha).2.2.2.1
  have := h.len
  omega
def VerP (v : Ver) (w : World) (e : Ending) (w' : World) : Prop := e = .returned (veV v) ∧ Below w.heap.size w w'
set_option maxRecDepth 100000 in
theorem first_is {w : World} {F : Nat → Prop} {g : Nat} {s0 : St} {l : List Ac} {n : Nm} (hv : VAt w F g s0 l) (hn : OwnE n) : Calls Tryz.prog 82 #[.pointer (some ⟨g, 0, none⟩), nmV n] w (VerP (ver0 s0 n) w) := by
  obtain ⟨pb, va, vk, pl, bw, br, hv⟩ := hv
  obtain ⟨B, rfl⟩ : ∃ B, pb = some ⟨B, 0, none⟩ := by obtain ⟨B, _, _, e, _⟩ := hv.base; exact ⟨B, e⟩
  have ha := ((Below.refl w.heap.size w).alloc (Nat.le_refl _) (.cells #[.int .i64 n.kind, .string (bs n.owner), .int .i64 n.num, .int .i64 n.idx, .string (bs n.text)] 26)).alloc (by simp) (.cells #[.int .i64 0, .string ⟨#[]⟩, .bool false] 68)
  have hz : w.heap.size < ((w.alloc (.cells #[.int .i64 n.kind, .string (bs n.owner), .int .i64 n.num, .int .i64 n.idx, .string (bs n.text)] 26)).alloc (.cells #[.int .i64 0, .string ⟨#[]⟩, .bool false] 68)).heap.size := by simp; omega
  have zb := (Blk.new w 26 #[.int .i64 n.kind, .string (bs n.owner), .int .i64 n.num, .int .i64 n.idx, .string (bs n.text)]).alloc (.cells #[.int .i64 0, .string ⟨#[]⟩, .bool false] 68)
  have rb := Blk.new (w.alloc (.cells #[.int .i64 n.kind, .string (bs n.owner), .int .i64 n.num, .int .i64 n.idx, .string (bs n.text)] 26)) 68 #[.int .i64 0, .string ⟨#[]⟩, .bool false]
  rw [World.size_alloc] at rb
  have VW := Lib.hid (hv.next ha)
  have HA := Lib.hid ha
  have HRB := Lib.hid rb
  have x0 := VW.out.blk.cell 0
  have x4 := VW.out.blk.cell 4
  have z0 := zb.cell 0
  have z1 := zb.cell 1
  have z2 := zb.cell 2
  have z3 := zb.cell 3
  have z4 := zb.cell 4
  simp only [List.getElem?_toArray, List.getElem?_cons_zero, List.getElem?_cons_succ] at x0 x4 z0 z1 z2 z3 z4
  clear hv ha zb rb
  obtain ⟨zz, hzz⟩ : ∃ z, look cmpN n s0 = z := ⟨_, rfl⟩
  have HZ := Lib.hid hzz
  clear hzz x4
  unfold ver0
  rw [HZ.out]
  go_enter Tryz.func82, Tryz.ntmps82
  simp only [nmV, nmA]
  go_upto_region 1 with (fail)
  generalize (w.alloc (.cells #[.int .i64 n.kind, .string (bs n.owner), .int .i64 n.num, .int .i64 n.idx, .string (bs n.text)] 26)).alloc (.cells #[.int .i64 0, .string ⟨#[]⟩, .bool false] 68) = W at *
  generalize hcb : w.heap.size = cb at *
  have HCB := Lib.hid hcb
  clear hcb
  refine wp_region_noPanic ?_
  refine wp_region_held_drew (S := (fun (w' : World) => w'.cell? ⟨g, 0, none⟩ = some (.pointer (some ⟨B, 0, none⟩)) ∧ w'.cell? ⟨cb, 0, none⟩ = some (.int .i64 n.kind) ∧ w'.cell? ⟨cb, 1, none⟩ = some (.string (bs n.owner)) ∧ w'.cell? ⟨cb, 2, none⟩ = some (.int .i64 n.num) ∧ w'.cell? ⟨cb, 3, none⟩ = some (.int .i64 n.idx) ∧ w'.cell? ⟨cb, 4, none⟩ = some (.string (bs n.text)))) (by kernel_rfl) ?_ (fun hHeld => ?_)
  · exact ⟨x0, z0, z1, z2, z3, z4⟩
  refine wpAnyH_take (i := 0) (v := ?_) rfl (by kernel_rfl) (by kernel_rfl) (by kernel_rfl) (fun _ _ _ h => h) (Or.inl ⟨by kernel_rfl, ?_⟩) hHeld ?_
  rotate_left
  · (intro w hSw; (try dsimp only at hSw); go_simp; try with_reducible rfl)
  try simp only [Act.put, List.setIfInBounds_toArray, List.set_cons_zero, List.set_cons_succ]
  refine wpAnyH_take (i := 1) (v := ?_) rfl (by kernel_rfl) (by kernel_rfl) (by kernel_rfl) (fun _ _ _ h => h) (Or.inl ⟨by kernel_rfl, ?_⟩) hHeld ?_
  rotate_left
  · (intro w hSw; (try dsimp only at hSw); go_simp; try with_reducible rfl)
  try simp only [Act.put, List.setIfInBounds_toArray, List.set_cons_zero, List.set_cons_succ]
  refine wpAnyH_take (i := 2) (v := ?_) rfl (by kernel_rfl) (by kernel_rfl) (by kernel_rfl) (fun _ _ _ h => h) (Or.inl ⟨by kernel_rfl, ?_⟩) hHeld ?_
  rotate_left
  · (intro w hSw; (try dsimp only at hSw); go_simp; try with_reducible rfl)
  try simp only [Act.put, List.setIfInBounds_toArray, List.set_cons_zero, List.set_cons_succ]
  refine wpAnyH_take (i := 3) (v := ?_) rfl (by kernel_rfl) (by kernel_rfl) (by kernel_rfl) (fun _ _ _ h => h) (Or.inl ⟨by kernel_rfl, ?_⟩) hHeld ?_
  rotate_left
  · (intro w hSw; (try dsimp only at hSw); go_simp; try with_reducible rfl)
  try simp only [Act.put, List.setIfInBounds_toArray, List.set_cons_zero, List.set_cons_succ]
  refine wpAnyH_take (i := 4) (v := ?_) rfl (by kernel_rfl) (by kernel_rfl) (by kernel_rfl) (fun _ _ _ h => h) (Or.inl ⟨by kernel_rfl, ?_⟩) hHeld ?_
  rotate_left
  · (intro w hSw; (try dsimp only at hSw); go_simp; try with_reducible rfl)
  try simp only [Act.put, List.setIfInBounds_toArray, List.set_cons_zero, List.set_cons_succ]
  refine wpAnyH_ready (rs := [5]) (by kernel_rfl) (by simp) ?_
  refine AllReadyH.cons rfl (fun K hK => ?_) AllReadyH.nil
  go_simp
  refine (get_is (n := n) (StAt.drew VW.out.base) hn).mono ?_; rintro e w2 ⟨rfl, hb2'⟩; have hb2 := (Below.refl W.heap.size W).drew.trans hb2'; have HB2 := Lib.hid hb2; (try rw [HZ.out]); clear hb2'
  try (go_wp2_with fail)
  refine hK.out _ _ ?_ (fun hNew => ?_)
  · exact ⟨(hb2.cell (p := ⟨g, 0, none⟩) VW.out.blk.lt).trans x0, (hb2.cell (p := ⟨cb, 0, none⟩) hz).trans z0, (hb2.cell (p := ⟨cb, 1, none⟩) hz).trans z1, (hb2.cell (p := ⟨cb, 2, none⟩) hz).trans z2, (hb2.cell (p := ⟨cb, 3, none⟩) hz).trans z3, (hb2.cell (p := ⟨cb, 4, none⟩) hz).trans z4⟩
  clear hK K hHeld
  have hHeld := hNew
  clear hNew
  try simp only [Act.put, List.setIfInBounds_toArray, List.set_cons_zero, List.set_cons_succ]
  refine wpAnyH_take (i := 6) (v := ?_) rfl (by kernel_rfl) (by kernel_rfl) (by kernel_rfl) (fun _ _ _ h => h) (Or.inl ⟨by kernel_rfl, ?_⟩) hHeld ?_
  rotate_left
  · (intro w hSw; (try dsimp only at hSw); go_simp; try with_reducible rfl)
  try simp only [Act.put, List.setIfInBounds_toArray, List.set_cons_zero, List.set_cons_succ]
  refine wpAnyH_take (i := 7) (v := ?_) rfl (by kernel_rfl) (by kernel_rfl) (by kernel_rfl) (fun _ _ _ h => h) (Or.inl ⟨by kernel_rfl, ?_⟩) hHeld ?_
  rotate_left
  · (intro w hSw; (try dsimp only at hSw); go_simp; try with_reducible rfl)
  try simp only [Act.put, List.setIfInBounds_toArray, List.set_cons_zero, List.set_cons_succ]
  refine wpAnyH_take (i := 8) (v := ?_) rfl (by kernel_rfl) (by kernel_rfl) (by kernel_rfl) (fun _ _ _ h => h) (Or.inl ⟨by kernel_rfl, ?_⟩) hHeld ?_
  rotate_left
  · (intro w hSw; (try dsimp only at hSw); go_simp; try with_reducible rfl)
  try simp only [Act.put, List.setIfInBounds_toArray, List.set_cons_zero, List.set_cons_succ]
  refine wpAnyH_take (i := 9) (v := ?_) rfl (by kernel_rfl) (by kernel_rfl) (by kernel_rfl) (fun _ _ _ h => h) (Or.inl ⟨by kernel_rfl, ?_⟩) hHeld ?_
  rotate_left
  · (intro w hSw; (try dsimp only at hSw); go_simp; try with_reducible rfl)
  try simp only [Act.put, List.setIfInBounds_toArray, List.set_cons_zero, List.set_cons_succ]
  refine wpAnyH_take (i := 10) (v := ?_) rfl (by kernel_rfl) (by kernel_rfl) (by kernel_rfl) (fun _ _ _ h => h) (Or.inl ⟨by kernel_rfl, ?_⟩) hHeld ?_
  rotate_left
  · (intro w hSw; (try dsimp only at hSw); go_simp; try with_reducible rfl)
  try simp only [Act.put, List.setIfInBounds_toArray, List.set_cons_zero, List.set_cons_succ]
  refine wpAnyH_done (by kernel_rfl) ?_ _
  clear hHeld
  try simp only [List.getElem_toArray, List.getElem_cons_zero, List.getElem_cons_succ, Act.put, List.setIfInBounds_toArray, List.set_cons_zero, List.set_cons_succ]
  refine NoPanic.normal ?_
  have r4 := HRB.out.next HB2.out HRB.out.lt
  have R4 := Lib.hid r4
  have q0 := r4.cell 0
  have q1 := r4.cell 1
  have q2 := r4.cell 2
  have f0 := r4.frozen 0
  have f1 := r4.frozen 1
  have f2 := r4.frozen 2
  simp only [List.getElem?_toArray, List.getElem?_cons_zero, List.getElem?_cons_succ] at q0 q1 q2
  clear r4 x0 z0 z1 z2 z3 z4
  have HBF := Lib.hid (HA.out.trans (HB2.out.mono (Nat.le_of_lt hz)))
  clear hb2
  cases zz with
  | none =>
    go_wp2_with fail
    exact bodyPost_ret (v := veV ⟨-1, [], true⟩) (by simp [results, Tryz.results82, go_sem, q0, q1, q2, veV, bs]) rfl ⟨rfl, by rw [HCB.out]; exact ((HBF.out.setCell (p := ⟨cb + 1, 0, none⟩) (by simp) _).setCell (p := ⟨cb + 1, 1, none⟩) (by simp) _).setCell (p := ⟨cb + 1, 2, none⟩) (by simp) _⟩
  | some x =>
    go_wp2_with fail
    exact bodyPost_ret (v := veV ⟨-1, x, false⟩) (by simp [results, Tryz.results82, go_sem, q0, q1, q2, veV]) rfl ⟨rfl, by rw [HCB.out]; exact ((HBF.out.setCell (p := ⟨cb + 1, 0, none⟩) (by simp) _).setCell (p := ⟨cb + 1, 1, none⟩) (by simp) _).setCell (p := ⟨cb + 1, 2, none⟩) (by simp) _⟩

theorem ve_one (l : List Ver) : ∀ u ∈ l.flatMap veC, u.oneCell' = true := by
  intro u hu
  obtain ⟨c, _, hc⟩ := List.mem_flatMap.1 hu
  simp only [veC, List.mem_cons, List.not_mem_nil, or_false] at hc
  rcases hc with rfl | rfl | rfl <;> rfl
theorem vlen_is {w : World} {F : Nat → Prop} {g : Nat} {s0 : St} {l : List Ac} (hv : VAt w F g s0 l) : Calls Tryz.prog 41 #[.pointer (some ⟨g, 0, none⟩)] w fun e w' => e = .returned (.int .i64 l.length) ∧ w = w' := by
  obtain ⟨pb, va, vk, pl, bw, br, hv⟩ := hv
  obtain ⟨B, rfl⟩ : ∃ B, pb = some ⟨B, 0, none⟩ := by obtain ⟨B, _, _, e, _⟩ := hv.base; exact ⟨B, e⟩
  obtain ⟨Aa, ca, rfl, hca⟩ : ∃ A c, va = .slice A l.length c ∧ l.length ≤ c := by obtain ⟨us, _, ho⟩ := hv.act; exact own_len ho
  have x0 := hv.blk.cell 0
  have x1 := hv.blk.cell 1
  simp only [List.getElem?_toArray, List.getElem?_cons_zero, List.getElem?_cons_succ] at x0 x1
  clear hv
  go_enter Tryz.func41, Tryz.ntmps41
  go_wp2_with (go_at_call 51; refine (none_is x0).mono ?_; rintro e w' ⟨rfl, rfl⟩)
  go_ret
  exact ⟨rfl, rfl⟩
/-- What Of answers. -/
def OfP (vs : List Ver) (w : World) (e : Ending) (w' : World) : Prop := ∃ v, e = .returned v ∧ OwnP 68 3 veC w' w.heap.size v vs ∧ Below w.heap.size w w'
set_option maxRecDepth 100000 in
theorem of_is {w : World} {F : Nat → Prop} {g : Nat} {s0 : St} {l : List Ac} {n : Nm} (hv : VAt w F g s0 l) (hn : OwnE n) (ho : VOk l) : Calls Tryz.prog 42 #[.pointer (some ⟨g, 0, none⟩), nmV n] w (OfP (verL s0 l n) w) := by
  have HFI := Lib.hid (fun (w' : World) (hb : Below w.heap.size w w') => first_is (n := n) (hv.next hb) hn)
  obtain ⟨pb, va, vk, pl, bw, br, hv⟩ := hv
  obtain ⟨B, rfl⟩ : ∃ B, pb = some ⟨B, 0, none⟩ := by obtain ⟨B, _, _, e, _⟩ := hv.base; exact ⟨B, e⟩
  have ha := (Below.refl w.heap.size w).alloc (Nat.le_refl _) (.cells #[.int .i64 n.kind, .string (bs n.owner), .int .i64 n.num, .int .i64 n.idx, .string (bs n.text)] 26)
  have hz : w.heap.size < (w.alloc (.cells #[.int .i64 n.kind, .string (bs n.owner), .int .i64 n.num, .int .i64 n.idx, .string (bs n.text)] 26)).heap.size := by simp
  have zb := Blk.new w 26 #[.int .i64 n.kind, .string (bs n.owner), .int .i64 n.num, .int .i64 n.idx, .string (bs n.text)]
  have VW := Lib.hid (hv.next ha)
  have HA := Lib.hid ha
  have x0 := VW.out.blk.cell 0
  have x4 := VW.out.blk.cell 4
  have z0 := zb.cell 0
  have z1 := zb.cell 1
  have z2 := zb.cell 2
  have z3 := zb.cell 3
  have z4 := zb.cell 4
  simp only [List.getElem?_toArray, List.getElem?_cons_zero, List.getElem?_cons_succ] at x0 x4 z0 z1 z2 z3 z4
  obtain ⟨ents, hm, hown⟩ := VW.out.wr.find n
  obtain ⟨A, c, hve, hc⟩ := own_len hown.1
  rw [hve] at hown
  have HM := Lib.hid hm
  have hvl := ho.vlen n
  have HVV := Lib.hid (show verL s0 l n = ver0 s0 n :: vers n 0 l from rfl)
  obtain ⟨vs, hvs⟩ : ∃ vs, vers n 0 l = vs := ⟨_, rfl⟩
  obtain ⟨vx, hvx⟩ : ∃ vx, ver0 s0 n = vx := ⟨_, rfl⟩
  rw [hvs, hvx] at HVV
  simp only [hvs] at hve hown hvl hc
  have HLK : Hid (∀ w', Below (w.alloc (.cells #[.int .i64 n.kind, .string (bs n.owner), .int .i64 n.num, .int .i64 n.idx, .string (bs n.text)] 26)).heap.size (w.alloc (.cells #[.int .i64 n.kind, .string (bs n.owner), .int .i64 n.num, .int .i64 n.idx, .string (bs n.text)] 26)) w' → (Instr.lookup 133 (.map (some bw)) (.agg #[.int .i64 n.kind, .string (bs n.owner), .int .i64 n.num, .int .i64 n.idx, .string (bs n.text)]) false).run Tryz.prog w' = .ok (.slice A vs.length c) w') := Lib.hid fun w' hb => by
    have := map_look (hm.next hb) n Tryz.underlying133 (zeroveC w')
    rw [hve] at this
    exact this
  have HRD := Lib.hid (show Rd 68 _ (.slice A vs.length c) vs.length (vs.flatMap veC) from Rd.of_own hown.1)
  have HVX := Lib.hid hvx
  clear hm hown hve hvs hvx ha zb hv
  obtain ⟨vi, vv, vb⟩ := vx
  obtain ⟨i0, hi, hz0, hz1, hz2⟩ := info_parts infoVe
  go_enter Tryz.func42, Tryz.ntmps42
  simp only [nmV, nmA]
  go_upto_region 3 with (go_at_call 51; refine (none_is x0).mono ?_; rintro e w' ⟨rfl, rfl⟩)
  generalize w.alloc (.cells #[.int .i64 n.kind, .string (bs n.owner), .int .i64 n.num, .int .i64 n.idx, .string (bs n.text)] 26) = W at *
  generalize hcb : w.heap.size = cb at *
  have HCB := Lib.hid hcb
  clear hcb x0
  refine wp_region_noPanic ?_
  refine wp_region_held_drew (S := (fun (w' : World) => w'.cell? ⟨g, 4, none⟩ = some (.map (some bw)) ∧ ((Instr.lookup 133 (.map (some bw)) (.agg #[.int .i64 n.kind, .string (bs n.owner), .int .i64 n.num, .int .i64 n.idx, .string (bs n.text)]) false).run Tryz.prog w' = .ok (.slice A vs.length c) w') ∧ w'.cell? ⟨cb, 0, none⟩ = some (.int .i64 n.kind) ∧ w'.cell? ⟨cb, 1, none⟩ = some (.string (bs n.owner)) ∧ w'.cell? ⟨cb, 2, none⟩ = some (.int .i64 n.num) ∧ w'.cell? ⟨cb, 3, none⟩ = some (.int .i64 n.idx) ∧ w'.cell? ⟨cb, 4, none⟩ = some (.string (bs n.text)))) (by kernel_rfl) ?_ (fun hHeld => ?_)
  · exact ⟨x4, HLK.out W.drew (Below.refl _ _).drew, z0, z1, z2, z3, z4⟩
  refine wpAnyH_take (i := 0) (v := ?_) rfl (by kernel_rfl) (by kernel_rfl) (by kernel_rfl) (fun _ _ _ h => h) (Or.inl ⟨by kernel_rfl, ?_⟩) hHeld ?_
  rotate_left
  · (intro w hSw; (try dsimp only at hSw); go_simp; try with_reducible rfl)
  try simp only [Act.put, List.setIfInBounds_toArray, List.set_cons_zero, List.set_cons_succ]
  refine wpAnyH_take (i := 1) (v := ?_) rfl (by kernel_rfl) (by kernel_rfl) (by kernel_rfl) (fun _ _ _ h => h) (Or.inl ⟨by kernel_rfl, ?_⟩) hHeld ?_
  rotate_left
  · (intro w hSw; (try dsimp only at hSw); go_simp; try with_reducible rfl)
  try simp only [Act.put, List.setIfInBounds_toArray, List.set_cons_zero, List.set_cons_succ]
  refine wpAnyH_take (i := 4) (v := ?_) rfl (by kernel_rfl) (by kernel_rfl) (by kernel_rfl) (fun _ _ _ h => h) (Or.inl ⟨by kernel_rfl, ?_⟩) hHeld ?_
  rotate_left
  · (intro w hSw; (try dsimp only at hSw); go_simp; try with_reducible rfl)
  try simp only [Act.put, List.setIfInBounds_toArray, List.set_cons_zero, List.set_cons_succ]
  refine wpAnyH_take (i := 5) (v := ?_) rfl (by kernel_rfl) (by kernel_rfl) (by kernel_rfl) (fun _ _ _ h => h) (Or.inl ⟨by kernel_rfl, ?_⟩) hHeld ?_
  rotate_left
  · (intro w hSw; (try dsimp only at hSw); go_simp; try with_reducible rfl)
  try simp only [Act.put, List.setIfInBounds_toArray, List.set_cons_zero, List.set_cons_succ]
  refine wpAnyH_take (i := 6) (v := ?_) rfl (by kernel_rfl) (by kernel_rfl) (by kernel_rfl) (fun _ _ _ h => h) (Or.inl ⟨by kernel_rfl, ?_⟩) hHeld ?_
  rotate_left
  · (intro w hSw; (try dsimp only at hSw); go_simp; try with_reducible rfl)
  try simp only [Act.put, List.setIfInBounds_toArray, List.set_cons_zero, List.set_cons_succ]
  refine wpAnyH_take (i := 7) (v := ?_) rfl (by kernel_rfl) (by kernel_rfl) (by kernel_rfl) (fun _ _ _ h => h) (Or.inl ⟨by kernel_rfl, ?_⟩) hHeld ?_
  rotate_left
  · (intro w hSw; (try dsimp only at hSw); go_simp; try with_reducible rfl)
  try simp only [Act.put, List.setIfInBounds_toArray, List.set_cons_zero, List.set_cons_succ]
  refine wpAnyH_take (i := 8) (v := ?_) rfl (by kernel_rfl) (by kernel_rfl) (by kernel_rfl) (fun _ _ _ h => h) (Or.inl ⟨by kernel_rfl, ?_⟩) hHeld ?_
  rotate_left
  · (intro w hSw; (try dsimp only at hSw); go_simp; try with_reducible rfl)
  try simp only [Act.put, List.setIfInBounds_toArray, List.set_cons_zero, List.set_cons_succ]
  refine wpAnyH_take (i := 9) (v := ?_) rfl (by kernel_rfl) (by kernel_rfl) (by kernel_rfl) (fun _ _ _ h => h) (Or.inl ⟨by kernel_rfl, ?_⟩) hHeld ?_
  rotate_left
  · (intro w hSw; (try dsimp only at hSw); go_simp; try with_reducible rfl)
  try simp only [Act.put, List.setIfInBounds_toArray, List.set_cons_zero, List.set_cons_succ]
  refine wpAnyH_ready (rs := [2]) (by kernel_rfl) (by simp) ?_
  refine AllReadyH.cons rfl (fun K hK => ?_) AllReadyH.nil
  go_simp
  refine (HFI.out W.drew (HA.out.trans ((Below.refl cb W).drew))).mono ?_; rintro e w2 ⟨rfl, hb2'⟩; rw [HVX.out]; have hb2 := (Below.refl W.heap.size W).drew.trans hb2'; have HB2 := Lib.hid hb2; have lk2 := HLK.out w2 hb2; simp only [veV]; clear hb2'
  try (go_wp2_with fail)
  refine hK.out _ _ ?_ (fun hNew => ?_)
  · exact ⟨(hb2.cell (p := ⟨g, 4, none⟩) VW.out.blk.lt).trans x4, lk2, (hb2.cell (p := ⟨cb, 0, none⟩) hz).trans z0, (hb2.cell (p := ⟨cb, 1, none⟩) hz).trans z1, (hb2.cell (p := ⟨cb, 2, none⟩) hz).trans z2, (hb2.cell (p := ⟨cb, 3, none⟩) hz).trans z3, (hb2.cell (p := ⟨cb, 4, none⟩) hz).trans z4⟩
  clear hK K hHeld
  have hHeld := hNew
  clear hNew
  try simp only [Act.put, List.setIfInBounds_toArray, List.set_cons_zero, List.set_cons_succ]
  refine wpAnyH_ready (rs := [3]) (by kernel_rfl) (by simp) ?_
  refine AllReadyH.cons rfl (fun K hK => ?_) AllReadyH.nil
  go_simp
  refine hK.out _ _ ?_ (fun hNew => ?_)
  · exact ⟨(World.cell?_alloc_lt w2 _ _ (Nat.lt_of_lt_of_le VW.out.blk.lt HB2.out.size)).trans ((HB2.out.cell (p := ⟨g, 4, none⟩) VW.out.blk.lt).trans x4), HLK.out _ (HB2.out.trans ((Below.refl _ _).alloc HB2.out.size _)), (World.cell?_alloc_lt w2 _ _ (Nat.lt_of_lt_of_le hz HB2.out.size)).trans ((HB2.out.cell (p := ⟨cb, 0, none⟩) hz).trans z0), (World.cell?_alloc_lt w2 _ _ (Nat.lt_of_lt_of_le hz HB2.out.size)).trans ((HB2.out.cell (p := ⟨cb, 1, none⟩) hz).trans z1), (World.cell?_alloc_lt w2 _ _ (Nat.lt_of_lt_of_le hz HB2.out.size)).trans ((HB2.out.cell (p := ⟨cb, 2, none⟩) hz).trans z2), (World.cell?_alloc_lt w2 _ _ (Nat.lt_of_lt_of_le hz HB2.out.size)).trans ((HB2.out.cell (p := ⟨cb, 3, none⟩) hz).trans z3), (World.cell?_alloc_lt w2 _ _ (Nat.lt_of_lt_of_le hz HB2.out.size)).trans ((HB2.out.cell (p := ⟨cb, 4, none⟩) hz).trans z4)⟩
  clear hK K hHeld
  have hHeld := hNew
  clear hNew
  try simp only [Act.put, List.setIfInBounds_toArray, List.set_cons_zero, List.set_cons_succ]
  refine wpAnyH_ready (rs := [10]) (by kernel_rfl) (by simp) ?_
  refine AllReadyH.cons rfl (fun K hK => ?_) AllReadyH.nil
  refine step_append_rd _ (by rfl) _ _ _ (by rfl) w2.heap.size 68 i0 _ 3 32 Tryz.underlying110 hi hz0 hz1 hz2 rfl (by omega) (.slice (some ⟨w2.heap.size, 0, none⟩) 1 1) 1 [.int .i64 vi, .string (bs vv), .bool vb] (by rfl) (own_new w2 w2.heap.size 68 3 [.int .i64 vi, .string (bs vv), .bool vb] rfl (Nat.le_refl _)) (.slice A vs.length c) vs.length (vs.flatMap veC) (by rfl) (Rd.next (Rd.next HRD.out HB2.out) ((Below.refl w2.heap.size w2).alloc (Nat.le_refl _) _)) (fm_len veC_len vs) (ve_one vs) (by unfold maxLen; omega) (by omega) (by simp) ?_; intro ao cap w5 hown5 hg5; have HOW5 := Lib.hid hown5; have HG5 := Lib.hid hg5; have hb5 : Below w2.heap.size w2 w5 := below_own ((Below.refl w2.heap.size w2).alloc (Nat.le_refl _) _) (own_new w2 w2.heap.size 68 3 [.int .i64 vi, .string (bs vv), .bool vb] rfl (Nat.le_refl _)) hg5 (Nat.le_refl _) (by simp); have HB5 := Lib.hid (HB2.out.trans (hb5.mono HB2.out.size)); clear hown5 hg5 hb5
  refine hK.out _ _ ?_ (fun hNew => ?_)
  · exact ⟨(HB5.out.cell (p := ⟨g, 4, none⟩) VW.out.blk.lt).trans x4, HLK.out w5 HB5.out, (HB5.out.cell (p := ⟨cb, 0, none⟩) hz).trans z0, (HB5.out.cell (p := ⟨cb, 1, none⟩) hz).trans z1, (HB5.out.cell (p := ⟨cb, 2, none⟩) hz).trans z2, (HB5.out.cell (p := ⟨cb, 3, none⟩) hz).trans z3, (HB5.out.cell (p := ⟨cb, 4, none⟩) hz).trans z4⟩
  clear hK K hHeld
  have hHeld := hNew
  clear hNew
  try simp only [Act.put, List.setIfInBounds_toArray, List.set_cons_zero, List.set_cons_succ]
  refine wpAnyH_take (i := 11) (v := ?_) rfl (by kernel_rfl) (by kernel_rfl) (by kernel_rfl) (fun _ _ _ h => h) (Or.inl ⟨by kernel_rfl, ?_⟩) hHeld ?_
  rotate_left
  · (intro w hSw; (try dsimp only at hSw); go_simp; try with_reducible rfl)
  try simp only [Act.put, List.setIfInBounds_toArray, List.set_cons_zero, List.set_cons_succ]
  refine wpAnyH_done (by kernel_rfl) ?_ _
  clear hHeld
  try simp only [List.getElem_toArray, List.getElem_cons_zero, List.getElem_cons_succ, Act.put, List.setIfInBounds_toArray, List.set_cons_zero, List.set_cons_succ]
  refine NoPanic.normal ?_
  go_wp2_with fail
  go_ret
  refine ⟨_, rfl, ?_, by rw [HCB.out]; exact HA.out.trans (HB5.out.mono (Nat.le_of_lt hz))⟩
  rw [HVV.out, HCB.out]
  have h5 := own_base HOW5.out (b0 := cb) (by have := HB2.out.size; omega)
  unfold OwnP
  rw [List.length_cons, Nat.add_comm vs.length 1, List.flatMap_cons]
  exact h5
end Go.Proofs.YtamjllakfgphnaaGreatDoor
