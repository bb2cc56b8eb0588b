/- Walks of layer 46: searching in the versions. -/
import Derived.Test.YtobkmkplhbaepaaDoorGP
import Derived.Test.YtobkmkplhbaepaaDoorGB
namespace Go.Proofs.YtobkmkplhbaepaaDoor
open Go.RowKit
set_option linter.unusedSimpArgs false
set_option linter.unusedVariables false
attribute [local go_sem ↓] Go.wp_at_zero Go.wp_at_succ
theorem by_idx (x : Ver) (t : Int) (w : World) : Calls Tryd.prog 66 #[veV x, .int .i64 t] w fun e w' => e = .returned (.int .i64 (cmpI x.idx t)) ∧ Below w.heap.size w w' := by
  obtain ⟨i, v, a⟩ := x
  go_enter Tryd.func66, Tryd.ntmps66
  simp only [veV]
  go_wp2_with (go_at_call 60; refine (cmp_i _ _ _).mono ?_; rintro e w' ⟨rfl, rfl⟩)
  go_ret
  exact ⟨rfl, (Below.refl _ _).alloc (Nat.le_refl _) _⟩
def BisRel (l : List Ver) (t : Int) (w : World) (i j : Value) (wr : World) : Prop := ∃ p q : Nat, i = .int .i64 p ∧ j = .int .i64 q ∧ Bis l t p q ∧ Below w.heap.size w wr
set_option maxRecDepth 100000 in
theorem bis_is {w : World} {v : Value} {l : List Ver} (t : Int) (h : RdVe w v l) (hi : Inc l) (hl : l.length ≤ 100000) : Calls Tryd.prog 65 #[v, .int .i64 t, .func (.func 66) #[] #[]] w
    fun e w' => (∃ b, e = .returned (.tuple #[.int .i64 (srch l t : Nat), .bool b])) ∧ Below w.heap.size w w' := by
  obtain ⟨A, c, rfl, hc⟩ := RdP.form h
  have HH := Lib.hid h
  have HI := Lib.hid hi
  have H0 : Hid (BisRel l t w (.int .i64 (0 : Nat)) (.int .i64 l.length) w) := Lib.hid ⟨0, l.length, rfl, rfl, Bis.start l t, Below.refl _ _⟩
  clear h hi
  go_enter Tryd.func65, Tryd.ntmps65
  go_wp2
  go_loopw [9, 10] (fun i j wr => BisRel l t w i j wr) (fun i j _ => (intOf j).toNat - (intOf i).toNat)
  case atStart => exact H0.out
  case round =>
    clear H0
    obtain ⟨p, q, rfl, rfl, hb, hw⟩ := hrel
    have HB := Lib.hid hb
    have HW := Lib.hid hw
    have hq : q ≤ l.length := hb.2.1
    have hpq : p ≤ q := hb.1
    clear hb hw
    by_cases hlt : p < q
    · obtain ⟨m, hm⟩ : ∃ m, (p + q) / 2 = m := ⟨_, rfl⟩
      have hml : m < l.length := by omega
      obtain ⟨b, o, hbe, hbw, y0, y1, y2⟩ := RdVe.piece (RdP.next HH.out HW.out) hml
      subst hbe
      obtain ⟨x, hx⟩ : ∃ x, l[m] = x := ⟨_, rfl⟩
      rw [hx] at y0 y1 y2
      have HX := Lib.hid hx
      have j1 : ((p : Int) + (q : Int)) / 2 = (m : Int) := by omega
      have j2 : (0 : Int) ≤ (m : Int) := by omega
      have j3 : (m : Int) < (l.length : Int) := by omega
      have j4 : (0 : Int) ≤ (p : Int) + (q : Int) := by omega
      have j5 : (p : Int) + (q : Int) ≤ 200000 := by omega
      have HM := Lib.hid hm
      have j6 : decide ((p : Int) < (q : Int)) = true := decide_eq_true (by omega)
      have j7 : decide (p < q) = true := decide_eq_true hlt
      obtain ⟨bq, hbq⟩ : ∃ bq, decide (cmpI x.idx t < 0) = bq := ⟨_, rfl⟩
      clear hx hm
      go_upto_region 5 with (fail)
      cases bq with
      | true =>
        go_wp2_with (go_at_call 66; refine (by_idx x t _).mono ?_; rintro e w2 ⟨rfl, hb2⟩; have HB2 := Lib.hid hb2; clear hb2)
        go_roundw
        case rel => exact ⟨m + 1, q, by go_num, rfl, Bis.up HI.out HB.out (by have := HM.out; omega) (by have := HM.out; omega) (by rw [HX.out]; exact cmpI_lt.1 (of_decide_eq_true hbq)), HW.out.trans (HB2.out.mono HW.out.size)⟩
        case measure => have := HM.out; simp [intOf]; omega
      | false =>
        go_wp2_with (go_at_call 66; refine (by_idx x t _).mono ?_; rintro e w2 ⟨rfl, hb2⟩; have HB2 := Lib.hid hb2; clear hb2)
        go_roundw
        case rel => exact ⟨p, m, rfl, rfl, Bis.down HI.out HB.out (by have := HM.out; omega) (by have := HM.out; omega) (by rw [HX.out]; have := of_decide_eq_false hbq; rw [cmpI_lt] at this; omega), HW.out.trans (HB2.out.mono HW.out.size)⟩
        case measure => have := HM.out; simp [intOf]; omega
    · have j6 : decide ((p : Int) < (q : Int)) = false := decide_eq_false (by omega)
      have j7 : decide (p < q) = false := decide_eq_false hlt
      have HD := Lib.hid (Bis.done HI.out HB.out hlt)
      have HLT := Lib.hid hlt
      clear hlt
      by_cases hp : p < l.length
      · obtain ⟨b, o, hbe, hbw, y0, y1, y2⟩ := RdVe.piece (RdP.next HH.out HW.out) hp
        subst hbe
        obtain ⟨x, hx⟩ : ∃ x, l[p] = x := ⟨_, rfl⟩
        rw [hx] at y0 y1 y2
        have j3 : (p : Int) < (l.length : Int) := by omega
        have j8 : decide ((p : Int) < (l.length : Int)) = true := decide_eq_true j3
        have j9 : decide (p < l.length) = true := decide_eq_true hp
        clear hx
        go_wp2_with (go_at_call 66; refine (by_idx x t _).mono ?_; rintro e w2 ⟨rfl, hb2⟩; have HB2 := Lib.hid hb2; clear hb2)
        go_ret2
        exact ⟨⟨_, by rw [← HD.out]; rfl⟩, HW.out.trans (HB2.out.mono HW.out.size)⟩
      · have j8 : decide ((p : Int) < (l.length : Int)) = false := decide_eq_false (by omega)
        have j9 : decide (p < l.length) = false := decide_eq_false hp
        go_wp2
        go_ret2
        exact ⟨⟨_, by rw [← HD.out]; rfl⟩, HW.out⟩
theorem search_is {w : World} {v : Value} {l : List Ver} (t : Int) (h : RdVe w v l) (hi : Inc l) (hl : l.length ≤ 100000) : Calls Tryd.prog 41 #[v, .int .i64 t] w fun e w' => e = .returned (.int .i64 (srch l t : Nat)) ∧ Below w.heap.size w w' := by
  have HB := Lib.hid (bis_is t h hi hl)
  clear h hi
  go_enter Tryd.func41, Tryd.ntmps41
  go_wp2_with (go_at_call 65; refine HB.out.mono ?_; rintro e w' ⟨⟨b, rfl⟩, hb⟩)
  go_ret
  exact ⟨rfl, hb⟩
end Go.Proofs.YtobkmkplhbaepaaDoor
/- Walks of layer 46: versions: first, found, Before. -/
namespace Go.Proofs.YtobkmkplhbaepaaDoor
open Go.RowKit
set_option linter.unusedSimpArgs false
set_option linter.unusedVariables false
attribute [local go_sem ↓] Go.wp_at_zero Go.wp_at_succ
/-- What the queries want of the actions. -/
structure VOk (l : List Ac) : Prop where
  ok : ∀ a ∈ l, okAc a = true
  r : ∀ a ∈ l, AcR a
  len : l.length ≤ 100
theorem VOk.inc {l : List Ac} (h : VOk l) (n : Nm) : Inc (vers n 0 l) := vers_inc n 0 l fun a ha => (ok_ch (h.ok a ha)).2
theorem VOk.vlen {l : List Ac} (h : VOk l) (n : Nm) : (vers n 0 l).length ≤ 1000 := by
  have := vers_len n 0 l fun a ha => (h.r a ha).2.2.2.2
  have := h.len
  omega
theorem VOk.rlen {l : List Ac} (h : VOk l) (n : Nm) : (rdrs n 0 l).length ≤ 1000 := by
  have := rdrs_len n 0 l fun a ha => (h.r a ha).2.2.2.1
  have := h.len
  omega
def VerP (v : Ver) (w : World) (e : Ending) (w' : World) : Prop := e = .returned (veV v) ∧ Below w.heap.size w w'
set_option maxRecDepth 100000 in
theorem first_is {w : World} {F : Nat → Prop} {g : Nat} {s0 : St} {l : List Ac} {n : Nm} (hv : VAt w F g s0 l) (hn : OwnE n) : Calls Tryd.prog 44 #[.pointer (some ⟨g, 0, none⟩), nmV n] w (VerP (ver0 s0 n) w) := by
  obtain ⟨pb, va, vk, pl, bw, br, hv⟩ := hv
  obtain ⟨B, rfl⟩ : ∃ B, pb = some ⟨B, 0, none⟩ := by obtain ⟨B, _, _, e, _⟩ := hv.base; exact ⟨B, e⟩
  have ha := ((Below.refl w.heap.size w).alloc (Nat.le_refl _) (.cells #[.int .i64 n.kind, .string (bs n.owner), .int .i64 n.num, .int .i64 n.idx, .string (bs n.text)] 40)).alloc (by simp) (.cells #[.int .i64 0, .string ⟨#[]⟩, .bool false] 54)
  have hz : w.heap.size < ((w.alloc (.cells #[.int .i64 n.kind, .string (bs n.owner), .int .i64 n.num, .int .i64 n.idx, .string (bs n.text)] 40)).alloc (.cells #[.int .i64 0, .string ⟨#[]⟩, .bool false] 54)).heap.size := by simp; omega
  have zb := (Blk.new w 40 #[.int .i64 n.kind, .string (bs n.owner), .int .i64 n.num, .int .i64 n.idx, .string (bs n.text)]).alloc (.cells #[.int .i64 0, .string ⟨#[]⟩, .bool false] 54)
  have rb := Blk.new (w.alloc (.cells #[.int .i64 n.kind, .string (bs n.owner), .int .i64 n.num, .int .i64 n.idx, .string (bs n.text)] 40)) 54 #[.int .i64 0, .string ⟨#[]⟩, .bool false]
  rw [World.size_alloc] at rb
  have VW := Lib.hid (hv.next ha)
  have HA := Lib.hid ha
  have HRB := Lib.hid rb
  have x0 := VW.out.blk.cell 0
  have x4 := VW.out.blk.cell 4
  have z0 := zb.cell 0
  have z1 := zb.cell 1
  have z2 := zb.cell 2
  have z3 := zb.cell 3
  have z4 := zb.cell 4
  simp only [List.getElem?_toArray, List.getElem?_cons_zero, List.getElem?_cons_succ] at x0 x4 z0 z1 z2 z3 z4
  clear hv ha zb rb
  obtain ⟨zz, hzz⟩ : ∃ z, look cmpN n s0 = z := ⟨_, rfl⟩
  have HZ := Lib.hid hzz
  clear hzz x4
  unfold ver0
  rw [HZ.out]
  go_enter Tryd.func44, Tryd.ntmps44
  simp only [nmV, nmA]
  go_upto_region 1 with (fail)
  generalize (w.alloc (.cells #[.int .i64 n.kind, .string (bs n.owner), .int .i64 n.num, .int .i64 n.idx, .string (bs n.text)] 40)).alloc (.cells #[.int .i64 0, .string ⟨#[]⟩, .bool false] 54) = W at *
  generalize hcb : w.heap.size = cb at *
  have HCB := Lib.hid hcb
  clear hcb
  refine wp_region_noPanic ?_
  refine wp_region_held_drew (S := (fun (w' : World) => w'.cell? ⟨g, 0, none⟩ = some (.pointer (some ⟨B, 0, none⟩)) ∧ w'.cell? ⟨cb, 0, none⟩ = some (.int .i64 n.kind) ∧ w'.cell? ⟨cb, 1, none⟩ = some (.string (bs n.owner)) ∧ w'.cell? ⟨cb, 2, none⟩ = some (.int .i64 n.num) ∧ w'.cell? ⟨cb, 3, none⟩ = some (.int .i64 n.idx) ∧ w'.cell? ⟨cb, 4, none⟩ = some (.string (bs n.text)))) (by kernel_rfl) ?_ (fun hHeld => ?_)
  · exact ⟨x0, z0, z1, z2, z3, z4⟩
  refine wpAnyH_take (i := 0) (v := ?_) rfl (by kernel_rfl) (by kernel_rfl) (by kernel_rfl) (fun _ _ _ h => h) (Or.inl ⟨by kernel_rfl, ?_⟩) hHeld ?_
  rotate_left
  · (intro w hSw; (try dsimp only at hSw); go_simp; try with_reducible rfl)
  try simp only [Act.put, List.setIfInBounds_toArray, List.set_cons_zero, List.set_cons_succ]
  refine wpAnyH_take (i := 1) (v := ?_) rfl (by kernel_rfl) (by kernel_rfl) (by kernel_rfl) (fun _ _ _ h => h) (Or.inl ⟨by kernel_rfl, ?_⟩) hHeld ?_
  rotate_left
  · (intro w hSw; (try dsimp only at hSw); go_simp; try with_reducible rfl)
  try simp only [Act.put, List.setIfInBounds_toArray, List.set_cons_zero, List.set_cons_succ]
  refine wpAnyH_take (i := 2) (v := ?_) rfl (by kernel_rfl) (by kernel_rfl) (by kernel_rfl) (fun _ _ _ h => h) (Or.inl ⟨by kernel_rfl, ?_⟩) hHeld ?_
  rotate_left
  · (intro w hSw; (try dsimp only at hSw); go_simp; try with_reducible rfl)
  try simp only [Act.put, List.setIfInBounds_toArray, List.set_cons_zero, List.set_cons_succ]
  refine wpAnyH_take (i := 3) (v := ?_) rfl (by kernel_rfl) (by kernel_rfl) (by kernel_rfl) (fun _ _ _ h => h) (Or.inl ⟨by kernel_rfl, ?_⟩) hHeld ?_
  rotate_left
  · (intro w hSw; (try dsimp only at hSw); go_simp; try with_reducible rfl)
  try simp only [Act.put, List.setIfInBounds_toArray, List.set_cons_zero, List.set_cons_succ]
  refine wpAnyH_take (i := 4) (v := ?_) rfl (by kernel_rfl) (by kernel_rfl) (by kernel_rfl) (fun _ _ _ h => h) (Or.inl ⟨by kernel_rfl, ?_⟩) hHeld ?_
  rotate_left
  · (intro w hSw; (try dsimp only at hSw); go_simp; try with_reducible rfl)
  try simp only [Act.put, List.setIfInBounds_toArray, List.set_cons_zero, List.set_cons_succ]
  refine wpAnyH_ready (rs := [5]) (by kernel_rfl) (by simp) ?_
  refine AllReadyH.cons rfl (fun K hK => ?_) AllReadyH.nil
  go_simp
  refine (get_is (n := n) (StAt.drew VW.out.base) hn).mono ?_; rintro e w2 ⟨rfl, hb2'⟩; have hb2 := (Below.refl W.heap.size W).drew.trans hb2'; have HB2 := Lib.hid hb2; (try rw [HZ.out]); clear hb2'
  try (go_wp2_with fail)
  refine hK.out _ _ ?_ (fun hNew => ?_)
  · exact ⟨(hb2.cell (p := ⟨g, 0, none⟩) VW.out.blk.lt).trans x0, (hb2.cell (p := ⟨cb, 0, none⟩) hz).trans z0, (hb2.cell (p := ⟨cb, 1, none⟩) hz).trans z1, (hb2.cell (p := ⟨cb, 2, none⟩) hz).trans z2, (hb2.cell (p := ⟨cb, 3, none⟩) hz).trans z3, (hb2.cell (p := ⟨cb, 4, none⟩) hz).trans z4⟩
  clear hK K hHeld
  have hHeld := hNew
  clear hNew
  try simp only [Act.put, List.setIfInBounds_toArray, List.set_cons_zero, List.set_cons_succ]
  refine wpAnyH_take (i := 6) (v := ?_) rfl (by kernel_rfl) (by kernel_rfl) (by kernel_rfl) (fun _ _ _ h => h) (Or.inl ⟨by kernel_rfl, ?_⟩) hHeld ?_
  rotate_left
  · (intro w hSw; (try dsimp only at hSw); go_simp; try with_reducible rfl)
  try simp only [Act.put, List.setIfInBounds_toArray, List.set_cons_zero, List.set_cons_succ]
  refine wpAnyH_take (i := 7) (v := ?_) rfl (by kernel_rfl) (by kernel_rfl) (by kernel_rfl) (fun _ _ _ h => h) (Or.inl ⟨by kernel_rfl, ?_⟩) hHeld ?_
  rotate_left
  · (intro w hSw; (try dsimp only at hSw); go_simp; try with_reducible rfl)
  try simp only [Act.put, List.setIfInBounds_toArray, List.set_cons_zero, List.set_cons_succ]
  refine wpAnyH_take (i := 8) (v := ?_) rfl (by kernel_rfl) (by kernel_rfl) (by kernel_rfl) (fun _ _ _ h => h) (Or.inl ⟨by kernel_rfl, ?_⟩) hHeld ?_
  rotate_left
  · (intro w hSw; (try dsimp only at hSw); go_simp; try with_reducible rfl)
  try simp only [Act.put, List.setIfInBounds_toArray, List.set_cons_zero, List.set_cons_succ]
  refine wpAnyH_take (i := 9) (v := ?_) rfl (by kernel_rfl) (by kernel_rfl) (by kernel_rfl) (fun _ _ _ h => h) (Or.inl ⟨by kernel_rfl, ?_⟩) hHeld ?_
  rotate_left
  · (intro w hSw; (try dsimp only at hSw); go_simp; try with_reducible rfl)
  try simp only [Act.put, List.setIfInBounds_toArray, List.set_cons_zero, List.set_cons_succ]
  refine wpAnyH_take (i := 10) (v := ?_) rfl (by kernel_rfl) (by kernel_rfl) (by kernel_rfl) (fun _ _ _ h => h) (Or.inl ⟨by kernel_rfl, ?_⟩) hHeld ?_
  rotate_left
  · (intro w hSw; (try dsimp only at hSw); go_simp; try with_reducible rfl)
  try simp only [Act.put, List.setIfInBounds_toArray, List.set_cons_zero, List.set_cons_succ]
  refine wpAnyH_done (by kernel_rfl) ?_ _
  clear hHeld
  try simp only [List.getElem_toArray, List.getElem_cons_zero, List.getElem_cons_succ, Act.put, List.setIfInBounds_toArray, List.set_cons_zero, List.set_cons_succ]
  refine NoPanic.normal ?_
  have r4 := HRB.out.next HB2.out HRB.out.lt
  have R4 := Lib.hid r4
  have q0 := r4.cell 0
  have q1 := r4.cell 1
  have q2 := r4.cell 2
  have f0 := r4.frozen 0
  have f1 := r4.frozen 1
  have f2 := r4.frozen 2
  simp only [List.getElem?_toArray, List.getElem?_cons_zero, List.getElem?_cons_succ] at q0 q1 q2
  clear r4 x0 z0 z1 z2 z3 z4
  have HBF := Lib.hid (HA.out.trans (HB2.out.mono (Nat.le_of_lt hz)))
  clear hb2
  cases zz with
  | none =>
    go_wp2_with fail
    exact bodyPost_ret (v := veV ⟨-1, [], true⟩) (by simp [results, Tryd.results44, go_sem, q0, q1, q2, veV, bs]) rfl ⟨rfl, by rw [HCB.out]; exact ((HBF.out.setCell (p := ⟨cb + 1, 0, none⟩) (by simp) _).setCell (p := ⟨cb + 1, 1, none⟩) (by simp) _).setCell (p := ⟨cb + 1, 2, none⟩) (by simp) _⟩
  | some x =>
    go_wp2_with fail
    exact bodyPost_ret (v := veV ⟨-1, x, false⟩) (by simp [results, Tryd.results44, go_sem, q0, q1, q2, veV]) rfl ⟨rfl, by rw [HCB.out]; exact ((HBF.out.setCell (p := ⟨cb + 1, 0, none⟩) (by simp) _).setCell (p := ⟨cb + 1, 1, none⟩) (by simp) _).setCell (p := ⟨cb + 1, 2, none⟩) (by simp) _⟩

set_option maxRecDepth 100000 in
theorem found_is {w : World} {F : Nat → Prop} {g : Nat} {s0 : St} {l : List Ac} {n : Nm} (t : Int) (hv : VAt w F g s0 l) (hn : OwnE n) (ho : VOk l) : Calls Tryd.prog 43 #[.pointer (some ⟨g, 0, none⟩), nmV n, .int .i64 t] w (VerP (befr t (ver0 s0 n) (vers n 0 l)) w) := by
  have HFI := Lib.hid (fun (w' : World) (hb : Below w.heap.size w w') => first_is (n := n) (hv.next hb) hn)
  obtain ⟨pb, va, vk, pl, bw, br, hv⟩ := hv
  obtain ⟨B, rfl⟩ : ∃ B, pb = some ⟨B, 0, none⟩ := by obtain ⟨B, _, _, e, _⟩ := hv.base; exact ⟨B, e⟩
  have ha := ((Below.refl w.heap.size w).alloc (Nat.le_refl _) (.cells #[.int .i64 n.kind, .string (bs n.owner), .int .i64 n.num, .int .i64 n.idx, .string (bs n.text)] 40)).alloc (by simp) (.cells #[.int .i64 0, .string ⟨#[]⟩, .bool false] 54)
  have hz : w.heap.size < ((w.alloc (.cells #[.int .i64 n.kind, .string (bs n.owner), .int .i64 n.num, .int .i64 n.idx, .string (bs n.text)] 40)).alloc (.cells #[.int .i64 0, .string ⟨#[]⟩, .bool false] 54)).heap.size := by simp; omega
  have zb := (Blk.new w 40 #[.int .i64 n.kind, .string (bs n.owner), .int .i64 n.num, .int .i64 n.idx, .string (bs n.text)]).alloc (.cells #[.int .i64 0, .string ⟨#[]⟩, .bool false] 54)
  have rb := Blk.new (w.alloc (.cells #[.int .i64 n.kind, .string (bs n.owner), .int .i64 n.num, .int .i64 n.idx, .string (bs n.text)] 40)) 54 #[.int .i64 0, .string ⟨#[]⟩, .bool false]
  rw [World.size_alloc] at rb
  have VW := Lib.hid (hv.next ha)
  have HA := Lib.hid ha
  have HRB := Lib.hid rb
  have x0 := VW.out.blk.cell 0
  have x4 := VW.out.blk.cell 4
  have z0 := zb.cell 0
  have z1 := zb.cell 1
  have z2 := zb.cell 2
  have z3 := zb.cell 3
  have z4 := zb.cell 4
  simp only [List.getElem?_toArray, List.getElem?_cons_zero, List.getElem?_cons_succ] at x0 x4 z0 z1 z2 z3 z4
  clear hv ha zb rb
  obtain ⟨ents, hm, hown⟩ := VW.out.wr.find n
  (try simp only at hown)
  obtain ⟨A, c, hve, hc⟩ := own_len hown.1
  rw [hve] at hown
  have HM := Lib.hid hm
  have HVE := Lib.hid hve
  have HRD := Lib.hid (show RdVe _ (.slice A (vers n 0 l).length c) (vers n 0 l) from Rd.of_own hown.1)
  have HINC := Lib.hid (ho.inc n)
  have hvl := ho.vlen n
  have HFE := Lib.hid (found_eq (ver0 s0 n) (ho.inc n) t)
  obtain ⟨vs, hvs⟩ : ∃ vs, vers n 0 l = vs := ⟨_, rfl⟩
  rw [hvs] at HRD HINC hvl HFE HVE hc
  have HVS := Lib.hid hvs
  rw [HVS.out]
  clear hm hown hve hvs x0
  go_enter Tryd.func43, Tryd.ntmps43
  simp only [nmV, nmA]
  go_upto_region 1 with (fail)
  generalize (w.alloc (.cells #[.int .i64 n.kind, .string (bs n.owner), .int .i64 n.num, .int .i64 n.idx, .string (bs n.text)] 40)).alloc (.cells #[.int .i64 0, .string ⟨#[]⟩, .bool false] 54) = W at *
  generalize hcb : w.heap.size = cb at *
  have HCB := Lib.hid hcb
  clear hcb
  refine wp_region_noPanic ?_
  refine wp_region_held_drew (S := (fun (w' : World) => w'.cell? ⟨g, 4, none⟩ = some (.map (some bw)) ∧ w'.cell? ⟨cb, 0, none⟩ = some (.int .i64 n.kind) ∧ w'.cell? ⟨cb, 1, none⟩ = some (.string (bs n.owner)) ∧ w'.cell? ⟨cb, 2, none⟩ = some (.int .i64 n.num) ∧ w'.cell? ⟨cb, 3, none⟩ = some (.int .i64 n.idx) ∧ w'.cell? ⟨cb, 4, none⟩ = some (.string (bs n.text)))) (by kernel_rfl) ?_ (fun hHeld => ?_)
  · exact ⟨x4, z0, z1, z2, z3, z4⟩
  refine wpAnyH_take (i := 0) (v := ?_) rfl (by kernel_rfl) (by kernel_rfl) (by kernel_rfl) (fun _ _ _ h => h) (Or.inl ⟨by kernel_rfl, ?_⟩) hHeld ?_
  rotate_left
  · (intro w hSw; (try dsimp only at hSw); go_simp; try with_reducible rfl)
  try simp only [Act.put, List.setIfInBounds_toArray, List.set_cons_zero, List.set_cons_succ]
  refine wpAnyH_take (i := 1) (v := ?_) rfl (by kernel_rfl) (by kernel_rfl) (by kernel_rfl) (fun _ _ _ h => h) (Or.inl ⟨by kernel_rfl, ?_⟩) hHeld ?_
  rotate_left
  · (intro w hSw; (try dsimp only at hSw); go_simp; try with_reducible rfl)
  try simp only [Act.put, List.setIfInBounds_toArray, List.set_cons_zero, List.set_cons_succ]
  refine wpAnyH_take (i := 2) (v := ?_) rfl (by kernel_rfl) (by kernel_rfl) (by kernel_rfl) (fun _ _ _ h => h) (Or.inl ⟨by kernel_rfl, ?_⟩) hHeld ?_
  rotate_left
  · (intro w hSw; (try dsimp only at hSw); go_simp; try with_reducible rfl)
  try simp only [Act.put, List.setIfInBounds_toArray, List.set_cons_zero, List.set_cons_succ]
  refine wpAnyH_take (i := 3) (v := ?_) rfl (by kernel_rfl) (by kernel_rfl) (by kernel_rfl) (fun _ _ _ h => h) (Or.inl ⟨by kernel_rfl, ?_⟩) hHeld ?_
  rotate_left
  · (intro w hSw; (try dsimp only at hSw); go_simp; try with_reducible rfl)
  try simp only [Act.put, List.setIfInBounds_toArray, List.set_cons_zero, List.set_cons_succ]
  refine wpAnyH_take (i := 4) (v := ?_) rfl (by kernel_rfl) (by kernel_rfl) (by kernel_rfl) (fun _ _ _ h => h) (Or.inl ⟨by kernel_rfl, ?_⟩) hHeld ?_
  rotate_left
  · (intro w hSw; (try dsimp only at hSw); go_simp; try with_reducible rfl)
  try simp only [Act.put, List.setIfInBounds_toArray, List.set_cons_zero, List.set_cons_succ]
  refine wpAnyH_ready (rs := [5]) (by kernel_rfl) (by simp) ?_
  refine AllReadyH.cons rfl (fun K hK => ?_) AllReadyH.nil
  refine step_look_nm _ (by rfl) _ _ 79 (by rfl) Tryd.underlying79 (zeroveC _) bw ents (by rfl) (show MapAt W.drew bw ents from HM.out) n (by rfl) ?_; rw [HVE.out]
  refine hK.out _ _ ?_ (fun hNew => ?_)
  · exact ⟨x4, z0, z1, z2, z3, z4⟩
  clear hK K hHeld
  have hHeld := hNew
  clear hNew
  try simp only [Act.put, List.setIfInBounds_toArray, List.set_cons_zero, List.set_cons_succ]
  refine wpAnyH_take (i := 6) (v := ?_) rfl (by kernel_rfl) (by kernel_rfl) (by kernel_rfl) (fun _ _ _ h => h) (Or.inl ⟨by kernel_rfl, ?_⟩) hHeld ?_
  rotate_left
  · (intro w hSw; (try dsimp only at hSw); go_simp; try with_reducible rfl)
  try simp only [Act.put, List.setIfInBounds_toArray, List.set_cons_zero, List.set_cons_succ]
  refine wpAnyH_done (by kernel_rfl) ?_ _
  clear hHeld
  try simp only [List.getElem_toArray, List.getElem_cons_zero, List.getElem_cons_succ, Act.put, List.setIfInBounds_toArray, List.set_cons_zero, List.set_cons_succ]
  refine NoPanic.normal ?_
  have hsz := Nat.le_of_lt hz
  go_wp2_with fail
  refine (search_is t (RdP.drew HRD.out) HINC.out (by omega)).mono ?_
  rintro e w2 ⟨rfl, hb2'⟩
  have hb2 := (Below.refl W.heap.size W).drew.trans hb2'
  have r4 := HRB.out.next hb2 HRB.out.lt
  have R4 := Lib.hid r4
  have q0 := r4.cell 0
  have q1 := r4.cell 1
  have q2 := r4.cell 2
  have f0 := r4.frozen 0
  have f1 := r4.frozen 1
  have f2 := r4.frozen 2
  simp only [List.getElem?_toArray, List.getElem?_cons_zero, List.getElem?_cons_succ] at q0 q1 q2
  have HB2 := Lib.hid hb2
  have y0 := (hb2.cell (p := ⟨cb, 0, none⟩) hz).trans z0
  have y1 := (hb2.cell (p := ⟨cb, 1, none⟩) hz).trans z1
  have y2 := (hb2.cell (p := ⟨cb, 2, none⟩) hz).trans z2
  have y3 := (hb2.cell (p := ⟨cb, 3, none⟩) hz).trans z3
  have y4 := (hb2.cell (p := ⟨cb, 4, none⟩) hz).trans z4
  have HR2 := Lib.hid (RdP.next HRD.out hb2)
  have hr2 : cb + 1 < w2.heap.size := Nat.lt_of_lt_of_le HRB.out.lt hb2.size
  have HBF := Lib.hid (HA.out.trans (HB2.out.mono (Nat.le_of_lt hz)))
  have hsl := srch_le vs t
  obtain ⟨k, hk⟩ : ∃ k, srch vs t = k := ⟨_, rfl⟩
  rw [hk] at hsl HFE
  have HK := Lib.hid hk
  rw [hk]
  clear x4 z0 z1 z2 z3 z4 hb2 hb2' r4 hk
  rcases Nat.eq_zero_or_pos k with hz0 | hz0
  · have g0 : decide ((0 : Int) < (k : Int)) = false := decide_eq_false (by omega)
    have gn : decide (0 < k) = false := decide_eq_false (by omega)
    have HE := Lib.hid (HFE.out.trans (if_neg (by omega)))
    have HZ0 := Lib.hid hz0
    clear hz0
    rw [HE.out]
    go_wp2_with fail
    refine (HFI.out _ HBF.out).mono ?_
    rintro e w3 ⟨rfl, hb3⟩
    have r5 := R4.out.next hb3 R4.out.lt
    have R5 := Lib.hid r5
    have p0 := r5.cell 0
    have p1 := r5.cell 1
    have p2 := r5.cell 2
    have h0 := r5.frozen 0
    have h1 := r5.frozen 1
    have h2 := r5.frozen 2
    simp only [List.getElem?_toArray, List.getElem?_cons_zero, List.getElem?_cons_succ] at p0 p1 p2
    have HB3 := Lib.hid (HBF.out.trans (hb3.mono (by omega)))
    clear r5 hb3 q0 q1 q2 f0 f1 f2 y0 y1 y2 y3 y4
    obtain ⟨vx, hvx⟩ : ∃ vx, ver0 s0 n = vx := ⟨_, rfl⟩
    rw [hvx]
    have HVX := Lib.hid hvx
    clear hvx
    obtain ⟨vi, vv, vb⟩ := vx
    simp only [veV]
    go_wp2_with fail
    exact bodyPost_ret (v := veV ⟨vi, vv, vb⟩) (by simp [results, Tryd.results43, go_sem, p0, p1, p2, veV]) rfl ⟨by rw [HE.out, HVX.out], by rw [HCB.out]; exact ((HB3.out.setCell (p := ⟨cb + 1, 0, none⟩) (by simp) _).setCell (p := ⟨cb + 1, 1, none⟩) (by simp) _).setCell (p := ⟨cb + 1, 2, none⟩) (by simp) _⟩
  · obtain ⟨m, hm⟩ : ∃ m, k = m + 1 := ⟨k - 1, by omega⟩
    have g0 : decide ((0 : Int) < (k : Int)) = true := decide_eq_true (by omega)
    have gn : decide (0 < k) = true := decide_eq_true hz0
    have hml : m < vs.length := by omega
    obtain ⟨b, o, hbe, hbw, u0, u1, u2⟩ := RdVe.piece HR2.out hml
    subst hbe
    have HE := Lib.hid (HFE.out.trans (if_pos hz0))
    have HE2 : Hid (befr t (ver0 s0 n) vs = vs[m]) := Lib.hid (by rw [HE.out, show k - 1 = m by omega, List.getD_eq_getElem?_getD, List.getElem?_eq_getElem hml]; rfl)
    obtain ⟨x, hx⟩ : ∃ x, vs[m] = x := ⟨_, rfl⟩
    rw [hx] at u0 u1 u2 HE2
    have g1 : (k : Int) - 1 = (m : Int) := by omega
    have g2 : IntKind.i64.wrap (m : Int) = (m : Int) := IntWalk.i64_in _ (by omega)
    have j1 : (0 : Int) ≤ (m : Int) := by omega
    have j2 : (m : Int) < (vs.length : Int) := by omega
    have HMM := Lib.hid hm
    clear hm hx
    rw [HE2.out]
    go_wp2_with fail
    exact bodyPost_ret (v := veV x) (by simp [results, Tryd.results43, go_sem, q0, q1, q2, veV]) rfl ⟨by rw [HE2.out], by rw [HCB.out]; exact ((HBF.out.setCell (p := ⟨cb + 1, 0, none⟩) (by simp) _).setCell (p := ⟨cb + 1, 1, none⟩) (by simp) _).setCell (p := ⟨cb + 1, 2, none⟩) (by simp) _⟩

end Go.Proofs.YtobkmkplhbaepaaDoor
/- Walks of layer 46: versions: Len, Before, Of. -/
namespace Go.Proofs.YtobkmkplhbaepaaDoor
open Go.RowKit
set_option linter.unusedSimpArgs false
set_option linter.unusedVariables false
attribute [local go_sem ↓] Go.wp_at_zero Go.wp_at_succ
theorem ve_one (l : List Ver) : ∀ u ∈ l.flatMap veC, u.oneCell' = true := by
  intro u hu
  obtain ⟨c, _, hc⟩ := List.mem_flatMap.1 hu
  simp only [veC, List.mem_cons, List.not_mem_nil, or_false] at hc
  rcases hc with rfl | rfl | rfl <;> rfl
theorem vlen_is {w : World} {F : Nat → Prop} {g : Nat} {s0 : St} {l : List Ac} (hv : VAt w F g s0 l) : Calls Tryd.prog 21 #[.pointer (some ⟨g, 0, none⟩)] w fun e w' => e = .returned (.int .i64 l.length) ∧ w = w' := by
  obtain ⟨pb, va, vk, pl, bw, br, hv⟩ := hv
  obtain ⟨B, rfl⟩ : ∃ B, pb = some ⟨B, 0, none⟩ := by obtain ⟨B, _, _, e, _⟩ := hv.base; exact ⟨B, e⟩
  obtain ⟨Aa, ca, rfl, hca⟩ : ∃ A c, va = .slice A l.length c ∧ l.length ≤ c := by obtain ⟨us, _, ho⟩ := hv.act; exact own_len ho
  have x0 := hv.blk.cell 0
  have x1 := hv.blk.cell 1
  simp only [List.getElem?_toArray, List.getElem?_cons_zero, List.getElem?_cons_succ] at x0 x1
  clear hv
  go_enter Tryd.func21, Tryd.ntmps21
  go_wp2_with (go_at_call 40; refine (none_is x0).mono ?_; rintro e w' ⟨rfl, rfl⟩)
  go_ret
  exact ⟨rfl, rfl⟩
/-- What Before answers. -/
def BefP (s0 : St) (l : List Ac) (n : Nm) (t : Int) (w : World) (e : Ending) (w' : World) : Prop :=
  e = .returned (if 0 ≤ t ∧ t ≤ l.length then .tuple #[veV (befr t (ver0 s0 n) (vers n 0 l)), .int .i64 0] else .tuple #[veV ⟨0, [], false⟩, .int .i64 2]) ∧ Below w.heap.size w w'
set_option maxRecDepth 100000 in
theorem before_is {w : World} {F : Nat → Prop} {g : Nat} {s0 : St} {l : List Ac} {n : Nm} (t : Int) (hv : VAt w F g s0 l) (hn : OwnE n) (ho : VOk l) : Calls Tryd.prog 29 #[.pointer (some ⟨g, 0, none⟩), nmV n, .int .i64 t] w (BefP s0 l n t w) := by
  have ha := ((Below.refl w.heap.size w).alloc (Nat.le_refl _) (.cells #[.int .i64 n.kind, .string (bs n.owner), .int .i64 n.num, .int .i64 n.idx, .string (bs n.text)] 40)).alloc (by simp) (.cells #[.int .i64 0, .string ⟨#[]⟩, .bool false] 54)
  have HFD := Lib.hid (found_is (n := n) t (hv.next ha) hn ho)
  obtain ⟨pb, va, vk, pl, bw, br, hv⟩ := hv
  obtain ⟨B, rfl⟩ : ∃ B, pb = some ⟨B, 0, none⟩ := by obtain ⟨B, _, _, e, _⟩ := hv.base; exact ⟨B, e⟩
  obtain ⟨Aa, ca, rfl, hca⟩ : ∃ A c, va = .slice A l.length c ∧ l.length ≤ c := by obtain ⟨us, _, ho⟩ := hv.act; exact own_len ho
  have hz : w.heap.size < ((w.alloc (.cells #[.int .i64 n.kind, .string (bs n.owner), .int .i64 n.num, .int .i64 n.idx, .string (bs n.text)] 40)).alloc (.cells #[.int .i64 0, .string ⟨#[]⟩, .bool false] 54)).heap.size := by simp; omega
  have zb := (Blk.new w 40 #[.int .i64 n.kind, .string (bs n.owner), .int .i64 n.num, .int .i64 n.idx, .string (bs n.text)]).alloc (.cells #[.int .i64 0, .string ⟨#[]⟩, .bool false] 54)
  have rb := Blk.new (w.alloc (.cells #[.int .i64 n.kind, .string (bs n.owner), .int .i64 n.num, .int .i64 n.idx, .string (bs n.text)] 40)) 54 #[.int .i64 0, .string ⟨#[]⟩, .bool false]
  rw [World.size_alloc] at rb
  have VW := Lib.hid (hv.next ha)
  have HA := Lib.hid ha
  have HRB := Lib.hid rb
  have x0 := VW.out.blk.cell 0
  have x1 := VW.out.blk.cell 1
  have z0 := zb.cell 0
  have z1 := zb.cell 1
  have z2 := zb.cell 2
  have z3 := zb.cell 3
  have z4 := zb.cell 4
  have q0 := rb.cell 0
  have q1 := rb.cell 1
  have q2 := rb.cell 2
  have f0 := rb.frozen 0
  have f1 := rb.frozen 1
  have f2 := rb.frozen 2
  simp only [List.getElem?_toArray, List.getElem?_cons_zero, List.getElem?_cons_succ] at x0 x1 z0 z1 z2 z3 z4 q0 q1 q2
  clear hv ha zb rb
  go_enter Tryd.func29, Tryd.ntmps29
  simp only [nmV, nmA]
  go_upto_region 3 with (go_at_call 40; refine (none_is x0).mono ?_; rintro e w' ⟨rfl, rfl⟩)
  generalize (w.alloc (.cells #[.int .i64 n.kind, .string (bs n.owner), .int .i64 n.num, .int .i64 n.idx, .string (bs n.text)] 40)).alloc (.cells #[.int .i64 0, .string ⟨#[]⟩, .bool false] 54) = W at *
  generalize hcb : w.heap.size = cb at *
  have HCB := Lib.hid hcb
  clear hcb
  have hfin : ∀ (w1 : World) (a b c : Value), Below cb w w1 → Below cb w (((w1.setCell ⟨cb + 1, 0, none⟩ a).setCell ⟨cb + 1, 1, none⟩ b).setCell ⟨cb + 1, 2, none⟩ c) := fun w1 a b c h => ((h.setCell (p := ⟨cb + 1, 0, none⟩) (by simp) _).setCell (p := ⟨cb + 1, 1, none⟩) (by simp) _).setCell (p := ⟨cb + 1, 2, none⟩) (by simp) _
  have HFIN := Lib.hid hfin
  clear hfin
  by_cases h1 : 0 ≤ t
  · by_cases h2 : t ≤ l.length
    · have k1 : decide (t < 0) = false := decide_eq_false (by omega)
      have k2 : decide ((l.length : Int) < t) = false := decide_eq_false (by omega)
      have HI := Lib.hid (show 0 ≤ t ∧ t ≤ l.length from ⟨h1, h2⟩)
      clear h1 h2 q0 q1 q2 f0 f1 f2
      go_wp2_with fail
      refine HFD.out.mono ?_
      rintro e w2 ⟨rfl, hb2⟩
      have r5 := HRB.out.next hb2 HRB.out.lt
      have p0 := r5.cell 0
      have p1 := r5.cell 1
      have p2 := r5.cell 2
      have h0 := r5.frozen 0
      have h1 := r5.frozen 1
      have h2 := r5.frozen 2
      simp only [List.getElem?_toArray, List.getElem?_cons_zero, List.getElem?_cons_succ] at p0 p1 p2
      have HB3 := Lib.hid (HA.out.trans (hb2.mono (Nat.le_of_lt hz)))
      obtain ⟨vx, hvx⟩ : ∃ vx, befr t (ver0 s0 n) (vers n 0 l) = vx := ⟨_, rfl⟩
      rw [hvx]
      have HVX := Lib.hid hvx
      clear hvx r5 hb2 z0 z1 z2 z3 z4 x0 x1
      obtain ⟨vi, vv, vb⟩ := vx
      simp only [veV]
      go_wp2_with fail
      exact bodyPost_ret (v := .tuple #[veV ⟨vi, vv, vb⟩, .int .i64 0]) (by simp [results, Tryd.results29, go_sem, p0, p1, p2, veV]) rfl ⟨by rw [if_pos HI.out, HVX.out], by rw [HCB.out]; exact HFIN.out _ _ _ _ HB3.out⟩
    · have k1 : decide (t < 0) = false := decide_eq_false (by omega)
      have k2 : decide ((l.length : Int) < t) = true := decide_eq_true (by omega)
      have HI := Lib.hid (show ¬ (0 ≤ t ∧ t ≤ l.length) from fun h => h2 h.2)
      clear h1 h2
      go_wp2_with fail
      exact bodyPost_ret (v := .tuple #[veV ⟨0, [], false⟩, .int .i64 2]) (by simp [results, Tryd.results29, go_sem, q0, q1, q2, veV, bs]) rfl ⟨by rw [if_neg HI.out], by rw [HCB.out]; exact HFIN.out _ _ _ _ HA.out⟩
  · have k1 : decide (t < 0) = true := decide_eq_true (by omega)
    have HI := Lib.hid (show ¬ (0 ≤ t ∧ t ≤ l.length) from fun h => h1 h.1)
    clear h1
    go_wp2_with fail
    exact bodyPost_ret (v := .tuple #[veV ⟨0, [], false⟩, .int .i64 2]) (by simp [results, Tryd.results29, go_sem, q0, q1, q2, veV, bs]) rfl ⟨by rw [if_neg HI.out], by rw [HCB.out]; exact HFIN.out _ _ _ _ HA.out⟩
/-- What Of answers. -/
def OfP (vs : List Ver) (w : World) (e : Ending) (w' : World) : Prop := ∃ v, e = .returned v ∧ OwnP 54 3 veC w' w.heap.size v vs ∧ Below w.heap.size w w'
set_option maxRecDepth 100000 in
theorem of_is {w : World} {F : Nat → Prop} {g : Nat} {s0 : St} {l : List Ac} {n : Nm} (hv : VAt w F g s0 l) (hn : OwnE n) (ho : VOk l) : Calls Tryd.prog 18 #[.pointer (some ⟨g, 0, none⟩), nmV n] w (OfP (verL s0 l n) w) := by
  have HFI := Lib.hid (fun (w' : World) (hb : Below w.heap.size w w') => first_is (n := n) (hv.next hb) hn)
  obtain ⟨pb, va, vk, pl, bw, br, hv⟩ := hv
  obtain ⟨B, rfl⟩ : ∃ B, pb = some ⟨B, 0, none⟩ := by obtain ⟨B, _, _, e, _⟩ := hv.base; exact ⟨B, e⟩
  have ha := (Below.refl w.heap.size w).alloc (Nat.le_refl _) (.cells #[.int .i64 n.kind, .string (bs n.owner), .int .i64 n.num, .int .i64 n.idx, .string (bs n.text)] 40)
  have hz : w.heap.size < (w.alloc (.cells #[.int .i64 n.kind, .string (bs n.owner), .int .i64 n.num, .int .i64 n.idx, .string (bs n.text)] 40)).heap.size := by simp
  have zb := Blk.new w 40 #[.int .i64 n.kind, .string (bs n.owner), .int .i64 n.num, .int .i64 n.idx, .string (bs n.text)]
  have VW := Lib.hid (hv.next ha)
  have HA := Lib.hid ha
  have x0 := VW.out.blk.cell 0
  have x4 := VW.out.blk.cell 4
  have z0 := zb.cell 0
  have z1 := zb.cell 1
  have z2 := zb.cell 2
  have z3 := zb.cell 3
  have z4 := zb.cell 4
  simp only [List.getElem?_toArray, List.getElem?_cons_zero, List.getElem?_cons_succ] at x0 x4 z0 z1 z2 z3 z4
  obtain ⟨ents, hm, hown⟩ := VW.out.wr.find n
  obtain ⟨A, c, hve, hc⟩ := own_len hown.1
  rw [hve] at hown
  have HM := Lib.hid hm
  have hvl := ho.vlen n
  have HVV := Lib.hid (show verL s0 l n = ver0 s0 n :: vers n 0 l from rfl)
  obtain ⟨vs, hvs⟩ : ∃ vs, vers n 0 l = vs := ⟨_, rfl⟩
  obtain ⟨vx, hvx⟩ : ∃ vx, ver0 s0 n = vx := ⟨_, rfl⟩
  rw [hvs, hvx] at HVV
  simp only [hvs] at hve hown hvl hc
  have HLK : Hid (∀ w', Below (w.alloc (.cells #[.int .i64 n.kind, .string (bs n.owner), .int .i64 n.num, .int .i64 n.idx, .string (bs n.text)] 40)).heap.size (w.alloc (.cells #[.int .i64 n.kind, .string (bs n.owner), .int .i64 n.num, .int .i64 n.idx, .string (bs n.text)] 40)) w' → (Instr.lookup 79 (.map (some bw)) (.agg #[.int .i64 n.kind, .string (bs n.owner), .int .i64 n.num, .int .i64 n.idx, .string (bs n.text)]) false).run Tryd.prog w' = .ok (.slice A vs.length c) w') := Lib.hid fun w' hb => by
    have := map_look (hm.next hb) n Tryd.underlying79 (zeroveC w')
    rw [hve] at this
    exact this
  have HRD := Lib.hid (show Rd 54 _ (.slice A vs.length c) vs.length (vs.flatMap veC) from Rd.of_own hown.1)
  have HVX := Lib.hid hvx
  clear hm hown hve hvs hvx ha zb hv
  obtain ⟨vi, vv, vb⟩ := vx
  obtain ⟨i0, hi, hz0, hz1, hz2⟩ := info_parts infoVe
  go_enter Tryd.func18, Tryd.ntmps18
  simp only [nmV, nmA]
  go_upto_region 3 with (go_at_call 40; refine (none_is x0).mono ?_; rintro e w' ⟨rfl, rfl⟩)
  generalize w.alloc (.cells #[.int .i64 n.kind, .string (bs n.owner), .int .i64 n.num, .int .i64 n.idx, .string (bs n.text)] 40) = W at *
  generalize hcb : w.heap.size = cb at *
  have HCB := Lib.hid hcb
  clear hcb x0
  refine wp_region_noPanic ?_
  refine wp_region_held_drew (S := (fun (w' : World) => w'.cell? ⟨g, 4, none⟩ = some (.map (some bw)) ∧ ((Instr.lookup 79 (.map (some bw)) (.agg #[.int .i64 n.kind, .string (bs n.owner), .int .i64 n.num, .int .i64 n.idx, .string (bs n.text)]) false).run Tryd.prog w' = .ok (.slice A vs.length c) w') ∧ w'.cell? ⟨cb, 0, none⟩ = some (.int .i64 n.kind) ∧ w'.cell? ⟨cb, 1, none⟩ = some (.string (bs n.owner)) ∧ w'.cell? ⟨cb, 2, none⟩ = some (.int .i64 n.num) ∧ w'.cell? ⟨cb, 3, none⟩ = some (.int .i64 n.idx) ∧ w'.cell? ⟨cb, 4, none⟩ = some (.string (bs n.text)))) (by kernel_rfl) ?_ (fun hHeld => ?_)
  · exact ⟨x4, HLK.out W.drew (Below.refl _ _).drew, z0, z1, z2, z3, z4⟩
  refine wpAnyH_take (i := 0) (v := ?_) rfl (by kernel_rfl) (by kernel_rfl) (by kernel_rfl) (fun _ _ _ h => h) (Or.inl ⟨by kernel_rfl, ?_⟩) hHeld ?_
  rotate_left
  · (intro w hSw; (try dsimp only at hSw); go_simp; try with_reducible rfl)
  try simp only [Act.put, List.setIfInBounds_toArray, List.set_cons_zero, List.set_cons_succ]
  refine wpAnyH_take (i := 1) (v := ?_) rfl (by kernel_rfl) (by kernel_rfl) (by kernel_rfl) (fun _ _ _ h => h) (Or.inl ⟨by kernel_rfl, ?_⟩) hHeld ?_
  rotate_left
  · (intro w hSw; (try dsimp only at hSw); go_simp; try with_reducible rfl)
  try simp only [Act.put, List.setIfInBounds_toArray, List.set_cons_zero, List.set_cons_succ]
  refine wpAnyH_take (i := 4) (v := ?_) rfl (by kernel_rfl) (by kernel_rfl) (by kernel_rfl) (fun _ _ _ h => h) (Or.inl ⟨by kernel_rfl, ?_⟩) hHeld ?_
  rotate_left
  · (intro w hSw; (try dsimp only at hSw); go_simp; try with_reducible rfl)
  try simp only [Act.put, List.setIfInBounds_toArray, List.set_cons_zero, List.set_cons_succ]
  refine wpAnyH_take (i := 5) (v := ?_) rfl (by kernel_rfl) (by kernel_rfl) (by kernel_rfl) (fun _ _ _ h => h) (Or.inl ⟨by kernel_rfl, ?_⟩) hHeld ?_
  rotate_left
  · (intro w hSw; (try dsimp only at hSw); go_simp; try with_reducible rfl)
  try simp only [Act.put, List.setIfInBounds_toArray, List.set_cons_zero, List.set_cons_succ]
  refine wpAnyH_take (i := 6) (v := ?_) rfl (by kernel_rfl) (by kernel_rfl) (by kernel_rfl) (fun _ _ _ h => h) (Or.inl ⟨by kernel_rfl, ?_⟩) hHeld ?_
  rotate_left
  · (intro w hSw; (try dsimp only at hSw); go_simp; try with_reducible rfl)
  try simp only [Act.put, List.setIfInBounds_toArray, List.set_cons_zero, List.set_cons_succ]
  refine wpAnyH_take (i := 7) (v := ?_) rfl (by kernel_rfl) (by kernel_rfl) (by kernel_rfl) (fun _ _ _ h => h) (Or.inl ⟨by kernel_rfl, ?_⟩) hHeld ?_
  rotate_left
  · (intro w hSw; (try dsimp only at hSw); go_simp; try with_reducible rfl)
  try simp only [Act.put, List.setIfInBounds_toArray, List.set_cons_zero, List.set_cons_succ]
  refine wpAnyH_take (i := 8) (v := ?_) rfl (by kernel_rfl) (by kernel_rfl) (by kernel_rfl) (fun _ _ _ h => h) (Or.inl ⟨by kernel_rfl, ?_⟩) hHeld ?_
  rotate_left
  · (intro w hSw; (try dsimp only at hSw); go_simp; try with_reducible rfl)
  try simp only [Act.put, List.setIfInBounds_toArray, List.set_cons_zero, List.set_cons_succ]
  refine wpAnyH_take (i := 9) (v := ?_) rfl (by kernel_rfl) (by kernel_rfl) (by kernel_rfl) (fun _ _ _ h => h) (Or.inl ⟨by kernel_rfl, ?_⟩) hHeld ?_
  rotate_left
  · (intro w hSw; (try dsimp only at hSw); go_simp; try with_reducible rfl)
  try simp only [Act.put, List.setIfInBounds_toArray, List.set_cons_zero, List.set_cons_succ]
  refine wpAnyH_ready (rs := [2]) (by kernel_rfl) (by simp) ?_
  refine AllReadyH.cons rfl (fun K hK => ?_) AllReadyH.nil
  go_simp
  refine (HFI.out W.drew (HA.out.trans ((Below.refl cb W).drew))).mono ?_; rintro e w2 ⟨rfl, hb2'⟩; rw [HVX.out]; have hb2 := (Below.refl W.heap.size W).drew.trans hb2'; have HB2 := Lib.hid hb2; have lk2 := HLK.out w2 hb2; simp only [veV]; clear hb2'
  try (go_wp2_with fail)
  refine hK.out _ _ ?_ (fun hNew => ?_)
  · exact ⟨(hb2.cell (p := ⟨g, 4, none⟩) VW.out.blk.lt).trans x4, lk2, (hb2.cell (p := ⟨cb, 0, none⟩) hz).trans z0, (hb2.cell (p := ⟨cb, 1, none⟩) hz).trans z1, (hb2.cell (p := ⟨cb, 2, none⟩) hz).trans z2, (hb2.cell (p := ⟨cb, 3, none⟩) hz).trans z3, (hb2.cell (p := ⟨cb, 4, none⟩) hz).trans z4⟩
  clear hK K hHeld
  have hHeld := hNew
  clear hNew
  try simp only [Act.put, List.setIfInBounds_toArray, List.set_cons_zero, List.set_cons_succ]
  refine wpAnyH_ready (rs := [3]) (by kernel_rfl) (by simp) ?_
  refine AllReadyH.cons rfl (fun K hK => ?_) AllReadyH.nil
  go_simp
  refine hK.out _ _ ?_ (fun hNew => ?_)
  · exact ⟨(World.cell?_alloc_lt w2 _ _ (Nat.lt_of_lt_of_le VW.out.blk.lt HB2.out.size)).trans ((HB2.out.cell (p := ⟨g, 4, none⟩) VW.out.blk.lt).trans x4), HLK.out _ (HB2.out.trans ((Below.refl _ _).alloc HB2.out.size _)), (World.cell?_alloc_lt w2 _ _ (Nat.lt_of_lt_of_le hz HB2.out.size)).trans ((HB2.out.cell (p := ⟨cb, 0, none⟩) hz).trans z0), (World.cell?_alloc_lt w2 _ _ (Nat.lt_of_lt_of_le hz HB2.out.size)).trans ((HB2.out.cell (p := ⟨cb, 1, none⟩) hz).trans z1), (World.cell?_alloc_lt w2 _ _ (Nat.lt_of_lt_of_le hz HB2.out.size)).trans ((HB2.out.cell (p := ⟨cb, 2, none⟩) hz).trans z2), (World.cell?_alloc_lt w2 _ _ (Nat.lt_of_lt_of_le hz HB2.out.size)).trans ((HB2.out.cell (p := ⟨cb, 3, none⟩) hz).trans z3), (World.cell?_alloc_lt w2 _ _ (Nat.lt_of_lt_of_le hz HB2.out.size)).trans ((HB2.out.cell (p := ⟨cb, 4, none⟩) hz).trans z4)⟩
  clear hK K hHeld
  have hHeld := hNew
  clear hNew
  try simp only [Act.put, List.setIfInBounds_toArray, List.set_cons_zero, List.set_cons_succ]
  refine wpAnyH_ready (rs := [10]) (by kernel_rfl) (by simp) ?_
  refine AllReadyH.cons rfl (fun K hK => ?_) AllReadyH.nil
  refine step_append_rd _ (by rfl) _ _ _ (by rfl) w2.heap.size 54 i0 _ 3 32 Tryd.underlying56 hi hz0 hz1 hz2 rfl (by omega) (.slice (some ⟨w2.heap.size, 0, none⟩) 1 1) 1 [.int .i64 vi, .string (bs vv), .bool vb] (by rfl) (own_new w2 w2.heap.size 54 3 [.int .i64 vi, .string (bs vv), .bool vb] rfl (Nat.le_refl _)) (.slice A vs.length c) vs.length (vs.flatMap veC) (by rfl) (Rd.next (Rd.next HRD.out HB2.out) ((Below.refl w2.heap.size w2).alloc (Nat.le_refl _) _)) (fm_len veC_len vs) (ve_one vs) (by unfold maxLen; omega) (by omega) (by simp) ?_; intro ao cap w5 hown5 hg5; have HOW5 := Lib.hid hown5; have HG5 := Lib.hid hg5; have hb5 : Below w2.heap.size w2 w5 := below_own ((Below.refl w2.heap.size w2).alloc (Nat.le_refl _) _) (own_new w2 w2.heap.size 54 3 [.int .i64 vi, .string (bs vv), .bool vb] rfl (Nat.le_refl _)) hg5 (Nat.le_refl _) (by simp); have HB5 := Lib.hid (HB2.out.trans (hb5.mono HB2.out.size)); clear hown5 hg5 hb5
  refine hK.out _ _ ?_ (fun hNew => ?_)
  · exact ⟨(HB5.out.cell (p := ⟨g, 4, none⟩) VW.out.blk.lt).trans x4, HLK.out w5 HB5.out, (HB5.out.cell (p := ⟨cb, 0, none⟩) hz).trans z0, (HB5.out.cell (p := ⟨cb, 1, none⟩) hz).trans z1, (HB5.out.cell (p := ⟨cb, 2, none⟩) hz).trans z2, (HB5.out.cell (p := ⟨cb, 3, none⟩) hz).trans z3, (HB5.out.cell (p := ⟨cb, 4, none⟩) hz).trans z4⟩
  clear hK K hHeld
  have hHeld := hNew
  clear hNew
  try simp only [Act.put, List.setIfInBounds_toArray, List.set_cons_zero, List.set_cons_succ]
  refine wpAnyH_take (i := 11) (v := ?_) rfl (by kernel_rfl) (by kernel_rfl) (by kernel_rfl) (fun _ _ _ h => h) (Or.inl ⟨by kernel_rfl, ?_⟩) hHeld ?_
  rotate_left
  · (intro w hSw; (try dsimp only at hSw); go_simp; try with_reducible rfl)
  try simp only [Act.put, List.setIfInBounds_toArray, List.set_cons_zero, List.set_cons_succ]
  refine wpAnyH_done (by kernel_rfl) ?_ _
  clear hHeld
  try simp only [List.getElem_toArray, List.getElem_cons_zero, List.getElem_cons_succ, Act.put, List.setIfInBounds_toArray, List.set_cons_zero, List.set_cons_succ]
  refine NoPanic.normal ?_
  go_wp2_with fail
  go_ret
  refine ⟨_, rfl, ?_, by rw [HCB.out]; exact HA.out.trans (HB5.out.mono (Nat.le_of_lt hz))⟩
  rw [HVV.out, HCB.out]
  have h5 := own_base HOW5.out (b0 := cb) (by have := HB2.out.size; omega)
  unfold OwnP
  rw [List.length_cons, Nat.add_comm vs.length 1, List.flatMap_cons]
  exact h5
end Go.Proofs.YtobkmkplhbaepaaDoor
/- Walks of layer 46: Versions.Consistent. -/
namespace Go.Proofs.YtobkmkplhbaepaaDoor
open Go.RowKit
set_option linter.unusedSimpArgs false
set_option linter.unusedVariables false
attribute [local go_sem ↓] Go.wp_at_zero Go.wp_at_succ
def ConRel (s0 : St) (l : List Ac) (w : World) (i : Value) (wr : World) : Prop := ∃ k : Nat, k ≤ l.length ∧ i = .int .i64 k ∧ (∀ j (hj : j < l.length), j < k → badA s0 l j l[j] = false) ∧ Below w.heap.size w wr
def ConIn (s0 : St) (l : List Ac) (k : Nat) (rs : List Ch) (w : World) (i : Value) (wr : World) : Prop := ∃ m : Nat, m ≤ rs.length ∧ i = .int .i64 m ∧ (∀ j (hj : j < rs.length), j < m → badC s0 l k rs[j] = false) ∧ Below w.heap.size w wr
set_option maxRecDepth 100000 in
set_option maxHeartbeats 2000000 in
theorem consistent_is {w : World} {F : Nat → Prop} {g : Nat} {s0 : St} {l : List Ac} (hv : VAt w F g s0 l) (ho : VOk l) : Calls Tryd.prog 17 #[.pointer (some ⟨g, 0, none⟩)] w fun e w' => e = .returned (.int .i64 (conS s0 l : Nat)) ∧ Below w.heap.size w w' := by
  have HV := Lib.hid hv
  obtain ⟨pb, va, vk, pl, bw, br, hv⟩ := hv
  obtain ⟨B, rfl⟩ : ∃ B, pb = some ⟨B, 0, none⟩ := by obtain ⟨B, _, _, e, _⟩ := hv.base; exact ⟨B, e⟩
  obtain ⟨Aa, ca, rfl, hca⟩ : ∃ A c, va = .slice A l.length c ∧ l.length ≤ c := by obtain ⟨us, _, ho⟩ := hv.act; exact own_len ho
  have x0 := hv.blk.cell 0
  have x1 := hv.blk.cell 1
  simp only [List.getElem?_toArray, List.getElem?_cons_zero, List.getElem?_cons_succ] at x0 x1
  have HL := Lib.hid (show RdAc w (.slice Aa l.length ca) l from RowOwn.rd hv.act)
  have HG := Lib.hid hv.blk.lt
  have hlen := ho.len
  have HO := Lib.hid ho
  have H0 : Hid (ConRel s0 l w (.int .i64 (0 : Nat)) w) := Lib.hid ⟨0, Nat.zero_le _, rfl, fun j _ h => by omega, Below.refl _ _⟩
  clear hv ho
  go_enter Tryd.func17, Tryd.ntmps17
  go_wp2_with (go_at_call 40; refine (none_is x0).mono ?_; rintro e w' ⟨rfl, rfl⟩)
  go_loopw [15] (fun i wr => ConRel s0 l w i wr) (fun i _ => l.length - (intOf i).toNat)
  case atStart => exact H0.out
  case round =>
    clear H0
    obtain ⟨k, hkl, rfl, hz, hbw⟩ := hrel
    have HZ := Lib.hid hz
    have HB := Lib.hid hbw
    clear hz hbw
    by_cases hk : k < l.length
    · have j1 : (0 : Int) ≤ (k : Int) := by omega
      have j2 : (k : Int) < (l.length : Int) := by omega
      have j3 : decide ((k : Int) < (l.length : Int)) = true := decide_eq_true j2
      obtain ⟨b, o, u1, u2, hbe, hbr, n1, n2, y0, y1, y2, y3, y4, y5⟩ := RdAc.piece (RdAc.next HL.out HB.out) hk
      subst hbe
      obtain ⟨a, hae⟩ : ∃ a, l[k] = a := ⟨_, rfl⟩
      rw [hae] at n1 n2 y0 y1 y2 y3
      have HAE := Lib.hid hae
      obtain ⟨A1, c1, rfl, hc1⟩ := RdP.form n1
      obtain ⟨A2, c2, rfl, hc2⟩ := RdP.form n2
      have N1 := Lib.hid n1
      have HAR : Hid (AcR a) := Lib.hid (by rw [← hae]; exact HO.out.r _ (List.getElem_mem hk))
      have hrl : a.reads.length ≤ 10 := HAR.out.2.2.2.1
      have HCO : Hid (∀ c ∈ a.reads, OwnE c.name) := Lib.hid fun c hc => (HAR.out.2.1 c hc).own
      clear hae n1 n2
      go_upto_region 6 with (fail)
      have hbb := (Below.refl wr.heap.size wr).alloc (Nat.le_refl _) (.cells #[.int .i64 a.key.tick, .int .i64 a.key.cls, .int .i64 a.key.num, .string (bs a.key.lin), .slice A1 a.reads.length c1, .slice A2 a.writes.length c2] 50)
      have zb := Blk.new wr 50 #[.int .i64 a.key.tick, .int .i64 a.key.cls, .int .i64 a.key.num, .string (bs a.key.lin), .slice A1 a.reads.length c1, .slice A2 a.writes.length c2]
      have HBB := Lib.hid (HB.out.trans (hbb.mono HB.out.size))
      have z4 := zb.cell 4
      simp only [List.getElem?_toArray, List.getElem?_cons_zero, List.getElem?_cons_succ] at z4
      have HN := Lib.hid (RdP.next N1.out hbb)
      clear y0 y1 y2 y3 y4 y5 hbb zb N1
      generalize wr.alloc (.cells #[.int .i64 a.key.tick, .int .i64 a.key.cls, .int .i64 a.key.num, .string (bs a.key.lin), .slice A1 a.reads.length c1, .slice A2 a.writes.length c2] 50) = wb at *
      obtain ⟨wo, hwo⟩ : ∃ wo : World, wo = wr := ⟨_, rfl⟩
      subst hwo
      have H0 : Hid (ConIn s0 l k a.reads wb (.int .i64 (0 : Nat)) wb) := Lib.hid ⟨0, Nat.zero_le _, rfl, fun j _ h => by omega, Below.refl _ _⟩
      go_wp2
      clear z4
      go_loopw [23] (fun i wr => ConIn s0 l k a.reads wb i wr) (fun i _ => a.reads.length - (intOf i).toNat)
      case atStart => exact H0.out
      case round =>
        clear H0
        obtain ⟨m, hml, rfl, hz2, hbw2⟩ := hrel
        have HZ2 := Lib.hid hz2
        have HB2 := Lib.hid hbw2
        clear hz2 hbw2
        by_cases hm : m < a.reads.length
        · have j4 : (0 : Int) ≤ (m : Int) := by omega
          have j5 : (m : Int) < (a.reads.length : Int) := by omega
          have j6 : decide ((m : Int) < (a.reads.length : Int)) = true := decide_eq_true j5
          obtain ⟨b2, o2, hbe, hbr2, t0, t1, t2, t3, t4, t5, t6⟩ := RdCh.piece (RdP.next HN.out HB2.out) hm
          subst hbe
          have HCH := Lib.hid (HCO.out _ (List.getElem_mem hm))
          obtain ⟨ch, hch⟩ : ∃ ch, a.reads[m] = ch := ⟨_, rfl⟩
          rw [hch] at t0 t1 t2 t3 t4 t5 t6 HCH
          have HCE := Lib.hid hch
          clear hch
          go_upto_region 9 with (fail)
          have hbd := (Below.refl wr.heap.size wr).alloc (Nat.le_refl _) (.cells #[.int .i64 ch.name.kind, .string (bs ch.name.owner), .int .i64 ch.name.num, .int .i64 ch.name.idx, .string (bs ch.name.text), .string (bs ch.value), .bool ch.absent] 52)
          have zb := Blk.new wr 52 #[.int .i64 ch.name.kind, .string (bs ch.name.owner), .int .i64 ch.name.num, .int .i64 ch.name.idx, .string (bs ch.name.text), .string (bs ch.value), .bool ch.absent]
          have HBD := Lib.hid (HB2.out.trans (hbd.mono HB2.out.size))
          have hzz : wr.heap.size < (wr.alloc (.cells #[.int .i64 ch.name.kind, .string (bs ch.name.owner), .int .i64 ch.name.num, .int .i64 ch.name.idx, .string (bs ch.name.text), .string (bs ch.value), .bool ch.absent] 52)).heap.size := by simp
          have v0 := zb.cell 0
          have v1 := zb.cell 1
          have v2 := zb.cell 2
          have v3 := zb.cell 3
          have v4 := zb.cell 4
          have v5 := zb.cell 5
          have v6 := zb.cell 6
          simp only [List.getElem?_toArray, List.getElem?_cons_zero, List.getElem?_cons_succ] at v0 v1 v2 v3 v4 v5 v6
          clear t0 t1 t2 t3 t4 t5 t6 hbd zb
          generalize wr.alloc (.cells #[.int .i64 ch.name.kind, .string (bs ch.name.owner), .int .i64 ch.name.num, .int .i64 ch.name.idx, .string (bs ch.name.text), .string (bs ch.value), .bool ch.absent] 52) = wd at *
          generalize wr.heap.size = cd at *
          have HBW := Lib.hid (HBB.out.trans (HBD.out.mono HBB.out.size))
          have HVD := Lib.hid (HV.out.next HBW.out)
          obtain ⟨vx, hvx⟩ : ∃ vx, befr (k : Int) (ver0 s0 ch.name) (vers ch.name 0 l) = vx := ⟨_, rfl⟩
          have HVX := Lib.hid hvx
          clear hvx
          go_wp2_with (go_at_call 43; refine (found_is (n := ch.name) (k : Int) HVD.out HCH.out HO.out).mono ?_)
          rintro e w2 ⟨rfl, hb2⟩
          rw [HVX.out]
          have HB3 := Lib.hid (HBD.out.trans (hb2.mono HBD.out.size))
          have HB3n := Lib.hid hb2
          have s5 := (hb2.cell (p := ⟨cd, 5, none⟩) hzz).trans v5
          have s6 := (hb2.cell (p := ⟨cd, 6, none⟩) hzz).trans v6
          have hz2 : cd < w2.heap.size := Nat.lt_of_lt_of_le hzz hb2.size
          clear hb2 v0 v1 v2 v3 v4 v5 v6
          obtain ⟨vi, vv, vb⟩ := vx
          simp only [veV]
          have HBC : Hid (badC s0 l k ch = ((vb != ch.absent) || (vv != ch.value))) := Lib.hid (by unfold badC; rw [HVX.out])
          by_cases hab : vb = ch.absent
          · rw [← hab] at s6
            have HAB := Lib.hid hab
            clear hab
            by_cases hvv : vv = ch.value
            · rw [← hvv] at s5
              have HVV := Lib.hid hvv
              clear hvv
              go_wp2_with fail
              go_roundw
              case rel => exact ⟨m + 1, by omega, by go_num, fun j hj hjm => by
                by_cases e : j = m
                · subst e
                  rw [HCE.out, HBC.out, HAB.out, HVV.out]
                  simp
                · exact HZ2.out j hj (by omega), HB3.out.alloc (by have := HB3.out.size; omega) _⟩
              case measure => simp [intOf]; omega
            · have b1 : ¬ (bs vv).toList = (bs ch.value).toList := by rw [bs_tl, bs_tl]; exact hvv
              have b2 : ((bs vv).toList == (bs ch.value).toList) = false := by rw [beq_eq_false_iff_ne]; exact b1
              have HVV := Lib.hid hvv
              clear hvv
              go_wp2_with fail
              go_ret
              have e : conS s0 l = k := by
                have := conR_stop (f := badA s0 l) (l := l) (i := 0) (k := k) (fun j hj hjk => by rw [Nat.zero_add]; exact HZ.out j hj hjk) hk (by
                  rw [Nat.zero_add, HAE.out]
                  refine any_stop hm ?_
                  rw [HCE.out, HBC.out, HAB.out]
                  have := HVV.out
                  simp [this])
                unfold conS
                rw [this]; omega
              exact ⟨by rw [e]; rfl, (HBW.out.trans (HB3n.out.mono HBW.out.size)).alloc (by have := HBW.out.size; have := HB3n.out.size; omega) _⟩
          · have b1 : (vb != ch.absent) = true := by rw [bne_iff_ne]; exact hab
            have b2 : (vb == ch.absent) = false := by rw [beq_eq_false_iff_ne]; exact hab
            have HAB := Lib.hid hab
            clear hab
            go_wp2_with fail
            go_ret
            have e : conS s0 l = k := by
              have := conR_stop (f := badA s0 l) (l := l) (i := 0) (k := k) (fun j hj hjk => by rw [Nat.zero_add]; exact HZ.out j hj hjk) hk (by
                rw [Nat.zero_add, HAE.out]
                refine any_stop hm ?_
                rw [HCE.out, HBC.out]
                have := HAB.out
                simp [this])
              unfold conS
              rw [this]; omega
            exact ⟨by rw [e]; rfl, (HBW.out.trans (HB3n.out.mono HBW.out.size)).alloc (by have := HBW.out.size; have := HB3n.out.size; omega) _⟩
        · have j6 : decide ((m : Int) < (a.reads.length : Int)) = false := decide_eq_false (by omega)
          have HI2 := Lib.hid (show m = a.reads.length by omega)
          have HBW := Lib.hid (HBB.out.trans (HB2.out.mono HBB.out.size))
          go_wp2
          go_roundw
          case rel => exact ⟨k + 1, by omega, by go_num, fun j hj hjk => by
            by_cases e : j = k
            · subst e
              rw [HAE.out]
              exact any_none fun q hq => HZ2.out q hq (by have := HI2.out; omega)
            · exact HZ.out j hj (by omega), HBW.out⟩
          case measure => simp [intOf]; omega
    · have j3 : decide ((k : Int) < (l.length : Int)) = false := decide_eq_false (by omega)
      have HI := Lib.hid (show k = l.length by omega)
      have HK := Lib.hid hk
      have HBc := Lib.hid (HB.out.cell (p := ⟨g, 1, none⟩) HG.out)
      have y1 := HBc.out.trans x1
      go_wp2
      go_ret
      have e : conS s0 l = l.length := by
        have := conR_all (f := badA s0 l) (l := l) (i := 0) (fun j hj => by rw [Nat.zero_add]; exact HZ.out j hj (by have := HI.out; omega))
        unfold conS
        rw [this]; omega
      exact ⟨by rw [e]; rfl, HB.out⟩
end Go.Proofs.YtobkmkplhbaepaaDoor
