/- Walks and plain facts, packed: GT, GS, GB. -/
import Derived.Deep.DrawnRows
import Derived.Test.YtamjllakfgphnaaGreatDoorZA1
namespace Go.Proofs.YtamjllakfgphnaaGreatDoor
open Go.RowKit
set_option linter.unusedSimpArgs false
set_option linter.unusedVariables false
theorem nd_cells {w : World} {b : Nat} {pl pr : Option Addr} {k : Nm} {v : Bs} {h s y : Nat} (n : NdAt w b pl pr k v h s y) :
    w.cell? ⟨b, 0, none⟩ = some (.pointer pl) ∧ w.cell? ⟨b, 1, none⟩ = some (.pointer pr) ∧ w.cell? ⟨b, 2, none⟩ = some (.int .i64 k.kind) ∧ w.cell? ⟨b, 3, none⟩ = some (.string (bs k.owner)) ∧ w.cell? ⟨b, 4, none⟩ = some (.int .i64 k.num) ∧ w.cell? ⟨b, 5, none⟩ = some (.int .i64 k.idx) ∧
    w.cell? ⟨b, 6, none⟩ = some (.string (bs k.text)) ∧ w.cell? ⟨b, 7, none⟩ = some (.string (bs v)) ∧ w.cell? ⟨b, 8, none⟩ = some (.int .i64 (h : Int)) ∧ w.cell? ⟨b, 9, none⟩ = some (.int .i64 (s : Int)) ∧ w.cell? ⟨b, 10, none⟩ = some (.int .i64 (y : Int)) :=
  ⟨n.cell 0, n.cell 1, n.cell 2, n.cell 3, n.cell 4, n.cell 5, n.cell 6, n.cell 7, n.cell 8, n.cell 9, n.cell 10⟩
theorem nd_mk {w : World} {b : Nat} {pl pr : Option Addr} {k : Nm} {v : Bs} {h s y : Nat} {h' s' y' : Int} (hb : Blk w b 143 #[.pointer pl, .pointer pr, .int .i64 k.kind, .string (bs k.owner), .int .i64 k.num, .int .i64 k.idx, .string (bs k.text), .string (bs v), .int .i64 h', .int .i64 s', .int .i64 y'])
    (e1 : h' = (h : Int)) (e2 : s' = (s : Int)) (e3 : y' = (y : Int)) : NdAt w b pl pr k v h s y := by subst e1 e2 e3; exact hb
theorem height_is {w : World} {p : Option Addr} {t : T46} (h : TrAt w p t) : Calls Tryz.prog 165 #[.pointer p] w fun e w' => e = .returned (.int .i64 (t.ht : Int)) ∧ w = w' := by
  cases t with
  | nil =>
    obtain rfl : p = none := h
    go_enter Tryz.func165, Tryz.ntmps165
    go_wp2
    go_ret
    exact ⟨rfl, rfl⟩
  | node l k v r =>
    obtain ⟨b, pl, pr, rfl, hn, _, _⟩ := h
    obtain ⟨_, _, _, _, _, _, _, _, c8, _, _⟩ := nd_cells hn
    clear hn
    generalize Tr.ht (.node l k v r) = n at *
    go_enter Tryz.func165, Tryz.ntmps165
    go_wp2
    go_ret
    exact ⟨rfl, rfl⟩
theorem size_is {w : World} {p : Option Addr} {t : T46} (h : TrAt w p t) : Calls Tryz.prog 123 #[.pointer p] w fun e w' => e = .returned (.int .i64 (t.sz : Int)) ∧ w = w' := by
  cases t with
  | nil =>
    obtain rfl : p = none := h
    go_enter Tryz.func123, Tryz.ntmps123
    go_wp2
    go_ret
    exact ⟨rfl, rfl⟩
  | node l k v r =>
    obtain ⟨b, pl, pr, rfl, hn, _, _⟩ := h
    obtain ⟨_, _, _, _, _, _, _, _, _, c9, _⟩ := nd_cells hn
    clear hn
    generalize Tr.sz (.node l k v r) = n at *
    go_enter Tryz.func123, Tryz.ntmps123
    go_wp2
    go_ret
    exact ⟨rfl, rfl⟩
theorem bytes_is {w : World} {p : Option Addr} {t : T46} (h : TrAt w p t) : Calls Tryz.prog 166 #[.pointer p] w fun e w' => e = .returned (.int .i64 (byT t : Int)) ∧ w = w' := by
  cases t with
  | nil =>
    obtain rfl : p = none := h
    go_enter Tryz.func166, Tryz.ntmps166
    go_wp2
    go_ret
    exact ⟨rfl, rfl⟩
  | node l k v r =>
    obtain ⟨b, pl, pr, rfl, hn, _, _⟩ := h
    obtain ⟨_, _, _, _, _, _, _, _, _, _, c10⟩ := nd_cells hn
    clear hn
    generalize byT (.node l k v r) = n at *
    go_enter Tryz.func166, Tryz.ntmps166
    go_wp2
    go_ret
    exact ⟨rfl, rfl⟩
set_option maxRecDepth 100000 in
theorem join_is {w : World} {pl pr p1 p2 : Option Addr} {m : Nat} {l r : T46} {k : Nm} {v : Bs} {h s y : Nat} (hl : TrAt w pl l) (hr : TrAt w pr r) (hm : NdAt w m p1 p2 k v h s y) (hs : TrSm (.node l k v r)) :
    Calls Tryz.prog 124 #[.pointer pl, .pointer (some ⟨m, 0, none⟩), .pointer pr] w fun e w' => ∃ b, e = .returned (.pointer (some ⟨b, 0, none⟩)) ∧ TrAt w' (some ⟨b, 0, none⟩) (.node l k v r) ∧ Below w.heap.size w w' := by
  have H1 := Lib.hid (height_is hl.drew)
  have H2 := Lib.hid (height_is hr.drew)
  have H3 := Lib.hid (size_is hl.drew)
  have H4 := Lib.hid (size_is hr.drew)
  have H5 := Lib.hid (bytes_is hl.drew)
  have H6 := Lib.hid (bytes_is hr.drew)
  have s1 := hs.left
  have s2 := hs.right
  have s3 := hs.val
  have hd1 := s1.ht
  have hd2 := s2.ht
  have hz1 := s1.1
  have hz2 := s2.1
  have hy1 := s1.2
  have hy2 := s2.2
  have hv : (bs v).size ≤ 10000000000 := by rw [bs_size]; exact s3
  obtain ⟨c0, c1, c2, c3, c4, c5, c6, c7, c8, c9, c10⟩ := nd_cells hm
  clear c0 c1 c8 c9 c10
  go_enter Tryz.func124, Tryz.ntmps124
  go_wp2
  refine wp_region_still_tail 33 (by kernel_rfl) (by kernel_rfl) ?_
  simp only [List.take_succ_cons, List.take_zero, List.drop_succ_cons, List.drop_zero]
  iterate 11 still_step
  still_call (still_of H1.out)
  still_step
  still_call (still_of H2.out)
  iterate 3 still_step
  still_call (still_of H3.out)
  iterate 2 still_step
  still_call (still_of H4.out)
  iterate 7 still_step
  still_call (still_of H5.out)
  iterate 2 still_step
  still_call (still_of H6.out)
  still_step
  refine wpStill_nil ?_
  show wpList _ _ _ _ _ w.drew
  clear c2 c3 c4 c5 c6 c7 H1 H2 H3 H4 H5 H6
  go_wp2
  all_goals
    go_ret
    refine ⟨w.heap.size, rfl, ⟨w.heap.size, pl, pr, rfl, ?_, TrAt.next ((Below.refl _ w).alloc (Nat.le_refl _) _).drew hl, TrAt.next ((Below.refl _ w).alloc (Nat.le_refl _) _).drew hr⟩, ((Below.refl _ w).alloc (Nat.le_refl _) _).drew⟩
    refine nd_mk (Blk.drew (Blk.new w _ _)) ?_ ?_ ?_
    · simp only [Tr.ht]; omega
    · simp only [Tr.sz]; omega
    · rw [bs_size]; simp only [byT, Tr.by_]; omega
end Go.Proofs.YtamjllakfgphnaaGreatDoor
namespace Go.Proofs.YtamjllakfgphnaaGreatDoor
open Go.RowKit
set_option linter.unusedSimpArgs false
set_option linter.unusedVariables false
attribute [local go_sem ↓] Go.wp_at_zero Go.wp_at_succ
def BalP (w : World) (t : T46) (e : Ending) (w' : World) : Prop := ∃ b, e = .returned (.pointer (some ⟨b, 0, none⟩)) ∧ TrAt w' (some ⟨b, 0, none⟩) t ∧ Below w.heap.size w w'
theorem NdAt.next {w w' : World} {b : Nat} {pl pr : Option Addr} {k : Nm} {v : Bs} {h s y : Nat} (n : NdAt w b pl pr k v h s y) (hb : Below w.heap.size w w') : NdAt w' b pl pr k v h s y := Blk.next n hb (Blk.lt n)
set_option maxRecDepth 100000 in
set_option maxHeartbeats 1000000 in
theorem bal_c {w : World} {pl pr p1 p2 : Option Addr} {m : Nat} {l r : T46} {k : Nm} {v : Bs} {h s y : Nat} (hl : TrAt w pl l) (hr : TrAt w pr r) (hm : NdAt w m p1 p2 k v h s y) (hs : TrSm (.node l k v r)) (h1 : ¬ r.ht + 1 < l.ht) (h2 : ¬ l.ht + 1 < r.ht) :
    Calls Tryz.prog 125 #[.pointer pl, .pointer (some ⟨m, 0, none⟩), .pointer pr] w (BalP w (.node l k v r)) := by
  have H1 := Lib.hid (height_is hl)
  have H2 := Lib.hid (height_is hr)
  have hd1 := hs.left.ht
  have hd2 := hs.right.ht
  have e1 : decide ((1 : Int) < (l.ht : Int) - (r.ht : Int)) = false := by rw [decide_eq_false_iff_not]; omega
  have e2 : decide ((l.ht : Int) - (r.ht : Int) < -1) = false := by rw [decide_eq_false_iff_not]; omega
  have HL0 := Lib.hid hl
  have HR0 := Lib.hid hr
  have HM0 := Lib.hid hm
  have HS := Lib.hid hs
  have HB0 := Lib.hid (Below.refl w.heap.size w)
  clear hl hr hm hs h1 h2
  generalize l.ht = a at *
  generalize r.ht = b at *
  go_enter Tryz.func125, Tryz.ntmps125
  go_wp2_with fail
  refine H1.out.mono ?_
  rintro e w' ⟨rfl, rfl⟩
  go_wp2_with fail
  refine H2.out.mono ?_
  rintro e w' ⟨rfl, rfl⟩
  clear H1 H2
  go_wp2_with fail
  go_quiet (fail)
  have HB1 := Lib.hid (below_drewN HB0.out nq)
  have HL1 := Lib.hid (HL0.out.drewN nq)
  have HR1 := Lib.hid (HR0.out.drewN nq)
  have HM1 := Lib.hid (HM0.out.drewN nq)
  clear HB0 HL0 HR0 HM0
  generalize World.drewN w nq = w1 at *
  go_wp2_with fail
  go_quiet (fail)
  have HB2 := Lib.hid (below_drewN HB1.out nq)
  have HL2 := Lib.hid (HL1.out.drewN nq)
  have HR2 := Lib.hid (HR1.out.drewN nq)
  have HM2 := Lib.hid (HM1.out.drewN nq)
  clear HB1 HL1 HR1 HM1
  generalize World.drewN w1 nq = w2 at *
  go_wp2_with fail
  refine (join_is HL2.out HR2.out HM2.out HS.out).mono ?_
  rintro e w' ⟨b, rfl, h1, h2⟩
  go_wp2
  go_ret
  exact ⟨b, rfl, h1, HB2.out.trans (h2.mono HB2.out.size)⟩
set_option maxRecDepth 100000 in
set_option maxHeartbeats 1000000 in
theorem bal_a1 {w : World} {pl pr p1 p2 : Option Addr} {m : Nat} {ll lr r : T46} {lk : Nm} {lv : Bs} {k : Nm} {v : Bs} {h s y : Nat} (hl : TrAt w pl (.node ll lk lv lr)) (hr : TrAt w pr r) (hm : NdAt w m p1 p2 k v h s y) (hs : TrSm (.node (.node ll lk lv lr) k v r)) (h1 : r.ht + 1 < Tr.ht (.node ll lk lv lr)) (h2 : lr.ht ≤ ll.ht) :
    Calls Tryz.prog 125 #[.pointer pl, .pointer (some ⟨m, 0, none⟩), .pointer pr] w (BalP w (.node ll lk lv (.node lr k v r))) := by
  have H1 := Lib.hid (height_is hl)
  have H2 := Lib.hid (height_is hr)
  have hd1 := hs.left.ht
  have hd2 := hs.right.ht

  obtain ⟨bl, pll, plr, rfl, hn, hll, hlr⟩ := hl
  have hgt : Hid (lr.ht ≤ ll.ht) := Lib.hid h2
  have e1 : decide ((1 : Int) < (Tr.ht (.node ll lk lv lr) : Int) - (r.ht : Int)) = true := by rw [decide_eq_true_eq]; omega
  have e2 : decide (lr.ht ≤ ll.ht) = true := by rw [decide_eq_true_eq]; omega
  have H3 := Lib.hid (height_is hll.drew)
  have H4 := Lib.hid (height_is hlr.drew)
  have c0 : w.cell? ⟨bl, 0, none⟩ = some (.pointer pll) := (nd_cells hn).1
  have c1 : w.cell? ⟨bl, 1, none⟩ = some (.pointer plr) := (nd_cells hn).2.1
  have HN : Hid (NdAt w.drew.drew bl pll plr lk lv _ _ _) := Lib.hid hn
  have HLL := Lib.hid hll.drew.drew
  have HLR := Lib.hid hlr.drew.drew
  have HR := Lib.hid hr.drew.drew
  have HM : Hid (NdAt w.drew.drew m p1 p2 k v h s y) := Lib.hid hm
  have S1 : Hid (TrSm (.node lr k v r)) := Lib.hid (by obtain ⟨q1, q2⟩ := hs; unfold byT at q2; simp only [Tr.sz, Tr.by_] at q1 q2; exact ⟨by simp only [Tr.sz]; omega, by unfold byT; simp only [Tr.by_]; omega⟩)
  have S2 : Hid (TrSm (.node ll lk lv (.node lr k v r))) := Lib.hid (by obtain ⟨q1, q2⟩ := hs; unfold byT at q2; simp only [Tr.sz, Tr.by_] at q1 q2; exact ⟨by simp only [Tr.sz]; omega, by unfold byT; simp only [Tr.by_]; omega⟩)
  clear hn hll hlr hr hm hs h1 h2
  generalize Tr.ht (.node ll lk lv lr) = a at *
  generalize r.ht = b at *
  generalize lr.ht = a1 at *
  generalize ll.ht = a2 at *
  go_enter Tryz.func125, Tryz.ntmps125
  go_wp2_with fail
  refine H1.out.mono ?_
  rintro e w' ⟨rfl, rfl⟩
  go_wp2_with fail
  refine H2.out.mono ?_
  rintro e w' ⟨rfl, rfl⟩
  clear H1 H2
  go_wp2_with fail

  refine wp_region_still_tail 15 (by kernel_rfl) (by kernel_rfl) ?_
  simp only [List.take_succ_cons, List.take_zero, List.drop_succ_cons, List.drop_zero]
  iterate 7 still_step
  still_call (still_of H3.out)
  iterate 4 still_step
  still_call (still_of H4.out)
  iterate 2 still_step
  refine wpStill_nil ?_
  show wpList _ _ _ _ _ w.drew
  clear H3 H4
  go_wp2_with fail
  refine wp_region_noPanic ?_
  refine wp_region_held_drew (S := (fun w' => w'.cell? ⟨bl, 0, none⟩ = some (.pointer pll) ∧ w'.cell? ⟨bl, 1, none⟩ = some (.pointer plr))) (by kernel_rfl) ?_ (fun hHeld => ?_)
  · exact ⟨c0, c1⟩
  refine tk (v := ?_) 0 rfl (by kernel_rfl) (fun _ _ _ h => h) ?_ hHeld ?_
  rotate_left
  · (intro w h; (try dsimp only at h); go_simp; try with_reducible rfl)
  try simp only [Act.put, pB, pC, pD]
  refine tk (v := ?_) 1 rfl (by kernel_rfl) (fun _ _ _ h => h) ?_ hHeld ?_
  rotate_left
  · (intro w h; (try dsimp only at h); go_simp; try with_reducible rfl)
  try simp only [Act.put, pB, pC, pD]
  refine tk (v := ?_) 2 rfl (by kernel_rfl) (fun _ _ _ h => h) ?_ hHeld ?_
  rotate_left
  · (intro w h; (try dsimp only at h); go_simp; try with_reducible rfl)
  try simp only [Act.put, pB, pC, pD]
  refine tk (v := ?_) 3 rfl (by kernel_rfl) (fun _ _ _ h => h) ?_ hHeld ?_
  rotate_left
  · (intro w h; (try dsimp only at h); go_simp; try with_reducible rfl)
  try simp only [Act.put, pB, pC, pD]
  refine tk (v := ?_) 4 rfl (by kernel_rfl) (fun _ _ _ h => h) ?_ hHeld ?_
  rotate_left
  · (intro w h; (try dsimp only at h); go_simp; try with_reducible rfl)
  try simp only [Act.put, pB, pC, pD]
  refine tk (v := ?_) 5 rfl (by kernel_rfl) (fun _ _ _ h => h) ?_ hHeld ?_
  rotate_left
  · (intro w h; (try dsimp only at h); go_simp; try with_reducible rfl)
  try simp only [Act.put, pB, pC, pD]
  refine tk (v := ?_) 6 rfl (by kernel_rfl) (fun _ _ _ h => h) ?_ hHeld ?_
  rotate_left
  · (intro w h; (try dsimp only at h); go_simp; try with_reducible rfl)
  try simp only [Act.put, pB, pC, pD]
  refine tk (v := ?_) 7 rfl (by kernel_rfl) (fun _ _ _ h => h) ?_ hHeld ?_
  rotate_left
  · (intro w h; (try dsimp only at h); go_simp; try with_reducible rfl)
  try simp only [Act.put, pB, pC, pD]
  refine tk (v := ?_) 8 rfl (by kernel_rfl) (fun _ _ _ h => h) ?_ hHeld ?_
  rotate_left
  · (intro w h; (try dsimp only at h); go_simp; try with_reducible rfl)
  try simp only [Act.put, pB, pC, pD]
  refine tk (v := ?_) 9 rfl (by kernel_rfl) (fun _ _ _ h => h) ?_ hHeld ?_
  rotate_left
  · (intro w h; (try dsimp only at h); go_simp; try with_reducible rfl)
  try simp only [Act.put, pB, pC, pD]
  refine tk (v := ?_) 10 rfl (by kernel_rfl) (fun _ _ _ h => h) ?_ hHeld ?_
  rotate_left
  · (intro w h; (try dsimp only at h); go_simp; try with_reducible rfl)
  try simp only [Act.put, pB, pC, pD]
  refine wpAnyH_ready (rs := [11]) (by kernel_rfl) (by simp) ?_
  refine AllReadyH.cons rfl (fun K hK => ?_) AllReadyH.nil
  go_simp
  refine (join_is HLR.out HR.out HM.out S1.out).mono ?_; rintro e w3 ⟨b3, rfl, ht3, hb3⟩; have HN3 := Lib.hid (HN.out.next hb3); have HL3 := Lib.hid (TrAt.next hb3 HLL.out); have HT3 := Lib.hid ht3; have HB3 := Lib.hid hb3; have x0 : w3.cell? ⟨bl, 0, none⟩ = some (.pointer pll) := (nd_cells HN3.out).1; have x1 : w3.cell? ⟨bl, 1, none⟩ = some (.pointer plr) := (nd_cells HN3.out).2.1
  try (go_wp2_with fail)
  refine hK.out _ _ ?_ (fun hNew => ?_)
  · exact ⟨x0, x1⟩
  clear hK K hHeld
  have hHeld := hNew
  clear hNew
  try simp only [Act.put, pB, pC, pD]
  refine wpAnyH_ready (rs := [12]) (by kernel_rfl) (by simp) ?_
  refine AllReadyH.cons rfl (fun K hK => ?_) AllReadyH.nil
  go_simp
  refine (join_is HL3.out HT3.out HN3.out S2.out).mono ?_; rintro e w4 ⟨b4, rfl, ht4, hb4⟩; have HT4 := Lib.hid ht4; have HB4 := Lib.hid hb4; have x0 : w4.cell? ⟨bl, 0, none⟩ = some (.pointer pll) := (nd_cells (HN3.out.next hb4)).1; have x1 : w4.cell? ⟨bl, 1, none⟩ = some (.pointer plr) := (nd_cells (HN3.out.next hb4)).2.1
  try (go_wp2_with fail)
  refine hK.out _ _ ?_ (fun hNew => ?_)
  · exact ⟨x0, x1⟩
  clear hK K hHeld
  have hHeld := hNew
  clear hNew
  try simp only [Act.put, pB, pC, pD]
  refine tk (v := ?_) 13 rfl (by kernel_rfl) (fun _ _ _ h => h) ?_ hHeld ?_
  rotate_left
  · (intro w h; (try dsimp only at h); go_simp; try with_reducible rfl)
  try simp only [Act.put, pB, pC, pD]
  refine wpAnyH_done (by kernel_rfl) ?_ _
  clear hHeld
  simp only [List.getElem_toArray, List.getElem_cons_zero, List.getElem_cons_succ, Act.put, pB, pC, pD]
  refine NoPanic.normal ?_
  go_wp2
  go_ret
  exact ⟨b4, rfl, HT4.out, (((Below.refl w.heap.size w).drew.drew).trans HB3.out).trans (HB4.out.mono HB3.out.size)⟩
set_option maxRecDepth 100000 in
set_option maxHeartbeats 1000000 in
theorem bal_a2 {w : World} {pl pr p1 p2 : Option Addr} {m : Nat} {ll a b r : T46} {lk mk : Nm} {lv mv : Bs} {k : Nm} {v : Bs} {h s y : Nat} (hl : TrAt w pl (.node ll lk lv (.node a mk mv b))) (hr : TrAt w pr r) (hm : NdAt w m p1 p2 k v h s y) (hs : TrSm (.node (.node ll lk lv (.node a mk mv b)) k v r)) (h1 : r.ht + 1 < Tr.ht (.node ll lk lv (.node a mk mv b))) (h2 : ¬ Tr.ht (.node a mk mv b) ≤ ll.ht) :
    Calls Tryz.prog 125 #[.pointer pl, .pointer (some ⟨m, 0, none⟩), .pointer pr] w (BalP w (.node (.node ll lk lv a) mk mv (.node b k v r))) := by
  have H1 := Lib.hid (height_is hl)
  have H2 := Lib.hid (height_is hr)
  have hd1 := hs.left.ht
  have hd2 := hs.right.ht
  obtain ⟨bl, pll, plr, rfl, hn, hll, bi, pia, pib, rfl, hni, ha, hb_⟩ := hl
  have e1 : decide ((1 : Int) < (Tr.ht (.node ll lk lv (.node a mk mv b)) : Int) - (r.ht : Int)) = true := by rw [decide_eq_true_eq]; omega
  have e2 : decide (Tr.ht (.node a mk mv b) ≤ ll.ht) = false := by rw [decide_eq_false_iff_not]; omega
  have H3 := Lib.hid (height_is hll.drew)
  have H4 := Lib.hid (height_is (w := w.drew) (p := some ⟨bi, 0, none⟩) (t := .node a mk mv b) ⟨bi, pia, pib, rfl, hni, ha.drew, hb_.drew⟩)
  have c0 : w.cell? ⟨bl, 0, none⟩ = some (.pointer pll) := (nd_cells hn).1
  have c1 : w.cell? ⟨bl, 1, none⟩ = some (.pointer (some ⟨bi, 0, none⟩)) := (nd_cells hn).2.1
  have c2 : w.cell? ⟨bi, 0, none⟩ = some (.pointer pia) := (nd_cells hni).1
  have c3 : w.cell? ⟨bi, 1, none⟩ = some (.pointer pib) := (nd_cells hni).2.1
  have HNL2 : Hid (NdAt w.drew.drew bl pll (some ⟨bi, 0, none⟩) lk lv _ _ _) := Lib.hid hn
  have HNI2 : Hid (NdAt w.drew.drew bi pia pib mk mv _ _ _) := Lib.hid hni
  have HM2 : Hid (NdAt w.drew.drew m p1 p2 k v h s y) := Lib.hid hm
  have HLL2 := Lib.hid hll.drew.drew
  have HA2 := Lib.hid ha.drew.drew
  have HB_2 := Lib.hid hb_.drew.drew
  have HR2 := Lib.hid hr.drew.drew
  have HB2 := Lib.hid ((Below.refl w.heap.size w).drew.drew)
  have S1 : Hid (TrSm (.node ll lk lv a)) := Lib.hid (by obtain ⟨q1, q2⟩ := hs; unfold byT at q2; simp only [Tr.sz, Tr.by_] at q1 q2; exact ⟨by simp only [Tr.sz]; omega, by unfold byT; simp only [Tr.by_]; omega⟩)
  have S2 : Hid (TrSm (.node b k v r)) := Lib.hid (by obtain ⟨q1, q2⟩ := hs; unfold byT at q2; simp only [Tr.sz, Tr.by_] at q1 q2; exact ⟨by simp only [Tr.sz]; omega, by unfold byT; simp only [Tr.by_]; omega⟩)
  have S3 : Hid (TrSm (.node (.node ll lk lv a) mk mv (.node b k v r))) := Lib.hid (by obtain ⟨q1, q2⟩ := hs; unfold byT at q2; simp only [Tr.sz, Tr.by_] at q1 q2; exact ⟨by simp only [Tr.sz]; omega, by unfold byT; simp only [Tr.by_]; omega⟩)
  clear hn hll hni ha hb_ hr hm hs h1 h2
  generalize Tr.ht (.node ll lk lv (.node a mk mv b)) = n1 at *
  generalize r.ht = n2 at *
  generalize Tr.ht (.node a mk mv b) = n3 at *
  generalize ll.ht = n4 at *
  go_enter Tryz.func125, Tryz.ntmps125
  go_wp2_with fail
  refine H1.out.mono ?_
  rintro e w' ⟨rfl, rfl⟩
  go_wp2_with fail
  refine H2.out.mono ?_
  rintro e w' ⟨rfl, rfl⟩
  clear H1 H2
  go_wp2_with fail
  refine wp_region_still_tail 15 (by kernel_rfl) (by kernel_rfl) ?_
  simp only [List.take_succ_cons, List.take_zero, List.drop_succ_cons, List.drop_zero]
  iterate 7 still_step
  still_call (still_of H3.out)
  iterate 4 still_step
  still_call (still_of H4.out)
  iterate 2 still_step
  refine wpStill_nil ?_
  show wpList _ _ _ _ _ w.drew
  clear H3 H4
  go_wp2_with fail
  refine wp_region_noPanic ?_
  refine wp_region_held_drew (S := (fun w' => w'.cell? ⟨bl, 0, none⟩ = some (.pointer pll) ∧ w'.cell? ⟨bi, 0, none⟩ = some (.pointer pia) ∧ w'.cell? ⟨bi, 1, none⟩ = some (.pointer pib))) (by kernel_rfl) ?_ (fun hHeld => ?_)
  · exact ⟨c0, c2, c3⟩
  refine tk (v := ?_) 0 rfl (by kernel_rfl) (fun _ _ _ h => h) ?_ hHeld ?_
  rotate_left
  · (intro w h; (try dsimp only at h); go_simp; try with_reducible rfl)
  try simp only [Act.put, pB, pC, pD]
  refine tk (v := ?_) 1 rfl (by kernel_rfl) (fun _ _ _ h => h) ?_ hHeld ?_
  rotate_left
  · (intro w h; (try dsimp only at h); go_simp; try with_reducible rfl)
  try simp only [Act.put, pB, pC, pD]
  refine tk (v := ?_) 2 rfl (by kernel_rfl) (fun _ _ _ h => h) ?_ hHeld ?_
  rotate_left
  · (intro w h; (try dsimp only at h); go_simp; try with_reducible rfl)
  try simp only [Act.put, pB, pC, pD]
  refine tk (v := ?_) 3 rfl (by kernel_rfl) (fun _ _ _ h => h) ?_ hHeld ?_
  rotate_left
  · (intro w h; (try dsimp only at h); go_simp; try with_reducible rfl)
  try simp only [Act.put, pB, pC, pD]
  refine tk (v := ?_) 4 rfl (by kernel_rfl) (fun _ _ _ h => h) ?_ hHeld ?_
  rotate_left
  · (intro w h; (try dsimp only at h); go_simp; try with_reducible rfl)
  try simp only [Act.put, pB, pC, pD]
  refine tk (v := ?_) 5 rfl (by kernel_rfl) (fun _ _ _ h => h) ?_ hHeld ?_
  rotate_left
  · (intro w h; (try dsimp only at h); go_simp; try with_reducible rfl)
  try simp only [Act.put, pB, pC, pD]
  refine tk (v := ?_) 6 rfl (by kernel_rfl) (fun _ _ _ h => h) ?_ hHeld ?_
  rotate_left
  · (intro w h; (try dsimp only at h); go_simp; try with_reducible rfl)
  try simp only [Act.put, pB, pC, pD]
  refine tk (v := ?_) 7 rfl (by kernel_rfl) (fun _ _ _ h => h) ?_ hHeld ?_
  rotate_left
  · (intro w h; (try dsimp only at h); go_simp; try with_reducible rfl)
  try simp only [Act.put, pB, pC, pD]
  refine tk (v := ?_) 8 rfl (by kernel_rfl) (fun _ _ _ h => h) ?_ hHeld ?_
  rotate_left
  · (intro w h; (try dsimp only at h); go_simp; try with_reducible rfl)
  try simp only [Act.put, pB, pC, pD]
  refine tk (v := ?_) 10 rfl (by kernel_rfl) (fun _ _ _ h => h) ?_ hHeld ?_
  rotate_left
  · (intro w h; (try dsimp only at h); go_simp; try with_reducible rfl)
  try simp only [Act.put, pB, pC, pD]
  refine tk (v := ?_) 11 rfl (by kernel_rfl) (fun _ _ _ h => h) ?_ hHeld ?_
  rotate_left
  · (intro w h; (try dsimp only at h); go_simp; try with_reducible rfl)
  try simp only [Act.put, pB, pC, pD]
  refine tk (v := ?_) 12 rfl (by kernel_rfl) (fun _ _ _ h => h) ?_ hHeld ?_
  rotate_left
  · (intro w h; (try dsimp only at h); go_simp; try with_reducible rfl)
  try simp only [Act.put, pB, pC, pD]
  refine tk (v := ?_) 13 rfl (by kernel_rfl) (fun _ _ _ h => h) ?_ hHeld ?_
  rotate_left
  · (intro w h; (try dsimp only at h); go_simp; try with_reducible rfl)
  try simp only [Act.put, pB, pC, pD]
  refine tk (v := ?_) 14 rfl (by kernel_rfl) (fun _ _ _ h => h) ?_ hHeld ?_
  rotate_left
  · (intro w h; (try dsimp only at h); go_simp; try with_reducible rfl)
  try simp only [Act.put, pB, pC, pD]
  refine tk (v := ?_) 15 rfl (by kernel_rfl) (fun _ _ _ h => h) ?_ hHeld ?_
  rotate_left
  · (intro w h; (try dsimp only at h); go_simp; try with_reducible rfl)
  try simp only [Act.put, pB, pC, pD]
  refine tk (v := ?_) 16 rfl (by kernel_rfl) (fun _ _ _ h => h) ?_ hHeld ?_
  rotate_left
  · (intro w h; (try dsimp only at h); go_simp; try with_reducible rfl)
  try simp only [Act.put, pB, pC, pD]
  refine wpAnyH_ready (rs := [9]) (by kernel_rfl) (by simp) ?_
  refine AllReadyH.cons rfl (fun K hK => ?_) AllReadyH.nil
  go_simp
  refine (join_is HLL2.out HA2.out HNL2.out S1.out).mono ?_; rintro e w3 ⟨b3a, rfl, ht, hb⟩; have HX3 := Lib.hid ht; have HB3 := Lib.hid (HB2.out.trans (hb.mono HB2.out.size)); have HNL3 := Lib.hid (HNL2.out.next hb); have HNI3 := Lib.hid (HNI2.out.next hb); have HM3 := Lib.hid (HM2.out.next hb); have HLL3 := Lib.hid (TrAt.next hb HLL2.out); have HA3 := Lib.hid (TrAt.next hb HA2.out); have HB_3 := Lib.hid (TrAt.next hb HB_2.out); have HR3 := Lib.hid (TrAt.next hb HR2.out); have x0 : w3.cell? ⟨bl, 0, none⟩ = some (.pointer pll) := (nd_cells HNL3.out).1; have x1 : w3.cell? ⟨bi, 0, none⟩ = some (.pointer pia) := (nd_cells HNI3.out).1; have x2 : w3.cell? ⟨bi, 1, none⟩ = some (.pointer pib) := (nd_cells HNI3.out).2.1; clear ht hb
  try (go_wp2_with fail)
  refine hK.out _ _ ?_ (fun hNew => ?_)
  · exact ⟨x0, x1, x2⟩
  clear hK K hHeld
  have hHeld := hNew
  clear hNew
  try simp only [Act.put, pB, pC, pD]
  refine wpAnyH_ready (rs := [17]) (by kernel_rfl) (by simp) ?_
  refine AllReadyH.cons rfl (fun K hK => ?_) AllReadyH.nil
  go_simp
  refine (join_is HB_3.out HR3.out HM3.out S2.out).mono ?_; rintro e w4 ⟨b4b, rfl, ht, hb⟩; have HY4 := Lib.hid ht; have HB4 := Lib.hid (HB3.out.trans (hb.mono HB3.out.size)); have HNL4 := Lib.hid (HNL3.out.next hb); have HNI4 := Lib.hid (HNI3.out.next hb); have HM4 := Lib.hid (HM3.out.next hb); have HLL4 := Lib.hid (TrAt.next hb HLL3.out); have HA4 := Lib.hid (TrAt.next hb HA3.out); have HB_4 := Lib.hid (TrAt.next hb HB_3.out); have HR4 := Lib.hid (TrAt.next hb HR3.out); have HX4 := Lib.hid (TrAt.next hb HX3.out); have x0 : w4.cell? ⟨bl, 0, none⟩ = some (.pointer pll) := (nd_cells HNL4.out).1; have x1 : w4.cell? ⟨bi, 0, none⟩ = some (.pointer pia) := (nd_cells HNI4.out).1; have x2 : w4.cell? ⟨bi, 1, none⟩ = some (.pointer pib) := (nd_cells HNI4.out).2.1; clear ht hb
  try (go_wp2_with fail)
  refine hK.out _ _ ?_ (fun hNew => ?_)
  · exact ⟨x0, x1, x2⟩
  clear hK K hHeld
  have hHeld := hNew
  clear hNew
  try simp only [Act.put, pB, pC, pD]
  refine wpAnyH_ready (rs := [18]) (by kernel_rfl) (by simp) ?_
  refine AllReadyH.cons rfl (fun K hK => ?_) AllReadyH.nil
  go_simp
  refine (join_is HX4.out HY4.out HNI4.out S3.out).mono ?_; rintro e w5 ⟨b5, rfl, ht, hb⟩; have HT5 := Lib.hid ht; have HB5 := Lib.hid (HB4.out.trans (hb.mono HB4.out.size)); have HNL5 := Lib.hid (HNL4.out.next hb); have HNI5 := Lib.hid (HNI4.out.next hb); have x0 : w5.cell? ⟨bl, 0, none⟩ = some (.pointer pll) := (nd_cells HNL5.out).1; have x1 : w5.cell? ⟨bi, 0, none⟩ = some (.pointer pia) := (nd_cells HNI5.out).1; have x2 : w5.cell? ⟨bi, 1, none⟩ = some (.pointer pib) := (nd_cells HNI5.out).2.1; clear ht hb
  try (go_wp2_with fail)
  refine hK.out _ _ ?_ (fun hNew => ?_)
  · exact ⟨x0, x1, x2⟩
  clear hK K hHeld
  have hHeld := hNew
  clear hNew
  try simp only [Act.put, pB, pC, pD]
  refine tk (v := ?_) 19 rfl (by kernel_rfl) (fun _ _ _ h => h) ?_ hHeld ?_
  rotate_left
  · (intro w h; (try dsimp only at h); go_simp; try with_reducible rfl)
  try simp only [Act.put, pB, pC, pD]
  refine wpAnyH_done (by kernel_rfl) ?_ _
  clear hHeld
  simp only [List.getElem_toArray, List.getElem_cons_zero, List.getElem_cons_succ, Act.put, pB, pC, pD]
  refine NoPanic.normal ?_
  go_wp2
  go_ret
  exact ⟨b5, rfl, HT5.out, HB5.out⟩
set_option maxRecDepth 100000 in
set_option maxHeartbeats 1000000 in
theorem bal_b1 {w : World} {pl pr p1 p2 : Option Addr} {m : Nat} {l rl rr : T46} {rk : Nm} {rv : Bs} {k : Nm} {v : Bs} {h s y : Nat} (hl : TrAt w pl l) (hr : TrAt w pr (.node rl rk rv rr)) (hm : NdAt w m p1 p2 k v h s y) (hs : TrSm (.node l k v (.node rl rk rv rr))) (h1 : ¬ Tr.ht (.node rl rk rv rr) + 1 < l.ht) (h0 : l.ht + 1 < Tr.ht (.node rl rk rv rr)) (h2 : rl.ht ≤ rr.ht) :
    Calls Tryz.prog 125 #[.pointer pl, .pointer (some ⟨m, 0, none⟩), .pointer pr] w (BalP w (.node (.node l k v rl) rk rv rr)) := by
  have H1 := Lib.hid (height_is hl)
  have H2 := Lib.hid (height_is hr)
  have hd1 := hs.left.ht
  have hd2 := hs.right.ht
  obtain ⟨br, prl, prr, rfl, hn, hrl, hrr⟩ := hr
  have e1 : decide ((1 : Int) < (l.ht : Int) - (Tr.ht (.node rl rk rv rr) : Int)) = false := by rw [decide_eq_false_iff_not]; omega
  have e2 : decide ((l.ht : Int) - (Tr.ht (.node rl rk rv rr) : Int) < -1) = true := by rw [decide_eq_true_eq]; omega
  have e3 : decide (rl.ht ≤ rr.ht) = true := by rw [decide_eq_true_eq]; omega
  have HNR0 := Lib.hid hn
  have HRL0 := Lib.hid hrl
  have HRR0 := Lib.hid hrr
  have HL0 := Lib.hid hl
  have HM0 := Lib.hid hm
  have HB0 := Lib.hid (Below.refl w.heap.size w)
  have HH3 : Hid (∀ w', TrAt w' prr rr → Calls Tryz.prog 165 #[.pointer prr] w' fun e w'' => e = .returned (.int .i64 (rr.ht : Int)) ∧ w' = w'') := Lib.hid (fun w' q => height_is q)
  have HH4 : Hid (∀ w', TrAt w' prl rl → Calls Tryz.prog 165 #[.pointer prl] w' fun e w'' => e = .returned (.int .i64 (rl.ht : Int)) ∧ w' = w'') := Lib.hid (fun w' q => height_is q)
  have S1 : Hid (TrSm (.node l k v rl)) := Lib.hid (by obtain ⟨q1, q2⟩ := hs; unfold byT at q2; simp only [Tr.sz, Tr.by_] at q1 q2; exact ⟨by simp only [Tr.sz]; omega, by unfold byT; simp only [Tr.by_]; omega⟩)
  have S2 : Hid (TrSm (.node (.node l k v rl) rk rv rr)) := Lib.hid (by obtain ⟨q1, q2⟩ := hs; unfold byT at q2; simp only [Tr.sz, Tr.by_] at q1 q2; exact ⟨by simp only [Tr.sz]; omega, by unfold byT; simp only [Tr.by_]; omega⟩)
  clear hn hrl hrr hl hm hs h1 h0 h2
  generalize l.ht = n1 at *
  generalize Tr.ht (.node rl rk rv rr) = n2 at *
  generalize rl.ht = n3 at *
  generalize rr.ht = n4 at *
  go_enter Tryz.func125, Tryz.ntmps125
  go_wp2_with fail
  refine H1.out.mono ?_
  rintro e w' ⟨rfl, rfl⟩
  go_wp2_with fail
  refine H2.out.mono ?_
  rintro e w' ⟨rfl, rfl⟩
  clear H1 H2
  go_wp2_with fail
  go_quiet (fail)
  have HB1 := Lib.hid (below_drewN HB0.out nq)
  have HNR1 := Lib.hid (HNR0.out.drewN nq)
  have HRL1 := Lib.hid (HRL0.out.drewN nq)
  have HRR1 := Lib.hid (HRR0.out.drewN nq)
  have HL1 := Lib.hid (HL0.out.drewN nq)
  have HM1 := Lib.hid (HM0.out.drewN nq)
  clear HB0 HNR0 HRL0 HRR0 HL0 HM0
  generalize World.drewN w nq = w1 at *
  go_wp2_with fail
  have c0 : w1.cell? ⟨br, 0, none⟩ = some (.pointer prl) := (nd_cells HNR1.out).1
  have c1 : w1.cell? ⟨br, 1, none⟩ = some (.pointer prr) := (nd_cells HNR1.out).2.1
  have H3 := Lib.hid (HH3.out _ HRR1.out.drew)
  have H4 := Lib.hid (HH4.out _ HRL1.out.drew)
  clear HH3 HH4
  have HL2 := Lib.hid HL1.out.drew.drew
  have HRL2 := Lib.hid HRL1.out.drew.drew
  have HRR2 := Lib.hid HRR1.out.drew.drew
  have HM2 : Hid (NdAt w1.drew.drew m p1 p2 k v h s y) := Lib.hid HM1.out
  have HB2 := Lib.hid HB1.out.drew.drew
  have HNR2 : Hid (NdAt w1.drew.drew br prl prr rk rv _ _ _) := Lib.hid HNR1.out
  clear HL1 HRL1 HRR1 HM1 HB1 HNR1
  refine wp_region_still_tail 15 (by kernel_rfl) (by kernel_rfl) ?_
  simp only [List.take_succ_cons, List.take_zero, List.drop_succ_cons, List.drop_zero]
  iterate 7 still_step
  still_call (still_of H3.out)
  iterate 4 still_step
  still_call (still_of H4.out)
  iterate 2 still_step
  refine wpStill_nil ?_
  show wpList _ _ _ _ _ w1.drew
  clear H3 H4
  go_wp2_with fail
  refine wp_region_noPanic ?_
  refine wp_region_held_drew (S := (fun w' => w'.cell? ⟨br, 0, none⟩ = some (.pointer prl) ∧ w'.cell? ⟨br, 1, none⟩ = some (.pointer prr))) (by kernel_rfl) ?_ (fun hHeld => ?_)
  · exact ⟨c0, c1⟩
  refine tk (v := ?_) 0 rfl (by kernel_rfl) (fun _ _ _ h => h) ?_ hHeld ?_
  rotate_left
  · (intro w h; (try dsimp only at h); go_simp; try with_reducible rfl)
  try simp only [Act.put, pB, pC, pD]
  refine tk (v := ?_) 1 rfl (by kernel_rfl) (fun _ _ _ h => h) ?_ hHeld ?_
  rotate_left
  · (intro w h; (try dsimp only at h); go_simp; try with_reducible rfl)
  try simp only [Act.put, pB, pC, pD]
  refine tk (v := ?_) 2 rfl (by kernel_rfl) (fun _ _ _ h => h) ?_ hHeld ?_
  rotate_left
  · (intro w h; (try dsimp only at h); go_simp; try with_reducible rfl)
  try simp only [Act.put, pB, pC, pD]
  refine tk (v := ?_) 3 rfl (by kernel_rfl) (fun _ _ _ h => h) ?_ hHeld ?_
  rotate_left
  · (intro w h; (try dsimp only at h); go_simp; try with_reducible rfl)
  try simp only [Act.put, pB, pC, pD]
  refine tk (v := ?_) 4 rfl (by kernel_rfl) (fun _ _ _ h => h) ?_ hHeld ?_
  rotate_left
  · (intro w h; (try dsimp only at h); go_simp; try with_reducible rfl)
  try simp only [Act.put, pB, pC, pD]
  refine tk (v := ?_) 5 rfl (by kernel_rfl) (fun _ _ _ h => h) ?_ hHeld ?_
  rotate_left
  · (intro w h; (try dsimp only at h); go_simp; try with_reducible rfl)
  try simp only [Act.put, pB, pC, pD]
  refine tk (v := ?_) 7 rfl (by kernel_rfl) (fun _ _ _ h => h) ?_ hHeld ?_
  rotate_left
  · (intro w h; (try dsimp only at h); go_simp; try with_reducible rfl)
  try simp only [Act.put, pB, pC, pD]
  refine tk (v := ?_) 8 rfl (by kernel_rfl) (fun _ _ _ h => h) ?_ hHeld ?_
  rotate_left
  · (intro w h; (try dsimp only at h); go_simp; try with_reducible rfl)
  try simp only [Act.put, pB, pC, pD]
  refine tk (v := ?_) 9 rfl (by kernel_rfl) (fun _ _ _ h => h) ?_ hHeld ?_
  rotate_left
  · (intro w h; (try dsimp only at h); go_simp; try with_reducible rfl)
  try simp only [Act.put, pB, pC, pD]
  refine tk (v := ?_) 10 rfl (by kernel_rfl) (fun _ _ _ h => h) ?_ hHeld ?_
  rotate_left
  · (intro w h; (try dsimp only at h); go_simp; try with_reducible rfl)
  try simp only [Act.put, pB, pC, pD]
  refine tk (v := ?_) 11 rfl (by kernel_rfl) (fun _ _ _ h => h) ?_ hHeld ?_
  rotate_left
  · (intro w h; (try dsimp only at h); go_simp; try with_reducible rfl)
  try simp only [Act.put, pB, pC, pD]
  refine wpAnyH_ready (rs := [6]) (by kernel_rfl) (by simp) ?_
  refine AllReadyH.cons rfl (fun K hK => ?_) AllReadyH.nil
  go_simp
  refine (join_is HL2.out HRL2.out HM2.out S1.out).mono ?_; rintro e w3 ⟨b3, rfl, ht3, hb3⟩; have HN3 := Lib.hid (HNR2.out.next hb3); have HL3 := Lib.hid (TrAt.next hb3 HRR2.out); have HT3 := Lib.hid ht3; have HB3 := Lib.hid (HB2.out.trans (hb3.mono HB2.out.size)); have x0 : w3.cell? ⟨br, 0, none⟩ = some (.pointer prl) := (nd_cells HN3.out).1; have x1 : w3.cell? ⟨br, 1, none⟩ = some (.pointer prr) := (nd_cells HN3.out).2.1
  try (go_wp2_with fail)
  refine hK.out _ _ ?_ (fun hNew => ?_)
  · exact ⟨x0, x1⟩
  clear hK K hHeld
  have hHeld := hNew
  clear hNew
  try simp only [Act.put, pB, pC, pD]
  refine wpAnyH_ready (rs := [12]) (by kernel_rfl) (by simp) ?_
  refine AllReadyH.cons rfl (fun K hK => ?_) AllReadyH.nil
  go_simp
  refine (join_is HT3.out HL3.out HN3.out S2.out).mono ?_; rintro e w4 ⟨b5, rfl, ht4, hb4⟩; have HT5 := Lib.hid ht4; have HB4 := Lib.hid (HB3.out.trans (hb4.mono HB3.out.size)); have x0 : w4.cell? ⟨br, 0, none⟩ = some (.pointer prl) := (nd_cells (HN3.out.next hb4)).1; have x1 : w4.cell? ⟨br, 1, none⟩ = some (.pointer prr) := (nd_cells (HN3.out.next hb4)).2.1
  try (go_wp2_with fail)
  refine hK.out _ _ ?_ (fun hNew => ?_)
  · exact ⟨x0, x1⟩
  clear hK K hHeld
  have hHeld := hNew
  clear hNew
  try simp only [Act.put, pB, pC, pD]
  refine tk (v := ?_) 13 rfl (by kernel_rfl) (fun _ _ _ h => h) ?_ hHeld ?_
  rotate_left
  · (intro w h; (try dsimp only at h); go_simp; try with_reducible rfl)
  try simp only [Act.put, pB, pC, pD]
  refine wpAnyH_done (by kernel_rfl) ?_ _
  clear hHeld
  simp only [List.getElem_toArray, List.getElem_cons_zero, List.getElem_cons_succ, Act.put, pB, pC, pD]
  refine NoPanic.normal ?_
  go_wp2
  go_ret
  exact ⟨b5, rfl, HT5.out, HB4.out⟩
set_option maxRecDepth 100000 in
set_option maxHeartbeats 1000000 in
theorem bal_b2 {w : World} {pl pr p1 p2 : Option Addr} {m : Nat} {l a b rr : T46} {rk mk : Nm} {rv mv : Bs} {k : Nm} {v : Bs} {h s y : Nat} (hl : TrAt w pl l) (hr : TrAt w pr (.node (.node a mk mv b) rk rv rr)) (hm : NdAt w m p1 p2 k v h s y) (hs : TrSm (.node l k v (.node (.node a mk mv b) rk rv rr))) (h1 : ¬ Tr.ht (.node (.node a mk mv b) rk rv rr) + 1 < l.ht) (h0 : l.ht + 1 < Tr.ht (.node (.node a mk mv b) rk rv rr)) (h2 : ¬ Tr.ht (.node a mk mv b) ≤ rr.ht) :
    Calls Tryz.prog 125 #[.pointer pl, .pointer (some ⟨m, 0, none⟩), .pointer pr] w (BalP w (.node (.node l k v a) mk mv (.node b rk rv rr))) := by
  have H1 := Lib.hid (height_is hl)
  have H2 := Lib.hid (height_is hr)
  have hd1 := hs.left.ht
  have hd2 := hs.right.ht
  obtain ⟨br, prl, prr, rfl, hn, hrl, hrr⟩ := hr
  obtain ⟨bi, pia, pib, rfl, hni, ha, hb_⟩ := hrl
  have e1 : decide ((1 : Int) < (l.ht : Int) - (Tr.ht (.node (.node a mk mv b) rk rv rr) : Int)) = false := by rw [decide_eq_false_iff_not]; omega
  have e2 : decide ((l.ht : Int) - (Tr.ht (.node (.node a mk mv b) rk rv rr) : Int) < -1) = true := by rw [decide_eq_true_eq]; omega
  have e3 : decide (Tr.ht (.node a mk mv b) ≤ rr.ht) = false := by rw [decide_eq_false_iff_not]; omega
  have HNR0 := Lib.hid hn
  have HNI0 := Lib.hid hni
  have HA0 := Lib.hid ha
  have HB_0 := Lib.hid hb_
  have HRR0 := Lib.hid hrr
  have HL0 := Lib.hid hl
  have HM0 := Lib.hid hm
  have HB0 := Lib.hid (Below.refl w.heap.size w)
  have HH3 : Hid (∀ w', TrAt w' prr rr → Calls Tryz.prog 165 #[.pointer prr] w' fun e w'' => e = .returned (.int .i64 (rr.ht : Int)) ∧ w' = w'') := Lib.hid (fun w' q => height_is q)
  have S1 : Hid (TrSm (.node l k v a)) := Lib.hid (by obtain ⟨q1, q2⟩ := hs; unfold byT at q2; simp only [Tr.sz, Tr.by_] at q1 q2; exact ⟨by simp only [Tr.sz]; omega, by unfold byT; simp only [Tr.by_]; omega⟩)
  have S2 : Hid (TrSm (.node b rk rv rr)) := Lib.hid (by obtain ⟨q1, q2⟩ := hs; unfold byT at q2; simp only [Tr.sz, Tr.by_] at q1 q2; exact ⟨by simp only [Tr.sz]; omega, by unfold byT; simp only [Tr.by_]; omega⟩)
  have S3 : Hid (TrSm (.node (.node l k v a) mk mv (.node b rk rv rr))) := Lib.hid (by obtain ⟨q1, q2⟩ := hs; unfold byT at q2; simp only [Tr.sz, Tr.by_] at q1 q2; exact ⟨by simp only [Tr.sz]; omega, by unfold byT; simp only [Tr.by_]; omega⟩)
  have HI : Hid (∀ w', NdAt w' bi pia pib mk mv (Tr.ht (.node a mk mv b)) (Tr.sz (.node a mk mv b)) (byT (.node a mk mv b)) → TrAt w' pia a → TrAt w' pib b → Calls Tryz.prog 165 #[.pointer (some ⟨bi, 0, none⟩)] w' fun e w'' => e = .returned (.int .i64 (Tr.ht (.node a mk mv b) : Int)) ∧ w' = w'') := Lib.hid (fun w' q1 q2 q3 => height_is ⟨bi, pia, pib, rfl, q1, q2, q3⟩)
  clear hn hni ha hb_ hrr hl hm hs h1 h0 h2
  generalize l.ht = n1 at *
  generalize Tr.ht (.node (.node a mk mv b) rk rv rr) = n2 at *
  generalize Tr.ht (.node a mk mv b) = n3 at *
  generalize rr.ht = n4 at *
  go_enter Tryz.func125, Tryz.ntmps125
  go_wp2_with fail
  refine H1.out.mono ?_
  rintro e w' ⟨rfl, rfl⟩
  go_wp2_with fail
  refine H2.out.mono ?_
  rintro e w' ⟨rfl, rfl⟩
  clear H1 H2
  go_wp2_with fail
  go_quiet (fail)
  have HB1 := Lib.hid (below_drewN HB0.out nq)
  have HNR1 := Lib.hid (HNR0.out.drewN nq)
  have HNI1 := Lib.hid (HNI0.out.drewN nq)
  have HA1 := Lib.hid (HA0.out.drewN nq)
  have HB_1 := Lib.hid (HB_0.out.drewN nq)
  have HRR1 := Lib.hid (HRR0.out.drewN nq)
  have HL1 := Lib.hid (HL0.out.drewN nq)
  have HM1 := Lib.hid (HM0.out.drewN nq)
  clear HB0 HNR0 HNI0 HA0 HB_0 HRR0 HL0 HM0
  generalize World.drewN w nq = w1 at *
  go_wp2_with fail
  have c0 : w1.cell? ⟨br, 0, none⟩ = some (.pointer (some ⟨bi, 0, none⟩)) := (nd_cells HNR1.out).1
  have c1 : w1.cell? ⟨br, 1, none⟩ = some (.pointer prr) := (nd_cells HNR1.out).2.1
  have H3 := Lib.hid (HH3.out _ HRR1.out.drew)
  have H4 := Lib.hid (HI.out w1.drew HNI1.out HA1.out.drew HB_1.out.drew)
  clear HH3
  have HA2 := Lib.hid HA1.out.drew.drew
  have HB_2 := Lib.hid HB_1.out.drew.drew
  have HRR2 := Lib.hid HRR1.out.drew.drew
  have HL2 := Lib.hid HL1.out.drew.drew
  have HB2 := Lib.hid HB1.out.drew.drew
  have HM2 : Hid (NdAt w1.drew.drew m p1 p2 k v h s y) := Lib.hid HM1.out
  have HNR2 : Hid (NdAt w1.drew.drew br (some ⟨bi, 0, none⟩) prr rk rv _ _ _) := Lib.hid HNR1.out
  have HNI2 : Hid (NdAt w1.drew.drew bi pia pib mk mv _ _ _) := Lib.hid HNI1.out
  have c2 : w1.cell? ⟨bi, 0, none⟩ = some (.pointer pia) := (nd_cells HNI1.out).1
  have c3 : w1.cell? ⟨bi, 1, none⟩ = some (.pointer pib) := (nd_cells HNI1.out).2.1
  clear HL1 HRR1 HM1 HB1 HNR1 HNI1 HA1 HB_1 HI
  refine wp_region_still_tail 15 (by kernel_rfl) (by kernel_rfl) ?_
  simp only [List.take_succ_cons, List.take_zero, List.drop_succ_cons, List.drop_zero]
  iterate 7 still_step
  still_call (still_of H3.out)
  iterate 4 still_step
  still_call (still_of H4.out)
  iterate 2 still_step
  refine wpStill_nil ?_
  show wpList _ _ _ _ _ w1.drew
  clear H3 H4
  go_wp2_with fail
  refine wp_region_noPanic ?_
  refine wp_region_held_drew (S := (fun w' => w'.cell? ⟨bi, 0, none⟩ = some (.pointer pia) ∧ w'.cell? ⟨bi, 1, none⟩ = some (.pointer pib) ∧ w'.cell? ⟨br, 1, none⟩ = some (.pointer prr))) (by kernel_rfl) ?_ (fun hHeld => ?_)
  · exact ⟨c2, c3, c1⟩
  refine tk (v := ?_) 0 rfl (by kernel_rfl) (fun _ _ _ h => h) ?_ hHeld ?_
  rotate_left
  · (intro w h; (try dsimp only at h); go_simp; try with_reducible rfl)
  try simp only [Act.put, pB, pC, pD]
  refine tk (v := ?_) 1 rfl (by kernel_rfl) (fun _ _ _ h => h) ?_ hHeld ?_
  rotate_left
  · (intro w h; (try dsimp only at h); go_simp; try with_reducible rfl)
  try simp only [Act.put, pB, pC, pD]
  refine tk (v := ?_) 2 rfl (by kernel_rfl) (fun _ _ _ h => h) ?_ hHeld ?_
  rotate_left
  · (intro w h; (try dsimp only at h); go_simp; try with_reducible rfl)
  try simp only [Act.put, pB, pC, pD]
  refine tk (v := ?_) 3 rfl (by kernel_rfl) (fun _ _ _ h => h) ?_ hHeld ?_
  rotate_left
  · (intro w h; (try dsimp only at h); go_simp; try with_reducible rfl)
  try simp only [Act.put, pB, pC, pD]
  refine tk (v := ?_) 4 rfl (by kernel_rfl) (fun _ _ _ h => h) ?_ hHeld ?_
  rotate_left
  · (intro w h; (try dsimp only at h); go_simp; try with_reducible rfl)
  try simp only [Act.put, pB, pC, pD]
  refine tk (v := ?_) 5 rfl (by kernel_rfl) (fun _ _ _ h => h) ?_ hHeld ?_
  rotate_left
  · (intro w h; (try dsimp only at h); go_simp; try with_reducible rfl)
  try simp only [Act.put, pB, pC, pD]
  refine tk (v := ?_) 7 rfl (by kernel_rfl) (fun _ _ _ h => h) ?_ hHeld ?_
  rotate_left
  · (intro w h; (try dsimp only at h); go_simp; try with_reducible rfl)
  try simp only [Act.put, pB, pC, pD]
  refine tk (v := ?_) 8 rfl (by kernel_rfl) (fun _ _ _ h => h) ?_ hHeld ?_
  rotate_left
  · (intro w h; (try dsimp only at h); go_simp; try with_reducible rfl)
  try simp only [Act.put, pB, pC, pD]
  refine tk (v := ?_) 9 rfl (by kernel_rfl) (fun _ _ _ h => h) ?_ hHeld ?_
  rotate_left
  · (intro w h; (try dsimp only at h); go_simp; try with_reducible rfl)
  try simp only [Act.put, pB, pC, pD]
  refine tk (v := ?_) 10 rfl (by kernel_rfl) (fun _ _ _ h => h) ?_ hHeld ?_
  rotate_left
  · (intro w h; (try dsimp only at h); go_simp; try with_reducible rfl)
  try simp only [Act.put, pB, pC, pD]
  refine tk (v := ?_) 11 rfl (by kernel_rfl) (fun _ _ _ h => h) ?_ hHeld ?_
  rotate_left
  · (intro w h; (try dsimp only at h); go_simp; try with_reducible rfl)
  try simp only [Act.put, pB, pC, pD]
  refine tk (v := ?_) 12 rfl (by kernel_rfl) (fun _ _ _ h => h) ?_ hHeld ?_
  rotate_left
  · (intro w h; (try dsimp only at h); go_simp; try with_reducible rfl)
  try simp only [Act.put, pB, pC, pD]
  refine tk (v := ?_) 13 rfl (by kernel_rfl) (fun _ _ _ h => h) ?_ hHeld ?_
  rotate_left
  · (intro w h; (try dsimp only at h); go_simp; try with_reducible rfl)
  try simp only [Act.put, pB, pC, pD]
  refine tk (v := ?_) 14 rfl (by kernel_rfl) (fun _ _ _ h => h) ?_ hHeld ?_
  rotate_left
  · (intro w h; (try dsimp only at h); go_simp; try with_reducible rfl)
  try simp only [Act.put, pB, pC, pD]
  refine tk (v := ?_) 15 rfl (by kernel_rfl) (fun _ _ _ h => h) ?_ hHeld ?_
  rotate_left
  · (intro w h; (try dsimp only at h); go_simp; try with_reducible rfl)
  try simp only [Act.put, pB, pC, pD]
  refine tk (v := ?_) 16 rfl (by kernel_rfl) (fun _ _ _ h => h) ?_ hHeld ?_
  rotate_left
  · (intro w h; (try dsimp only at h); go_simp; try with_reducible rfl)
  try simp only [Act.put, pB, pC, pD]
  refine wpAnyH_ready (rs := [6]) (by kernel_rfl) (by simp) ?_
  refine AllReadyH.cons rfl (fun K hK => ?_) AllReadyH.nil
  go_simp
  refine (join_is HL2.out HA2.out HM2.out S1.out).mono ?_; rintro e w3 ⟨b3a, rfl, ht, hb⟩; have HX3 := Lib.hid ht; have HB3 := Lib.hid (HB2.out.trans (hb.mono HB2.out.size)); have HNR3 := Lib.hid (HNR2.out.next hb); have HNI3 := Lib.hid (HNI2.out.next hb); have HM3 := Lib.hid (HM2.out.next hb); have HL3 := Lib.hid (TrAt.next hb HL2.out); have HA3 := Lib.hid (TrAt.next hb HA2.out); have HB_3 := Lib.hid (TrAt.next hb HB_2.out); have HRR3 := Lib.hid (TrAt.next hb HRR2.out); have x0 : w3.cell? ⟨bi, 0, none⟩ = some (.pointer pia) := (nd_cells HNI3.out).1; have x1 : w3.cell? ⟨bi, 1, none⟩ = some (.pointer pib) := (nd_cells HNI3.out).2.1; have x2 : w3.cell? ⟨br, 1, none⟩ = some (.pointer prr) := (nd_cells HNR3.out).2.1; clear ht hb
  try (go_wp2_with fail)
  refine hK.out _ _ ?_ (fun hNew => ?_)
  · exact ⟨x0, x1, x2⟩
  clear hK K hHeld
  have hHeld := hNew
  clear hNew
  try simp only [Act.put, pB, pC, pD]
  refine wpAnyH_ready (rs := [17]) (by kernel_rfl) (by simp) ?_
  refine AllReadyH.cons rfl (fun K hK => ?_) AllReadyH.nil
  go_simp
  refine (join_is HB_3.out HRR3.out HNR3.out S2.out).mono ?_; rintro e w4 ⟨b4b, rfl, ht, hb⟩; have HY4 := Lib.hid ht; have HB4 := Lib.hid (HB3.out.trans (hb.mono HB3.out.size)); have HNR4 := Lib.hid (HNR3.out.next hb); have HNI4 := Lib.hid (HNI3.out.next hb); have HM4 := Lib.hid (HM3.out.next hb); have HL4 := Lib.hid (TrAt.next hb HL3.out); have HA4 := Lib.hid (TrAt.next hb HA3.out); have HB_4 := Lib.hid (TrAt.next hb HB_3.out); have HRR4 := Lib.hid (TrAt.next hb HRR3.out); have HX4 := Lib.hid (TrAt.next hb HX3.out); have x0 : w4.cell? ⟨bi, 0, none⟩ = some (.pointer pia) := (nd_cells HNI4.out).1; have x1 : w4.cell? ⟨bi, 1, none⟩ = some (.pointer pib) := (nd_cells HNI4.out).2.1; have x2 : w4.cell? ⟨br, 1, none⟩ = some (.pointer prr) := (nd_cells HNR4.out).2.1; clear ht hb
  try (go_wp2_with fail)
  refine hK.out _ _ ?_ (fun hNew => ?_)
  · exact ⟨x0, x1, x2⟩
  clear hK K hHeld
  have hHeld := hNew
  clear hNew
  try simp only [Act.put, pB, pC, pD]
  refine wpAnyH_ready (rs := [18]) (by kernel_rfl) (by simp) ?_
  refine AllReadyH.cons rfl (fun K hK => ?_) AllReadyH.nil
  go_simp
  refine (join_is HX4.out HY4.out HNI4.out S3.out).mono ?_; rintro e w5 ⟨b5, rfl, ht, hb⟩; have HT5 := Lib.hid ht; have HB5 := Lib.hid (HB4.out.trans (hb.mono HB4.out.size)); have HNR5 := Lib.hid (HNR4.out.next hb); have HNI5 := Lib.hid (HNI4.out.next hb); have x0 : w5.cell? ⟨bi, 0, none⟩ = some (.pointer pia) := (nd_cells HNI5.out).1; have x1 : w5.cell? ⟨bi, 1, none⟩ = some (.pointer pib) := (nd_cells HNI5.out).2.1; have x2 : w5.cell? ⟨br, 1, none⟩ = some (.pointer prr) := (nd_cells HNR5.out).2.1; clear ht hb
  try (go_wp2_with fail)
  refine hK.out _ _ ?_ (fun hNew => ?_)
  · exact ⟨x0, x1, x2⟩
  clear hK K hHeld
  have hHeld := hNew
  clear hNew
  try simp only [Act.put, pB, pC, pD]
  refine tk (v := ?_) 19 rfl (by kernel_rfl) (fun _ _ _ h => h) ?_ hHeld ?_
  rotate_left
  · (intro w h; (try dsimp only at h); go_simp; try with_reducible rfl)
  try simp only [Act.put, pB, pC, pD]
  refine wpAnyH_done (by kernel_rfl) ?_ _
  clear hHeld
  simp only [List.getElem_toArray, List.getElem_cons_zero, List.getElem_cons_succ, Act.put, pB, pC, pD]
  refine NoPanic.normal ?_
  go_wp2
  go_ret
  exact ⟨b5, rfl, HT5.out, HB5.out⟩
theorem balance_is {w : World} {pl pr p1 p2 : Option Addr} {m : Nat} {l r : T46} {k : Nm} {v : Bs} {h s y : Nat} (hl : TrAt w pl l) (hr : TrAt w pr r) (hm : NdAt w m p1 p2 k v h s y) (hs : TrSm (.node l k v r)) :
    Calls Tryz.prog 125 #[.pointer pl, .pointer (some ⟨m, 0, none⟩), .pointer pr] w (BalP w (Tr.bal l k v r)) := by
  unfold Tr.bal
  by_cases h1 : r.ht + 1 < l.ht
  · rw [if_pos h1]
    cases l with
    | nil => simp [Tr.ht] at h1
    | node ll lk lv lr =>
      simp only
      by_cases h2 : lr.ht ≤ ll.ht
      · rw [if_pos h2]
        exact bal_a1 hl hr hm hs h1 h2
      · rw [if_neg h2]
        cases lr with
        | nil => simp [Tr.ht] at h2
        | node a mk mv b => exact bal_a2 hl hr hm hs h1 h2
  · rw [if_neg h1]
    by_cases h0 : l.ht + 1 < r.ht
    · rw [if_pos h0]
      cases r with
      | nil => simp [Tr.ht] at h0
      | node rl rk rv rr =>
        simp only
        by_cases h2 : rl.ht ≤ rr.ht
        · rw [if_pos h2]
          exact bal_b1 hl hr hm hs h1 h0 h2
        · rw [if_neg h2]
          cases rl with
          | nil => simp [Tr.ht] at h2
          | node a mk mv b => exact bal_b2 hl hr hm hs h1 h0 h2
    · rw [if_neg h0]
      exact bal_c hl hr hm hs h1 h0
end Go.Proofs.YtamjllakfgphnaaGreatDoor
namespace Go.Proofs.YtamjllakfgphnaaGreatDoor
open Go.RowKit
set_option linter.unusedSimpArgs false
set_option linter.unusedVariables false
attribute [local go_sem ↓] Go.wp_at_zero Go.wp_at_succ
theorem sz_bal (l : T46) (k : Nm) (v : Bs) (r : T46) : (Tr.bal l k v r).sz = 1 + l.sz + r.sz := by
  rw [Tr.sz_flat, Tr.flat_bal, Tr.sz_flat l, Tr.sz_flat r]; simp; omega
theorem by_bal (l : T46) (k : Nm) (v : Bs) (r : T46) : byT (Tr.bal l k v r) = v.length + byT l + byT r := by
  have e := Tr.by_flat (κ := Nm) (List.length : Bs → Nat)
  unfold byT
  simp only [e, Tr.flat_bal, List.map_append, List.map_cons, List.sum_append, List.sum_cons]; omega
theorem sz_with (k : Nm) (v : Bs) : ∀ t : T46, (t.with_ cmpN k v).sz ≤ t.sz + 1
  | .nil => by simp [Tr.with_, Tr.sz]
  | .node l a x r => by
    have h1 := sz_with k v l
    have h2 := sz_with k v r
    simp only [Tr.with_]
    split
    · rw [sz_bal]; simp only [Tr.sz]; omega
    split
    · rw [sz_bal]; simp only [Tr.sz]; omega
    · simp only [Tr.sz]; omega
theorem by_with (k : Nm) (v : Bs) : ∀ t : T46, byT (t.with_ cmpN k v) ≤ byT t + v.length
  | .nil => by simp [Tr.with_, byT, Tr.by_]
  | .node l a x r => by
    have h1 := by_with k v l
    have h2 := by_with k v r
    simp only [Tr.with_]
    split
    · rw [by_bal]; unfold byT at *; simp only [Tr.by_]; omega
    split
    · rw [by_bal]; unfold byT at *; simp only [Tr.by_]; omega
    · unfold byT at *; simp only [Tr.by_]; omega
def WithOk (t : T46) (v : Bs) : Prop := t.sz < 100000 ∧ byT t + v.length ≤ 10000000000
theorem WithOk.left {l r : T46} {a : Nm} {x v : Bs} (h : WithOk (.node l a x r) v) : WithOk l v := by
  obtain ⟨h1, h2⟩ := h
  unfold byT at h2
  simp only [Tr.sz, Tr.by_] at h1 h2
  exact ⟨by omega, by unfold byT; omega⟩
theorem WithOk.right {l r : T46} {a : Nm} {x v : Bs} (h : WithOk (.node l a x r) v) : WithOk r v := by
  obtain ⟨h1, h2⟩ := h
  unfold byT at h2
  simp only [Tr.sz, Tr.by_] at h1 h2
  exact ⟨by omega, by unfold byT; omega⟩
theorem WithOk.sm_left {l r : T46} {k a : Nm} {x v : Bs} (h : WithOk (.node l a x r) v) : TrSm (.node (l.with_ cmpN k v) a x r) := by
  obtain ⟨h1, h2⟩ := h
  have q1 := sz_with k v l
  have q2 := by_with k v l
  unfold byT at h2 q2
  simp only [Tr.sz, Tr.by_] at h1 h2
  exact ⟨by simp only [Tr.sz]; omega, by unfold byT; simp only [Tr.by_]; omega⟩
theorem WithOk.sm_right {l r : T46} {k a : Nm} {x v : Bs} (h : WithOk (.node l a x r) v) : TrSm (.node l a x (r.with_ cmpN k v)) := by
  obtain ⟨h1, h2⟩ := h
  have q1 := sz_with k v r
  have q2 := by_with k v r
  unfold byT at h2 q2
  simp only [Tr.sz, Tr.by_] at h1 h2
  exact ⟨by simp only [Tr.sz]; omega, by unfold byT; simp only [Tr.by_]; omega⟩
theorem WithOk.sm_here {l r : T46} {k a : Nm} {x v : Bs} (h : WithOk (.node l a x r) v) : TrSm (.node l k v r) := by
  obtain ⟨h1, h2⟩ := h
  unfold byT at h2
  simp only [Tr.sz, Tr.by_] at h1 h2
  exact ⟨by simp only [Tr.sz]; omega, by unfold byT; simp only [Tr.by_]; omega⟩
def SameOwn (k : Nm) (t : T46) : Prop := ∀ p ∈ t.flat, k.owner = p.1.owner
theorem SameOwn.left {k a : Nm} {l r : T46} {x : Bs} (h : SameOwn k (.node l a x r)) : SameOwn k l := fun p hp => h p (by simp [Tr.flat, hp])
theorem SameOwn.right {k a : Nm} {l r : T46} {x : Bs} (h : SameOwn k (.node l a x r)) : SameOwn k r := fun p hp => h p (by simp [Tr.flat, hp])
theorem SameOwn.here {k a : Nm} {l r : T46} {x : Bs} (h : SameOwn k (.node l a x r)) : k.owner = a.owner := h (a, x) (by simp [Tr.flat])
def WithSaid (k : Nm) (v : Bs) (t : T46) : Prop := ∀ {w : World} {p p1 p2 : Option Addr} {m h s y : Nat}, TrAt w p t → NdAt w m p1 p2 k v h s y → WithOk t v → SameOwn k t →
  Calls Tryz.prog 78 #[.pointer p, .pointer (some ⟨m, 0, none⟩)] w (BalP w (t.with_ cmpN k v))
theorem with_nil (k : Nm) (v : Bs) : WithSaid k v .nil := by
  intro w p p1 p2 m h s y hp hm hw ho
  obtain rfl : p = none := hp
  have HJ := Lib.hid (join_is (pl := none) (pr := none) (l := .nil) (r := .nil) rfl rfl hm ⟨by simp [Tr.sz], by unfold byT; simp only [Tr.by_]; have := hw.2; omega⟩)
  clear hm hw ho
  go_enter Tryz.func78, Tryz.ntmps78
  go_wp2_with fail
  refine HJ.out.mono ?_
  rintro e w' ⟨b, rfl, h1, h2⟩
  go_wp2
  go_ret
  exact ⟨b, rfl, h1, h2⟩
set_option maxRecDepth 100000 in
set_option maxHeartbeats 1000000 in
theorem with_lt {k a : Nm} {v x : Bs} {l r : T46} (IHL : WithSaid k v l) (IHR : WithSaid k v r) (hc : cmpN k a < 0) : {w : World} → {p p1 p2 : Option Addr} → {m h s y : Nat} → TrAt w p (.node l a x r) → NdAt w m p1 p2 k v h s y → WithOk (.node l a x r) v → SameOwn k (.node l a x r) →
  Calls Tryz.prog 78 #[.pointer p, .pointer (some ⟨m, 0, none⟩)] w (BalP w (Tr.with_ cmpN k v (.node l a x r))) := by
  intro w p p1 p2 m h s y hp hm hw ho
  obtain ⟨b, pl, pr, rfl, hn, hl, hr⟩ := hp
  obtain ⟨m0, m1, m2, m3, m4, m5, m6, m7, m8, m9, m10⟩ := nd_cells hm
  obtain ⟨n0, n1, n2, n3, n4, n5, n6, n7, n8, n9, n10⟩ := nd_cells hn
  clear m0 m1 m7 m8 m9 m10 n0 n1 n7 n8 n9 n10
  have HC := Lib.hid (compare_is k a w.drew ho.here)
  have HO := Lib.hid ho
  have HW := Lib.hid hw
  have HN := Lib.hid hn
  have HL := Lib.hid hl
  have HR := Lib.hid hr
  have HM := Lib.hid hm
  have HE : Hid (Tr.with_ cmpN k v (.node l a x r) = Tr.bal (l.with_ cmpN k v) a x r) := Lib.hid (by simp only [Tr.with_]; rw [if_pos hc])
  rw [HE.out]
  clear HE
  generalize cmpN k a = c at *
  have e1 : decide (c < 0) = true := by rw [decide_eq_true_eq]; exact hc
  clear hc
  clear ho hw hn hl hr hm
  go_enter Tryz.func78, Tryz.ntmps78
  go_wp2_with fail
  refine wp_region_still_tail 8 (by kernel_rfl) (by kernel_rfl) ?_
  simp only [List.take_succ_cons, List.take_zero, List.drop_succ_cons, List.drop_zero]
  iterate 8 still_step
  refine wpStill_nil ?_
  show wpList _ _ _ _ _ w.drew
  clear m2 m3 m4 m5 m6 n2 n3 n4 n5 n6
  go_wp2_with fail
  refine HC.out.mono ?_
  rintro e w2 ⟨rfl, hb⟩
  have HB2 := Lib.hid ((Below.refl w.heap.size w).drew.trans hb)
  have HN2 := Lib.hid (HN.out.next HB2.out)
  have HL2 := Lib.hid (TrAt.next HB2.out HL.out)
  have HR2 := Lib.hid (TrAt.next HB2.out HR.out)
  have HM2 := Lib.hid (HM.out.next HB2.out)
  have x0 : w2.cell? ⟨b, 0, none⟩ = some (.pointer pl) := (nd_cells HN2.out).1
  have x1 : w2.cell? ⟨b, 1, none⟩ = some (.pointer pr) := (nd_cells HN2.out).2.1
  clear HC hb HN HL HR HM
  go_wp2_with fail
  have HN3 : Hid (NdAt w2.drew b pl pr a x _ _ _) := Lib.hid HN2.out
  have HL3 := Lib.hid HL2.out.drew
  have HR3 := Lib.hid HR2.out.drew
  have HM3 : Hid (NdAt w2.drew m p1 p2 k v h s y) := Lib.hid HM2.out
  have HB3 := Lib.hid HB2.out.drew
  clear HN2 HL2 HR2 HM2 HB2
  refine wp_region_noPanic ?_
  refine wp_region_held_drew (S := (fun w' => w'.cell? ⟨b, 0, none⟩ = some (.pointer pl) ∧ w'.cell? ⟨b, 1, none⟩ = some (.pointer pr))) (by kernel_rfl) ?_ (fun hHeld => ?_)
  · exact ⟨x0, x1⟩
  refine tk (v := ?_) 0 rfl (by kernel_rfl) (fun _ _ _ h => h) ?_ hHeld ?_
  rotate_left
  · (intro w h; (try dsimp only at h); go_simp; try with_reducible rfl)
  try simp only [Act.put, pB, pC, pD]
  refine tk (v := ?_) 1 rfl (by kernel_rfl) (fun _ _ _ h => h) ?_ hHeld ?_
  rotate_left
  · (intro w h; (try dsimp only at h); go_simp; try with_reducible rfl)
  try simp only [Act.put, pB, pC, pD]
  refine tk (v := ?_) 2 rfl (by kernel_rfl) (fun _ _ _ h => h) ?_ hHeld ?_
  rotate_left
  · (intro w h; (try dsimp only at h); go_simp; try with_reducible rfl)
  try simp only [Act.put, pB, pC, pD]
  refine tk (v := ?_) 3 rfl (by kernel_rfl) (fun _ _ _ h => h) ?_ hHeld ?_
  rotate_left
  · (intro w h; (try dsimp only at h); go_simp; try with_reducible rfl)
  try simp only [Act.put, pB, pC, pD]
  refine tk (v := ?_) 4 rfl (by kernel_rfl) (fun _ _ _ h => h) ?_ hHeld ?_
  rotate_left
  · (intro w h; (try dsimp only at h); go_simp; try with_reducible rfl)
  try simp only [Act.put, pB, pC, pD]
  refine tk (v := ?_) 6 rfl (by kernel_rfl) (fun _ _ _ h => h) ?_ hHeld ?_
  rotate_left
  · (intro w h; (try dsimp only at h); go_simp; try with_reducible rfl)
  try simp only [Act.put, pB, pC, pD]
  refine tk (v := ?_) 7 rfl (by kernel_rfl) (fun _ _ _ h => h) ?_ hHeld ?_
  rotate_left
  · (intro w h; (try dsimp only at h); go_simp; try with_reducible rfl)
  try simp only [Act.put, pB, pC, pD]
  refine tk (v := ?_) 8 rfl (by kernel_rfl) (fun _ _ _ h => h) ?_ hHeld ?_
  rotate_left
  · (intro w h; (try dsimp only at h); go_simp; try with_reducible rfl)
  try simp only [Act.put, pB, pC, pD]
  refine tk (v := ?_) 9 rfl (by kernel_rfl) (fun _ _ _ h => h) ?_ hHeld ?_
  rotate_left
  · (intro w h; (try dsimp only at h); go_simp; try with_reducible rfl)
  try simp only [Act.put, pB, pC, pD]
  refine tk (v := ?_) 10 rfl (by kernel_rfl) (fun _ _ _ h => h) ?_ hHeld ?_
  rotate_left
  · (intro w h; (try dsimp only at h); go_simp; try with_reducible rfl)
  try simp only [Act.put, pB, pC, pD]
  refine wpAnyH_ready (rs := [5]) (by kernel_rfl) (by simp) ?_
  refine AllReadyH.cons rfl (fun K hK => ?_) AllReadyH.nil
  go_simp
  refine (IHL HL3.out HM3.out HW.out.left HO.out.left).mono ?_; rintro e w4 ⟨b4, rfl, ht, hb⟩; have HT4 := Lib.hid ht; have HB4 := Lib.hid (HB3.out.trans (hb.mono HB3.out.size)); have HN4 := Lib.hid (HN3.out.next hb); have HR4 := Lib.hid (TrAt.next hb HR3.out); clear ht hb; have x0 : w4.cell? ⟨b, 0, none⟩ = some (.pointer pl) := (nd_cells HN4.out).1; have x1 : w4.cell? ⟨b, 1, none⟩ = some (.pointer pr) := (nd_cells HN4.out).2.1
  try (go_wp2_with fail)
  refine hK.out _ _ ?_ (fun hNew => ?_)
  · exact ⟨x0, x1⟩
  clear hK K hHeld
  have hHeld := hNew
  clear hNew
  try simp only [Act.put, pB, pC, pD]
  refine wpAnyH_ready (rs := [11]) (by kernel_rfl) (by simp) ?_
  refine AllReadyH.cons rfl (fun K hK => ?_) AllReadyH.nil
  go_simp
  refine (balance_is HT4.out HR4.out HN4.out HW.out.sm_left).mono ?_; rintro e w5 ⟨b9, rfl, ht, hb⟩; have HT9 := Lib.hid ht; have HB9 := Lib.hid (HB4.out.trans (hb.mono HB4.out.size)); have HN9 := Lib.hid (HN4.out.next hb); clear ht hb; have x0 : w5.cell? ⟨b, 0, none⟩ = some (.pointer pl) := (nd_cells HN9.out).1; have x1 : w5.cell? ⟨b, 1, none⟩ = some (.pointer pr) := (nd_cells HN9.out).2.1
  try (go_wp2_with fail)
  refine hK.out _ _ ?_ (fun hNew => ?_)
  · exact ⟨x0, x1⟩
  clear hK K hHeld
  have hHeld := hNew
  clear hNew
  try simp only [Act.put, pB, pC, pD]
  refine tk (v := ?_) 12 rfl (by kernel_rfl) (fun _ _ _ h => h) ?_ hHeld ?_
  rotate_left
  · (intro w h; (try dsimp only at h); go_simp; try with_reducible rfl)
  try simp only [Act.put, pB, pC, pD]
  refine wpAnyH_done (by kernel_rfl) ?_ _
  clear hHeld
  simp only [List.getElem_toArray, List.getElem_cons_zero, List.getElem_cons_succ, Act.put, pB, pC, pD]
  refine NoPanic.normal ?_
  go_wp2
  go_ret
  exact ⟨b9, rfl, HT9.out, HB9.out⟩
set_option maxRecDepth 100000 in
set_option maxHeartbeats 1000000 in
theorem with_gt {k a : Nm} {v x : Bs} {l r : T46} (IHL : WithSaid k v l) (IHR : WithSaid k v r) (hc : 0 < cmpN k a) : {w : World} → {p p1 p2 : Option Addr} → {m h s y : Nat} → TrAt w p (.node l a x r) → NdAt w m p1 p2 k v h s y → WithOk (.node l a x r) v → SameOwn k (.node l a x r) →
  Calls Tryz.prog 78 #[.pointer p, .pointer (some ⟨m, 0, none⟩)] w (BalP w (Tr.with_ cmpN k v (.node l a x r))) := by
  intro w p p1 p2 m h s y hp hm hw ho
  obtain ⟨b, pl, pr, rfl, hn, hl, hr⟩ := hp
  obtain ⟨m0, m1, m2, m3, m4, m5, m6, m7, m8, m9, m10⟩ := nd_cells hm
  obtain ⟨n0, n1, n2, n3, n4, n5, n6, n7, n8, n9, n10⟩ := nd_cells hn
  clear m0 m1 m7 m8 m9 m10 n0 n1 n7 n8 n9 n10
  have HC := Lib.hid (compare_is k a w.drew ho.here)
  have HO := Lib.hid ho
  have HW := Lib.hid hw
  have HN := Lib.hid hn
  have HL := Lib.hid hl
  have HR := Lib.hid hr
  have HM := Lib.hid hm
  have HE : Hid (Tr.with_ cmpN k v (.node l a x r) = Tr.bal l a x (r.with_ cmpN k v)) := Lib.hid (by simp only [Tr.with_]; rw [if_neg (by omega), if_pos hc])
  rw [HE.out]
  clear HE
  generalize cmpN k a = c at *
  have e1 : decide (c < 0) = false := by rw [decide_eq_false_iff_not]; omega
  have e2 : decide (0 < c) = true := by rw [decide_eq_true_eq]; exact hc
  clear hc
  clear ho hw hn hl hr hm
  go_enter Tryz.func78, Tryz.ntmps78
  go_wp2_with fail
  refine wp_region_still_tail 8 (by kernel_rfl) (by kernel_rfl) ?_
  simp only [List.take_succ_cons, List.take_zero, List.drop_succ_cons, List.drop_zero]
  iterate 8 still_step
  refine wpStill_nil ?_
  show wpList _ _ _ _ _ w.drew
  clear m2 m3 m4 m5 m6 n2 n3 n4 n5 n6
  go_wp2_with fail
  refine HC.out.mono ?_
  rintro e w2 ⟨rfl, hb⟩
  have HB2 := Lib.hid ((Below.refl w.heap.size w).drew.trans hb)
  have HN2 := Lib.hid (HN.out.next HB2.out)
  have HL2 := Lib.hid (TrAt.next HB2.out HL.out)
  have HR2 := Lib.hid (TrAt.next HB2.out HR.out)
  have HM2 := Lib.hid (HM.out.next HB2.out)
  have x0 : w2.cell? ⟨b, 0, none⟩ = some (.pointer pl) := (nd_cells HN2.out).1
  have x1 : w2.cell? ⟨b, 1, none⟩ = some (.pointer pr) := (nd_cells HN2.out).2.1
  clear HC hb HN HL HR HM
  go_wp2_with fail
  have HN3 : Hid (NdAt w2.drew b pl pr a x _ _ _) := Lib.hid HN2.out
  have HL3 := Lib.hid HL2.out.drew
  have HR3 := Lib.hid HR2.out.drew
  have HM3 : Hid (NdAt w2.drew m p1 p2 k v h s y) := Lib.hid HM2.out
  have HB3 := Lib.hid HB2.out.drew
  clear HN2 HL2 HR2 HM2 HB2
  refine wp_region_noPanic ?_
  refine wp_region_held_drew (S := (fun w' => w'.cell? ⟨b, 0, none⟩ = some (.pointer pl) ∧ w'.cell? ⟨b, 1, none⟩ = some (.pointer pr))) (by kernel_rfl) ?_ (fun hHeld => ?_)
  · exact ⟨x0, x1⟩
  refine tk (v := ?_) 0 rfl (by kernel_rfl) (fun _ _ _ h => h) ?_ hHeld ?_
  rotate_left
  · (intro w h; (try dsimp only at h); go_simp; try with_reducible rfl)
  try simp only [Act.put, pB, pC, pD]
  refine tk (v := ?_) 1 rfl (by kernel_rfl) (fun _ _ _ h => h) ?_ hHeld ?_
  rotate_left
  · (intro w h; (try dsimp only at h); go_simp; try with_reducible rfl)
  try simp only [Act.put, pB, pC, pD]
  refine tk (v := ?_) 2 rfl (by kernel_rfl) (fun _ _ _ h => h) ?_ hHeld ?_
  rotate_left
  · (intro w h; (try dsimp only at h); go_simp; try with_reducible rfl)
  try simp only [Act.put, pB, pC, pD]
  refine tk (v := ?_) 3 rfl (by kernel_rfl) (fun _ _ _ h => h) ?_ hHeld ?_
  rotate_left
  · (intro w h; (try dsimp only at h); go_simp; try with_reducible rfl)
  try simp only [Act.put, pB, pC, pD]
  refine tk (v := ?_) 4 rfl (by kernel_rfl) (fun _ _ _ h => h) ?_ hHeld ?_
  rotate_left
  · (intro w h; (try dsimp only at h); go_simp; try with_reducible rfl)
  try simp only [Act.put, pB, pC, pD]
  refine tk (v := ?_) 5 rfl (by kernel_rfl) (fun _ _ _ h => h) ?_ hHeld ?_
  rotate_left
  · (intro w h; (try dsimp only at h); go_simp; try with_reducible rfl)
  try simp only [Act.put, pB, pC, pD]
  refine tk (v := ?_) 6 rfl (by kernel_rfl) (fun _ _ _ h => h) ?_ hHeld ?_
  rotate_left
  · (intro w h; (try dsimp only at h); go_simp; try with_reducible rfl)
  try simp only [Act.put, pB, pC, pD]
  refine tk (v := ?_) 7 rfl (by kernel_rfl) (fun _ _ _ h => h) ?_ hHeld ?_
  rotate_left
  · (intro w h; (try dsimp only at h); go_simp; try with_reducible rfl)
  try simp only [Act.put, pB, pC, pD]
  refine tk (v := ?_) 8 rfl (by kernel_rfl) (fun _ _ _ h => h) ?_ hHeld ?_
  rotate_left
  · (intro w h; (try dsimp only at h); go_simp; try with_reducible rfl)
  try simp only [Act.put, pB, pC, pD]
  refine tk (v := ?_) 9 rfl (by kernel_rfl) (fun _ _ _ h => h) ?_ hHeld ?_
  rotate_left
  · (intro w h; (try dsimp only at h); go_simp; try with_reducible rfl)
  try simp only [Act.put, pB, pC, pD]
  refine wpAnyH_ready (rs := [10]) (by kernel_rfl) (by simp) ?_
  refine AllReadyH.cons rfl (fun K hK => ?_) AllReadyH.nil
  go_simp
  refine (IHR HR3.out HM3.out HW.out.right HO.out.right).mono ?_; rintro e w4 ⟨b4, rfl, ht, hb⟩; have HT4 := Lib.hid ht; have HB4 := Lib.hid (HB3.out.trans (hb.mono HB3.out.size)); have HN4 := Lib.hid (HN3.out.next hb); have HL4 := Lib.hid (TrAt.next hb HL3.out); clear ht hb; have x0 : w4.cell? ⟨b, 0, none⟩ = some (.pointer pl) := (nd_cells HN4.out).1; have x1 : w4.cell? ⟨b, 1, none⟩ = some (.pointer pr) := (nd_cells HN4.out).2.1
  try (go_wp2_with fail)
  refine hK.out _ _ ?_ (fun hNew => ?_)
  · exact ⟨x0, x1⟩
  clear hK K hHeld
  have hHeld := hNew
  clear hNew
  try simp only [Act.put, pB, pC, pD]
  refine wpAnyH_ready (rs := [11]) (by kernel_rfl) (by simp) ?_
  refine AllReadyH.cons rfl (fun K hK => ?_) AllReadyH.nil
  go_simp
  refine (balance_is HL4.out HT4.out HN4.out HW.out.sm_right).mono ?_; rintro e w5 ⟨b9, rfl, ht, hb⟩; have HT9 := Lib.hid ht; have HB9 := Lib.hid (HB4.out.trans (hb.mono HB4.out.size)); have HN9 := Lib.hid (HN4.out.next hb); clear ht hb; have x0 : w5.cell? ⟨b, 0, none⟩ = some (.pointer pl) := (nd_cells HN9.out).1; have x1 : w5.cell? ⟨b, 1, none⟩ = some (.pointer pr) := (nd_cells HN9.out).2.1
  try (go_wp2_with fail)
  refine hK.out _ _ ?_ (fun hNew => ?_)
  · exact ⟨x0, x1⟩
  clear hK K hHeld
  have hHeld := hNew
  clear hNew
  try simp only [Act.put, pB, pC, pD]
  refine tk (v := ?_) 12 rfl (by kernel_rfl) (fun _ _ _ h => h) ?_ hHeld ?_
  rotate_left
  · (intro w h; (try dsimp only at h); go_simp; try with_reducible rfl)
  try simp only [Act.put, pB, pC, pD]
  refine wpAnyH_done (by kernel_rfl) ?_ _
  clear hHeld
  simp only [List.getElem_toArray, List.getElem_cons_zero, List.getElem_cons_succ, Act.put, pB, pC, pD]
  refine NoPanic.normal ?_
  go_wp2
  go_ret
  exact ⟨b9, rfl, HT9.out, HB9.out⟩
set_option maxRecDepth 100000 in
set_option maxHeartbeats 1000000 in
theorem with_eq {k a : Nm} {v x : Bs} {l r : T46} (IHL : WithSaid k v l) (IHR : WithSaid k v r) (hc : cmpN k a = 0) : {w : World} → {p p1 p2 : Option Addr} → {m h s y : Nat} → TrAt w p (.node l a x r) → NdAt w m p1 p2 k v h s y → WithOk (.node l a x r) v → SameOwn k (.node l a x r) →
  Calls Tryz.prog 78 #[.pointer p, .pointer (some ⟨m, 0, none⟩)] w (BalP w (Tr.with_ cmpN k v (.node l a x r))) := by
  intro w p p1 p2 m h s y hp hm hw ho
  obtain ⟨b, pl, pr, rfl, hn, hl, hr⟩ := hp
  obtain ⟨m0, m1, m2, m3, m4, m5, m6, m7, m8, m9, m10⟩ := nd_cells hm
  obtain ⟨n0, n1, n2, n3, n4, n5, n6, n7, n8, n9, n10⟩ := nd_cells hn
  clear m0 m1 m7 m8 m9 m10 n0 n1 n7 n8 n9 n10
  have HC := Lib.hid (compare_is k a w.drew ho.here)
  have HO := Lib.hid ho
  have HW := Lib.hid hw
  have HN := Lib.hid hn
  have HL := Lib.hid hl
  have HR := Lib.hid hr
  have HM := Lib.hid hm
  have HE : Hid (Tr.with_ cmpN k v (.node l a x r) = .node l k v r) := Lib.hid (by simp only [Tr.with_]; rw [if_neg (by omega), if_neg (by omega)])
  rw [HE.out]
  clear HE
  generalize cmpN k a = c at *
  have e1 : decide (c < 0) = false := by rw [decide_eq_false_iff_not]; omega
  have e2 : decide (0 < c) = false := by rw [decide_eq_false_iff_not]; omega
  clear hc
  clear ho hw hn hl hr hm
  go_enter Tryz.func78, Tryz.ntmps78
  go_wp2_with fail
  refine wp_region_still_tail 8 (by kernel_rfl) (by kernel_rfl) ?_
  simp only [List.take_succ_cons, List.take_zero, List.drop_succ_cons, List.drop_zero]
  iterate 8 still_step
  refine wpStill_nil ?_
  show wpList _ _ _ _ _ w.drew
  clear m2 m3 m4 m5 m6 n2 n3 n4 n5 n6
  go_wp2_with fail
  refine HC.out.mono ?_
  rintro e w2 ⟨rfl, hb⟩
  have HB2 := Lib.hid ((Below.refl w.heap.size w).drew.trans hb)
  have HN2 := Lib.hid (HN.out.next HB2.out)
  have HL2 := Lib.hid (TrAt.next HB2.out HL.out)
  have HR2 := Lib.hid (TrAt.next HB2.out HR.out)
  have HM2 := Lib.hid (HM.out.next HB2.out)
  have x0 : w2.cell? ⟨b, 0, none⟩ = some (.pointer pl) := (nd_cells HN2.out).1
  have x1 : w2.cell? ⟨b, 1, none⟩ = some (.pointer pr) := (nd_cells HN2.out).2.1
  clear HC hb HN HL HR HM
  go_wp2_with fail
  have HN3 : Hid (NdAt w2.drew b pl pr a x _ _ _) := Lib.hid HN2.out
  have HL3 := Lib.hid HL2.out.drew
  have HR3 := Lib.hid HR2.out.drew
  have HM3 : Hid (NdAt w2.drew m p1 p2 k v h s y) := Lib.hid HM2.out
  have HB3 := Lib.hid HB2.out.drew
  clear HN2 HL2 HR2 HM2 HB2
  refine wp_region_noPanic ?_
  refine wp_region_held_drew (S := (fun w' => w'.cell? ⟨b, 0, none⟩ = some (.pointer pl) ∧ w'.cell? ⟨b, 1, none⟩ = some (.pointer pr))) (by kernel_rfl) ?_ (fun hHeld => ?_)
  · exact ⟨x0, x1⟩
  refine tk (v := ?_) 0 rfl (by kernel_rfl) (fun _ _ _ h => h) ?_ hHeld ?_
  rotate_left
  · (intro w h; (try dsimp only at h); go_simp; try with_reducible rfl)
  try simp only [Act.put, pB, pC, pD]
  refine tk (v := ?_) 1 rfl (by kernel_rfl) (fun _ _ _ h => h) ?_ hHeld ?_
  rotate_left
  · (intro w h; (try dsimp only at h); go_simp; try with_reducible rfl)
  try simp only [Act.put, pB, pC, pD]
  refine tk (v := ?_) 2 rfl (by kernel_rfl) (fun _ _ _ h => h) ?_ hHeld ?_
  rotate_left
  · (intro w h; (try dsimp only at h); go_simp; try with_reducible rfl)
  try simp only [Act.put, pB, pC, pD]
  refine tk (v := ?_) 3 rfl (by kernel_rfl) (fun _ _ _ h => h) ?_ hHeld ?_
  rotate_left
  · (intro w h; (try dsimp only at h); go_simp; try with_reducible rfl)
  try simp only [Act.put, pB, pC, pD]
  refine tk (v := ?_) 4 rfl (by kernel_rfl) (fun _ _ _ h => h) ?_ hHeld ?_
  rotate_left
  · (intro w h; (try dsimp only at h); go_simp; try with_reducible rfl)
  try simp only [Act.put, pB, pC, pD]
  refine tk (v := ?_) 5 rfl (by kernel_rfl) (fun _ _ _ h => h) ?_ hHeld ?_
  rotate_left
  · (intro w h; (try dsimp only at h); go_simp; try with_reducible rfl)
  try simp only [Act.put, pB, pC, pD]
  refine tk (v := ?_) 6 rfl (by kernel_rfl) (fun _ _ _ h => h) ?_ hHeld ?_
  rotate_left
  · (intro w h; (try dsimp only at h); go_simp; try with_reducible rfl)
  try simp only [Act.put, pB, pC, pD]
  refine tk (v := ?_) 7 rfl (by kernel_rfl) (fun _ _ _ h => h) ?_ hHeld ?_
  rotate_left
  · (intro w h; (try dsimp only at h); go_simp; try with_reducible rfl)
  try simp only [Act.put, pB, pC, pD]
  refine tk (v := ?_) 8 rfl (by kernel_rfl) (fun _ _ _ h => h) ?_ hHeld ?_
  rotate_left
  · (intro w h; (try dsimp only at h); go_simp; try with_reducible rfl)
  try simp only [Act.put, pB, pC, pD]
  refine wpAnyH_ready (rs := [9]) (by kernel_rfl) (by simp) ?_
  refine AllReadyH.cons rfl (fun K hK => ?_) AllReadyH.nil
  go_simp
  refine (join_is HL3.out HR3.out HM3.out HW.out.sm_here).mono ?_; rintro e w5 ⟨b9, rfl, ht, hb⟩; have HT9 := Lib.hid ht; have HB9 := Lib.hid (HB3.out.trans (hb.mono HB3.out.size)); have HN9 := Lib.hid (HN3.out.next hb); clear ht hb; have x0 : w5.cell? ⟨b, 0, none⟩ = some (.pointer pl) := (nd_cells HN9.out).1; have x1 : w5.cell? ⟨b, 1, none⟩ = some (.pointer pr) := (nd_cells HN9.out).2.1
  try (go_wp2_with fail)
  refine hK.out _ _ ?_ (fun hNew => ?_)
  · exact ⟨x0, x1⟩
  clear hK K hHeld
  have hHeld := hNew
  clear hNew
  try simp only [Act.put, pB, pC, pD]
  refine tk (v := ?_) 10 rfl (by kernel_rfl) (fun _ _ _ h => h) ?_ hHeld ?_
  rotate_left
  · (intro w h; (try dsimp only at h); go_simp; try with_reducible rfl)
  try simp only [Act.put, pB, pC, pD]
  refine wpAnyH_done (by kernel_rfl) ?_ _
  clear hHeld
  simp only [List.getElem_toArray, List.getElem_cons_zero, List.getElem_cons_succ, Act.put, pB, pC, pD]
  refine NoPanic.normal ?_
  go_wp2
  go_ret
  exact ⟨b9, rfl, HT9.out, HB9.out⟩
theorem with_is (k : Nm) (v : Bs) : ∀ t : T46, WithSaid k v t
  | .nil => with_nil k v
  | .node l a x r => fun hp hm hw ho => by
    rcases Int.lt_trichotomy (cmpN k a) 0 with hc | hc | hc
    · exact with_lt (with_is k v l) (with_is k v r) hc hp hm hw ho
    · exact with_eq (with_is k v l) (with_is k v r) hc hp hm hw ho
    · exact with_gt (with_is k v l) (with_is k v r) hc hp hm hw ho
end Go.Proofs.YtamjllakfgphnaaGreatDoor
namespace Go.Proofs.YtamjllakfgphnaaGreatDoor
open Go.RowKit
set_option linter.unusedSimpArgs false
set_option linter.unusedVariables false
attribute [local go_sem ↓] Go.wp_at_zero Go.wp_at_succ
def FindP (n : Nm) (t : T46) (w : World) (e : Ending) (w' : World) : Prop :=
  Below w.heap.size w w' ∧ match t.find cmpN n with
  | none => e = .returned (.pointer none)
  | some v => ∃ b pl pr h s y, e = .returned (.pointer (some ⟨b, 0, none⟩)) ∧ NdAt w' b pl pr n v h s y
def FindRel (n : Nm) (t : T46) (w0 : World) (gk : Nat) (v : Value) (wr : World) : Prop :=
  ∃ (t' : T46) (p : Option Addr), v = .pointer p ∧ TrAt wr p t' ∧ t'.ht ≤ gk ∧ SameOwn n t' ∧ t'.find cmpN n = t.find cmpN n ∧ Below w0.heap.size w0 wr ∧ Blk wr w0.heap.size 26 (nmA n)
theorem FindRel.none {n : Nm} {t : T46} {w w' : World} (h : t.find cmpN n = .none) (hb : Below w.heap.size w w') : FindP n t w (.returned (.pointer .none)) w' := by
  unfold FindP
  rw [h]
  exact ⟨hb, rfl⟩
theorem FindRel.some {n : Nm} {t : T46} {w w' : World} {v : Bs} {b : Nat} {pl pr : Option Addr} {hh s y : Nat} (h : t.find cmpN n = .some v) (hb : Below w.heap.size w w') (hn : NdAt w' b pl pr n v hh s y) : FindP n t w (.returned (.pointer (.some ⟨b, 0, .none⟩))) w' := by
  unfold FindP
  rw [h]
  exact ⟨hb, b, pl, pr, hh, s, y, rfl, hn⟩
set_option maxRecDepth 100000 in
set_option maxHeartbeats 1000000 in
theorem find_is (n : Nm) (t : T46) (w : World) (p : Option Addr) (hp : TrAt w p t) (ho : SameOwn n t) : Calls Tryz.prog 54 #[.pointer p, nmV n] w (FindP n t w) := by
  have H0 : Hid (FindRel n t w (t.ht + 1) (.pointer p) (w.alloc (.cells (nmA n) 26))) := Lib.hid ⟨t, p, rfl, TrAt.next ((Below.refl _ _).alloc (Nat.le_refl _) _) hp, Nat.le_succ _, ho, rfl, (Below.refl _ _).alloc (Nat.le_refl _) _, Blk.new _ _ _⟩
  clear hp ho
  obtain ⟨gk0, hg0⟩ : ∃ g, t.ht + 1 = g := ⟨_, rfl⟩
  rw [hg0] at H0
  clear hg0
  unfold nmV nmA at *
  go_enter Tryz.func54, Tryz.ntmps54
  go_wp2
  go_loopg [0] gk0 (fun gk v wr => FindRel n t w gk v wr)
  case atStart => exact H0.out
  case round =>
    clear H0
    obtain ⟨t', p', rfl, ht, hgk, hso, hf, hb, hk⟩ := hrel
    have HB := Lib.hid hb
    have HF := Lib.hid hf
    have HT := Lib.hid ht
    have HS := Lib.hid hso
    have HK := Lib.hid hk
    clear hf ht hso hb
    cases t' with
    | nil =>
      obtain rfl : p' = none := HT.out
      clear HT HS HK hk
      go_wp2
      go_ret
      exact FindRel.none HF.out.symm HB.out
    | node l a x r =>
      obtain ⟨b, pl, pr, rfl, hn, hl, hr⟩ := HT.out
      obtain ⟨n0, n1, n2, n3, n4, n5, n6, n7, n8, n9, n10⟩ := nd_cells hn
      have k0 := hk.cell 0
      have k1 := hk.cell 1
      have k2 := hk.cell 2
      have k3 := hk.cell 3
      have k4 := hk.cell 4
      simp only [nmA, qB, qC, qD] at k0 k1 k2 k3 k4
      have HC := Lib.hid (compare_is n a wr.drew HS.out.here)
      have HN := Lib.hid hn
      have HL := Lib.hid hl
      have HR := Lib.hid hr
      have hg2 : max l.ht r.ht + 1 ≤ gk := by have := hgk; simp only [Tr.ht] at this; omega
      clear n0 n1 n7 n8 n9 n10 hk hn hl hr HT hgk
      go_wp2_with fail
      refine wp_region_still_tail 5 (by kernel_rfl) (by kernel_rfl) ?_
      simp only [List.take_succ_cons, List.take_zero, List.drop_succ_cons, List.drop_zero]
      iterate 5 still_step
      refine wpStill_nil ?_
      show wpList _ _ _ _ _ wr.drew
      clear k0 k1 k2 k3 k4 n2 n3 n4 n5 n6
      go_wp2_with fail
      refine HC.out.mono ?_
      rintro e w2 ⟨rfl, hb⟩
      have hb1 := (Below.refl wr.heap.size wr).drew.trans hb
      have HB2 := Lib.hid (HB.out.trans (hb1.mono HB.out.size))
      have HN2 := Lib.hid (HN.out.next hb1)
      have HL2 := Lib.hid (TrAt.next hb1 HL.out)
      have HR2 := Lib.hid (TrAt.next hb1 HR.out)
      have HK2 := Lib.hid (HK.out.next hb1 HK.out.lt)
      have x0 : w2.cell? ⟨b, 0, none⟩ = some (.pointer pl) := (nd_cells HN2.out).1
      have x1 : w2.cell? ⟨b, 1, none⟩ = some (.pointer pr) := (nd_cells HN2.out).2.1
      have HO := Lib.hid HS.out.here
      have HSL := Lib.hid HS.out.left
      have HSR := Lib.hid HS.out.right
      clear hb hb1 HB HN HL HR HK HC HS
      rcases Int.lt_trichotomy (cmpN n a) 0 with hc | hc | hc
      · have HF2 := Lib.hid (show l.find cmpN n = t.find cmpN n by rw [← HF.out]; simp only [Tr.find]; rw [if_neg (by omega), if_pos hc])
        have e1 : (cmpN n a == 0) = false := beq_false_of_ne (by omega)
        have e2 : decide (cmpN n a < 0) = true := by rw [decide_eq_true_eq]; exact hc
        clear HF
        generalize cmpN n a = c at *
        clear hc
        go_wp2_with fail
        go_roundg (gk - 1)
        case rel => exact ⟨l, pl, rfl, HL2.out, by omega, HSL.out, HF2.out, HB2.out, HK2.out⟩
        case measure => omega
      · have HF2 := Lib.hid (show t.find cmpN n = some x by rw [← HF.out]; simp only [Tr.find]; rw [if_pos hc])
        obtain rfl : n = a := (cmpN_eq HO.out).1 hc
        have HC0 := Lib.hid hc
        clear hc
        rw [HC0.out]
        go_wp2_with fail
        go_ret
        exact FindRel.some HF2.out HB2.out HN2.out
      · have HF2 := Lib.hid (show r.find cmpN n = t.find cmpN n by rw [← HF.out]; simp only [Tr.find]; rw [if_neg (by omega), if_neg (by omega)])
        have e1 : (cmpN n a == 0) = false := beq_false_of_ne (by omega)
        have e2 : decide (cmpN n a < 0) = false := by rw [decide_eq_false_iff_not]; omega
        clear HF
        generalize cmpN n a = c at *
        clear hc
        go_wp2_with fail
        go_roundg (gk - 1)
        case rel => exact ⟨r, pr, rfl, HR2.out, by omega, HSR.out, HF2.out, HB2.out, HK2.out⟩
        case measure => omega
end Go.Proofs.YtamjllakfgphnaaGreatDoor
namespace Go.Proofs.YtamjllakfgphnaaGreatDoor
open Go.RowKit
set_option linter.unusedSimpArgs false
set_option linter.unusedVariables false
attribute [local go_sem ↓] Go.wp_at_zero Go.wp_at_succ
abbrev TSrt (t : T46) : Prop := Srt cmpN OwnE t.flat
theorem TSrt.left {l r : T46} {a : Nm} {x : Bs} (h : TSrt (.node l a x r)) : TSrt l := Srt.left (show Srt cmpN OwnE (l.flat ++ (a, x) :: r.flat) from h)
theorem TSrt.right {l r : T46} {a : Nm} {x : Bs} (h : TSrt (.node l a x r)) : TSrt r := (Srt.right (show Srt cmpN OwnE (l.flat ++ (a, x) :: r.flat) from h)).tail
theorem TSrt.same {t : T46} (h : TSrt t) {k : Nm} (hk : OwnE k) : SameOwn k t := fun p hp => hk.trans (h.2 p hp).symm
theorem TSrt.here {l r : T46} {a : Nm} {x : Bs} (h : TSrt (.node l a x r)) : OwnE a := h.2 (a, x) (by simp [Tr.flat])
theorem sum_del (k : Nm) : ∀ l : List (Nm × Bs), ((del cmpN k l).map fun p => p.2.length).sum ≤ (l.map fun p => p.2.length).sum
  | [] => Nat.le_refl _
  | p :: l => by
    have := sum_del k l
    simp only [del]
    split
    · simp
    · simp only [List.map_cons, List.sum_cons]; omega
theorem sz_without {t : T46} (h : TSrt t) {k : Nm} (hk : OwnE k) : (t.without cmpN k).sz ≤ t.sz := by
  rw [Tr.sz_flat, Tr.sz_flat, flat_without ordN t hk h]; exact length_del _
theorem by_without {t : T46} (h : TSrt t) {k : Nm} (hk : OwnE k) : byT (t.without cmpN k) ≤ byT t := by
  have e := Tr.by_flat (κ := Nm) (List.length : Bs → Nat)
  unfold byT
  simp only [e, flat_without ordN t hk h]
  exact sum_del k _
theorem sm_left {l r : T46} {a k : Nm} {x : Bs} (h : TSrt (.node l a x r)) (hs : TrSm (.node l a x r)) (hk : OwnE k) : TrSm (.node (l.without cmpN k) a x r) := by
  have q1 := sz_without h.left hk
  have q2 := by_without h.left hk
  obtain ⟨h1, h2⟩ := hs
  unfold byT at h2 q2
  simp only [Tr.sz, Tr.by_] at h1 h2
  exact ⟨by simp only [Tr.sz]; omega, by unfold byT; simp only [Tr.by_]; omega⟩
theorem sm_right {l r : T46} {a k : Nm} {x : Bs} (h : TSrt (.node l a x r)) (hs : TrSm (.node l a x r)) (hk : OwnE k) : TrSm (.node l a x (r.without cmpN k)) := by
  have q1 := sz_without h.right hk
  have q2 := by_without h.right hk
  obtain ⟨h1, h2⟩ := hs
  unfold byT at h2 q2
  simp only [Tr.sz, Tr.by_] at h1 h2
  exact ⟨by simp only [Tr.sz]; omega, by unfold byT; simp only [Tr.by_]; omega⟩
theorem sm_next {l r : T46} {a m : Nm} {x y : Bs} (h : TSrt (.node l a x r)) (hs : TrSm (.node l a x r)) (hf : r.first = some (m, y)) : TrSm (.node l m y (r.without cmpN m)) := by
  have hm : r.flat.head? = some (m, y) := (first_flat r).symm.trans hf
  obtain ⟨q, hq⟩ : ∃ q, r.flat = (m, y) :: q := by
    cases hr : r.flat with
    | nil => rw [hr] at hm; cases hm
    | cons p q => rw [hr] at hm; simp at hm; exact ⟨q, by rw [hm]⟩
  have hS : OwnE m := h.right.2 (m, y) (by rw [hq]; simp)
  have e := Tr.by_flat (κ := Nm) (List.length : Bs → Nat)
  have e1 : (r.without cmpN m).flat = q := by
    rw [flat_without ordN r hS h.right, hq]
    simp only [del, ordN.refl hS, if_true]
  obtain ⟨h1, h2⟩ := hs
  unfold byT at h2
  simp only [Tr.sz, Tr.by_] at h1 h2
  rw [e r, hq, List.map_cons, List.sum_cons] at h2
  rw [Tr.sz_flat r, hq, List.length_cons] at h1
  refine ⟨?_, ?_⟩
  · simp only [Tr.sz]; rw [Tr.sz_flat (r.without cmpN m), e1]; omega
  · unfold byT; simp only [Tr.by_]; rw [e (r.without cmpN m), e1]; simp only at h2 ⊢; omega
theorem find_first {r : T46} (h : TSrt r) {m : Nm} {y : Bs} (hf : r.first = some (m, y)) : (r.find cmpN m).isSome = true := by
  have hm : r.flat.head? = some (m, y) := (first_flat r).symm.trans hf
  obtain ⟨q, hq⟩ : ∃ q, r.flat = (m, y) :: q := by
    cases hr : r.flat with
    | nil => rw [hr] at hm; cases hm
    | cons p q => rw [hr] at hm; simp at hm; exact ⟨q, by rw [hm]⟩
  have hS : OwnE m := h.2 (m, y) (by rw [hq]; simp)
  rw [find_look ordN hS r h, hq]
  simp only [look, ordN.refl hS, if_true]
  rfl
theorem first_own {r : T46} (h : TSrt r) {m : Nm} {y : Bs} (hf : r.first = some (m, y)) : OwnE m := by
  have hm : r.flat.head? = some (m, y) := (first_flat r).symm.trans hf
  cases hr : r.flat with
  | nil => rw [hr] at hm; cases hm
  | cons p q => rw [hr] at hm; simp at hm; subst hm; exact h.2 (m, y) (by rw [hr]; simp)
theorem first_none {r : T46} (h : r.first = none) : r = .nil := by
  have := (first_flat r).symm.trans h
  cases r with
  | nil => rfl
  | node l a x s => simp [Tr.flat] at this
def nextT (l r : T46) : T46 := match r.first with | none => l | some (m, y) => Tr.bal l m y (r.without cmpN m)
def WoP (w : World) (t : T46) (e : Ending) (w' : World) : Prop := ∃ p, e = .returned (.pointer p) ∧ TrAt w' p t ∧ Below w.heap.size w w'
def WoSaid (t : T46) : Prop := ∀ (k : Nm) (w : World) (p : Option Addr), OwnE k → TrAt w p t → TSrt t → TrSm t → (t.find cmpN k).isSome = true →
  Calls Tryz.prog 94 #[.pointer p, nmV k] w (WoP w (t.without cmpN k))
set_option maxRecDepth 100000 in
set_option maxHeartbeats 1000000 in
theorem wo_lt {k a : Nm} {x : Bs} {l r : T46} (IHL : WoSaid l) (IHR : WoSaid r) (hc : cmpN k a < 0) : ∀ (w : World) (p : Option Addr), OwnE k → TrAt w p (.node l a x r) → TSrt (.node l a x r) → TrSm (.node l a x r) → (Tr.find cmpN k (.node l a x r)).isSome = true →
  Calls Tryz.prog 94 #[.pointer p, nmV k] w (WoP w (Tr.without cmpN k (.node l a x r))) := by
  intro w p hk hp hst hsm hfind
  obtain ⟨b, pl, pr, rfl, hn, hl, hr⟩ := hp
  have HS := Lib.hid hst
  have HZ := Lib.hid hsm
  have HF := Lib.hid hfind
  have HO := Lib.hid hk
  have hb1 : Below w.heap.size w (w.alloc (.cells (nmA k) 26)) := (Below.refl _ _).alloc (Nat.le_refl _) _
  have HB1 := Lib.hid hb1
  have HN1 := Lib.hid (hn.next hb1)
  have HL1 := Lib.hid (TrAt.next hb1 hl)
  have HR1 := Lib.hid (TrAt.next hb1 hr)
  have HK1 := Lib.hid (Blk.new w 26 (nmA k))
  have HC := Lib.hid (fun W => compare_is k a W (hk.trans hst.here.symm))
  clear hn hl hr hst hsm hfind hb1
  unfold nmV
  have HF2 : Hid ((Tr.find cmpN k l).isSome = true) := Lib.hid (by have := HF.out; simp only [Tr.find] at this; rw [if_neg (by omega), if_pos hc] at this; exact this)
  clear HF
  have HE : Hid (Tr.without cmpN k (.node l a x r) = Tr.bal (l.without cmpN k) a x r) := Lib.hid (by simp only [Tr.without]; rw [if_pos hc])
  rw [HE.out]
  clear HE
  generalize cmpN k a = c at *
  have e1 : decide (c < 0) = true := by rw [decide_eq_true_eq]; exact hc
  clear hc
  unfold nmA at HB1 HN1 HL1 HR1 HK1 ⊢
  go_enter Tryz.func94, Tryz.ntmps94
  go_wp2_with fail
  obtain ⟨W, hW⟩ : ∃ W, (w.alloc (.cells #[.int .i64 k.kind, .string (bs k.owner), .int .i64 k.num, .int .i64 k.idx, .string (bs k.text)] 26)) = W := ⟨_, rfl⟩
  rw [hW] at HB1 HN1 HL1 HR1 HK1 ⊢
  obtain ⟨B, hBB⟩ : ∃ B, w.heap.size = B := ⟨_, rfl⟩
  rw [hBB] at HK1 ⊢
  clear hW hBB
  have k0 : W.cell? ⟨B, 0, none⟩ = some (.int .i64 k.kind) := HK1.out.cell 0
  have k1 : W.cell? ⟨B, 1, none⟩ = some (.string (bs k.owner)) := HK1.out.cell 1
  have k2 : W.cell? ⟨B, 2, none⟩ = some (.int .i64 k.num) := HK1.out.cell 2
  have k3 : W.cell? ⟨B, 3, none⟩ = some (.int .i64 k.idx) := HK1.out.cell 3
  have k4 : W.cell? ⟨B, 4, none⟩ = some (.string (bs k.text)) := HK1.out.cell 4
  obtain ⟨n0, n1, n2, n3, n4, n5, n6, n7, n8, n9, n10⟩ := nd_cells HN1.out
  clear n0 n1 n7 n8 n9 n10
  refine wp_region_still_tail 5 (by kernel_rfl) (by kernel_rfl) ?_
  simp only [List.take_succ_cons, List.take_zero, List.drop_succ_cons, List.drop_zero]
  iterate 5 still_step
  refine wpStill_nil ?_
  show wpList _ _ _ _ _ W.drew
  clear k0 k1 k2 k3 k4 n2 n3 n4 n5 n6
  go_wp2_with fail
  refine (HC.out _).mono ?_
  rintro e w2 ⟨rfl, hb⟩
  have hb1 := (Below.refl W.heap.size W).drew.trans hb
  have HB2 := Lib.hid (HB1.out.trans (hb1.mono HB1.out.size))
  have HN2 := Lib.hid (HN1.out.next hb1)
  have HL2 := Lib.hid (TrAt.next hb1 HL1.out)
  have HR2 := Lib.hid (TrAt.next hb1 HR1.out)
  have HK2 := Lib.hid (HK1.out.next hb1 HK1.out.lt)
  clear HC hb hb1 HN1 HL1 HR1 HK1 HB1
  have x0 : w2.cell? ⟨b, 0, none⟩ = some (.pointer pl) := (nd_cells HN2.out).1
  have x1 : w2.cell? ⟨b, 1, none⟩ = some (.pointer pr) := (nd_cells HN2.out).2.1
  have z0 : w2.cell? ⟨B, 0, none⟩ = some (.int .i64 k.kind) := HK2.out.cell 0
  have z1 : w2.cell? ⟨B, 1, none⟩ = some (.string (bs k.owner)) := HK2.out.cell 1
  have z2 : w2.cell? ⟨B, 2, none⟩ = some (.int .i64 k.num) := HK2.out.cell 2
  have z3 : w2.cell? ⟨B, 3, none⟩ = some (.int .i64 k.idx) := HK2.out.cell 3
  have z4 : w2.cell? ⟨B, 4, none⟩ = some (.string (bs k.text)) := HK2.out.cell 4
  go_wp2_with fail
  have HN3 : Hid (NdAt w2.drew b pl pr a x _ _ _) := Lib.hid HN2.out
  have HL3 := Lib.hid HL2.out.drew
  have HR3 := Lib.hid HR2.out.drew
  have HK3 : Hid (Blk w2.drew B 26 _) := Lib.hid HK2.out
  have HB3 := Lib.hid HB2.out.drew
  clear HN2 HL2 HR2 HK2 HB2
  refine wp_region_noPanic ?_
  refine wp_region_held_drew (S := (fun w' => w'.cell? ⟨b, 0, none⟩ = some (.pointer pl) ∧ w'.cell? ⟨b, 1, none⟩ = some (.pointer pr) ∧ w'.cell? ⟨B, 0, none⟩ = some (.int .i64 k.kind) ∧ w'.cell? ⟨B, 1, none⟩ = some (.string (bs k.owner)) ∧ w'.cell? ⟨B, 2, none⟩ = some (.int .i64 k.num) ∧ w'.cell? ⟨B, 3, none⟩ = some (.int .i64 k.idx) ∧ w'.cell? ⟨B, 4, none⟩ = some (.string (bs k.text)))) (by kernel_rfl) ?_ (fun hHeld => ?_)
  · exact ⟨x0, x1, z0, z1, z2, z3, z4⟩
  refine tk (v := ?_) 0 rfl (by kernel_rfl) (fun _ _ _ h => h) ?_ hHeld ?_
  rotate_left
  · (intro w h; (try dsimp only at h); go_simp; try with_reducible rfl)
  try simp only [Act.put, pB, pC, pD]
  refine tk (v := ?_) 1 rfl (by kernel_rfl) (fun _ _ _ h => h) ?_ hHeld ?_
  rotate_left
  · (intro w h; (try dsimp only at h); go_simp; try with_reducible rfl)
  try simp only [Act.put, pB, pC, pD]
  refine tk (v := ?_) 2 rfl (by kernel_rfl) (fun _ _ _ h => h) ?_ hHeld ?_
  rotate_left
  · (intro w h; (try dsimp only at h); go_simp; try with_reducible rfl)
  try simp only [Act.put, pB, pC, pD]
  refine tk (v := ?_) 3 rfl (by kernel_rfl) (fun _ _ _ h => h) ?_ hHeld ?_
  rotate_left
  · (intro w h; (try dsimp only at h); go_simp; try with_reducible rfl)
  try simp only [Act.put, pB, pC, pD]
  refine tk (v := ?_) 4 rfl (by kernel_rfl) (fun _ _ _ h => h) ?_ hHeld ?_
  rotate_left
  · (intro w h; (try dsimp only at h); go_simp; try with_reducible rfl)
  try simp only [Act.put, pB, pC, pD]
  refine tk (v := ?_) 6 rfl (by kernel_rfl) (fun _ _ _ h => h) ?_ hHeld ?_
  rotate_left
  · (intro w h; (try dsimp only at h); go_simp; try with_reducible rfl)
  try simp only [Act.put, pB, pC, pD]
  refine tk (v := ?_) 7 rfl (by kernel_rfl) (fun _ _ _ h => h) ?_ hHeld ?_
  rotate_left
  · (intro w h; (try dsimp only at h); go_simp; try with_reducible rfl)
  try simp only [Act.put, pB, pC, pD]
  refine tk (v := ?_) 8 rfl (by kernel_rfl) (fun _ _ _ h => h) ?_ hHeld ?_
  rotate_left
  · (intro w h; (try dsimp only at h); go_simp; try with_reducible rfl)
  try simp only [Act.put, pB, pC, pD]
  refine tk (v := ?_) 9 rfl (by kernel_rfl) (fun _ _ _ h => h) ?_ hHeld ?_
  rotate_left
  · (intro w h; (try dsimp only at h); go_simp; try with_reducible rfl)
  try simp only [Act.put, pB, pC, pD]
  refine tk (v := ?_) 10 rfl (by kernel_rfl) (fun _ _ _ h => h) ?_ hHeld ?_
  rotate_left
  · (intro w h; (try dsimp only at h); go_simp; try with_reducible rfl)
  try simp only [Act.put, pB, pC, pD]
  refine wpAnyH_ready (rs := [5]) (by kernel_rfl) (by simp) ?_
  refine AllReadyH.cons rfl (fun K hK => ?_) AllReadyH.nil
  go_simp
  refine (IHL k _ _ HO.out HL3.out HS.out.left HZ.out.left HF2.out).mono ?_; rintro e w4 ⟨p4, rfl, ht, hb⟩; have HT4 := Lib.hid ht; have HB4 := Lib.hid (HB3.out.trans (hb.mono HB3.out.size)); have HN4 := Lib.hid (HN3.out.next hb); have HK4 := Lib.hid (HK3.out.next hb HK3.out.lt); have HR4 := Lib.hid (TrAt.next hb HR3.out); clear ht hb; have x0 : w4.cell? ⟨b, 0, none⟩ = some (.pointer pl) := (nd_cells HN4.out).1; have x1 : w4.cell? ⟨b, 1, none⟩ = some (.pointer pr) := (nd_cells HN4.out).2.1; have z0 : w4.cell? ⟨B, 0, none⟩ = some (.int .i64 k.kind) := HK4.out.cell 0; have z1 : w4.cell? ⟨B, 1, none⟩ = some (.string (bs k.owner)) := HK4.out.cell 1; have z2 : w4.cell? ⟨B, 2, none⟩ = some (.int .i64 k.num) := HK4.out.cell 2; have z3 : w4.cell? ⟨B, 3, none⟩ = some (.int .i64 k.idx) := HK4.out.cell 3; have z4 : w4.cell? ⟨B, 4, none⟩ = some (.string (bs k.text)) := HK4.out.cell 4
  try (go_wp2_with fail)
  refine hK.out _ _ ?_ (fun hNew => ?_)
  · exact ⟨x0, x1, z0, z1, z2, z3, z4⟩
  clear hK K hHeld
  have hHeld := hNew
  clear hNew
  try simp only [Act.put, pB, pC, pD]
  refine wpAnyH_ready (rs := [11]) (by kernel_rfl) (by simp) ?_
  refine AllReadyH.cons rfl (fun K hK => ?_) AllReadyH.nil
  go_simp
  refine (balance_is HT4.out HR4.out HN4.out (sm_left HS.out HZ.out HO.out)).mono ?_; rintro e w5 ⟨b9, rfl, ht, hb⟩; have HT9 := Lib.hid ht; have HB9 := Lib.hid (HB4.out.trans (hb.mono HB4.out.size)); have HN9 := Lib.hid (HN4.out.next hb); have HK9 := Lib.hid (HK4.out.next hb HK4.out.lt); clear ht hb; have x0 : w5.cell? ⟨b, 0, none⟩ = some (.pointer pl) := (nd_cells HN9.out).1; have x1 : w5.cell? ⟨b, 1, none⟩ = some (.pointer pr) := (nd_cells HN9.out).2.1; have z0 : w5.cell? ⟨B, 0, none⟩ = some (.int .i64 k.kind) := HK9.out.cell 0; have z1 : w5.cell? ⟨B, 1, none⟩ = some (.string (bs k.owner)) := HK9.out.cell 1; have z2 : w5.cell? ⟨B, 2, none⟩ = some (.int .i64 k.num) := HK9.out.cell 2; have z3 : w5.cell? ⟨B, 3, none⟩ = some (.int .i64 k.idx) := HK9.out.cell 3; have z4 : w5.cell? ⟨B, 4, none⟩ = some (.string (bs k.text)) := HK9.out.cell 4
  try (go_wp2_with fail)
  refine hK.out _ _ ?_ (fun hNew => ?_)
  · exact ⟨x0, x1, z0, z1, z2, z3, z4⟩
  clear hK K hHeld
  have hHeld := hNew
  clear hNew
  try simp only [Act.put, pB, pC, pD]
  refine tk (v := ?_) 12 rfl (by kernel_rfl) (fun _ _ _ h => h) ?_ hHeld ?_
  rotate_left
  · (intro w h; (try dsimp only at h); go_simp; try with_reducible rfl)
  try simp only [Act.put, pB, pC, pD]
  refine wpAnyH_done (by kernel_rfl) ?_ _
  clear hHeld
  simp only [List.getElem_toArray, List.getElem_cons_zero, List.getElem_cons_succ, Act.put, pB, pC, pD]
  refine NoPanic.normal ?_
  go_wp2
  go_ret
  exact ⟨_, rfl, HT9.out, HB9.out⟩
set_option maxRecDepth 100000 in
set_option maxHeartbeats 1000000 in
theorem wo_gt {k a : Nm} {x : Bs} {l r : T46} (IHL : WoSaid l) (IHR : WoSaid r) (hc : 0 < cmpN k a) : ∀ (w : World) (p : Option Addr), OwnE k → TrAt w p (.node l a x r) → TSrt (.node l a x r) → TrSm (.node l a x r) → (Tr.find cmpN k (.node l a x r)).isSome = true →
  Calls Tryz.prog 94 #[.pointer p, nmV k] w (WoP w (Tr.without cmpN k (.node l a x r))) := by
  intro w p hk hp hst hsm hfind
  obtain ⟨b, pl, pr, rfl, hn, hl, hr⟩ := hp
  have HS := Lib.hid hst
  have HZ := Lib.hid hsm
  have HF := Lib.hid hfind
  have HO := Lib.hid hk
  have hb1 : Below w.heap.size w (w.alloc (.cells (nmA k) 26)) := (Below.refl _ _).alloc (Nat.le_refl _) _
  have HB1 := Lib.hid hb1
  have HN1 := Lib.hid (hn.next hb1)
  have HL1 := Lib.hid (TrAt.next hb1 hl)
  have HR1 := Lib.hid (TrAt.next hb1 hr)
  have HK1 := Lib.hid (Blk.new w 26 (nmA k))
  have HC := Lib.hid (fun W => compare_is k a W (hk.trans hst.here.symm))
  clear hn hl hr hst hsm hfind hb1
  unfold nmV
  have HF2 : Hid ((Tr.find cmpN k r).isSome = true) := Lib.hid (by have := HF.out; simp only [Tr.find] at this; rw [if_neg (by omega), if_neg (by omega)] at this; exact this)
  clear HF
  have HE : Hid (Tr.without cmpN k (.node l a x r) = Tr.bal l a x (r.without cmpN k)) := Lib.hid (by simp only [Tr.without]; rw [if_neg (by omega), if_pos hc])
  rw [HE.out]
  clear HE
  generalize cmpN k a = c at *
  have e1 : decide (c < 0) = false := by rw [decide_eq_false_iff_not]; omega
  have e2 : decide (0 < c) = true := by rw [decide_eq_true_eq]; exact hc
  clear hc
  unfold nmA at HB1 HN1 HL1 HR1 HK1 ⊢
  go_enter Tryz.func94, Tryz.ntmps94
  go_wp2_with fail
  obtain ⟨W, hW⟩ : ∃ W, (w.alloc (.cells #[.int .i64 k.kind, .string (bs k.owner), .int .i64 k.num, .int .i64 k.idx, .string (bs k.text)] 26)) = W := ⟨_, rfl⟩
  rw [hW] at HB1 HN1 HL1 HR1 HK1 ⊢
  obtain ⟨B, hBB⟩ : ∃ B, w.heap.size = B := ⟨_, rfl⟩
  rw [hBB] at HK1 ⊢
  clear hW hBB
  have k0 : W.cell? ⟨B, 0, none⟩ = some (.int .i64 k.kind) := HK1.out.cell 0
  have k1 : W.cell? ⟨B, 1, none⟩ = some (.string (bs k.owner)) := HK1.out.cell 1
  have k2 : W.cell? ⟨B, 2, none⟩ = some (.int .i64 k.num) := HK1.out.cell 2
  have k3 : W.cell? ⟨B, 3, none⟩ = some (.int .i64 k.idx) := HK1.out.cell 3
  have k4 : W.cell? ⟨B, 4, none⟩ = some (.string (bs k.text)) := HK1.out.cell 4
  obtain ⟨n0, n1, n2, n3, n4, n5, n6, n7, n8, n9, n10⟩ := nd_cells HN1.out
  clear n0 n1 n7 n8 n9 n10
  refine wp_region_still_tail 5 (by kernel_rfl) (by kernel_rfl) ?_
  simp only [List.take_succ_cons, List.take_zero, List.drop_succ_cons, List.drop_zero]
  iterate 5 still_step
  refine wpStill_nil ?_
  show wpList _ _ _ _ _ W.drew
  clear k0 k1 k2 k3 k4 n2 n3 n4 n5 n6
  go_wp2_with fail
  refine (HC.out _).mono ?_
  rintro e w2 ⟨rfl, hb⟩
  have hb1 := (Below.refl W.heap.size W).drew.trans hb
  have HB2 := Lib.hid (HB1.out.trans (hb1.mono HB1.out.size))
  have HN2 := Lib.hid (HN1.out.next hb1)
  have HL2 := Lib.hid (TrAt.next hb1 HL1.out)
  have HR2 := Lib.hid (TrAt.next hb1 HR1.out)
  have HK2 := Lib.hid (HK1.out.next hb1 HK1.out.lt)
  clear HC hb hb1 HN1 HL1 HR1 HK1 HB1
  have x0 : w2.cell? ⟨b, 0, none⟩ = some (.pointer pl) := (nd_cells HN2.out).1
  have x1 : w2.cell? ⟨b, 1, none⟩ = some (.pointer pr) := (nd_cells HN2.out).2.1
  have z0 : w2.cell? ⟨B, 0, none⟩ = some (.int .i64 k.kind) := HK2.out.cell 0
  have z1 : w2.cell? ⟨B, 1, none⟩ = some (.string (bs k.owner)) := HK2.out.cell 1
  have z2 : w2.cell? ⟨B, 2, none⟩ = some (.int .i64 k.num) := HK2.out.cell 2
  have z3 : w2.cell? ⟨B, 3, none⟩ = some (.int .i64 k.idx) := HK2.out.cell 3
  have z4 : w2.cell? ⟨B, 4, none⟩ = some (.string (bs k.text)) := HK2.out.cell 4
  go_wp2_with fail
  have HN3 : Hid (NdAt w2.drew b pl pr a x _ _ _) := Lib.hid HN2.out
  have HL3 := Lib.hid HL2.out.drew
  have HR3 := Lib.hid HR2.out.drew
  have HK3 : Hid (Blk w2.drew B 26 _) := Lib.hid HK2.out
  have HB3 := Lib.hid HB2.out.drew
  clear HN2 HL2 HR2 HK2 HB2
  refine wp_region_noPanic ?_
  refine wp_region_held_drew (S := (fun w' => w'.cell? ⟨b, 0, none⟩ = some (.pointer pl) ∧ w'.cell? ⟨b, 1, none⟩ = some (.pointer pr) ∧ w'.cell? ⟨B, 0, none⟩ = some (.int .i64 k.kind) ∧ w'.cell? ⟨B, 1, none⟩ = some (.string (bs k.owner)) ∧ w'.cell? ⟨B, 2, none⟩ = some (.int .i64 k.num) ∧ w'.cell? ⟨B, 3, none⟩ = some (.int .i64 k.idx) ∧ w'.cell? ⟨B, 4, none⟩ = some (.string (bs k.text)))) (by kernel_rfl) ?_ (fun hHeld => ?_)
  · exact ⟨x0, x1, z0, z1, z2, z3, z4⟩
  refine tk (v := ?_) 0 rfl (by kernel_rfl) (fun _ _ _ h => h) ?_ hHeld ?_
  rotate_left
  · (intro w h; (try dsimp only at h); go_simp; try with_reducible rfl)
  try simp only [Act.put, pB, pC, pD]
  refine tk (v := ?_) 1 rfl (by kernel_rfl) (fun _ _ _ h => h) ?_ hHeld ?_
  rotate_left
  · (intro w h; (try dsimp only at h); go_simp; try with_reducible rfl)
  try simp only [Act.put, pB, pC, pD]
  refine tk (v := ?_) 2 rfl (by kernel_rfl) (fun _ _ _ h => h) ?_ hHeld ?_
  rotate_left
  · (intro w h; (try dsimp only at h); go_simp; try with_reducible rfl)
  try simp only [Act.put, pB, pC, pD]
  refine tk (v := ?_) 3 rfl (by kernel_rfl) (fun _ _ _ h => h) ?_ hHeld ?_
  rotate_left
  · (intro w h; (try dsimp only at h); go_simp; try with_reducible rfl)
  try simp only [Act.put, pB, pC, pD]
  refine tk (v := ?_) 4 rfl (by kernel_rfl) (fun _ _ _ h => h) ?_ hHeld ?_
  rotate_left
  · (intro w h; (try dsimp only at h); go_simp; try with_reducible rfl)
  try simp only [Act.put, pB, pC, pD]
  refine tk (v := ?_) 5 rfl (by kernel_rfl) (fun _ _ _ h => h) ?_ hHeld ?_
  rotate_left
  · (intro w h; (try dsimp only at h); go_simp; try with_reducible rfl)
  try simp only [Act.put, pB, pC, pD]
  refine tk (v := ?_) 6 rfl (by kernel_rfl) (fun _ _ _ h => h) ?_ hHeld ?_
  rotate_left
  · (intro w h; (try dsimp only at h); go_simp; try with_reducible rfl)
  try simp only [Act.put, pB, pC, pD]
  refine tk (v := ?_) 7 rfl (by kernel_rfl) (fun _ _ _ h => h) ?_ hHeld ?_
  rotate_left
  · (intro w h; (try dsimp only at h); go_simp; try with_reducible rfl)
  try simp only [Act.put, pB, pC, pD]
  refine tk (v := ?_) 8 rfl (by kernel_rfl) (fun _ _ _ h => h) ?_ hHeld ?_
  rotate_left
  · (intro w h; (try dsimp only at h); go_simp; try with_reducible rfl)
  try simp only [Act.put, pB, pC, pD]
  refine tk (v := ?_) 9 rfl (by kernel_rfl) (fun _ _ _ h => h) ?_ hHeld ?_
  rotate_left
  · (intro w h; (try dsimp only at h); go_simp; try with_reducible rfl)
  try simp only [Act.put, pB, pC, pD]
  refine wpAnyH_ready (rs := [10]) (by kernel_rfl) (by simp) ?_
  refine AllReadyH.cons rfl (fun K hK => ?_) AllReadyH.nil
  go_simp
  refine (IHR k _ _ HO.out HR3.out HS.out.right HZ.out.right HF2.out).mono ?_; rintro e w4 ⟨p4, rfl, ht, hb⟩; have HT4 := Lib.hid ht; have HB4 := Lib.hid (HB3.out.trans (hb.mono HB3.out.size)); have HN4 := Lib.hid (HN3.out.next hb); have HK4 := Lib.hid (HK3.out.next hb HK3.out.lt); have HL4 := Lib.hid (TrAt.next hb HL3.out); clear ht hb; have x0 : w4.cell? ⟨b, 0, none⟩ = some (.pointer pl) := (nd_cells HN4.out).1; have x1 : w4.cell? ⟨b, 1, none⟩ = some (.pointer pr) := (nd_cells HN4.out).2.1; have z0 : w4.cell? ⟨B, 0, none⟩ = some (.int .i64 k.kind) := HK4.out.cell 0; have z1 : w4.cell? ⟨B, 1, none⟩ = some (.string (bs k.owner)) := HK4.out.cell 1; have z2 : w4.cell? ⟨B, 2, none⟩ = some (.int .i64 k.num) := HK4.out.cell 2; have z3 : w4.cell? ⟨B, 3, none⟩ = some (.int .i64 k.idx) := HK4.out.cell 3; have z4 : w4.cell? ⟨B, 4, none⟩ = some (.string (bs k.text)) := HK4.out.cell 4
  try (go_wp2_with fail)
  refine hK.out _ _ ?_ (fun hNew => ?_)
  · exact ⟨x0, x1, z0, z1, z2, z3, z4⟩
  clear hK K hHeld
  have hHeld := hNew
  clear hNew
  try simp only [Act.put, pB, pC, pD]
  refine wpAnyH_ready (rs := [11]) (by kernel_rfl) (by simp) ?_
  refine AllReadyH.cons rfl (fun K hK => ?_) AllReadyH.nil
  go_simp
  refine (balance_is HL4.out HT4.out HN4.out (sm_right HS.out HZ.out HO.out)).mono ?_; rintro e w5 ⟨b9, rfl, ht, hb⟩; have HT9 := Lib.hid ht; have HB9 := Lib.hid (HB4.out.trans (hb.mono HB4.out.size)); have HN9 := Lib.hid (HN4.out.next hb); have HK9 := Lib.hid (HK4.out.next hb HK4.out.lt); clear ht hb; have x0 : w5.cell? ⟨b, 0, none⟩ = some (.pointer pl) := (nd_cells HN9.out).1; have x1 : w5.cell? ⟨b, 1, none⟩ = some (.pointer pr) := (nd_cells HN9.out).2.1; have z0 : w5.cell? ⟨B, 0, none⟩ = some (.int .i64 k.kind) := HK9.out.cell 0; have z1 : w5.cell? ⟨B, 1, none⟩ = some (.string (bs k.owner)) := HK9.out.cell 1; have z2 : w5.cell? ⟨B, 2, none⟩ = some (.int .i64 k.num) := HK9.out.cell 2; have z3 : w5.cell? ⟨B, 3, none⟩ = some (.int .i64 k.idx) := HK9.out.cell 3; have z4 : w5.cell? ⟨B, 4, none⟩ = some (.string (bs k.text)) := HK9.out.cell 4
  try (go_wp2_with fail)
  refine hK.out _ _ ?_ (fun hNew => ?_)
  · exact ⟨x0, x1, z0, z1, z2, z3, z4⟩
  clear hK K hHeld
  have hHeld := hNew
  clear hNew
  try simp only [Act.put, pB, pC, pD]
  refine tk (v := ?_) 12 rfl (by kernel_rfl) (fun _ _ _ h => h) ?_ hHeld ?_
  rotate_left
  · (intro w h; (try dsimp only at h); go_simp; try with_reducible rfl)
  try simp only [Act.put, pB, pC, pD]
  refine wpAnyH_done (by kernel_rfl) ?_ _
  clear hHeld
  simp only [List.getElem_toArray, List.getElem_cons_zero, List.getElem_cons_succ, Act.put, pB, pC, pD]
  refine NoPanic.normal ?_
  go_wp2
  go_ret
  exact ⟨_, rfl, HT9.out, HB9.out⟩
set_option maxRecDepth 100000 in
set_option maxHeartbeats 1000000 in
theorem wo_nil {k a : Nm} {x : Bs} {l : T46} (IHL : WoSaid l) (hc : cmpN k a = 0) : ∀ (w : World) (p : Option Addr), OwnE k → TrAt w p (.node l a x .nil) → TSrt (.node l a x .nil) → TrSm (.node l a x .nil) → (Tr.find cmpN k (.node l a x .nil)).isSome = true →
  Calls Tryz.prog 94 #[.pointer p, nmV k] w (WoP w (Tr.without cmpN k (.node l a x .nil))) := by
  intro w p hk hp hst hsm hfind
  obtain ⟨b, pl, pr, rfl, hn, hl, hr⟩ := hp
  have HS := Lib.hid hst
  have HZ := Lib.hid hsm
  have HF := Lib.hid hfind
  have HO := Lib.hid hk
  have hb1 : Below w.heap.size w (w.alloc (.cells (nmA k) 26)) := (Below.refl _ _).alloc (Nat.le_refl _) _
  have HB1 := Lib.hid hb1
  have HN1 := Lib.hid (hn.next hb1)
  have HL1 := Lib.hid (TrAt.next hb1 hl)
  have HR1 := Lib.hid (TrAt.next hb1 hr)
  have HK1 := Lib.hid (Blk.new w 26 (nmA k))
  have HC := Lib.hid (fun W => compare_is k a W (hk.trans hst.here.symm))
  clear hn hl hr hst hsm hfind hb1
  unfold nmV
  have HE : Hid (Tr.without cmpN k (.node l a x .nil) = l) := Lib.hid (by simp only [Tr.without]; rw [if_neg (by omega), if_neg (by omega)]; rfl)
  rw [HE.out]
  clear HE
  generalize cmpN k a = c at *
  have e1 : decide (c < 0) = false := by rw [decide_eq_false_iff_not]; omega
  have e2 : decide (0 < c) = false := by rw [decide_eq_false_iff_not]; omega
  clear hc
  unfold nmA at HB1 HN1 HL1 HR1 HK1 ⊢
  go_enter Tryz.func94, Tryz.ntmps94
  go_wp2_with fail
  obtain ⟨W, hW⟩ : ∃ W, (w.alloc (.cells #[.int .i64 k.kind, .string (bs k.owner), .int .i64 k.num, .int .i64 k.idx, .string (bs k.text)] 26)) = W := ⟨_, rfl⟩
  rw [hW] at HB1 HN1 HL1 HR1 HK1 ⊢
  obtain ⟨B, hBB⟩ : ∃ B, w.heap.size = B := ⟨_, rfl⟩
  rw [hBB] at HK1 ⊢
  clear hW hBB
  obtain rfl : pr = none := HR1.out
  have k0 : W.cell? ⟨B, 0, none⟩ = some (.int .i64 k.kind) := HK1.out.cell 0
  have k1 : W.cell? ⟨B, 1, none⟩ = some (.string (bs k.owner)) := HK1.out.cell 1
  have k2 : W.cell? ⟨B, 2, none⟩ = some (.int .i64 k.num) := HK1.out.cell 2
  have k3 : W.cell? ⟨B, 3, none⟩ = some (.int .i64 k.idx) := HK1.out.cell 3
  have k4 : W.cell? ⟨B, 4, none⟩ = some (.string (bs k.text)) := HK1.out.cell 4
  obtain ⟨n0, n1, n2, n3, n4, n5, n6, n7, n8, n9, n10⟩ := nd_cells HN1.out
  clear n0 n1 n7 n8 n9 n10
  refine wp_region_still_tail 5 (by kernel_rfl) (by kernel_rfl) ?_
  simp only [List.take_succ_cons, List.take_zero, List.drop_succ_cons, List.drop_zero]
  iterate 5 still_step
  refine wpStill_nil ?_
  show wpList _ _ _ _ _ W.drew
  clear k0 k1 k2 k3 k4 n2 n3 n4 n5 n6
  go_wp2_with fail
  refine (HC.out _).mono ?_
  rintro e w2 ⟨rfl, hb⟩
  have hb1 := (Below.refl W.heap.size W).drew.trans hb
  have HB2 := Lib.hid (HB1.out.trans (hb1.mono HB1.out.size))
  have HN2 := Lib.hid (HN1.out.next hb1)
  have HL2 := Lib.hid (TrAt.next hb1 HL1.out)
  have HR2 := Lib.hid (TrAt.next hb1 HR1.out)
  have HK2 := Lib.hid (HK1.out.next hb1 HK1.out.lt)
  clear HC hb hb1 HN1 HL1 HR1 HK1 HB1
  have x0 : w2.cell? ⟨b, 0, none⟩ = some (.pointer pl) := (nd_cells HN2.out).1
  have x1 : w2.cell? ⟨b, 1, none⟩ = some (.pointer none) := (nd_cells HN2.out).2.1
  have z0 : w2.cell? ⟨B, 0, none⟩ = some (.int .i64 k.kind) := HK2.out.cell 0
  have z1 : w2.cell? ⟨B, 1, none⟩ = some (.string (bs k.owner)) := HK2.out.cell 1
  have z2 : w2.cell? ⟨B, 2, none⟩ = some (.int .i64 k.num) := HK2.out.cell 2
  have z3 : w2.cell? ⟨B, 3, none⟩ = some (.int .i64 k.idx) := HK2.out.cell 3
  have z4 : w2.cell? ⟨B, 4, none⟩ = some (.string (bs k.text)) := HK2.out.cell 4
  go_wp2_with fail
  go_wp2
  go_ret
  exact ⟨pl, rfl, HL2.out, HB2.out⟩
set_option maxRecDepth 100000 in
set_option maxHeartbeats 1000000 in
theorem wo_next {k a : Nm} {x : Bs} {l r : T46} (IHL : WoSaid l) (IHR : WoSaid r) (hc : cmpN k a = 0) (hrn : r ≠ .nil) : ∀ (w : World) (p : Option Addr), OwnE k → TrAt w p (.node l a x r) → TSrt (.node l a x r) → TrSm (.node l a x r) → (Tr.find cmpN k (.node l a x r)).isSome = true →
  Calls Tryz.prog 94 #[.pointer p, nmV k] w (WoP w (Tr.without cmpN k (.node l a x r))) := by
  intro w p hk hp hst hsm hfind
  obtain ⟨b, pl, pr, rfl, hn, hl, hr⟩ := hp
  have HS := Lib.hid hst
  have HZ := Lib.hid hsm
  have HF := Lib.hid hfind
  have HO := Lib.hid hk
  have hb1 : Below w.heap.size w (w.alloc (.cells (nmA k) 26)) := (Below.refl _ _).alloc (Nat.le_refl _) _
  have HB1 := Lib.hid hb1
  have HN1 := Lib.hid (hn.next hb1)
  have HL1 := Lib.hid (TrAt.next hb1 hl)
  have HR1 := Lib.hid (TrAt.next hb1 hr)
  have HK1 := Lib.hid (Blk.new w 26 (nmA k))
  have HC := Lib.hid (fun W => compare_is k a W (hk.trans hst.here.symm))
  clear hn hl hr hst hsm hfind hb1
  unfold nmV
  have HE : Hid (Tr.without cmpN k (.node l a x r) = nextT l r) := Lib.hid (by simp only [Tr.without]; rw [if_neg (by omega), if_neg (by omega)]; unfold nextT; cases r.first <;> rfl)
  rw [HE.out]
  clear HE
  generalize cmpN k a = c at *
  have e1 : decide (c < 0) = false := by rw [decide_eq_false_iff_not]; omega
  have e2 : decide (0 < c) = false := by rw [decide_eq_false_iff_not]; omega
  clear hc
  unfold nmA at HB1 HN1 HL1 HR1 HK1 ⊢
  go_enter Tryz.func94, Tryz.ntmps94
  go_wp2_with fail
  obtain ⟨W, hW⟩ : ∃ W, (w.alloc (.cells #[.int .i64 k.kind, .string (bs k.owner), .int .i64 k.num, .int .i64 k.idx, .string (bs k.text)] 26)) = W := ⟨_, rfl⟩
  rw [hW] at HB1 HN1 HL1 HR1 HK1 ⊢
  obtain ⟨B, hBB⟩ : ∃ B, w.heap.size = B := ⟨_, rfl⟩
  rw [hBB] at HK1 ⊢
  clear hW hBB
  obtain ⟨br, hpr⟩ : ∃ br, pr = some ⟨br, 0, none⟩ := by
    cases r with
    | nil => exact absurd rfl hrn
    | node _ _ _ _ => obtain ⟨br, _, _, e, _⟩ := HR1.out; exact ⟨br, e⟩
  have HRR : Hid (∃ z, r.first = some z) := Lib.hid (by cases hz : r.first with | none => exact absurd (first_none hz) hrn | some z => exact ⟨z, rfl⟩)
  subst hpr
  clear hrn
  have k0 : W.cell? ⟨B, 0, none⟩ = some (.int .i64 k.kind) := HK1.out.cell 0
  have k1 : W.cell? ⟨B, 1, none⟩ = some (.string (bs k.owner)) := HK1.out.cell 1
  have k2 : W.cell? ⟨B, 2, none⟩ = some (.int .i64 k.num) := HK1.out.cell 2
  have k3 : W.cell? ⟨B, 3, none⟩ = some (.int .i64 k.idx) := HK1.out.cell 3
  have k4 : W.cell? ⟨B, 4, none⟩ = some (.string (bs k.text)) := HK1.out.cell 4
  obtain ⟨n0, n1, n2, n3, n4, n5, n6, n7, n8, n9, n10⟩ := nd_cells HN1.out
  clear n0 n1 n7 n8 n9 n10
  refine wp_region_still_tail 5 (by kernel_rfl) (by kernel_rfl) ?_
  simp only [List.take_succ_cons, List.take_zero, List.drop_succ_cons, List.drop_zero]
  iterate 5 still_step
  refine wpStill_nil ?_
  show wpList _ _ _ _ _ W.drew
  clear k0 k1 k2 k3 k4 n2 n3 n4 n5 n6
  go_wp2_with fail
  refine (HC.out _).mono ?_
  rintro e w2 ⟨rfl, hb⟩
  have hb1 := (Below.refl W.heap.size W).drew.trans hb
  have HB2 := Lib.hid (HB1.out.trans (hb1.mono HB1.out.size))
  have HN2 := Lib.hid (HN1.out.next hb1)
  have HL2 := Lib.hid (TrAt.next hb1 HL1.out)
  have HR2 := Lib.hid (TrAt.next hb1 HR1.out)
  have HK2 := Lib.hid (HK1.out.next hb1 HK1.out.lt)
  clear HC hb hb1 HN1 HL1 HR1 HK1 HB1
  have x0 : w2.cell? ⟨b, 0, none⟩ = some (.pointer pl) := (nd_cells HN2.out).1
  have x1 : w2.cell? ⟨b, 1, none⟩ = some (.pointer (some ⟨br, 0, none⟩)) := (nd_cells HN2.out).2.1
  have z0 : w2.cell? ⟨B, 0, none⟩ = some (.int .i64 k.kind) := HK2.out.cell 0
  have z1 : w2.cell? ⟨B, 1, none⟩ = some (.string (bs k.owner)) := HK2.out.cell 1
  have z2 : w2.cell? ⟨B, 2, none⟩ = some (.int .i64 k.num) := HK2.out.cell 2
  have z3 : w2.cell? ⟨B, 3, none⟩ = some (.int .i64 k.idx) := HK2.out.cell 3
  have z4 : w2.cell? ⟨B, 4, none⟩ = some (.string (bs k.text)) := HK2.out.cell 4
  go_wp2_with fail
  obtain ⟨gk0, hg0⟩ : ∃ g, r.ht + 1 = g := ⟨_, rfl⟩
  have H0 : Hid (w2 = w2 ∧ ∃ (t' : T46) (p' : Option Addr), Value.pointer (some ⟨br, 0, none⟩) = .pointer p' ∧ TrAt w2 p' t' ∧ t'.ht ≤ gk0 ∧ t'.first = r.first) := Lib.hid ⟨rfl, r, _, rfl, HR2.out, by omega, rfl⟩
  clear hg0
  go_wp2
  go_loopg [6] gk0 (fun gk v wr => wr = w2 ∧ ∃ (t' : T46) (p' : Option Addr), v = .pointer p' ∧ TrAt w2 p' t' ∧ t'.ht ≤ gk ∧ t'.first = r.first)
  case atStart => exact ⟨rfl, H0.out.2⟩
  case round =>
    clear H0
    obtain ⟨hwr, t', p', rfl, ht, hgk, hf⟩ := hrel
    obtain rfl : w2 = wr := hwr.symm
    cases t' with
    | nil =>
      exfalso
      obtain ⟨z, hz⟩ := HRR.out
      rw [hz] at hf
      simp [Tr.first] at hf
    | node l' m y r' =>
      obtain ⟨bn, pln, prn, rfl, hX, hl', hr'⟩ := ht
      obtain ⟨y0, y1, y2, y3, y4, y5, y6, y7, y8, y9, y10⟩ := nd_cells hX
      clear y1 y7 y8 y9 y10
      cases l' with
      | node l2 a2 x2 r2 =>
        have hg2 : max (Tr.ht (.node l2 a2 x2 r2)) r'.ht + 1 ≤ gk := by have := hgk; simp only [Tr.ht] at this ⊢; omega
        have hf2 : Tr.first (.node l2 a2 x2 r2) = r.first := by rw [← hf]; rfl
        obtain ⟨bl, rfl⟩ : ∃ bl, pln = some ⟨bl, 0, none⟩ := by obtain ⟨bl, _, _, e, _⟩ := hl'; exact ⟨bl, e⟩
        have HL' := Lib.hid hl'
        have HF2 := Lib.hid hf2
        clear hl' hr' hX hf hf2 y2 y3 y4 y5 y6 hgk
        go_wp2_with fail
        go_roundg (gk - 1)
        case rel => exact ⟨rfl, _, _, rfl, HL'.out, by omega, HF2.out⟩
        case measure => omega
      | nil =>
        obtain rfl : pln = none := hl'
        have HFI : Hid (r.first = some (m, y)) := Lib.hid (by rw [← hf]; rfl)
        have HE : Hid (nextT l r = Tr.bal l m y (r.without cmpN m)) := Lib.hid (by unfold nextT; rw [HFI.out])
        clear hr' hf hgk
        go_wp2_with fail
        have HN3 : Hid (NdAt w2.drew b pl (some ⟨br, 0, none⟩) a x _ _ _) := Lib.hid HN2.out
        have HX3 : Hid (NdAt w2.drew bn none prn m y _ _ _) := Lib.hid hX
        have HL3 := Lib.hid HL2.out.drew
        have HR3 := Lib.hid HR2.out.drew
        have HB3 := Lib.hid HB2.out.drew
        clear HN2 HL2 HR2 HB2 hX
        refine wp_region_noPanic ?_
        refine wp_region_held_drew (S := (fun w' => w'.cell? ⟨b, 0, none⟩ = some (.pointer pl) ∧ w'.cell? ⟨b, 1, none⟩ = some (.pointer (some ⟨br, 0, none⟩)) ∧ w'.cell? ⟨bn, 2, none⟩ = some (.int .i64 m.kind) ∧ w'.cell? ⟨bn, 3, none⟩ = some (.string (bs m.owner)) ∧ w'.cell? ⟨bn, 4, none⟩ = some (.int .i64 m.num) ∧ w'.cell? ⟨bn, 5, none⟩ = some (.int .i64 m.idx) ∧ w'.cell? ⟨bn, 6, none⟩ = some (.string (bs m.text)))) (by kernel_rfl) ?_ (fun hHeld => ?_)
        · exact ⟨x0, x1, y2, y3, y4, y5, y6⟩
        refine tk (v := ?_) 0 rfl (by kernel_rfl) (fun _ _ _ h => h) ?_ hHeld ?_
        rotate_left
        · (intro w h; (try dsimp only at h); go_simp; try with_reducible rfl)
        try simp only [Act.put, pB, pC, pD]
        refine tk (v := ?_) 1 rfl (by kernel_rfl) (fun _ _ _ h => h) ?_ hHeld ?_
        rotate_left
        · (intro w h; (try dsimp only at h); go_simp; try with_reducible rfl)
        try simp only [Act.put, pB, pC, pD]
        refine tk (v := ?_) 2 rfl (by kernel_rfl) (fun _ _ _ h => h) ?_ hHeld ?_
        rotate_left
        · (intro w h; (try dsimp only at h); go_simp; try with_reducible rfl)
        try simp only [Act.put, pB, pC, pD]
        refine tk (v := ?_) 3 rfl (by kernel_rfl) (fun _ _ _ h => h) ?_ hHeld ?_
        rotate_left
        · (intro w h; (try dsimp only at h); go_simp; try with_reducible rfl)
        try simp only [Act.put, pB, pC, pD]
        refine tk (v := ?_) 4 rfl (by kernel_rfl) (fun _ _ _ h => h) ?_ hHeld ?_
        rotate_left
        · (intro w h; (try dsimp only at h); go_simp; try with_reducible rfl)
        try simp only [Act.put, pB, pC, pD]
        refine tk (v := ?_) 5 rfl (by kernel_rfl) (fun _ _ _ h => h) ?_ hHeld ?_
        rotate_left
        · (intro w h; (try dsimp only at h); go_simp; try with_reducible rfl)
        try simp only [Act.put, pB, pC, pD]
        refine tk (v := ?_) 6 rfl (by kernel_rfl) (fun _ _ _ h => h) ?_ hHeld ?_
        rotate_left
        · (intro w h; (try dsimp only at h); go_simp; try with_reducible rfl)
        try simp only [Act.put, pB, pC, pD]
        refine tk (v := ?_) 7 rfl (by kernel_rfl) (fun _ _ _ h => h) ?_ hHeld ?_
        rotate_left
        · (intro w h; (try dsimp only at h); go_simp; try with_reducible rfl)
        try simp only [Act.put, pB, pC, pD]
        refine tk (v := ?_) 8 rfl (by kernel_rfl) (fun _ _ _ h => h) ?_ hHeld ?_
        rotate_left
        · (intro w h; (try dsimp only at h); go_simp; try with_reducible rfl)
        try simp only [Act.put, pB, pC, pD]
        refine tk (v := ?_) 9 rfl (by kernel_rfl) (fun _ _ _ h => h) ?_ hHeld ?_
        rotate_left
        · (intro w h; (try dsimp only at h); go_simp; try with_reducible rfl)
        try simp only [Act.put, pB, pC, pD]
        refine tk (v := ?_) 10 rfl (by kernel_rfl) (fun _ _ _ h => h) ?_ hHeld ?_
        rotate_left
        · (intro w h; (try dsimp only at h); go_simp; try with_reducible rfl)
        try simp only [Act.put, pB, pC, pD]
        refine tk (v := ?_) 11 rfl (by kernel_rfl) (fun _ _ _ h => h) ?_ hHeld ?_
        rotate_left
        · (intro w h; (try dsimp only at h); go_simp; try with_reducible rfl)
        try simp only [Act.put, pB, pC, pD]
        refine tk (v := ?_) 12 rfl (by kernel_rfl) (fun _ _ _ h => h) ?_ hHeld ?_
        rotate_left
        · (intro w h; (try dsimp only at h); go_simp; try with_reducible rfl)
        try simp only [Act.put, pB, pC, pD]
        refine wpAnyH_ready (rs := [13]) (by kernel_rfl) (by simp) ?_
        refine AllReadyH.cons rfl (fun K hK => ?_) AllReadyH.nil
        go_simp
        refine (IHR m _ _ (first_own HS.out.right HFI.out) HR3.out HS.out.right HZ.out.right (find_first HS.out.right HFI.out)).mono ?_; rintro e w4 ⟨p4, rfl, ht, hb⟩; have HT4 := Lib.hid ht; have HB4 := Lib.hid (HB3.out.trans (hb.mono HB3.out.size)); have HN4 := Lib.hid (HN3.out.next hb); have HX4 := Lib.hid (HX3.out.next hb); have HL4 := Lib.hid (TrAt.next hb HL3.out); clear ht hb; have x0 : w4.cell? ⟨b, 0, none⟩ = some (.pointer pl) := (nd_cells HN4.out).1; have x1 : w4.cell? ⟨b, 1, none⟩ = some (.pointer (some ⟨br, 0, none⟩)) := (nd_cells HN4.out).2.1; obtain ⟨y0, y1, y2, y3, y4, y5, y6, y7, y8, y9, y10⟩ := nd_cells HX4.out; clear y0 y1 y7 y8 y9 y10
        try (go_wp2_with fail)
        refine hK.out _ _ ?_ (fun hNew => ?_)
        · exact ⟨x0, x1, y2, y3, y4, y5, y6⟩
        clear hK K hHeld
        have hHeld := hNew
        clear hNew
        try simp only [Act.put, pB, pC, pD]
        refine wpAnyH_ready (rs := [14]) (by kernel_rfl) (by simp) ?_
        refine AllReadyH.cons rfl (fun K hK => ?_) AllReadyH.nil
        go_simp
        refine (balance_is HL4.out HT4.out HX4.out (sm_next HS.out HZ.out HFI.out)).mono ?_; rintro e w5 ⟨b9, rfl, ht, hb⟩; have HT9 := Lib.hid ht; have HB9 := Lib.hid (HB4.out.trans (hb.mono HB4.out.size)); have HN9 := Lib.hid (HN4.out.next hb); have HX9 := Lib.hid (HX4.out.next hb); clear ht hb; have x0 : w5.cell? ⟨b, 0, none⟩ = some (.pointer pl) := (nd_cells HN9.out).1; have x1 : w5.cell? ⟨b, 1, none⟩ = some (.pointer (some ⟨br, 0, none⟩)) := (nd_cells HN9.out).2.1; obtain ⟨y0, y1, y2, y3, y4, y5, y6, y7, y8, y9, y10⟩ := nd_cells HX9.out; clear y0 y1 y7 y8 y9 y10
        try (go_wp2_with fail)
        refine hK.out _ _ ?_ (fun hNew => ?_)
        · exact ⟨x0, x1, y2, y3, y4, y5, y6⟩
        clear hK K hHeld
        have hHeld := hNew
        clear hNew
        try simp only [Act.put, pB, pC, pD]
        refine tk (v := ?_) 15 rfl (by kernel_rfl) (fun _ _ _ h => h) ?_ hHeld ?_
        rotate_left
        · (intro w h; (try dsimp only at h); go_simp; try with_reducible rfl)
        try simp only [Act.put, pB, pC, pD]
        refine wpAnyH_done (by kernel_rfl) ?_ _
        clear hHeld
        simp only [List.getElem_toArray, List.getElem_cons_zero, List.getElem_cons_succ, Act.put, pB, pC, pD]
        refine NoPanic.normal ?_
        go_wp2
        go_ret
        exact ⟨_, rfl, by rw [HE.out]; exact HT9.out, HB9.out⟩
theorem without_is : ∀ t : T46, WoSaid t
  | .nil => fun k w p hk hp hs hm hf => by simp [Tr.find] at hf
  | .node l a x r => fun k w p hk hp hs hm hf => by
    rcases Int.lt_trichotomy (cmpN k a) 0 with hc | hc | hc
    · exact wo_lt (without_is l) (without_is r) hc w p hk hp hs hm hf
    · cases r with
      | nil => exact wo_nil (without_is l) hc w p hk hp hs hm hf
      | node l2 a2 x2 r2 => exact wo_next (without_is l) (without_is (.node l2 a2 x2 r2)) hc (by simp) w p hk hp hs hm hf
    · exact wo_gt (without_is l) (without_is r) hc w p hk hp hs hm hf
structure Use where
  word : Bs
  owner : Bool
  number : Bool
  index : Bool
  text : Bool
  most : Int
def useT (k : Nat) : Use :=
  match k with
  | 13 => ⟨[116, 101, 114, 109, 105, 110, 97, 108], false, true, false, false, 0⟩
  | 15 => ⟨[99, 108, 111, 99, 107], false, false, false, false, 0⟩
  | 16 => ⟨[112, 111, 114, 116], false, true, false, false, 0⟩
  | 17 => ⟨[98, 111, 120], false, false, false, true, 0⟩
  | _ => ⟨[101, 112, 111, 99, 104], false, false, false, false, 0⟩
def UseAt (w : World) : Prop := 0 < w.heap.size ∧ ∀ k : Nat, k = 13 ∨ k = 15 ∨ k = 16 ∨ k = 17 ∨ k = 20 →
  w.cell? ⟨0, k * 6, none⟩ = some (.string (bs (useT k).word)) ∧ w.cell? ⟨0, k * 6 + 1, none⟩ = some (.bool (useT k).owner) ∧ w.cell? ⟨0, k * 6 + 2, none⟩ = some (.bool (useT k).number) ∧ w.cell? ⟨0, k * 6 + 3, none⟩ = some (.bool (useT k).index) ∧ w.cell? ⟨0, k * 6 + 4, none⟩ = some (.bool (useT k).text) ∧ w.cell? ⟨0, k * 6 + 5, none⟩ = some (.int .i64 (useT k).most)
theorem UseAt.next {w w' : World} (h : UseAt w) {B : Nat} (hb : Below B w w') (hB : 0 < B) : UseAt w' :=
  ⟨Nat.lt_of_lt_of_le h.1 hb.size, fun k hk => by
    have hc : ∀ o, w'.cell? ⟨0, o, none⟩ = w.cell? ⟨0, o, none⟩ := fun o => hb.cell (p := ⟨0, o, none⟩) hB
    simp only [hc]
    exact h.2 k hk⟩
theorem UseAt.below {w w' : World} (h : UseAt w) (hb : Below w.heap.size w w') : UseAt w' := h.next hb h.1
theorem kind_t (k : Int) (w : World) (h1 : 1 ≤ k) (h2 : k ≤ 20) : Calls Tryz.prog 121 #[.int .i64 k] w fun e w' => e = .returned (.bool true) ∧ w = w' := by
  have e1 : decide ((1 : Int) ≤ k) = true := by simpa using h1
  have e2 : decide (k ≤ (20 : Int)) = true := by simpa using h2
  go_enter Tryz.func121, Tryz.ntmps121
  go_wp2
  go_ret
  exact ⟨rfl, rfl⟩
theorem kind_f (w : World) : Calls Tryz.prog 121 #[.int .i64 99] w fun e w' => e = .returned (.bool false) ∧ w = w' := by
  go_enter Tryz.func121, Tryz.ntmps121
  go_wp2
  go_ret
  exact ⟨rfl, rfl⟩
theorem within_t (n m : Int) (w : World) (h1 : 0 ≤ n) (h2 : n ≤ m) : Calls Tryz.prog 29 #[.int .i64 n, .int .i64 m] w fun e w' => e = .returned (.bool true) ∧ w = w' := by
  have e1 : decide ((0 : Int) ≤ n) = true := by simpa using h1
  have e2 : decide (n ≤ m) = true := by simpa using h2
  go_enter Tryz.func29, Tryz.ntmps29
  go_wp2
  go_ret
  exact ⟨rfl, rfl⟩
theorem word_one (c : UInt8) (w : World) (hc : c = 97 ∨ c = 98) : Calls Tryz.prog 122 #[.string ⟨#[c]⟩] w fun e w' => e = .returned (.bool true) ∧ w = w' := by
  rcases hc with rfl | rfl
  all_goals
    go_enter Tryz.func122, Tryz.ntmps122
    go_wp2
    refine wp_loop_rounds 2 ?_
    rw [rounds_succ]
    go_wp2
    rw [rounds_succ]
    go_wp2
    go_ret
    exact ⟨rfl, rfl⟩
set_option maxRecDepth 100000 in
set_option maxHeartbeats 1000000 in
theorem check_ob (n : Nm) (w : World) (hn : IsOb n) (hu : UseAt w) : Calls Tryz.prog 76 #[nmV n] w fun e w' => e = .returned (.int .i64 0) ∧ Below w.heap.size w w' := by
  have h0 := hu.1
  have hz : w.heap.size ≠ 0 := by omega
  have hz2 : ¬ (0 = w.heap.size) := by omega
  have hz3 : 0 < w.heap.size := by omega
  unfold IsOb objs at hn
  simp only [List.mem_cons, List.not_mem_nil, or_false] at hn
  rcases hn with rfl | rfl | rfl | rfl | rfl | rfl
  · obtain ⟨u0, u1, u2, u3, u4, u5⟩ := hu.2 13 (by simp)
    simp only [useT, Nat.reduceMul, Nat.reduceAdd] at u0 u1 u2 u3 u4 u5
    simp only [nmV, nmA, obT, bs]
    clear hu h0
    go_enter Tryz.func76, Tryz.ntmps76
    go_wp2_with (first | (go_at_call 121; refine (kind_t _ _ (by decide) (by decide)).mono ?_; rintro e w' ⟨rfl, rfl⟩) | (go_at_call 29; refine (within_t _ _ _ (by decide) (by decide)).mono ?_; rintro e w' ⟨rfl, rfl⟩) | (go_at_call 122; refine (word_one _ _ (by decide)).mono ?_; rintro e w' ⟨rfl, rfl⟩))
    go_ret
    exact ⟨rfl, ((Below.refl _ _).alloc (Nat.le_refl _) _).alloc (by simp) _⟩
  · obtain ⟨u0, u1, u2, u3, u4, u5⟩ := hu.2 15 (by simp)
    simp only [useT, Nat.reduceMul, Nat.reduceAdd] at u0 u1 u2 u3 u4 u5
    simp only [nmV, nmA, obC, bs]
    clear hu h0
    go_enter Tryz.func76, Tryz.ntmps76
    go_wp2_with (first | (go_at_call 121; refine (kind_t _ _ (by decide) (by decide)).mono ?_; rintro e w' ⟨rfl, rfl⟩) | (go_at_call 29; refine (within_t _ _ _ (by decide) (by decide)).mono ?_; rintro e w' ⟨rfl, rfl⟩) | (go_at_call 122; refine (word_one _ _ (by decide)).mono ?_; rintro e w' ⟨rfl, rfl⟩))
    go_ret
    exact ⟨rfl, ((Below.refl _ _).alloc (Nat.le_refl _) _).alloc (by simp) _⟩
  · obtain ⟨u0, u1, u2, u3, u4, u5⟩ := hu.2 16 (by simp)
    simp only [useT, Nat.reduceMul, Nat.reduceAdd] at u0 u1 u2 u3 u4 u5
    simp only [nmV, nmA, obP, bs]
    clear hu h0
    go_enter Tryz.func76, Tryz.ntmps76
    go_wp2_with (first | (go_at_call 121; refine (kind_t _ _ (by decide) (by decide)).mono ?_; rintro e w' ⟨rfl, rfl⟩) | (go_at_call 29; refine (within_t _ _ _ (by decide) (by decide)).mono ?_; rintro e w' ⟨rfl, rfl⟩) | (go_at_call 122; refine (word_one _ _ (by decide)).mono ?_; rintro e w' ⟨rfl, rfl⟩))
    go_ret
    exact ⟨rfl, ((Below.refl _ _).alloc (Nat.le_refl _) _).alloc (by simp) _⟩
  · obtain ⟨u0, u1, u2, u3, u4, u5⟩ := hu.2 17 (by simp)
    simp only [useT, Nat.reduceMul, Nat.reduceAdd] at u0 u1 u2 u3 u4 u5
    simp only [nmV, nmA, obA, bs]
    clear hu h0
    go_enter Tryz.func76, Tryz.ntmps76
    go_wp2_with (first | (go_at_call 121; refine (kind_t _ _ (by decide) (by decide)).mono ?_; rintro e w' ⟨rfl, rfl⟩) | (go_at_call 29; refine (within_t _ _ _ (by decide) (by decide)).mono ?_; rintro e w' ⟨rfl, rfl⟩) | (go_at_call 122; refine (word_one _ _ (by decide)).mono ?_; rintro e w' ⟨rfl, rfl⟩))
    go_ret
    exact ⟨rfl, ((Below.refl _ _).alloc (Nat.le_refl _) _).alloc (by simp) _⟩
  · obtain ⟨u0, u1, u2, u3, u4, u5⟩ := hu.2 17 (by simp)
    simp only [useT, Nat.reduceMul, Nat.reduceAdd] at u0 u1 u2 u3 u4 u5
    simp only [nmV, nmA, obB, bs]
    clear hu h0
    go_enter Tryz.func76, Tryz.ntmps76
    go_wp2_with (first | (go_at_call 121; refine (kind_t _ _ (by decide) (by decide)).mono ?_; rintro e w' ⟨rfl, rfl⟩) | (go_at_call 29; refine (within_t _ _ _ (by decide) (by decide)).mono ?_; rintro e w' ⟨rfl, rfl⟩) | (go_at_call 122; refine (word_one _ _ (by decide)).mono ?_; rintro e w' ⟨rfl, rfl⟩))
    go_ret
    exact ⟨rfl, ((Below.refl _ _).alloc (Nat.le_refl _) _).alloc (by simp) _⟩
  · obtain ⟨u0, u1, u2, u3, u4, u5⟩ := hu.2 20 (by simp)
    simp only [useT, Nat.reduceMul, Nat.reduceAdd] at u0 u1 u2 u3 u4 u5
    simp only [nmV, nmA, obE, bs]
    clear hu h0
    go_enter Tryz.func76, Tryz.ntmps76
    go_wp2_with (first | (go_at_call 121; refine (kind_t _ _ (by decide) (by decide)).mono ?_; rintro e w' ⟨rfl, rfl⟩) | (go_at_call 29; refine (within_t _ _ _ (by decide) (by decide)).mono ?_; rintro e w' ⟨rfl, rfl⟩) | (go_at_call 122; refine (word_one _ _ (by decide)).mono ?_; rintro e w' ⟨rfl, rfl⟩))
    go_ret
    exact ⟨rfl, ((Below.refl _ _).alloc (Nat.le_refl _) _).alloc (by simp) _⟩
theorem check_bad (w : World) : Calls Tryz.prog 76 #[nmV ⟨99, [], 0, 0, []⟩] w fun e w' => e = .returned (.int .i64 11) ∧ Below w.heap.size w w' := by
  simp only [nmV, nmA, bs]
  go_enter Tryz.func76, Tryz.ntmps76
  go_wp2_with (go_at_call 121; refine (kind_f _).mono ?_; rintro e w' ⟨rfl, rfl⟩)
  go_ret
  exact ⟨rfl, (Below.refl _ _).alloc (Nat.le_refl _) _⟩
end Go.Proofs.YtamjllakfgphnaaGreatDoor
namespace Go.Proofs.YtamjllakfgphnaaGreatDoor
open Go.RowKit
set_option linter.unusedSimpArgs false
set_option linter.unusedVariables false
def StAt (w : World) (p : Option Addr) (s : St) : Prop := ∃ B q t, p = some ⟨B, 0, none⟩ ∧ Blk w B 140 #[.pointer q] ∧ TrAt w q t ∧ Tr.flat t = s ∧ TSrt t
theorem StAt.keep {w w' : World} {L : List TypeId} {p : Option Addr} {s : St} (h : StAt w p s) (k : Kept L w w') (h1 : L.contains 140 = false) (h2 : L.contains 143 = false) : StAt w' p s := by
  obtain ⟨B, q, t, e, b, ht, hf, hs⟩ := h
  exact ⟨B, q, t, e, b.keep k h1, TrAt.keep k h2 ht, hf, hs⟩
theorem StAt.next {w w' : World} {p : Option Addr} {s : St} (h : StAt w p s) (hb : Below w.heap.size w w') : StAt w' p s := h.keep (Kept.of_below [] hb) rfl rfl
theorem StAt.drew {w : World} {p : Option Addr} {s : St} (h : StAt w p s) : StAt w.drew p s := h.keep (Kept.drew (Kept.refl [] w)) rfl rfl
theorem StAt.drewN {w : World} {p : Option Addr} {s : St} (h : StAt w p s) (n : Nat) : StAt (w.drewN n) p s := h.keep (Kept.drewN (Kept.refl [] w) n) rfl rfl
def lenS (s : St) : Nat := (s.map fun p => p.2.length).sum
def StSm (s : St) : Prop := s.length < 1000 ∧ lenS s ≤ 1000000000
theorem by_lenS (t : T46) : byT t = lenS t.flat := by
  have e := Tr.by_flat (κ := Nm) (List.length : Bs → Nat)
  unfold byT lenS
  rw [e]
theorem StSm.tr {t : T46} (h : StSm t.flat) : TrSm t := by
  obtain ⟨h1, h2⟩ := h
  rw [← by_lenS] at h2
  rw [← Tr.sz_flat] at h1
  exact ⟨by omega, by omega⟩
theorem StSm.wo {t : T46} (h : StSm t.flat) {v : Bs} (hv : v.length ≤ 100000) : WithOk t v := by
  obtain ⟨h1, h2⟩ := h
  rw [← by_lenS] at h2
  rw [← Tr.sz_flat] at h1
  exact ⟨by omega, by omega⟩
theorem quiet_left {P : Program} {f : FuncId} {args : Array Value} {w : World} {n : Nat} {v : Value}
    (h : Calls P f args (w.drewN n) fun e w' => e = .returned v ∧ w.drewN n = w') : Calls P f args (w.drewN n) fun e w'' => e = .returned v ∧ ∃ m, w'' = w.drewN m :=
  h.mono fun _ _ ⟨he, hm⟩ => ⟨he, n, hm.symm⟩
end Go.Proofs.YtamjllakfgphnaaGreatDoor
namespace Go.Proofs.YtamjllakfgphnaaGreatDoor
open Go.RowKit
set_option linter.unusedSimpArgs false
set_option linter.unusedVariables false
section
variable {α : Type} {f : α → List Value} {s : Nat}
theorem fm_len (hf : ∀ x, (f x).length = s) : ∀ l : List α, (l.flatMap f).length = l.length * s
  | [] => by simp
  | a :: l => by rw [List.flatMap_cons, List.length_append, hf, fm_len hf l, List.length_cons, Nat.add_mul]; omega
theorem fm_get (hf : ∀ x, (f x).length = s) : ∀ (l : List α) (k : Nat) (hk : k < l.length) (j : Nat), j < s → (l.flatMap f)[k * s + j]? = (f l[k])[j]?
  | [], k, hk, _, _ => by simp at hk
  | a :: l, 0, hk, j, hj => by
    rw [List.flatMap_cons, Nat.zero_mul, Nat.zero_add, List.getElem?_append_left (by rw [hf]; exact hj)]
    rfl
  | a :: l, k + 1, hk, j, hj => by
    have := fm_get hf l k (by simpa using hk) j hj
    rw [List.flatMap_cons, List.getElem?_append_right (by rw [hf, Nat.add_mul]; omega), hf, show (k + 1) * s + j - s = k * s + j by rw [Nat.add_mul]; omega, this]
    simp
def RdP (e : TypeId) (f : α → List Value) (w : World) (v : Value) (l : List α) : Prop := Rd e w v l.length (l.flatMap f)
variable {e : TypeId} {w w' : World} {v : Value} {l : List α}
theorem RdP.keep {L : List TypeId} (h : RdP e f w v l) (k : Kept L w w') (he : L.contains e = false) : RdP e f w' v l := Rd.keep h k he
theorem RdP.next (h : RdP e f w v l) (hb : Below w.heap.size w w') : RdP e f w' v l := Rd.next h hb
theorem RdP.drew (h : RdP e f w v l) : RdP e f w.drew v l := h
theorem RdP.drewN (h : RdP e f w v l) (n : Nat) : RdP e f (w.drewN n) v l := h
theorem RdP.form (h : RdP e f w v l) : ∃ A c, v = .slice A l.length c ∧ l.length ≤ c := Rd.form h
theorem RdP.nil : RdP e f w (.slice none 0 0) [] := ⟨none, 0, rfl, Nat.le_refl _, Nat.zero_le _, .inl ⟨rfl, rfl⟩⟩
theorem RdP.at_ {A : Option Addr} {n c : Nat} (h : RdP e f w (.slice A n c) l) (hf : ∀ x, (f x).length = s) {k : Nat} (hk : k < l.length) : ∃ b o, A = some ⟨b, o, none⟩ ∧ b < w.heap.size ∧ ∀ j y, (f l[k])[j]? = some y → w.cell? ⟨b, o + (k * s + j), none⟩ = some y := by
  obtain ⟨b, o, c', hv, hc, _, hb, hcell⟩ := Rd.at_ h (by omega)
  injection hv with hA _ _
  refine ⟨b, o, hA, hb, fun j y hy => ?_⟩
  have hj : j < s := by
    rcases Nat.lt_or_ge j s with h | h
    · exact h
    · rw [List.getElem?_eq_none (by rw [hf]; exact h)] at hy; cases hy
  exact hcell _ _ ((fm_get hf l k hk j hj).trans hy)
def OwnP (e : TypeId) (s : Nat) (f : α → List Value) (w : World) (base : Nat) (v : Value) (l : List α) : Prop := w.ownsRow base e s v l.length (l.flatMap f)
variable {base : Nat}
theorem OwnP.rd (h : OwnP e s f w base v l) : RdP e f w v l := Rd.of_own h
theorem OwnP.next (h : OwnP e s f w base v l) (hb : Below w.heap.size w w') : OwnP e s f w' base v l := own_next h hb
theorem OwnP.nil : OwnP e s f w base (.slice none 0 0) [] := World.ownsRow_nil _ _ _ _
theorem OwnP.snoc {x : α} (h : w.ownsRow base e s v (l.length + 1) (l.flatMap f ++ f x)) : OwnP e s f w base v (l ++ [x]) := by
  unfold OwnP
  rw [List.length_append, List.flatMap_append]
  simpa using h
end
theorem chC_len (c : Ch) : (chC c).length = 7 := rfl
theorem nmC_len (c : Nm) : (nmC c).length = 5 := rfl
theorem veC_len (c : Ver) : (veC c).length = 3 := rfl
abbrev RdCh (w : World) (v : Value) (l : List Ch) : Prop := RdP 105 chC w v l
abbrev RdNm (w : World) (v : Value) (l : List Nm) : Prop := RdP 26 nmC w v l
abbrev RdVe (w : World) (v : Value) (l : List Ver) : Prop := RdP 68 veC w v l
theorem RdCh.piece {w : World} {A : Option Addr} {n c : Nat} {l : List Ch} (h : RdCh w (.slice A n c) l) {k : Nat} (hk : k < l.length) : ∃ b o, A = some ⟨b, o, none⟩ ∧ b < w.heap.size ∧
    w.cell? ⟨b, o + k * 7, none⟩ = some (.int .i64 l[k].name.kind) ∧ w.cell? ⟨b, o + k * 7 + 1, none⟩ = some (.string (bs l[k].name.owner)) ∧ w.cell? ⟨b, o + k * 7 + 2, none⟩ = some (.int .i64 l[k].name.num) ∧ w.cell? ⟨b, o + k * 7 + 3, none⟩ = some (.int .i64 l[k].name.idx) ∧ w.cell? ⟨b, o + k * 7 + 4, none⟩ = some (.string (bs l[k].name.text)) ∧ w.cell? ⟨b, o + k * 7 + 5, none⟩ = some (.string (bs l[k].value)) ∧ w.cell? ⟨b, o + k * 7 + 6, none⟩ = some (.bool l[k].absent) := by
  obtain ⟨b, o, e, hb, hc⟩ := RdP.at_ h chC_len hk
  exact ⟨b, o, e, hb, hc 0 _ rfl, hc 1 _ rfl, hc 2 _ rfl, hc 3 _ rfl, hc 4 _ rfl, hc 5 _ rfl, hc 6 _ rfl⟩
theorem RdNm.piece {w : World} {A : Option Addr} {n c : Nat} {l : List Nm} (h : RdNm w (.slice A n c) l) {k : Nat} (hk : k < l.length) : ∃ b o, A = some ⟨b, o, none⟩ ∧ b < w.heap.size ∧
    w.cell? ⟨b, o + k * 5, none⟩ = some (.int .i64 l[k].kind) ∧ w.cell? ⟨b, o + k * 5 + 1, none⟩ = some (.string (bs l[k].owner)) ∧ w.cell? ⟨b, o + k * 5 + 2, none⟩ = some (.int .i64 l[k].num) ∧ w.cell? ⟨b, o + k * 5 + 3, none⟩ = some (.int .i64 l[k].idx) ∧ w.cell? ⟨b, o + k * 5 + 4, none⟩ = some (.string (bs l[k].text)) := by
  obtain ⟨b, o, e, hb, hc⟩ := RdP.at_ h nmC_len hk
  exact ⟨b, o, e, hb, hc 0 _ rfl, hc 1 _ rfl, hc 2 _ rfl, hc 3 _ rfl, hc 4 _ rfl⟩
theorem RdVe.piece {w : World} {A : Option Addr} {n c : Nat} {l : List Ver} (h : RdVe w (.slice A n c) l) {k : Nat} (hk : k < l.length) : ∃ b o, A = some ⟨b, o, none⟩ ∧ b < w.heap.size ∧
    w.cell? ⟨b, o + k * 3, none⟩ = some (.int .i64 l[k].idx) ∧ w.cell? ⟨b, o + k * 3 + 1, none⟩ = some (.string (bs l[k].value)) ∧ w.cell? ⟨b, o + k * 3 + 2, none⟩ = some (.bool l[k].absent) := by
  obtain ⟨b, o, e, hb, hc⟩ := RdP.at_ h veC_len hk
  exact ⟨b, o, e, hb, hc 0 _ rfl, hc 1 _ rfl, hc 2 _ rfl⟩
def StV (s : St) : Prop := StOk s ∧ ∀ p ∈ s, p.2.length ≤ 65536
def ChV (c : Ch) : Prop := IsOb c.name ∧ c.value.length ≤ 65536
theorem StV.sm {s : St} (h : StV s) : StSm s := by
  have h6 := st_six h.1
  refine ⟨by omega, ?_⟩
  have : ∀ s : St, (∀ p ∈ s, p.2.length ≤ 65536) → lenS s ≤ s.length * 65536 := by
    intro s
    induction s with
    | nil => intro _; simp [lenS]
    | cons p s ih =>
      intro h
      have h1 := h p (by simp)
      have h2 := ih fun q hq => h q (by simp [hq])
      unfold lenS at *
      rw [List.map_cons, List.sum_cons, List.length_cons]
      omega
  have := this s h.2
  omega
theorem StV.app1 {s : St} {c : Ch} (h : StV s) (hc : ChV c) : StV (app1 s c) := by
  refine ⟨app1_ok h.1 hc.1, fun p hp => ?_⟩
  unfold Proofs.YtamjllakfgphnaaGreatDoor.app1 at hp
  split at hp
  · exact h.2 p (mem_del _ hp)
  · rcases mem_ins _ hp with rfl | hp
    · exact hc.2
    · exact h.2 p hp
theorem StV.appS : ∀ {l : List Ch} {s : St}, StV s → (∀ c ∈ l, ChV c) → StV (appS s l)
  | [], s, h, _ => h
  | c :: l, s, h, hl => StV.appS (l := l) (StV.app1 h (hl c (by simp))) fun d hd => hl d (by simp [hd])
theorem appS_take (s : St) (l : List Ch) (k : Nat) (hk : k < l.length) : appS s (l.take (k + 1)) = app1 (appS s (l.take k)) l[k] := by
  unfold appS
  rw [List.take_succ_eq_append_getElem hk, List.foldl_append]; rfl
end Go.Proofs.YtamjllakfgphnaaGreatDoor
namespace Go.Proofs.YtamjllakfgphnaaGreatDoor
open Go.RowKit
set_option linter.unusedSimpArgs false
set_option linter.unusedVariables false
def NewP (s : St) (w : World) (e : Ending) (w' : World) : Prop := ∃ p, e = .returned (.pointer p) ∧ StAt w' p s ∧ Below w.heap.size w w'
theorem new_is (w : World) : Calls Tryz.prog 34 #[] w (NewP [] w) := by
  go_enter Tryz.func34, Tryz.ntmps34
  go_wp2
  go_ret
  exact ⟨_, rfl, ⟨w.heap.size, none, .nil, rfl, Blk.new w _ _, rfl, rfl, List.Pairwise.nil, by simp [Tr.flat]⟩, (Below.refl _ _).alloc (Nat.le_refl _) _⟩
theorem len_is {w : World} {p : Option Addr} {s : St} (h : StAt w p s) : Calls Tryz.prog 77 #[.pointer p] w fun e w' => e = .returned (.int .i64 (s.length : Int)) ∧ w = w' := by
  obtain ⟨B, q, t, rfl, b, ht, hf, hs⟩ := h
  have c0 : w.cell? ⟨B, 0, none⟩ = some (.pointer q) := b.cell 0
  have HS := Lib.hid (size_is ht)
  have e : t.sz = s.length := by rw [← hf, Tr.sz_flat]
  rw [e] at HS
  clear b ht hf hs e
  go_enter Tryz.func77, Tryz.ntmps77
  go_wp2_with fail
  refine HS.out.mono ?_
  rintro e w' ⟨rfl, rfl⟩
  go_wp2
  go_ret
  exact ⟨rfl, rfl⟩
def GetP (s : St) (n : Nm) (w : World) (e : Ending) (w' : World) : Prop := e = .returned (.tuple #[.string (bs ((look cmpN n s).getD [])), .bool (look cmpN n s).isSome]) ∧ Below w.heap.size w w'
set_option maxRecDepth 100000 in
theorem get_is {w : World} {p : Option Addr} {s : St} {n : Nm} (h : StAt w p s) (hn : OwnE n) : Calls Tryz.prog 22 #[.pointer p, nmV n] w (GetP s n w) := by
  obtain ⟨B, q, t, rfl, b, ht, hf, hs⟩ := h
  have hb1 : Below w.heap.size w (w.alloc (.cells (nmA n) 26)) := (Below.refl _ _).alloc (Nat.le_refl _) _
  have b1 := b.next hb1 b.lt
  have c0 : (w.alloc (.cells (nmA n) 26)).cell? ⟨B, 0, none⟩ = some (.pointer q) := b1.cell 0
  have HB := Lib.hid hb1
  have hk := Blk.new w 26 (nmA n)
  have k0 := hk.cell 0
  have k1 := hk.cell 1
  have k2 := hk.cell 2
  have k3 := hk.cell 3
  have k4 := hk.cell 4
  have HF := Lib.hid (find_is n t _ q (TrAt.drew (TrAt.next hb1 ht)) (hs.same hn))
  have HL : Hid (t.find cmpN n = look cmpN n s) := Lib.hid (by rw [find_look ordN hn t hs, hf])
  clear b b1 ht hf hs hb1 hk
  unfold nmV
  unfold nmA at *
  simp only [qB, qC, qD] at k0 k1 k2 k3 k4
  go_enter Tryz.func22, Tryz.ntmps22
  go_wp2_with fail
  generalize (w.alloc (.cells #[.int .i64 n.kind, .string (bs n.owner), .int .i64 n.num, .int .i64 n.idx, .string (bs n.text)] 26)) = W at *
  generalize hB : w.heap.size = B0 at *
  refine wp_region_still_tail 5 (by kernel_rfl) (by kernel_rfl) ?_
  simp only [List.take_succ_cons, List.take_zero, List.drop_succ_cons, List.drop_zero]
  iterate 5 still_step
  refine wpStill_nil ?_
  show wpList _ _ _ _ _ W.drew
  clear k0 k1 k2 k3 k4 c0
  go_wp2_with fail
  refine HF.out.mono ?_
  rintro e w2 ⟨hb, hm⟩
  rw [HL.out] at hm
  have HB2 := Lib.hid (HB.out.trans ((((Below.refl W.heap.size W).drew.trans hb)).mono (by have := HB.out.size; omega)))
  obtain ⟨z, hz⟩ : ∃ z, look cmpN n s = z := ⟨_, rfl⟩
  rw [hz] at hm
  have HZ := Lib.hid hz
  cases z with
  | none =>
    obtain rfl := hm
    clear hb HF HL HB hz
    go_wp2
    go_ret2
    exact ⟨by rw [HZ.out]; rfl, by rw [hB]; exact HB2.out⟩
  | some v =>
    obtain ⟨bn, pl, pr, hh, s', y, rfl, hn⟩ := hm
    have c7 : w2.cell? ⟨bn, 7, none⟩ = some (.string (bs v)) := hn.cell 7
    clear hb HF HL HB hz hn
    go_wp2
    go_ret2
    exact ⟨by rw [HZ.out]; rfl, by rw [hB]; exact HB2.out⟩
end Go.Proofs.YtamjllakfgphnaaGreatDoor
namespace Go.Proofs.YtamjllakfgphnaaGreatDoor
open Go.RowKit
set_option linter.unusedSimpArgs false
set_option linter.unusedVariables false
attribute [local go_sem ↓] Go.wp_at_zero Go.wp_at_succ
def StP (s : St) (w : World) (e : Ending) (w' : World) : Prop := ∃ q, e = .returned (.tuple #[.pointer q, .int .i64 0]) ∧ StAt w' q s ∧ Below w.heap.size w w'
set_option maxRecDepth 100000 in
set_option maxHeartbeats 1000000 in
theorem with_st {w : World} {p : Option Addr} {s : St} {n : Nm} {v : Bs} (h : StAt w p s) (hn : IsOb n) (hu : UseAt w) (hv : v.length ≤ 65536) (hs : StSm s) : Calls Tryz.prog 35 #[.pointer p, nmV n, .string (bs v)] w (StP (ins cmpN n v s) w) := by
  obtain ⟨B, q, t, rfl, b, ht, hf, hst⟩ := h
  subst hf
  have hb1 : Below w.heap.size w (w.alloc (.cells (nmA n) 26)) := (Below.refl _ _).alloc (Nat.le_refl _) _
  have HK1 := Lib.hid (Blk.new w 26 (nmA n))
  have HU := Lib.hid (check_ob n _ hn (hu.below hb1))
  have HS1 : Hid (StAt (w.alloc (.cells (nmA n) 26)) (some ⟨B, 0, none⟩) t.flat) := Lib.hid ⟨B, q, t, rfl, b.next hb1 b.lt, TrAt.next hb1 ht, rfl, hst⟩
  have HB1 := Lib.hid hb1
  have HT := Lib.hid (TrAt.next hb1 ht)
  have HBk := Lib.hid (b.next hb1 b.lt)
  have hl : t.flat.length < 1000 := hs.1
  have hvs : (bs v).size ≤ 65536 := by rw [bs_size]; exact hv
  have e1 : decide ((65536 : Int) ≤ (t.flat.length : Int)) = false := by rw [decide_eq_false_iff_not]; omega
  have HW := Lib.hid (hs.wo (v := v) (by omega))
  have HO := Lib.hid (hst.same hn.own)
  have HST := Lib.hid hst
  have HN := Lib.hid hn
  have k0 := HK1.out.cell 0
  have k1 := HK1.out.cell 1
  have k2 := HK1.out.cell 2
  have k3 := HK1.out.cell 3
  have k4 := HK1.out.cell 4
  unfold nmV
  unfold nmA at *
  simp only [qB, qC, qD] at k0 k1 k2 k3 k4
  clear b ht hb1 hs hst hn hu hv
  go_enter Tryz.func35, Tryz.ntmps35
  go_wp2_with fail
  generalize (w.alloc (.cells #[.int .i64 n.kind, .string (bs n.owner), .int .i64 n.num, .int .i64 n.idx, .string (bs n.text)] 26)) = W at *
  generalize hB : w.heap.size = B0 at *
  have hbW : B0 ≤ W.heap.size := by have := HB1.out.size; omega
  have HBB := Lib.hid hB
  clear hB
  refine HU.out.mono ?_
  rintro e w2 ⟨rfl, hb⟩
  have HB2 := Lib.hid (HB1.out.trans (hb.mono hbW))
  have hbW2 : B0 ≤ w2.heap.size := Nat.le_trans hbW hb.size
  have HT2 := Lib.hid (TrAt.next hb HT.out)
  have HS2 := Lib.hid (HS1.out.next hb)
  have HK2 := Lib.hid (HK1.out.next hb HK1.out.lt)
  have HBk2 := Lib.hid (HBk.out.next hb HBk.out.lt)
  clear hb HU HS1 HB1 HT HK1 HBk k0 k1 k2 k3 k4
  go_wp2_with fail
  go_quiet ((go_at_call 77; exact quiet_left (len_is (HS2.out.drewN _))))
  have HB3 := Lib.hid (below_drewN HB2.out nq)
  have HT3 := Lib.hid (HT2.out.drewN nq)
  have HK3 := Lib.hid (HK2.out.drewN nq)
  have HBk3 := Lib.hid (HBk2.out.drewN nq)
  clear HB2 HT2 HK2 HS2 HBk2
  have hbW3 : B0 ≤ (World.drewN w2 nq).heap.size := hbW2
  generalize World.drewN w2 nq = w3 at *
  have c0 : w3.cell? ⟨B, 0, none⟩ = some (.pointer q) := HBk3.out.cell 0
  have k0 := HK3.out.cell 0
  have k1 := HK3.out.cell 1
  have k2 := HK3.out.cell 2
  have k3 := HK3.out.cell 3
  have k4 := HK3.out.cell 4
  simp only [qB, qC, qD] at k0 k1 k2 k3 k4
  go_wp2_with fail
  have HB4 := Lib.hid ((Below.refl w3.heap.size w3).drew.alloc (Nat.le_refl _) (.cells (ndA none none n v 0 0 0) 143))
  refine wp_region_noPanic ?_
  refine wp_region_held_drew (S := (fun w' => w'.cell? ⟨B, 0, none⟩ = some (.pointer q) ∧ w'.cell? ⟨B0, 0, none⟩ = some (.int .i64 n.kind) ∧ w'.cell? ⟨B0, 1, none⟩ = some (.string (bs n.owner)) ∧ w'.cell? ⟨B0, 2, none⟩ = some (.int .i64 n.num) ∧ w'.cell? ⟨B0, 3, none⟩ = some (.int .i64 n.idx) ∧ w'.cell? ⟨B0, 4, none⟩ = some (.string (bs n.text)))) (by kernel_rfl) ?_ (fun hHeld => ?_)
  · exact ⟨c0, k0, k1, k2, k3, k4⟩
  refine tk (v := ?_) 0 rfl (by kernel_rfl) (fun _ _ _ h => h) ?_ hHeld ?_
  rotate_left
  · (intro w h; (try dsimp only at h); go_simp; try with_reducible rfl)
  try simp only [Act.put, pB, pC, pD]
  refine tk (v := ?_) 1 rfl (by kernel_rfl) (fun _ _ _ h => h) ?_ hHeld ?_
  rotate_left
  · (intro w h; (try dsimp only at h); go_simp; try with_reducible rfl)
  try simp only [Act.put, pB, pC, pD]
  refine tk (v := ?_) 2 rfl (by kernel_rfl) (fun _ _ _ h => h) ?_ hHeld ?_
  rotate_left
  · (intro w h; (try dsimp only at h); go_simp; try with_reducible rfl)
  try simp only [Act.put, pB, pC, pD]
  refine tk (v := ?_) 3 rfl (by kernel_rfl) (fun _ _ _ h => h) ?_ hHeld ?_
  rotate_left
  · (intro w h; (try dsimp only at h); go_simp; try with_reducible rfl)
  try simp only [Act.put, pB, pC, pD]
  refine tk (v := ?_) 4 rfl (by kernel_rfl) (fun _ _ _ h => h) ?_ hHeld ?_
  rotate_left
  · (intro w h; (try dsimp only at h); go_simp; try with_reducible rfl)
  try simp only [Act.put, pB, pC, pD]
  refine tk (v := ?_) 5 rfl (by kernel_rfl) (fun _ _ _ h => h) ?_ hHeld ?_
  rotate_left
  · (intro w h; (try dsimp only at h); go_simp; try with_reducible rfl)
  try simp only [Act.put, pB, pC, pD]
  refine tk (v := ?_) 6 rfl (by kernel_rfl) (fun _ _ _ h => h) ?_ hHeld ?_
  rotate_left
  · (intro w h; (try dsimp only at h); go_simp; try with_reducible rfl)
  try simp only [Act.put, pB, pC, pD]
  refine wpAnyH_ready (rs := [7]) (by kernel_rfl) (by simp) ?_
  refine AllReadyH.cons rfl (fun K hK => ?_) AllReadyH.nil
  go_simp
  refine hK.out _ _ ?_ (fun hNew => ?_)
  · exact ⟨(HBk3.out.drew.alloc _).cell 0, (HK3.out.drew.alloc _).cell 0, (HK3.out.drew.alloc _).cell 1, (HK3.out.drew.alloc _).cell 2, (HK3.out.drew.alloc _).cell 3, (HK3.out.drew.alloc _).cell 4⟩
  clear hK K hHeld
  have hHeld := hNew
  clear hNew
  try simp only [Act.put, pB, pC, pD]
  refine wpAnyH_ready (rs := [8]) (by kernel_rfl) (by simp) ?_
  refine AllReadyH.cons rfl (fun K hK => ?_) AllReadyH.nil
  go_simp
  refine ((with_is n v t) (TrAt.next HB4.out HT3.out) (show NdAt _ w3.heap.size none none n v 0 0 0 from Blk.new w3.drew 143 _) HW.out HO.out).mono ?_; rintro e w5 ⟨b5, rfl, ht5, hb5⟩; have HB5 := Lib.hid ((HB3.out.trans (HB4.out.mono hbW3)).trans (hb5.mono (Nat.le_trans hbW3 HB4.out.size))); have HT5 := Lib.hid ht5; have HBk5 := Lib.hid ((HBk3.out.drew.alloc (.cells (ndA none none n v 0 0 0) 143)).next hb5 (Blk.lt (HBk3.out.drew.alloc (.cells (ndA none none n v 0 0 0) 143)))); have HK5 := Lib.hid ((HK3.out.drew.alloc (.cells (ndA none none n v 0 0 0) 143)).next hb5 (Blk.lt (HK3.out.drew.alloc (.cells (ndA none none n v 0 0 0) 143)))); clear hb5 ht5
  try (go_wp2_with fail)
  refine hK.out _ _ ?_ (fun hNew => ?_)
  · exact ⟨HBk5.out.cell 0, HK5.out.cell 0, HK5.out.cell 1, HK5.out.cell 2, HK5.out.cell 3, HK5.out.cell 4⟩
  clear hK K hHeld
  have hHeld := hNew
  clear hNew
  try simp only [Act.put, pB, pC, pD]
  refine tk (v := ?_) 9 rfl (by kernel_rfl) (fun _ _ _ h => h) ?_ hHeld ?_
  rotate_left
  · (intro w h; (try dsimp only at h); go_simp; try with_reducible rfl)
  try simp only [Act.put, pB, pC, pD]
  refine wpAnyH_ready (rs := [10]) (by kernel_rfl) (by simp) ?_
  refine AllReadyH.cons rfl (fun K hK => ?_) AllReadyH.nil
  go_simp
  refine hK.out _ _ ?_ (fun hNew => ?_)
  · exact ⟨(HBk5.out.alloc _).cell 0, (HK5.out.alloc _).cell 0, (HK5.out.alloc _).cell 1, (HK5.out.alloc _).cell 2, (HK5.out.alloc _).cell 3, (HK5.out.alloc _).cell 4⟩
  clear hK K hHeld
  have hHeld := hNew
  clear hNew
  try simp only [Act.put, pB, pC, pD]
  refine tk (v := ?_) 11 rfl (by kernel_rfl) (fun _ _ _ h => h) ?_ hHeld ?_
  rotate_left
  · (intro w h; (try dsimp only at h); go_simp; try with_reducible rfl)
  try simp only [Act.put, pB, pC, pD]
  refine tk (v := ?_) 12 rfl (by kernel_rfl) (fun _ _ _ h => h) ?_ hHeld ?_
  rotate_left
  · (intro w h; (try dsimp only at h); go_simp; try with_reducible rfl)
  try simp only [Act.put, pB, pC, pD]
  refine wpAnyH_done (by kernel_rfl) ?_ _
  clear hHeld
  simp only [List.getElem_toArray, List.getElem_cons_zero, List.getElem_cons_succ, Act.put, pB, pC, pD]
  refine NoPanic.normal ?_
  go_wp2
  go_ret2
  rw [← HBB.out] at HB5
  refine ⟨_, rfl, ⟨w5.heap.size, _, _, rfl, Blk.new w5 _ _, TrAt.next ((Below.refl _ _).alloc (Nat.le_refl _) _) HT5.out, flat_with ordN HN.out.own v t HST.out, ?_⟩, HB5.out.alloc HB5.out.size _⟩
  show Srt cmpN OwnE _
  rw [flat_with ordN HN.out.own v t HST.out]
  exact srt_ins ordN HN.out.own v _ HST.out
end Go.Proofs.YtamjllakfgphnaaGreatDoor
namespace Go.Proofs.YtamjllakfgphnaaGreatDoor
open Go.RowKit
set_option linter.unusedSimpArgs false
set_option linter.unusedVariables false
theorem del_none {n : Nm} : ∀ {s : St}, look cmpN n s = none → del cmpN n s = s
  | [], _ => rfl
  | p :: s, h => by
    simp only [look] at h
    split at h
    · cases h
    · rename_i hne
      simp only [del]
      rw [if_neg hne, del_none h]
set_option maxRecDepth 100000 in
set_option maxHeartbeats 1000000 in
theorem without_st {w : World} {p : Option Addr} {s : St} {n : Nm} (h : StAt w p s) (hn : IsOb n) (hu : UseAt w) (hs : StSm s) : Calls Tryz.prog 53 #[.pointer p, nmV n] w (StP (del cmpN n s) w) := by
  obtain ⟨B, q, t, rfl, b, ht, hf, hst⟩ := h
  subst hf
  have hb1 : Below w.heap.size w (w.alloc (.cells (nmA n) 26)) := (Below.refl _ _).alloc (Nat.le_refl _) _
  have HK1 := Lib.hid (Blk.new w 26 (nmA n))
  have HU := Lib.hid (check_ob n _ hn (hu.below hb1))
  have HB1 := Lib.hid hb1
  have HT := Lib.hid (TrAt.next hb1 ht)
  have HBk := Lib.hid (b.next hb1 b.lt)
  have HO := Lib.hid (hst.same hn.own)
  have HST := Lib.hid hst
  have HSM := Lib.hid hs
  have HN := Lib.hid hn
  have k0 := HK1.out.cell 0
  have k1 := HK1.out.cell 1
  have k2 := HK1.out.cell 2
  have k3 := HK1.out.cell 3
  have k4 := HK1.out.cell 4
  unfold nmV
  unfold nmA at *
  simp only [qB, qC, qD] at k0 k1 k2 k3 k4
  clear b ht hb1 hs hst hn hu
  go_enter Tryz.func53, Tryz.ntmps53
  go_wp2_with fail
  generalize (w.alloc (.cells #[.int .i64 n.kind, .string (bs n.owner), .int .i64 n.num, .int .i64 n.idx, .string (bs n.text)] 26)) = W at *
  generalize hB : w.heap.size = B0 at *
  have hbW : B0 ≤ W.heap.size := by have := HB1.out.size; omega
  have HBB := Lib.hid hB
  clear hB
  refine HU.out.mono ?_
  rintro e w2 ⟨rfl, hb⟩
  have HB2 := Lib.hid (HB1.out.trans (hb.mono hbW))
  have hbW2 : B0 ≤ w2.heap.size := Nat.le_trans hbW hb.size
  have HT2 := Lib.hid (TrAt.next hb HT.out)
  have HK2 := Lib.hid (HK1.out.next hb HK1.out.lt)
  have HBk2 := Lib.hid (HBk.out.next hb HBk.out.lt)
  clear hb HU HB1 HT HK1 HBk k0 k1 k2 k3 k4
  have c0 : w2.cell? ⟨B, 0, none⟩ = some (.pointer q) := HBk2.out.cell 0
  have k0 := HK2.out.cell 0
  have k1 := HK2.out.cell 1
  have k2 := HK2.out.cell 2
  have k3 := HK2.out.cell 3
  have k4 := HK2.out.cell 4
  simp only [qB, qC, qD] at k0 k1 k2 k3 k4
  go_wp2_with fail
  refine wp_region_still_tail 5 (by kernel_rfl) (by kernel_rfl) ?_
  simp only [List.take_succ_cons, List.take_zero, List.drop_succ_cons, List.drop_zero]
  iterate 5 still_step
  refine wpStill_nil ?_
  show wpList _ _ _ _ _ w2.drew
  clear k0 k1 k2 k3 k4 c0
  go_wp2_with fail
  refine (find_is n t _ q HT2.out.drew HO.out).mono ?_
  rintro e w3 ⟨hb, hm⟩
  have hb3 := (Below.refl w2.heap.size w2).drew.trans hb
  have HB3 := Lib.hid (HB2.out.trans (hb3.mono hbW2))
  have hbW3 : B0 ≤ w3.heap.size := Nat.le_trans hbW2 hb3.size
  have HT3 := Lib.hid (TrAt.next hb3 HT2.out)
  have HK3 := Lib.hid (HK2.out.next hb3 HK2.out.lt)
  have HBk3 := Lib.hid (HBk2.out.next hb3 HBk2.out.lt)
  clear hb hb3 HB2 HT2 HK2 HBk2
  obtain ⟨z, hz⟩ : ∃ z, t.find cmpN n = z := ⟨_, rfl⟩
  rw [hz] at hm
  have HZ := Lib.hid hz
  clear hz
  cases z with
  | none =>
    obtain rfl := hm
    go_wp2
    go_ret2
    rw [← HBB.out] at HB3
    exact ⟨_, rfl, by rw [del_none ((find_look ordN HN.out.own t HST.out).symm.trans HZ.out)]; exact ⟨B, q, t, rfl, HBk3.out, HT3.out, rfl, HST.out⟩, HB3.out⟩
  | some v =>
    obtain ⟨bn, pl, pr, hh, s', y, rfl, hn⟩ := hm
    clear hn
    have c0 : w3.cell? ⟨B, 0, none⟩ = some (.pointer q) := HBk3.out.cell 0
    have k0 := HK3.out.cell 0
    have k1 := HK3.out.cell 1
    have k2 := HK3.out.cell 2
    have k3 := HK3.out.cell 3
    have k4 := HK3.out.cell 4
    simp only [qB, qC, qD] at k0 k1 k2 k3 k4
    go_wp2_with fail
    refine wp_region_still_tail 5 (by kernel_rfl) (by kernel_rfl) ?_
    simp only [List.take_succ_cons, List.take_zero, List.drop_succ_cons, List.drop_zero]
    iterate 5 still_step
    refine wpStill_nil ?_
    show wpList _ _ _ _ _ w3.drew
    clear k0 k1 k2 k3 k4 c0
    go_wp2_with fail
    refine (without_is t n _ q HN.out.own HT3.out.drew HST.out HSM.out.tr (by rw [HZ.out]; rfl)).mono ?_
    rintro e w5 ⟨p5, rfl, ht5, hb⟩
    have hb5 := (Below.refl w3.heap.size w3).drew.trans hb
    have HB5 := Lib.hid (HB3.out.trans (hb5.mono hbW3))
    have HT5 := Lib.hid ht5
    clear hb hb5 ht5
    go_wp2
    go_ret2
    rw [← HBB.out] at HB5
    refine ⟨_, rfl, ⟨w5.heap.size, _, _, rfl, Blk.new w5 _ _, TrAt.next ((Below.refl _ _).alloc (Nat.le_refl _) _) HT5.out, flat_without ordN t HN.out.own HST.out, ?_⟩, HB5.out.alloc HB5.out.size _⟩
    show Srt cmpN OwnE _
    rw [flat_without ordN t HN.out.own HST.out]
    exact srt_del _ HST.out
end Go.Proofs.YtamjllakfgphnaaGreatDoor
namespace Go.Proofs.YtamjllakfgphnaaGreatDoor
open Go.RowKit
set_option linter.unusedSimpArgs false
set_option linter.unusedVariables false
attribute [local go_sem ↓] Go.wp_at_zero Go.wp_at_succ
def AppRel (s : St) (l : List Ch) (v : Value) (w : World) (v0 i : Value) (wr : World) : Prop :=
  ∃ (k : Nat) (q : Option Addr), k ≤ l.length ∧ i = .int .i64 k ∧ v0 = .pointer q ∧ StAt wr q (appS s (l.take k)) ∧ RdCh wr v l ∧ UseAt wr ∧ Below w.heap.size w wr
set_option maxRecDepth 100000 in
set_option maxHeartbeats 1000000 in
theorem apply_st {w : World} {p : Option Addr} {s : St} {v : Value} {l : List Ch} (h : StAt w p s) (hv : StV s) (hl : RdCh w v l) (hc : ∀ c ∈ l, ChV c) (hu : UseAt w) (hlen : l.length ≤ 100000) : Calls Tryz.prog 21 #[.pointer p, v] w (StP (appS s l) w) := by
  obtain ⟨A, c, rfl, _⟩ := hl.form
  have H0 : Hid (AppRel s l (.slice A l.length c) w (.pointer p) (.int .i64 (0 : Nat)) w) := Lib.hid ⟨0, p, Nat.zero_le _, rfl, rfl, h, hl, hu, Below.refl _ _⟩
  have HC := Lib.hid hc
  have HV := Lib.hid hv
  obtain ⟨B, q, t, rfl, _⟩ := h
  clear hl hc hu hv
  go_enter Tryz.func21, Tryz.ntmps21
  go_wp2
  go_loopw [0, 13] (fun v0 i wr => AppRel s l (.slice A l.length c) w v0 i wr) (fun _ i _ => l.length - (intOf i).toNat)
  case atStart => exact H0.out
  case round =>
    clear H0
    obtain ⟨k, q', hk, rfl, rfl, hs, hl, hu, hb⟩ := hrel
    have HS := Lib.hid hs
    have HU := Lib.hid hu
    have HL := Lib.hid hl
    have HB := Lib.hid hb
    have hbs : w.heap.size ≤ wr.heap.size := hb.size
    by_cases hlt : k < l.length
    · have HSV := Lib.hid (HV.out.appS (l := l.take k) fun c hc => HC.out c (List.mem_of_mem_take hc))
      have HCK := Lib.hid (HC.out _ (List.getElem_mem hlt))
      have HT := Lib.hid (appS_take s l k hlt)
      obtain ⟨b, o, rfl, hbb, c0, c1, c2, c3, c4, c5, c6⟩ := RdCh.piece hl hlt
      obtain ⟨x, hx⟩ : ∃ x, l[k] = x := ⟨_, rfl⟩
      rw [hx] at c0 c1 c2 c3 c4 c5 c6 HCK HT
      clear hs hu hl hb hx
      obtain ⟨⟨nk, no, nn, ni, nt⟩, val, ab⟩ := x
      simp only at c0 c1 c2 c3 c4 c5 c6
      have i1 : (0 : Int) ≤ (k : Int) := by omega
      have i2 : (k : Int) < (l.length : Int) := by omega
      cases ab with
      | true =>
        go_wp2_with fail
        have hb1 : Below wr.heap.size wr (wr.alloc (.cells #[.int .i64 nk, .string (bs no), .int .i64 nn, .int .i64 ni, .string (bs nt), .string (bs val), .bool true] 105)) := (Below.refl _ _).alloc (Nat.le_refl _) _
        refine (without_st (n := ⟨nk, no, nn, ni, nt⟩) (HS.out.next hb1) HCK.out.1 (HU.out.below hb1) HSV.out.sm).mono ?_
        rintro e w2 ⟨q2, rfl, hs2, hb2⟩
        have HS2 := Lib.hid (show StAt w2 q2 (appS s (l.take (k + 1))) by rw [HT.out]; exact hs2)
        have hb3 := hb1.trans (hb2.mono hb1.size)
        have HU2 := Lib.hid (HU.out.below hb3)
        have HL2 := Lib.hid (HL.out.next hb3)
        have HB2 := Lib.hid (HB.out.trans (hb3.mono hbs))
        clear hb1 hb2 hb3 hs2 c0 c1 c2 c3 c4 c5 c6
        go_wp2
        go_roundw
        case rel => exact ⟨k + 1, q2, by omega, by go_num, rfl, HS2.out, HL2.out, HU2.out, HB2.out⟩
        case measure => simp [intOf]; omega
      | false =>
        go_wp2_with fail
        have hb1 : Below wr.heap.size wr (wr.alloc (.cells #[.int .i64 nk, .string (bs no), .int .i64 nn, .int .i64 ni, .string (bs nt), .string (bs val), .bool false] 105)) := (Below.refl _ _).alloc (Nat.le_refl _) _
        refine (with_st (n := ⟨nk, no, nn, ni, nt⟩) (HS.out.next hb1) HCK.out.1 (HU.out.below hb1) HCK.out.2 HSV.out.sm).mono ?_
        rintro e w2 ⟨q2, rfl, hs2, hb2⟩
        have HS2 := Lib.hid (show StAt w2 q2 (appS s (l.take (k + 1))) by rw [HT.out]; exact hs2)
        have hb3 := hb1.trans (hb2.mono hb1.size)
        have HU2 := Lib.hid (HU.out.below hb3)
        have HL2 := Lib.hid (HL.out.next hb3)
        have HB2 := Lib.hid (HB.out.trans (hb3.mono hbs))
        clear hb1 hb2 hb3 hs2 c0 c1 c2 c3 c4 c5 c6
        go_wp2
        go_roundw
        case rel => exact ⟨k + 1, q2, by omega, by go_num, rfl, HS2.out, HL2.out, HU2.out, HB2.out⟩
        case measure => simp [intOf]; omega
    · obtain rfl : k = l.length := by omega
      go_wp2
      go_ret2
      rw [List.take_length] at HS
      exact ⟨q', rfl, HS.out, HB.out⟩
end Go.Proofs.YtamjllakfgphnaaGreatDoor
namespace Go.Proofs.YtamjllakfgphnaaGreatDoor
set_option linter.unusedVariables false
def stS (s0 : St) (l : List Ac) : St := l.foldl (fun s a => appS s a.writes) s0
theorem stS_snoc (s0 : St) (l : List Ac) (a : Ac) : stS s0 (l ++ [a]) = appS (stS s0 l) a.writes := by
  unfold stS
  rw [List.foldl_append]; rfl
def keptS (s0 : St) (l : List Ac) : List St := (List.range ((l.length + 15) / 16)).map fun j => stS s0 (l.take (j * 16))
theorem keptS_len (s0 : St) (l : List Ac) : (keptS s0 l).length = (l.length + 15) / 16 := by simp [keptS]
theorem keptS_snoc (s0 : St) (l : List Ac) (a : Ac) : keptS s0 (l ++ [a]) = if l.length % 16 = 0 then keptS s0 l ++ [stS s0 l] else keptS s0 l := by
  have hm : ∀ m, m * 16 ≤ l.length + 15 → (List.range m).map (fun j => stS s0 ((l ++ [a]).take (j * 16))) = (List.range m).map fun j => stS s0 (l.take (j * 16)) := by
    intro m hm
    apply List.map_congr_left
    intro j hj
    rw [List.mem_range] at hj
    have : j * 16 ≤ l.length := by omega
    rw [List.take_append_of_le_length this]
  unfold keptS
  by_cases h : l.length % 16 = 0
  · rw [if_pos h]
    have e : ((l ++ [a]).length + 15) / 16 = (l.length + 15) / 16 + 1 := by simp; omega
    rw [e, List.range_succ, List.map_append, hm _ (by omega)]
    have e2 : (l.length + 15) / 16 * 16 = l.length := by omega
    simp only [List.map_cons, List.map_nil]
    rw [e2, List.take_append_of_le_length (Nat.le_refl _), List.take_length]
  · rw [if_neg h]
    have e : ((l ++ [a]).length + 15) / 16 = (l.length + 15) / 16 := by simp; omega
    rw [e, hm _ (by omega)]
theorem stS_v {s0 : St} : ∀ {l : List Ac}, StV s0 → (∀ a ∈ l, ∀ c ∈ a.writes, ChV c) → StV (stS s0 l) := by
  intro l
  induction l generalizing s0 with
  | nil => intro h _; exact h
  | cons a l ih =>
    intro h hl
    exact ih (StV.appS h (hl a (by simp))) fun b hb => hl b (by simp [hb])
def AcR (a : Ac) : Prop := KyR a.key ∧ (∀ c ∈ a.reads, ChR c) ∧ (∀ c ∈ a.writes, ChR c) ∧ a.reads.length ≤ 10 ∧ a.writes.length ≤ 10
theorem ord_ob {l : List Ch} (h : ordCh l = true) : ∀ c ∈ l, IsOb c.name ∧ c.value.length ≤ 65536 := by
  intro c hc
  have h1 := (ord_nodup h).2 c hc
  refine ⟨okCh_ob h1, ?_⟩
  unfold okCh at h1
  simp only [Bool.and_eq_true, decide_eq_true_eq] at h1
  exact h1.1.2
end Go.Proofs.YtamjllakfgphnaaGreatDoor
namespace Go.Proofs.YtamjllakfgphnaaGreatDoor
set_option linter.unusedVariables false
theorem cmpI_neg (a b : Int) : cmpI a b = -cmpI b a := by unfold cmpI; split <;> split <;> (try split) <;> omega
theorem cmpS_neg (a b : Bs) : cmpS a b = -cmpS b a := by
  unfold cmpS
  cases h1 : blt a b <;> cases h2 : blt b a
  · rfl
  · rfl
  · rfl
  · rw [blt_asymm h1] at h2; cases h2
theorem cmpK_neg (a b : Ky) : cmpK a b = -cmpK b a := by
  unfold cmpK or4 or3
  rw [cmpI_neg a.tick b.tick, cmpI_neg a.cls b.cls, cmpI_neg a.num b.num, cmpS_neg a.lin b.lin]
  by_cases h1 : cmpI b.tick a.tick = 0 <;> by_cases h2 : cmpI b.cls a.cls = 0 <;> by_cases h3 : cmpI b.num a.num = 0 <;> simp [h1, h2, h3]
def appR (l : List Ac) (a : Ac) : Int := if okAc a then (match l.getLast? with | none => 0 | some b => if cmpK b.key a.key < 0 then 0 else 32) else 3
theorem appR_bad {l : List Ac} {a : Ac} (h : okAc a = false) : appR l a = 3 := by unfold appR; rw [h]; rfl
theorem appR_nil {a : Ac} (h : okAc a = true) : appR [] a = 0 := by unfold appR; rw [h]; rfl
theorem appR_snoc {l : List Ac} {a b : Ac} (h : okAc a = true) : appR (l ++ [b]) a = if cmpK b.key a.key < 0 then 0 else 32 := by
  unfold appR
  rw [h, List.getLast?_append]
  rfl
def versT (l : List Ac) (ws : List Ch) (n : Nm) : List Ver := vers n 0 l ++ (ws.filter fun c => c.name == n).map fun c => ⟨(l.length : Int), c.value, c.absent⟩
def rdrsT (l : List Ac) (rs : List Ch) (n : Nm) : List Int := rdrs n 0 l ++ (rs.filter fun c => c.name == n).map fun _ => (l.length : Int)
theorem versT_nil (l : List Ac) (n : Nm) : versT l [] n = vers n 0 l := by simp [versT]
theorem rdrsT_nil (l : List Ac) (n : Nm) : rdrsT l [] n = rdrs n 0 l := by simp [rdrsT]
theorem versT_all (l : List Ac) (a : Ac) (n : Nm) : versT l a.writes n = vers n 0 (l ++ [a]) := by rw [vers_snoc]; simp [versT]
theorem rdrsT_all (l : List Ac) (a : Ac) (n : Nm) : rdrsT l a.reads n = rdrs n 0 (l ++ [a]) := by rw [rdrs_snoc]; simp [rdrsT]
theorem versT_take (l : List Ac) (ws : List Ch) (k : Nat) (hk : k < ws.length) (n : Nm) : versT l (ws.take (k + 1)) n = if n = ws[k].name then versT l (ws.take k) ws[k].name ++ [⟨(l.length : Int), ws[k].value, ws[k].absent⟩] else versT l (ws.take k) n := by
  unfold versT
  rw [List.take_succ_eq_append_getElem hk, List.filter_append, List.map_append]
  by_cases h : n = ws[k].name
  · rw [if_pos h, h]
    simp
  · rw [if_neg h]
    have : (ws[k].name == n) = false := by simpa using fun e => h e.symm
    simp [this]
theorem rdrsT_take (l : List Ac) (rs : List Ch) (k : Nat) (hk : k < rs.length) (n : Nm) : rdrsT l (rs.take (k + 1)) n = if n = rs[k].name then rdrsT l (rs.take k) rs[k].name ++ [(l.length : Int)] else rdrsT l (rs.take k) n := by
  unfold rdrsT
  rw [List.take_succ_eq_append_getElem hk, List.filter_append, List.map_append]
  by_cases h : n = rs[k].name
  · rw [if_pos h, h]
    simp
  · rw [if_neg h]
    have : (rs[k].name == n) = false := by simpa using fun e => h e.symm
    simp [this]
theorem filt_len (l : List Ch) (n : Nm) : (l.filter fun c => c.name == n).length ≤ l.length := List.length_filter_le _ _
theorem vers_len (n : Nm) : ∀ (i : Nat) (l : List Ac), (∀ a ∈ l, a.writes.length ≤ 10) → (vers n i l).length ≤ l.length * 10
  | i, [], _ => by simp [vers]
  | i, a :: l, h => by
    have h1 := vers_len n (i + 1) l fun b hb => h b (by simp [hb])
    have h2 := h a (by simp)
    have h3 := filt_len a.writes n
    simp only [vers, List.length_append, List.length_map, List.length_cons]
    omega
theorem rdrs_len (n : Nm) : ∀ (i : Nat) (l : List Ac), (∀ a ∈ l, a.reads.length ≤ 10) → (rdrs n i l).length ≤ l.length * 10
  | i, [], _ => by simp [rdrs]
  | i, a :: l, h => by
    have h1 := rdrs_len n (i + 1) l fun b hb => h b (by simp [hb])
    have h2 := h a (by simp)
    have h3 := filt_len a.reads n
    simp only [rdrs, List.length_append, List.length_map, List.length_cons]
    omega
end Go.Proofs.YtamjllakfgphnaaGreatDoor
namespace Go.Proofs.YtamjllakfgphnaaGreatDoor
set_option linter.unusedVariables false
def bldR : List Ac → List Ac → Int
  | _, [] => 0
  | d, a :: l => if appR d a = 0 then bldR (d ++ [a]) l else appR d a
theorem bldR_stop : ∀ {l d : List Ac} {k : Nat}, (∀ j (hj : j < l.length), j < k → appR (d ++ l.take j) l[j] = 0) → ∀ hk : k < l.length, appR (d ++ l.take k) l[k] ≠ 0 → bldR d l = appR (d ++ l.take k) l[k]
  | [], d, k, _, hk, _ => by simp at hk
  | a :: l, d, 0, h, hk, hne => by
    simp only [List.take_zero, List.append_nil, List.getElem_cons_zero] at hne ⊢
    unfold bldR
    rw [if_neg hne]
  | a :: l, d, k + 1, h, hk, hne => by
    have h0 := h 0 (by simp) (by omega)
    simp only [List.take_zero, List.append_nil, List.getElem_cons_zero] at h0
    unfold bldR
    rw [if_pos h0]
    have hk' : k < l.length := by simpa using hk
    have := bldR_stop (l := l) (d := d ++ [a]) (k := k) (fun j hj hjk => by
      have := h (j + 1) (by simpa using hj) (by omega)
      simpa using this) hk' (by simpa using hne)
    rw [this]
    simp
theorem bldR_all : ∀ {l d : List Ac}, (∀ j (hj : j < l.length), appR (d ++ l.take j) l[j] = 0) → bldR d l = 0
  | [], _, _ => rfl
  | a :: l, d, h => by
    have h0 := h 0 (by simp)
    simp only [List.take_zero, List.append_nil, List.getElem_cons_zero] at h0
    unfold bldR
    rw [if_pos h0]
    exact bldR_all fun j hj => by
      have := h (j + 1) (by simpa using hj)
      simpa using this
theorem appR_ok {l : List Ac} {a : Ac} (h : appR l a = 0) : okAc a = true := by
  cases ho : okAc a with
  | true => rfl
  | false => rw [appR_bad ho] at h; cases h
theorem ok_take {l : List Ac} {k : Nat} (h : ∀ j (hj : j < l.length), j < k → appR (l.take j) l[j] = 0) : ∀ a ∈ l.take k, okAc a = true := by
  intro a ha
  obtain ⟨j, hj, e⟩ := List.getElem_of_mem ha
  rw [List.length_take] at hj
  rw [List.getElem_take] at e
  rw [← e]
  exact appR_ok (h j (by omega) (by omega))
theorem ok_ch {a : Ac} (h : okAc a = true) : ordCh a.reads = true ∧ ordCh a.writes = true := by
  unfold okAc at h
  simp only [Bool.and_eq_true] at h
  exact ⟨h.1.2, h.2⟩
theorem stS_ok {s0 : St} (h0 : StV s0) {l : List Ac} (h : ∀ a ∈ l, okAc a = true) : StV (stS s0 l) := stS_v h0 fun a ha c hc => ord_ob (ok_ch (h a ha)).2 c hc
end Go.Proofs.YtamjllakfgphnaaGreatDoor
namespace Go.Proofs.YtamjllakfgphnaaGreatDoor
set_option linter.unusedVariables false
theorem srch_is {l : List Ver} (h : Inc l) (t : Int) {i : Nat} (hi : i ≤ l.length) (h1 : ∀ q (hq : q < l.length), q < i → l[q].idx < t) (h2 : ∀ q (hq : q < l.length), i ≤ q → t ≤ l[q].idx) : i = srch l t := by
  obtain ⟨s1, s2⟩ := srch_split h t
  have s3 := srch_le l t
  rcases Nat.lt_trichotomy i (srch l t) with hlt | he | hgt
  · have hq : i < l.length := by omega
    have a := s1 l[i] (by rw [List.mem_take_iff_getElem]; exact ⟨i, by omega, rfl⟩)
    have b := h2 i hq (Nat.le_refl _)
    omega
  · exact he
  · have hq : srch l t < l.length := by omega
    have a := h1 (srch l t) hq hgt
    have b := s2 l[srch l t] (by rw [List.mem_drop_iff_getElem]; exact ⟨0, by omega, by simp⟩)
    omega
def Bis (l : List Ver) (t : Int) (i j : Nat) : Prop := i ≤ j ∧ j ≤ l.length ∧ (∀ q (hq : q < l.length), q < i → l[q].idx < t) ∧ ∀ q (hq : q < l.length), j ≤ q → t ≤ l[q].idx
theorem Bis.start (l : List Ver) (t : Int) : Bis l t 0 l.length := ⟨Nat.zero_le _, Nat.le_refl _, fun q _ h => by omega, fun q hq h => by omega⟩
theorem inc_lt {l : List Ver} (h : Inc l) {a b : Nat} (hb : b < l.length) (hab : a < b) : l[a].idx < l[b].idx := List.pairwise_iff_getElem.1 h a b (by omega) hb hab
theorem Bis.up {l : List Ver} (h : Inc l) {t : Int} {i j m : Nat} (hb : Bis l t i j) (hm : m < j) (him : i ≤ m) (hlt : (l[m]'(by have := hb.2.1; omega)).idx < t) : Bis l t (m + 1) j := by
  obtain ⟨h1, h2, h3, h4⟩ := hb
  refine ⟨by omega, h2, fun q hq hqm => ?_, h4⟩
  by_cases e : q = m
  · subst e; exact hlt
  · have := inc_lt h (a := q) (b := m) (by omega) (by omega)
    omega
theorem Bis.down {l : List Ver} (h : Inc l) {t : Int} {i j m : Nat} (hb : Bis l t i j) (hm : m < j) (him : i ≤ m) (hge : t ≤ (l[m]'(by have := hb.2.1; omega)).idx) : Bis l t i m := by
  obtain ⟨h1, h2, h3, h4⟩ := hb
  refine ⟨him, by omega, h3, fun q hq hqm => ?_⟩
  by_cases e : q = m
  · subst e; exact hge
  · have := inc_lt h (a := m) (b := q) hq (by omega)
    omega
theorem Bis.done {l : List Ver} (h : Inc l) {t : Int} {i j : Nat} (hb : Bis l t i j) (he : ¬ i < j) : i = srch l t := by
  obtain ⟨h1, h2, h3, h4⟩ := hb
  have : i = j := by omega
  subst this
  exact srch_is h t h2 h3 h4
end Go.Proofs.YtamjllakfgphnaaGreatDoor
namespace Go.Proofs.YtamjllakfgphnaaGreatDoor
set_option linter.unusedVariables false
section
variable {α : Type}
end
end Go.Proofs.YtamjllakfgphnaaGreatDoor
namespace Go.Proofs.YtamjllakfgphnaaGreatDoor
set_option linter.unusedVariables false
end Go.Proofs.YtamjllakfgphnaaGreatDoor
namespace Go.Proofs.YtamjllakfgphnaaGreatDoor
set_option linter.unusedVariables false
end Go.Proofs.YtamjllakfgphnaaGreatDoor
namespace Go.Proofs.YtamjllakfgphnaaGreatDoor
set_option linter.unusedVariables false
section
variable {α β γ : Type} [DecidableEq γ]
end
end Go.Proofs.YtamjllakfgphnaaGreatDoor
namespace Go.Proofs.YtamjllakfgphnaaGreatDoor
set_option linter.unusedVariables false
theorem look_c {n : Nm} (hn : IsOb n) {p : Nm × Bs} (hp : IsOb p.1) (l : St) : look cmpN n (p :: l) = if n = p.1 then some p.2 else look cmpN n l := by
  obtain ⟨a, x⟩ := p
  simp only [look]
  by_cases h : n = a
  · rw [if_pos h, if_pos ((ordO.eq hn hp).2 h)]
  · rw [if_neg h, if_neg fun e => h ((ordO.eq hn hp).1 e)]
theorem look_no {n : Nm} (hn : IsOb n) : ∀ {s : St}, (∀ p ∈ s, IsOb p.1) → (∀ p ∈ s, n ≠ p.1) → look cmpN n s = none
  | [], _, _ => rfl
  | p :: s, h1, h2 => by
    rw [look_c hn (h1 p (by simp)), if_neg (h2 p (by simp))]
    exact look_no hn (fun q hq => h1 q (by simp [hq])) fun q hq => h2 q (by simp [hq])
theorem ne_of_lt {a b : Nm} (ha : IsOb a) (h : cmpN a b < 0) : a ≠ b := by
  rintro rfl
  rw [ordO.refl ha] at h
  omega
theorem st_tail {p : Nm × Bs} {s : St} (h : StOk (p :: s)) : StOk s := Srt.tail h
theorem st_head {p : Nm × Bs} {s : St} (h : StOk (p :: s)) : IsOb p.1 := h.2 p (by simp)
theorem look_hd {p : Nm × Bs} {s : St} (h : StOk (p :: s)) : look cmpN p.1 s = none :=
  look_no (st_head h) (fun q hq => h.2 q (by simp [hq])) fun q hq => ne_of_lt (st_head h) (h.gt q hq)
theorem look_ins {n k : Nm} (hn : IsOb n) (hk : IsOb k) (v : Bs) : ∀ s : St, (∀ p ∈ s, IsOb p.1) → look cmpN n (ins cmpN k v s) = if n = k then some v else look cmpN n s
  | [], _ => by
    rw [ins, look_c hn hk]
  | (a, x) :: s, h => by
    have ha : IsOb a := h (a, x) (by simp)
    have ih := look_ins hn hk v s fun p hp => h p (by simp [hp])
    rw [ins]
    by_cases h1 : cmpN k a < 0
    · rw [if_pos h1, look_c hn hk]
    · rw [if_neg h1]
      by_cases h2 : 0 < cmpN k a
      · rw [if_pos h2, look_c (p := (a, x)) hn ha, look_c (p := (a, x)) hn ha, ih]
        have hne : a ≠ k := by
          rintro rfl
          rw [ordO.refl ha] at h2
          omega
        by_cases e : n = a
        · have : ¬ n = k := fun e2 => hne (e.symm.trans e2)
          rw [if_pos e, if_neg this, if_pos e]
        · rw [if_neg e, if_neg e]
      · rw [if_neg h2]
        have e : k = a := (ordO.eq hk ha).1 (by omega)
        rw [look_c hn hk, look_c (p := (a, x)) hn ha]
        by_cases e2 : n = k
        · rw [if_pos e2, if_pos e2]
        · rw [if_neg e2, if_neg e2, if_neg fun e3 => e2 (e3.trans e.symm)]
theorem look_del {n k : Nm} (hn : IsOb n) (hk : IsOb k) : ∀ s : St, StOk s → look cmpN n (del cmpN k s) = if n = k then none else look cmpN n s
  | [], _ => by rw [del]; simp [look]
  | (a, x) :: s, h => by
    have ha : IsOb a := st_head h
    have ih := look_del hn hk s (st_tail h)
    rw [del]
    by_cases h1 : cmpN k a = 0
    · have e : k = a := (ordO.eq hk ha).1 h1
      rw [if_pos h1, look_c (p := (a, x)) hn ha]
      by_cases e2 : n = k
      · rw [if_pos e2]
        have := look_hd h
        rw [e2, e]
        exact this
      · rw [if_neg e2, if_neg fun e3 => e2 (e3.trans e.symm)]
    · have hne : k ≠ a := fun e => h1 ((ordO.eq hk ha).2 e)
      rw [if_neg h1, look_c (p := (a, x)) hn ha, look_c (p := (a, x)) hn ha, ih]
      by_cases e : n = a
      · rw [if_pos e, if_pos e, if_neg fun e2 => hne (e2.symm.trans e)]
      · rw [if_neg e, if_neg e]
def newO (o : Option Bs) (c : Ch) : Option Bs := if c.absent then none else some c.value
theorem look_app1 {n : Nm} (hn : IsOb n) {s : St} (hs : StOk s) {c : Ch} (hc : IsOb c.name) : look cmpN n (app1 s c) = if n = c.name then newO (look cmpN n s) c else look cmpN n s := by
  unfold app1 newO
  split
  · rename_i h
    rw [look_del hn hc s hs]
  · rename_i h
    rw [look_ins hn hc c.value s hs.2]
theorem look_appS {n : Nm} (hn : IsOb n) : ∀ {ws : List Ch} {s : St}, StOk s → (∀ c ∈ ws, IsOb c.name) → look cmpN n (appS s ws) = (ws.filter fun c => c.name == n).foldl newO (look cmpN n s)
  | [], s, _, _ => rfl
  | c :: ws, s, hs, h => by
    have hc := h c (by simp)
    have ih := look_appS hn (ws := ws) (app1_ok hs hc) fun d hd => h d (by simp [hd])
    have e : appS s (c :: ws) = appS (app1 s c) ws := rfl
    rw [e, ih, look_app1 hn hs hc, List.filter_cons]
    by_cases he : n = c.name
    · have : (c.name == n) = true := by rw [beq_iff_eq]; exact he.symm
      rw [if_pos he, if_pos this]
      rfl
    · have : ¬ (c.name == n) = true := by rw [beq_iff_eq]; exact fun e => he e.symm
      rw [if_neg he, if_neg this]
def ForRel (l : List Ch) (w : World) (i : Value) (wr : World) : Prop := ∃ k : Nat, k ≤ l.length ∧ i = .int .i64 k ∧ OrdTo l k ∧ Go.RowKit.Below w.heap.size w wr
end Go.Proofs.YtamjllakfgphnaaGreatDoor
