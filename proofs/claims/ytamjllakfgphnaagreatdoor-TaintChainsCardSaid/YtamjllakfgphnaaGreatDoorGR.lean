/- Walks: a key's check and the order of keys, with lineages. -/
import Derived.Test.YtamjllakfgphnaaGreatDoorW73
namespace Go.Proofs.YtamjllakfgphnaaGreatDoor
open Go.RowKit
set_option linter.unusedSimpArgs false
set_option linter.unusedVariables false
attribute [local go_sem ↓] Go.wp_at_zero Go.wp_at_succ
theorem far7 {w : World} {cb : Nat} {q : Addr} {u0 u1 u2 u3 u4 u5 u6 : Value} (h : q.block ≠ cb) : (((((((w.setCell ⟨cb, 0, none⟩ u0).setCell ⟨cb, 1, none⟩ u1).setCell ⟨cb, 2, none⟩ u2).setCell ⟨cb, 3, none⟩ u3).setCell ⟨cb, 4, none⟩ u4).setCell ⟨cb, 5, none⟩ u5).setCell ⟨cb, 6, none⟩ u6).cell? q = w.cell? q := by
  repeat rw [cell_far (by exact h)]
theorem blk_cast {w : World} {g t : Nat} {cs cs' : Array Value} (h : Blk w g t cs) (e : cs = cs') : Blk w g t cs' := e ▸ h
theorem own_lt {w : World} {base e s n : Nat} {v : Value} {xs : List Value} (h : w.ownsRow base e s v n xs) {g : Nat} (hg : v.ownBlock = some g) : g < w.heap.size := by
  obtain ⟨_, ⟨rfl, _⟩ | ⟨g', cap', cur, rfl, _, hh, _⟩⟩ := h
  · simp [Value.ownBlock] at hg
  · simp [Value.ownBlock] at hg
    subst hg
    exact (Array.getElem?_eq_some_iff.1 hh).1
theorem st0_v : StV [] := ⟨⟨List.Pairwise.nil, by simp⟩, by simp⟩
theorem only_set6 (w : World) (g : Nat) (u0 u1 u2 u3 u4 u5 : Value) : w.grownBy ((((((w.setCell ⟨g, 0, none⟩ u0).setCell ⟨g, 1, none⟩ u1).setCell ⟨g, 2, none⟩ u2).setCell ⟨g, 3, none⟩ u3).setCell ⟨g, 4, none⟩ u4).setCell ⟨g, 5, none⟩ u5) (some g) := only_setCell (p := ⟨g, 5, none⟩) (only_setCell (p := ⟨g, 4, none⟩) (only_setCell (p := ⟨g, 3, none⟩) (only_setCell (p := ⟨g, 2, none⟩) (only_setCell (p := ⟨g, 1, none⟩) (only_setCell (p := ⟨g, 0, none⟩) (World.grownBy.refl w (some g)) (.inl rfl) u0) (.inl rfl) u1) (.inl rfl) u2) (.inl rfl) u3) (.inl rfl) u4) (.inl rfl) u5
theorem blk_set6 {w : World} {g t : Nat} {z0 z1 z2 z3 z4 z5 : Value} (h : Blk w g t #[z0, z1, z2, z3, z4, z5]) (u0 u1 u2 u3 u4 u5 : Value) : Blk ((((((w.setCell ⟨g, 0, none⟩ u0).setCell ⟨g, 1, none⟩ u1).setCell ⟨g, 2, none⟩ u2).setCell ⟨g, 3, none⟩ u3).setCell ⟨g, 4, none⟩ u4).setCell ⟨g, 5, none⟩ u5) g t #[u0, u1, u2, u3, u4, u5] := blk_cast ((((((h.set_ 0 u0).set_ 1 u1).set_ 2 u2).set_ 3 u3).set_ 4 u4).set_ 5 u5) rfl
theorem below_set6 {B : Nat} {a w : World} (h : Below B a w) {g : Nat} (hg : B ≤ g) (u0 u1 u2 u3 u4 u5 : Value) : Below B a ((((((w.setCell ⟨g, 0, none⟩ u0).setCell ⟨g, 1, none⟩ u1).setCell ⟨g, 2, none⟩ u2).setCell ⟨g, 3, none⟩ u3).setCell ⟨g, 4, none⟩ u4).setCell ⟨g, 5, none⟩ u5) := ((((((h.setCell (p := ⟨g, 0, none⟩) hg u0).setCell (p := ⟨g, 1, none⟩) hg u1).setCell (p := ⟨g, 2, none⟩) hg u2).setCell (p := ⟨g, 3, none⟩) hg u3).setCell (p := ⟨g, 4, none⟩) hg u4).setCell (p := ⟨g, 5, none⟩) hg u5)
theorem own_apart {w w' : World} {base e size n : Nat} {v v0 : Value} {xs : List Value} (h : w.ownsRow base e size v n xs) (hg : w.grownBy w' v0.ownBlock) (ha : ∀ g, v0.ownBlock = some g → v.ownBlock ≠ some g) : w'.ownsRow base e size v n xs := by
  obtain ⟨h1, h2 | ⟨g, cap, cur, hv, hb, hh, r⟩⟩ := h
  · exact ⟨h1, .inl h2⟩
  · refine ⟨h1, .inr ⟨g, cap, cur, hv, hb, ?_, r⟩⟩
    rw [hg.block g (Array.getElem?_eq_some_iff.1 hh).1 (fun e => ha g e.symm (by rw [hv]; simp [Value.ownBlock]))]
    exact hh
theorem OwnAc.base {w : World} {b b' : Nat} {v : Value} {l : List Ac} (h : OwnAc w b v l) (hb : b' ≤ b) : OwnAc w b' v l := by
  obtain ⟨vs, h1, h2⟩ := h
  exact ⟨vs, h1, own_base h2 hb⟩
theorem infoAc : (Tryz.prog.info? 77).map (fun i => (i.zero, i.size, i.bytes)) = some (some (.agg #[.int .i64 0, .int .i64 0, .int .i64 0, .string ⟨#[]⟩, .slice none 0 0, .slice none 0 0]), 6, 88) := by kernel_rfl
set_option maxRecDepth 100000 in
theorem key_check (k : Ky) (w : World) (h : KyR k) : Calls Tryz.prog 167 #[kyV k] w fun e w' => e = .returned (.int .i64 (if 0 ≤ k.tick then 0 else 2)) ∧ Below w.heap.size w w' := by
  obtain ⟨t, c, n, l⟩ := k
  obtain ⟨⟨h1, h2⟩, hl, hk⟩ := h
  simp only at h1 h2 hl hk
  have hb := (Below.refl w.heap.size w).alloc (Nat.le_refl _) (.cells #[.int .i64 t, .int .i64 c, .int .i64 n, .string (bs l)] 74)
  have HB := Lib.hid hb
  clear hb
  unfold kyV
  by_cases h0 : 0 ≤ t
  · have HI := Lib.hid (show (if 0 ≤ t then (0 : Int) else 2) = 0 from if_pos h0)
    rw [HI.out]
    have f1 : decide (t < 0) = false := decide_eq_false (by omega)
    have f2 : decide (1073741824 < t) = false := decide_eq_false (by omega)
    rcases hk with ⟨rfl, h3, h4, rfl⟩ | ⟨rfl, rfl, hne⟩
    · have f3 : decide (n < 0) = false := decide_eq_false (by omega)
      have f4 : decide (999999 < n) = false := decide_eq_false (by omega)
      have f5 : (n == 0) = false := by simp; omega
      have f6 : ¬ n = 0 := by omega
      have hz : bs [] = ⟨#[]⟩ := rfl
      rw [hz] at HB ⊢
      clear hl
      go_enter Tryz.func167, Tryz.ntmps167
      go_wp2
      go_ret
      exact ⟨rfl, HB.out⟩
    · have HV := Lib.hid (fun W => valid_is (bs l) W)
      have HOK := Lib.hid (lin5_ok l hl)
      have e0 : (bs l).toList.isEmpty = false := by rw [bs_toList]; simpa [List.isEmpty_iff] using hne
      clear hl hne
      generalize bs l = s at *
      go_enter Tryz.func167, Tryz.ntmps167
      go_wp2_with (go_at_call 28; refine (HV.out _).mono ?_; rintro e w2 ⟨rfl, hb2⟩; rw [HOK.out]; obtain ⟨hc2, hf2⟩ := bcell hb2; have HB2 := Lib.hid (HB.out.trans (hb2.mono HB.out.size)); clear hb2)
      go_ret
      exact ⟨rfl, HB2.out⟩
  · have HI := Lib.hid (show (if 0 ≤ t then (0 : Int) else 2) = 2 from if_neg h0)
    rw [HI.out]
    have f1 : decide (t < 0) = true := decide_eq_true (by omega)
    clear hk hl
    go_enter Tryz.func167, Tryz.ntmps167
    go_wp2
    go_ret
    exact ⟨rfl, HB.out⟩
theorem or_4 (a b c d : Int) (w : World) (A : Nat) (h0 : w.cell? ⟨A, 0, none⟩ = some (.int .i64 a)) (h1 : w.cell? ⟨A, 1, none⟩ = some (.int .i64 b)) (h2 : w.cell? ⟨A, 2, none⟩ = some (.int .i64 c)) (h3 : w.cell? ⟨A, 3, none⟩ = some (.int .i64 d)) : Calls Tryz.prog 100 #[.slice (some ⟨A, 0, none⟩) 4 4] w fun e w' => e = .returned (.int .i64 (or4 a b c d)) ∧ w = w' := by
  have hc : Hid (or4 a b c d = if a ≠ 0 then a else if b ≠ 0 then b else if c ≠ 0 then c else d) := Lib.hid (by unfold or4 or3; by_cases h1 : a = 0 <;> by_cases h2 : b = 0 <;> by_cases h3 : c = 0 <;> simp [h1, h2, h3])
  go_enter Tryz.func100, Tryz.ntmps100
  go_wp2
  go_loop [8] (fun i => ∃ k : Nat, k ≤ 4 ∧ i = .int .i64 k ∧ (0 < k → a = 0) ∧ (1 < k → b = 0) ∧ (2 < k → c = 0) ∧ (3 < k → d = 0)) (fun i => 4 - (intOf i).toNat)
  case atStart => exact ⟨0, by omega, rfl, by omega, by omega, by omega, by omega⟩
  case round =>
    obtain ⟨k, hk, rfl, p0, p1, p2, p3⟩ := hrel
    have hcases : k = 0 ∨ k = 1 ∨ k = 2 ∨ k = 3 ∨ k = 4 := by omega
    rcases hcases with rfl | rfl | rfl | rfl | rfl
    · clear p0 p1 p2 p3 hk
      by_cases ha : a = 0
      · have e1 : (a != 0) = false := by simp [ha]
        go_wp2
        go_round
        case rel => exact ⟨1, by omega, rfl, fun _ => ha, by omega, by omega, by omega⟩
        case measure => simp [intOf]
      · have e1 : (a != 0) = true := by simp [ha]
        go_wp2
        go_ret
        exact ⟨by rw [hc.out, if_pos ha]; rfl, rfl⟩
    · have ha := p0 (by omega)
      clear p0 p1 p2 p3 hk
      by_cases hb : b = 0
      · have e1 : (b != 0) = false := by simp [hb]
        have HA := Lib.hid ha
        clear ha
        go_wp2
        go_round
        case rel => exact ⟨2, by omega, rfl, fun _ => HA.out, fun _ => hb, by omega, by omega⟩
        case measure => simp [intOf]
      · have e1 : (b != 0) = true := by simp [hb]
        have HA := Lib.hid ha
        clear ha
        go_wp2
        go_ret
        exact ⟨by rw [hc.out, if_neg (by simp [HA.out]), if_pos hb]; rfl, rfl⟩
    · have HA := Lib.hid (p0 (by omega))
      have HB := Lib.hid (p1 (by omega))
      clear p0 p1 p2 p3 hk
      by_cases hcc : c = 0
      · have e1 : (c != 0) = false := by simp [hcc]
        go_wp2
        go_round
        case rel => exact ⟨3, by omega, rfl, fun _ => HA.out, fun _ => HB.out, fun _ => hcc, by omega⟩
        case measure => simp [intOf]
      · have e1 : (c != 0) = true := by simp [hcc]
        go_wp2
        go_ret
        exact ⟨by rw [hc.out, if_neg (by simp [HA.out]), if_neg (by simp [HB.out]), if_pos hcc]; rfl, rfl⟩
    · have HA := Lib.hid (p0 (by omega))
      have HB := Lib.hid (p1 (by omega))
      have HC := Lib.hid (p2 (by omega))
      clear p0 p1 p2 p3 hk
      by_cases hd : d = 0
      · have e1 : (d != 0) = false := by simp [hd]
        go_wp2
        go_round
        case rel => exact ⟨4, by omega, rfl, fun _ => HA.out, fun _ => HB.out, fun _ => HC.out, fun _ => hd⟩
        case measure => simp [intOf]
      · have e1 : (d != 0) = true := by simp [hd]
        go_wp2
        go_ret
        exact ⟨by rw [hc.out, if_neg (by simp [HA.out]), if_neg (by simp [HB.out]), if_neg (by simp [HC.out])]; rfl, rfl⟩
    · have HA := Lib.hid (p0 (by omega))
      have HB := Lib.hid (p1 (by omega))
      have HC := Lib.hid (p2 (by omega))
      have HD := Lib.hid (p3 (by omega))
      clear p0 p1 p2 p3 hk
      go_wp2
      go_ret
      exact ⟨by rw [hc.out, if_neg (by simp [HA.out]), if_neg (by simp [HB.out]), if_neg (by simp [HC.out]), HD.out]; rfl, rfl⟩
set_option maxRecDepth 100000 in
set_option maxHeartbeats 1000000 in
theorem key_compare (a k : Ky) (w : World) (ha : a.lin ∈ lin5) (hk : k.lin ∈ lin5) : Calls Tryz.prog 95 #[kyV a, kyV k] w fun e w' => e = .returned (.int .i64 (cmpK a k)) ∧ Below w.heap.size w w' := by
  have HN := Lib.hid (cmp_i a.tick k.tick)
  have HI := Lib.hid (cmp_i a.cls k.cls)
  have HT := Lib.hid (cmp_i a.num k.num)
  have HO := Lib.hid (fun W => lin_cmp5 W ha hk)
  unfold kyV cmpK
  generalize cmpI a.tick k.tick = c1 at *
  generalize cmpI a.cls k.cls = c2 at *
  generalize cmpI a.num k.num = c3 at *
  generalize cmpS a.lin k.lin = c4 at *
  have hb : Below w.heap.size w ((w.alloc (.cells #[.int .i64 a.tick, .int .i64 a.cls, .int .i64 a.num, .string (bs a.lin)] 74)).alloc (.cells #[.int .i64 k.tick, .int .i64 k.cls, .int .i64 k.num, .string (bs k.lin)] 74)) := ((Below.refl _ _).alloc (Nat.le_refl _) _).alloc (by simp) _
  have b0 := (Blk.new w 74 #[.int .i64 a.tick, .int .i64 a.cls, .int .i64 a.num, .string (bs a.lin)]).alloc (.cells #[.int .i64 k.tick, .int .i64 k.cls, .int .i64 k.num, .string (bs k.lin)] 74)
  have b1 := Blk.new (w.alloc (.cells #[.int .i64 a.tick, .int .i64 a.cls, .int .i64 a.num, .string (bs a.lin)] 74)) 74 #[.int .i64 k.tick, .int .i64 k.cls, .int .i64 k.num, .string (bs k.lin)]
  rw [World.size_alloc] at b1
  have x0 := b0.cell 0
  have x1 := b0.cell 1
  have x2 := b0.cell 2
  have x3 := b0.cell 3
  have y0 := b1.cell 0
  have y1 := b1.cell 1
  have y2 := b1.cell 2
  have y3 := b1.cell 3
  have hcb := b0.lt
  have hdb := b1.lt
  simp only [List.getElem?_toArray, List.getElem?_cons_zero, List.getElem?_cons_succ] at x0 x1 x2 x3 y0 y1 y2 y3
  have HB := Lib.hid hb
  clear b0 b1 hb ha hk
  go_enter Tryz.func95, Tryz.ntmps95
  go_upto_region 1 with (fail)
  generalize ((w.alloc (.cells #[.int .i64 a.tick, .int .i64 a.cls, .int .i64 a.num, .string (bs a.lin)] 74)).alloc (.cells #[.int .i64 k.tick, .int .i64 k.cls, .int .i64 k.num, .string (bs k.lin)] 74)) = W at *
  obtain ⟨db, hdbe⟩ : ∃ db, w.heap.size + 1 = db := ⟨_, rfl⟩
  rw [hdbe] at y0 y1 y2 y3 hdb ⊢
  obtain ⟨cb, hcbe⟩ : ∃ cb, w.heap.size = cb := ⟨_, rfl⟩
  have HCB := Lib.hid hcbe
  rw [hcbe] at x0 x1 x2 x3 hcb ⊢
  clear hdbe hcbe
  refine wp_region_noPanic ?_
  refine wp_region_held_drew (S := (fun (w' : World) => w'.cell? ⟨cb, 0, none⟩ = some (.int .i64 a.tick) ∧ w'.cell? ⟨cb, 1, none⟩ = some (.int .i64 a.cls) ∧ w'.cell? ⟨cb, 2, none⟩ = some (.int .i64 a.num) ∧ w'.cell? ⟨cb, 3, none⟩ = some (.string (bs a.lin)) ∧ w'.cell? ⟨db, 0, none⟩ = some (.int .i64 k.tick) ∧ w'.cell? ⟨db, 1, none⟩ = some (.int .i64 k.cls) ∧ w'.cell? ⟨db, 2, none⟩ = some (.int .i64 k.num) ∧ w'.cell? ⟨db, 3, none⟩ = some (.string (bs k.lin)))) (by kernel_rfl) ?_ (fun hHeld => ?_)
  · exact ⟨x0, x1, x2, x3, y0, y1, y2, y3⟩
  refine wpAnyH_take (i := 0) (v := ?_) rfl (by kernel_rfl) (by kernel_rfl) (by kernel_rfl) (fun _ _ _ h => h) (Or.inl ⟨by kernel_rfl, ?_⟩) hHeld ?_
  rotate_left
  · (intro w hSw; (try dsimp only at hSw); go_simp; try with_reducible rfl)
  try simp only [Act.put, List.setIfInBounds_toArray, List.set_cons_zero, List.set_cons_succ]
  refine wpAnyH_take (i := 1) (v := ?_) rfl (by kernel_rfl) (by kernel_rfl) (by kernel_rfl) (fun _ _ _ h => h) (Or.inl ⟨by kernel_rfl, ?_⟩) hHeld ?_
  rotate_left
  · (intro w hSw; (try dsimp only at hSw); go_simp; try with_reducible rfl)
  try simp only [Act.put, List.setIfInBounds_toArray, List.set_cons_zero, List.set_cons_succ]
  refine wpAnyH_take (i := 2) (v := ?_) rfl (by kernel_rfl) (by kernel_rfl) (by kernel_rfl) (fun _ _ _ h => h) (Or.inl ⟨by kernel_rfl, ?_⟩) hHeld ?_
  rotate_left
  · (intro w hSw; (try dsimp only at hSw); go_simp; try with_reducible rfl)
  try simp only [Act.put, List.setIfInBounds_toArray, List.set_cons_zero, List.set_cons_succ]
  refine wpAnyH_take (i := 3) (v := ?_) rfl (by kernel_rfl) (by kernel_rfl) (by kernel_rfl) (fun _ _ _ h => h) (Or.inl ⟨by kernel_rfl, ?_⟩) hHeld ?_
  rotate_left
  · (intro w hSw; (try dsimp only at hSw); go_simp; try with_reducible rfl)
  try simp only [Act.put, List.setIfInBounds_toArray, List.set_cons_zero, List.set_cons_succ]
  refine wpAnyH_take (i := 5) (v := ?_) rfl (by kernel_rfl) (by kernel_rfl) (by kernel_rfl) (fun _ _ _ h => h) (Or.inl ⟨by kernel_rfl, ?_⟩) hHeld ?_
  rotate_left
  · (intro w hSw; (try dsimp only at hSw); go_simp; try with_reducible rfl)
  try simp only [Act.put, List.setIfInBounds_toArray, List.set_cons_zero, List.set_cons_succ]
  refine wpAnyH_take (i := 6) (v := ?_) rfl (by kernel_rfl) (by kernel_rfl) (by kernel_rfl) (fun _ _ _ h => h) (Or.inl ⟨by kernel_rfl, ?_⟩) hHeld ?_
  rotate_left
  · (intro w hSw; (try dsimp only at hSw); go_simp; try with_reducible rfl)
  try simp only [Act.put, List.setIfInBounds_toArray, List.set_cons_zero, List.set_cons_succ]
  refine wpAnyH_take (i := 7) (v := ?_) rfl (by kernel_rfl) (by kernel_rfl) (by kernel_rfl) (fun _ _ _ h => h) (Or.inl ⟨by kernel_rfl, ?_⟩) hHeld ?_
  rotate_left
  · (intro w hSw; (try dsimp only at hSw); go_simp; try with_reducible rfl)
  try simp only [Act.put, List.setIfInBounds_toArray, List.set_cons_zero, List.set_cons_succ]
  refine wpAnyH_take (i := 8) (v := ?_) rfl (by kernel_rfl) (by kernel_rfl) (by kernel_rfl) (fun _ _ _ h => h) (Or.inl ⟨by kernel_rfl, ?_⟩) hHeld ?_
  rotate_left
  · (intro w hSw; (try dsimp only at hSw); go_simp; try with_reducible rfl)
  try simp only [Act.put, List.setIfInBounds_toArray, List.set_cons_zero, List.set_cons_succ]
  refine wpAnyH_take (i := 10) (v := ?_) rfl (by kernel_rfl) (by kernel_rfl) (by kernel_rfl) (fun _ _ _ h => h) (Or.inl ⟨by kernel_rfl, ?_⟩) hHeld ?_
  rotate_left
  · (intro w hSw; (try dsimp only at hSw); go_simp; try with_reducible rfl)
  try simp only [Act.put, List.setIfInBounds_toArray, List.set_cons_zero, List.set_cons_succ]
  refine wpAnyH_take (i := 11) (v := ?_) rfl (by kernel_rfl) (by kernel_rfl) (by kernel_rfl) (fun _ _ _ h => h) (Or.inl ⟨by kernel_rfl, ?_⟩) hHeld ?_
  rotate_left
  · (intro w hSw; (try dsimp only at hSw); go_simp; try with_reducible rfl)
  try simp only [Act.put, List.setIfInBounds_toArray, List.set_cons_zero, List.set_cons_succ]
  refine wpAnyH_take (i := 12) (v := ?_) rfl (by kernel_rfl) (by kernel_rfl) (by kernel_rfl) (fun _ _ _ h => h) (Or.inl ⟨by kernel_rfl, ?_⟩) hHeld ?_
  rotate_left
  · (intro w hSw; (try dsimp only at hSw); go_simp; try with_reducible rfl)
  try simp only [Act.put, List.setIfInBounds_toArray, List.set_cons_zero, List.set_cons_succ]
  refine wpAnyH_take (i := 13) (v := ?_) rfl (by kernel_rfl) (by kernel_rfl) (by kernel_rfl) (fun _ _ _ h => h) (Or.inl ⟨by kernel_rfl, ?_⟩) hHeld ?_
  rotate_left
  · (intro w hSw; (try dsimp only at hSw); go_simp; try with_reducible rfl)
  try simp only [Act.put, List.setIfInBounds_toArray, List.set_cons_zero, List.set_cons_succ]
  refine wpAnyH_take (i := 15) (v := ?_) rfl (by kernel_rfl) (by kernel_rfl) (by kernel_rfl) (fun _ _ _ h => h) (Or.inl ⟨by kernel_rfl, ?_⟩) hHeld ?_
  rotate_left
  · (intro w hSw; (try dsimp only at hSw); go_simp; try with_reducible rfl)
  try simp only [Act.put, List.setIfInBounds_toArray, List.set_cons_zero, List.set_cons_succ]
  refine wpAnyH_take (i := 16) (v := ?_) rfl (by kernel_rfl) (by kernel_rfl) (by kernel_rfl) (fun _ _ _ h => h) (Or.inl ⟨by kernel_rfl, ?_⟩) hHeld ?_
  rotate_left
  · (intro w hSw; (try dsimp only at hSw); go_simp; try with_reducible rfl)
  try simp only [Act.put, List.setIfInBounds_toArray, List.set_cons_zero, List.set_cons_succ]
  refine wpAnyH_take (i := 17) (v := ?_) rfl (by kernel_rfl) (by kernel_rfl) (by kernel_rfl) (fun _ _ _ h => h) (Or.inl ⟨by kernel_rfl, ?_⟩) hHeld ?_
  rotate_left
  · (intro w hSw; (try dsimp only at hSw); go_simp; try with_reducible rfl)
  try simp only [Act.put, List.setIfInBounds_toArray, List.set_cons_zero, List.set_cons_succ]
  refine wpAnyH_take (i := 18) (v := ?_) rfl (by kernel_rfl) (by kernel_rfl) (by kernel_rfl) (fun _ _ _ h => h) (Or.inl ⟨by kernel_rfl, ?_⟩) hHeld ?_
  rotate_left
  · (intro w hSw; (try dsimp only at hSw); go_simp; try with_reducible rfl)
  try simp only [Act.put, List.setIfInBounds_toArray, List.set_cons_zero, List.set_cons_succ]
  refine wpAnyH_ready (rs := [4]) (by kernel_rfl) (by simp) ?_
  refine AllReadyH.cons rfl (fun K hK => ?_) AllReadyH.nil
  go_simp
  refine (HN.out _).mono ?_; rintro e w' ⟨rfl, rfl⟩
  try (go_wp2_with fail)
  refine hK.out _ _ ?_ (fun hNew => ?_)
  · exact ⟨x0, x1, x2, x3, y0, y1, y2, y3⟩
  clear hK K hHeld
  have hHeld := hNew
  clear hNew
  try simp only [Act.put, List.setIfInBounds_toArray, List.set_cons_zero, List.set_cons_succ]
  refine wpAnyH_ready (rs := [9]) (by kernel_rfl) (by simp) ?_
  refine AllReadyH.cons rfl (fun K hK => ?_) AllReadyH.nil
  go_simp
  refine (HI.out _).mono ?_; rintro e w' ⟨rfl, rfl⟩
  try (go_wp2_with fail)
  refine hK.out _ _ ?_ (fun hNew => ?_)
  · exact ⟨x0, x1, x2, x3, y0, y1, y2, y3⟩
  clear hK K hHeld
  have hHeld := hNew
  clear hNew
  try simp only [Act.put, List.setIfInBounds_toArray, List.set_cons_zero, List.set_cons_succ]
  refine wpAnyH_ready (rs := [14]) (by kernel_rfl) (by simp) ?_
  refine AllReadyH.cons rfl (fun K hK => ?_) AllReadyH.nil
  go_simp
  refine (HT.out _).mono ?_; rintro e w' ⟨rfl, rfl⟩
  try (go_wp2_with fail)
  refine hK.out _ _ ?_ (fun hNew => ?_)
  · exact ⟨x0, x1, x2, x3, y0, y1, y2, y3⟩
  clear hK K hHeld
  have hHeld := hNew
  clear hNew
  try simp only [Act.put, List.setIfInBounds_toArray, List.set_cons_zero, List.set_cons_succ]
  refine wpAnyH_ready (rs := [19]) (by kernel_rfl) (by simp) ?_
  refine AllReadyH.cons rfl (fun K hK => ?_) AllReadyH.nil
  go_simp
  refine (HO.out W.drew).mono ?_; rintro e w3 ⟨rfl, hb3⟩; have HB3 := Lib.hid ((Below.refl W.heap.size W).drew.trans hb3); clear hb3
  try (go_wp2_with fail)
  refine hK.out _ _ ?_ (fun hNew => ?_)
  · exact ⟨(HB3.out.cell (p := ⟨cb, 0, none⟩) hcb).trans x0, (HB3.out.cell (p := ⟨cb, 1, none⟩) hcb).trans x1, (HB3.out.cell (p := ⟨cb, 2, none⟩) hcb).trans x2, (HB3.out.cell (p := ⟨cb, 3, none⟩) hcb).trans x3, (HB3.out.cell (p := ⟨db, 0, none⟩) hdb).trans y0, (HB3.out.cell (p := ⟨db, 1, none⟩) hdb).trans y1, (HB3.out.cell (p := ⟨db, 2, none⟩) hdb).trans y2, (HB3.out.cell (p := ⟨db, 3, none⟩) hdb).trans y3⟩
  clear hK K hHeld
  have hHeld := hNew
  clear hNew
  try simp only [Act.put, List.setIfInBounds_toArray, List.set_cons_zero, List.set_cons_succ]
  refine wpAnyH_ready (rs := [20]) (by kernel_rfl) (by simp) ?_
  refine AllReadyH.cons rfl (fun K hK => ?_) AllReadyH.nil
  go_simp
  refine hK.out _ _ ?_ (fun hNew => ?_)
  · exact ⟨((HB3.out.alloc HB3.out.size (.cells #[.int .i64 c1, .int .i64 c2, .int .i64 c3, .int .i64 c4] 3)).cell (p := ⟨cb, 0, none⟩) hcb).trans x0, ((HB3.out.alloc HB3.out.size (.cells #[.int .i64 c1, .int .i64 c2, .int .i64 c3, .int .i64 c4] 3)).cell (p := ⟨cb, 1, none⟩) hcb).trans x1, ((HB3.out.alloc HB3.out.size (.cells #[.int .i64 c1, .int .i64 c2, .int .i64 c3, .int .i64 c4] 3)).cell (p := ⟨cb, 2, none⟩) hcb).trans x2, ((HB3.out.alloc HB3.out.size (.cells #[.int .i64 c1, .int .i64 c2, .int .i64 c3, .int .i64 c4] 3)).cell (p := ⟨cb, 3, none⟩) hcb).trans x3, ((HB3.out.alloc HB3.out.size (.cells #[.int .i64 c1, .int .i64 c2, .int .i64 c3, .int .i64 c4] 3)).cell (p := ⟨db, 0, none⟩) hdb).trans y0, ((HB3.out.alloc HB3.out.size (.cells #[.int .i64 c1, .int .i64 c2, .int .i64 c3, .int .i64 c4] 3)).cell (p := ⟨db, 1, none⟩) hdb).trans y1, ((HB3.out.alloc HB3.out.size (.cells #[.int .i64 c1, .int .i64 c2, .int .i64 c3, .int .i64 c4] 3)).cell (p := ⟨db, 2, none⟩) hdb).trans y2, ((HB3.out.alloc HB3.out.size (.cells #[.int .i64 c1, .int .i64 c2, .int .i64 c3, .int .i64 c4] 3)).cell (p := ⟨db, 3, none⟩) hdb).trans y3⟩
  clear hK K hHeld
  have hHeld := hNew
  clear hNew
  try simp only [Act.put, List.setIfInBounds_toArray, List.set_cons_zero, List.set_cons_succ]
  refine wpAnyH_ready (rs := [21]) (by kernel_rfl) (by simp) ?_
  refine AllReadyH.cons rfl (fun K hK => ?_) AllReadyH.nil
  go_simp
  refine (or_4 c1 c2 c3 c4 _ w3.heap.size ((Blk.new w3 3 #[.int .i64 c1, .int .i64 c2, .int .i64 c3, .int .i64 c4]).cell 0) ((Blk.new w3 3 #[.int .i64 c1, .int .i64 c2, .int .i64 c3, .int .i64 c4]).cell 1) ((Blk.new w3 3 #[.int .i64 c1, .int .i64 c2, .int .i64 c3, .int .i64 c4]).cell 2) ((Blk.new w3 3 #[.int .i64 c1, .int .i64 c2, .int .i64 c3, .int .i64 c4]).cell 3)).mono ?_; rintro e w' ⟨rfl, rfl⟩
  try (go_wp2_with fail)
  refine hK.out _ _ ?_ (fun hNew => ?_)
  · exact ⟨((HB3.out.alloc HB3.out.size (.cells #[.int .i64 c1, .int .i64 c2, .int .i64 c3, .int .i64 c4] 3)).cell (p := ⟨cb, 0, none⟩) hcb).trans x0, ((HB3.out.alloc HB3.out.size (.cells #[.int .i64 c1, .int .i64 c2, .int .i64 c3, .int .i64 c4] 3)).cell (p := ⟨cb, 1, none⟩) hcb).trans x1, ((HB3.out.alloc HB3.out.size (.cells #[.int .i64 c1, .int .i64 c2, .int .i64 c3, .int .i64 c4] 3)).cell (p := ⟨cb, 2, none⟩) hcb).trans x2, ((HB3.out.alloc HB3.out.size (.cells #[.int .i64 c1, .int .i64 c2, .int .i64 c3, .int .i64 c4] 3)).cell (p := ⟨cb, 3, none⟩) hcb).trans x3, ((HB3.out.alloc HB3.out.size (.cells #[.int .i64 c1, .int .i64 c2, .int .i64 c3, .int .i64 c4] 3)).cell (p := ⟨db, 0, none⟩) hdb).trans y0, ((HB3.out.alloc HB3.out.size (.cells #[.int .i64 c1, .int .i64 c2, .int .i64 c3, .int .i64 c4] 3)).cell (p := ⟨db, 1, none⟩) hdb).trans y1, ((HB3.out.alloc HB3.out.size (.cells #[.int .i64 c1, .int .i64 c2, .int .i64 c3, .int .i64 c4] 3)).cell (p := ⟨db, 2, none⟩) hdb).trans y2, ((HB3.out.alloc HB3.out.size (.cells #[.int .i64 c1, .int .i64 c2, .int .i64 c3, .int .i64 c4] 3)).cell (p := ⟨db, 3, none⟩) hdb).trans y3⟩
  clear hK K hHeld
  have hHeld := hNew
  clear hNew
  try simp only [Act.put, List.setIfInBounds_toArray, List.set_cons_zero, List.set_cons_succ]
  refine wpAnyH_take (i := 22) (v := ?_) rfl (by kernel_rfl) (by kernel_rfl) (by kernel_rfl) (fun _ _ _ h => h) (Or.inl ⟨by kernel_rfl, ?_⟩) hHeld ?_
  rotate_left
  · (intro w hSw; (try dsimp only at hSw); go_simp; try with_reducible rfl)
  try simp only [Act.put, List.setIfInBounds_toArray, List.set_cons_zero, List.set_cons_succ]
  refine wpAnyH_done (by kernel_rfl) ?_ _
  clear hHeld
  try simp only [List.getElem_toArray, List.getElem_cons_zero, List.getElem_cons_succ, Act.put, List.setIfInBounds_toArray, List.set_cons_zero, List.set_cons_succ]
  refine NoPanic.normal ?_
  go_wp2_with fail
  go_ret
  exact ⟨rfl, HB.out.trans ((HB3.out.alloc HB3.out.size _).mono HB.out.size)⟩
end Go.Proofs.YtamjllakfgphnaaGreatDoor
