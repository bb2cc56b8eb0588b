/- Walks of layer 46: step.Compare with any second key. -/
import Derived.Test.YtobkmkplhbaepaaDoorW73
import Derived.Test.YtobkmkplhbaepaaDoorGR
namespace Go.Proofs.YtobkmkplhbaepaaDoor
open Go.RowKit
set_option linter.unusedSimpArgs false
set_option linter.unusedVariables false
attribute [local go_sem ↓] Go.wp_at_zero Go.wp_at_succ
def or4m (a b c : Int) : Int := if or3 a b c ≠ 0 then or3 a b c else -1
theorem or_4m (a b c : Int) (w : World) (A : Nat) (h0 : w.cell? ⟨A, 0, none⟩ = some (.int .i64 a)) (h1 : w.cell? ⟨A, 1, none⟩ = some (.int .i64 b)) (h2 : w.cell? ⟨A, 2, none⟩ = some (.int .i64 c)) (h3 : w.cell? ⟨A, 3, none⟩ = some (.int .i64 (-1))) : Calls Tryd.prog 59 #[.slice (some ⟨A, 0, none⟩) 4 4] w fun e w' => e = .returned (.int .i64 (or4m a b c)) ∧ w = w' := by
  have hc : Hid (or4m a b c = if a ≠ 0 then a else if b ≠ 0 then b else if c ≠ 0 then c else -1) := Lib.hid (by unfold or4m or3; by_cases h1 : a = 0 <;> by_cases h2 : b = 0 <;> by_cases h3 : c = 0 <;> simp [h1, h2, h3])
  go_enter Tryd.func59, Tryd.ntmps59
  go_wp2
  go_loop [8] (fun i => ∃ k : Nat, k ≤ 3 ∧ i = .int .i64 k ∧ (0 < k → a = 0) ∧ (1 < k → b = 0) ∧ (2 < k → c = 0)) (fun i => 4 - (intOf i).toNat)
  case atStart => exact ⟨0, by omega, rfl, by omega, by omega, by omega⟩
  case round =>
    obtain ⟨k, hk, rfl, p0, p1, p2⟩ := hrel
    have hcases : k = 0 ∨ k = 1 ∨ k = 2 ∨ k = 3 := by omega
    rcases hcases with rfl | rfl | rfl | rfl
    · clear p0 p1 p2 hk
      by_cases ha : a = 0
      · have e1 : (a != 0) = false := by simp [ha]
        go_wp2
        go_round
        case rel => exact ⟨1, by omega, rfl, fun _ => ha, by omega, by omega⟩
        case measure => simp [intOf]
      · have e1 : (a != 0) = true := by simp [ha]
        go_wp2
        go_ret
        exact ⟨by rw [hc.out, if_pos ha]; rfl, rfl⟩
    · have ha := p0 (by omega)
      clear p0 p1 p2 hk
      by_cases hb : b = 0
      · have e1 : (b != 0) = false := by simp [hb]
        have HA := Lib.hid ha
        clear ha
        go_wp2
        go_round
        case rel => exact ⟨2, by omega, rfl, fun _ => HA.out, fun _ => hb, by omega⟩
        case measure => simp [intOf]
      · have e1 : (b != 0) = true := by simp [hb]
        have HA := Lib.hid ha
        clear ha
        go_wp2
        go_ret
        exact ⟨by rw [hc.out, if_neg (by simp [HA.out]), if_pos hb]; rfl, rfl⟩
    · have HA := Lib.hid (p0 (by omega))
      have HB := Lib.hid (p1 (by omega))
      clear p0 p1 p2 hk
      by_cases hcc : c = 0
      · have e1 : (c != 0) = false := by simp [hcc]
        go_wp2
        go_round
        case rel => exact ⟨3, by omega, rfl, fun _ => HA.out, fun _ => HB.out, fun _ => hcc⟩
        case measure => simp [intOf]
      · have e1 : (c != 0) = true := by simp [hcc]
        go_wp2
        go_ret
        exact ⟨by rw [hc.out, if_neg (by simp [HA.out]), if_neg (by simp [HB.out]), if_pos hcc]; rfl, rfl⟩
    · have HA := Lib.hid (p0 (by omega))
      have HB := Lib.hid (p1 (by omega))
      have HC := Lib.hid (p2 (by omega))
      clear p0 p1 p2 hk
      go_wp2
      go_ret
      exact ⟨by rw [hc.out, if_neg (by simp [HA.out]), if_neg (by simp [HB.out]), if_neg (by simp [HC.out])]; rfl, rfl⟩
/-- Compare at an input's key and any key. -/
def cmpKA (a k : Ky) : Int := if cmpK a k ≠ 0 then cmpK a k else if k.lin = [] then 0 else -1
set_option maxRecDepth 100000 in
set_option maxHeartbeats 1000000 in
theorem key_cmp (a k : Ky) (w : World) (ha : a.lin = []) : Calls Tryd.prog 34 #[kyV a, kyV k] w fun e w' => e = .returned (.int .i64 (cmpKA a k)) ∧ Below w.heap.size w w' := by
  by_cases hk : k.lin = []
  · have e : cmpKA a k = cmpK a k := by
      unfold cmpKA
      rw [if_pos hk]
      by_cases h : cmpK a k = 0
      · rw [if_neg (fun h2 => h2 h), h]
      · rw [if_pos h]
    rw [e]
    exact key_compare a k w ha hk
  · have HE : Hid (cmpKA a k = or4m (cmpI a.tick k.tick) (cmpI a.cls k.cls) (cmpI a.num k.num)) := Lib.hid (by unfold cmpKA; rw [if_neg hk]; rfl)
    have HLC : Hid (cmpLin (bs k.lin) = -1) := Lib.hid (by
      unfold cmpLin
      rw [if_neg]
      rw [bs_size]
      exact fun e => hk (List.eq_nil_of_length_eq_zero e))
    have HN := Lib.hid (cmp_i a.tick k.tick)
    have HI := Lib.hid (cmp_i a.cls k.cls)
    have HT := Lib.hid (cmp_i a.num k.num)
    have hal : bs a.lin = ⟨#[]⟩ := by rw [ha]; rfl
    rw [HE.out]
    unfold kyV
    rw [hal]
    generalize cmpI a.tick k.tick = c1 at *
    generalize cmpI a.cls k.cls = c2 at *
    generalize cmpI a.num k.num = c3 at *
    have hb : Below w.heap.size w ((w.alloc (.cells #[.int .i64 a.tick, .int .i64 a.cls, .int .i64 a.num, .string ⟨#[]⟩] 47)).alloc (.cells #[.int .i64 k.tick, .int .i64 k.cls, .int .i64 k.num, .string (bs k.lin)] 47)) := ((Below.refl _ _).alloc (Nat.le_refl _) _).alloc (by simp) _
    have b0 := (Blk.new w 47 #[.int .i64 a.tick, .int .i64 a.cls, .int .i64 a.num, .string ⟨#[]⟩]).alloc (.cells #[.int .i64 k.tick, .int .i64 k.cls, .int .i64 k.num, .string (bs k.lin)] 47)
    have b1 := Blk.new (w.alloc (.cells #[.int .i64 a.tick, .int .i64 a.cls, .int .i64 a.num, .string ⟨#[]⟩] 47)) 47 #[.int .i64 k.tick, .int .i64 k.cls, .int .i64 k.num, .string (bs k.lin)]
    rw [World.size_alloc] at b1
    have x0 := b0.cell 0
    have x1 := b0.cell 1
    have x2 := b0.cell 2
    have x3 := b0.cell 3
    have y0 := b1.cell 0
    have y1 := b1.cell 1
    have y2 := b1.cell 2
    have y3 := b1.cell 3
    have hcb := b0.lt
    have hdb := b1.lt
    simp only [List.getElem?_toArray, List.getElem?_cons_zero, List.getElem?_cons_succ] at x0 x1 x2 x3 y0 y1 y2 y3
    have HB := Lib.hid hb
    clear b0 b1 hb ha hk hal HE
    go_enter Tryd.func34, Tryd.ntmps34
    go_upto_region 1 with (fail)
    generalize ((w.alloc (.cells #[.int .i64 a.tick, .int .i64 a.cls, .int .i64 a.num, .string ⟨#[]⟩] 47)).alloc (.cells #[.int .i64 k.tick, .int .i64 k.cls, .int .i64 k.num, .string (bs k.lin)] 47)) = W at *
    obtain ⟨db, hdbe⟩ : ∃ db, w.heap.size + 1 = db := ⟨_, rfl⟩
    rw [hdbe] at y0 y1 y2 y3 hdb ⊢
    obtain ⟨cb, hcbe⟩ : ∃ cb, w.heap.size = cb := ⟨_, rfl⟩
    have HCB := Lib.hid hcbe
    rw [hcbe] at x0 x1 x2 x3 hcb ⊢
    clear hdbe hcbe
    refine wp_region_noPanic ?_
    refine wp_region_held_drew (S := (fun (w' : World) => w'.cell? ⟨cb, 0, none⟩ = some (.int .i64 a.tick) ∧ w'.cell? ⟨cb, 1, none⟩ = some (.int .i64 a.cls) ∧ w'.cell? ⟨cb, 2, none⟩ = some (.int .i64 a.num) ∧ w'.cell? ⟨cb, 3, none⟩ = some (.string ⟨#[]⟩) ∧ w'.cell? ⟨db, 0, none⟩ = some (.int .i64 k.tick) ∧ w'.cell? ⟨db, 1, none⟩ = some (.int .i64 k.cls) ∧ w'.cell? ⟨db, 2, none⟩ = some (.int .i64 k.num) ∧ w'.cell? ⟨db, 3, none⟩ = some (.string (bs k.lin)))) (by kernel_rfl) ?_ (fun hHeld => ?_)
    · exact ⟨x0, x1, x2, x3, y0, y1, y2, y3⟩
    refine wpAnyH_take (i := 0) (v := ?_) rfl (by kernel_rfl) (by kernel_rfl) (by kernel_rfl) (fun _ _ _ h => h) (Or.inl ⟨by kernel_rfl, ?_⟩) hHeld ?_
    rotate_left
    · (intro w hSw; (try dsimp only at hSw); go_simp; try with_reducible rfl)
    try simp only [Act.put, List.setIfInBounds_toArray, List.set_cons_zero, List.set_cons_succ]
    refine wpAnyH_take (i := 1) (v := ?_) rfl (by kernel_rfl) (by kernel_rfl) (by kernel_rfl) (fun _ _ _ h => h) (Or.inl ⟨by kernel_rfl, ?_⟩) hHeld ?_
    rotate_left
    · (intro w hSw; (try dsimp only at hSw); go_simp; try with_reducible rfl)
    try simp only [Act.put, List.setIfInBounds_toArray, List.set_cons_zero, List.set_cons_succ]
    refine wpAnyH_take (i := 2) (v := ?_) rfl (by kernel_rfl) (by kernel_rfl) (by kernel_rfl) (fun _ _ _ h => h) (Or.inl ⟨by kernel_rfl, ?_⟩) hHeld ?_
    rotate_left
    · (intro w hSw; (try dsimp only at hSw); go_simp; try with_reducible rfl)
    try simp only [Act.put, List.setIfInBounds_toArray, List.set_cons_zero, List.set_cons_succ]
    refine wpAnyH_take (i := 3) (v := ?_) rfl (by kernel_rfl) (by kernel_rfl) (by kernel_rfl) (fun _ _ _ h => h) (Or.inl ⟨by kernel_rfl, ?_⟩) hHeld ?_
    rotate_left
    · (intro w hSw; (try dsimp only at hSw); go_simp; try with_reducible rfl)
    try simp only [Act.put, List.setIfInBounds_toArray, List.set_cons_zero, List.set_cons_succ]
    refine wpAnyH_take (i := 5) (v := ?_) rfl (by kernel_rfl) (by kernel_rfl) (by kernel_rfl) (fun _ _ _ h => h) (Or.inl ⟨by kernel_rfl, ?_⟩) hHeld ?_
    rotate_left
    · (intro w hSw; (try dsimp only at hSw); go_simp; try with_reducible rfl)
    try simp only [Act.put, List.setIfInBounds_toArray, List.set_cons_zero, List.set_cons_succ]
    refine wpAnyH_take (i := 6) (v := ?_) rfl (by kernel_rfl) (by kernel_rfl) (by kernel_rfl) (fun _ _ _ h => h) (Or.inl ⟨by kernel_rfl, ?_⟩) hHeld ?_
    rotate_left
    · (intro w hSw; (try dsimp only at hSw); go_simp; try with_reducible rfl)
    try simp only [Act.put, List.setIfInBounds_toArray, List.set_cons_zero, List.set_cons_succ]
    refine wpAnyH_take (i := 7) (v := ?_) rfl (by kernel_rfl) (by kernel_rfl) (by kernel_rfl) (fun _ _ _ h => h) (Or.inl ⟨by kernel_rfl, ?_⟩) hHeld ?_
    rotate_left
    · (intro w hSw; (try dsimp only at hSw); go_simp; try with_reducible rfl)
    try simp only [Act.put, List.setIfInBounds_toArray, List.set_cons_zero, List.set_cons_succ]
    refine wpAnyH_take (i := 8) (v := ?_) rfl (by kernel_rfl) (by kernel_rfl) (by kernel_rfl) (fun _ _ _ h => h) (Or.inl ⟨by kernel_rfl, ?_⟩) hHeld ?_
    rotate_left
    · (intro w hSw; (try dsimp only at hSw); go_simp; try with_reducible rfl)
    try simp only [Act.put, List.setIfInBounds_toArray, List.set_cons_zero, List.set_cons_succ]
    refine wpAnyH_take (i := 10) (v := ?_) rfl (by kernel_rfl) (by kernel_rfl) (by kernel_rfl) (fun _ _ _ h => h) (Or.inl ⟨by kernel_rfl, ?_⟩) hHeld ?_
    rotate_left
    · (intro w hSw; (try dsimp only at hSw); go_simp; try with_reducible rfl)
    try simp only [Act.put, List.setIfInBounds_toArray, List.set_cons_zero, List.set_cons_succ]
    refine wpAnyH_take (i := 11) (v := ?_) rfl (by kernel_rfl) (by kernel_rfl) (by kernel_rfl) (fun _ _ _ h => h) (Or.inl ⟨by kernel_rfl, ?_⟩) hHeld ?_
    rotate_left
    · (intro w hSw; (try dsimp only at hSw); go_simp; try with_reducible rfl)
    try simp only [Act.put, List.setIfInBounds_toArray, List.set_cons_zero, List.set_cons_succ]
    refine wpAnyH_take (i := 12) (v := ?_) rfl (by kernel_rfl) (by kernel_rfl) (by kernel_rfl) (fun _ _ _ h => h) (Or.inl ⟨by kernel_rfl, ?_⟩) hHeld ?_
    rotate_left
    · (intro w hSw; (try dsimp only at hSw); go_simp; try with_reducible rfl)
    try simp only [Act.put, List.setIfInBounds_toArray, List.set_cons_zero, List.set_cons_succ]
    refine wpAnyH_take (i := 13) (v := ?_) rfl (by kernel_rfl) (by kernel_rfl) (by kernel_rfl) (fun _ _ _ h => h) (Or.inl ⟨by kernel_rfl, ?_⟩) hHeld ?_
    rotate_left
    · (intro w hSw; (try dsimp only at hSw); go_simp; try with_reducible rfl)
    try simp only [Act.put, List.setIfInBounds_toArray, List.set_cons_zero, List.set_cons_succ]
    refine wpAnyH_take (i := 15) (v := ?_) rfl (by kernel_rfl) (by kernel_rfl) (by kernel_rfl) (fun _ _ _ h => h) (Or.inl ⟨by kernel_rfl, ?_⟩) hHeld ?_
    rotate_left
    · (intro w hSw; (try dsimp only at hSw); go_simp; try with_reducible rfl)
    try simp only [Act.put, List.setIfInBounds_toArray, List.set_cons_zero, List.set_cons_succ]
    refine wpAnyH_take (i := 16) (v := ?_) rfl (by kernel_rfl) (by kernel_rfl) (by kernel_rfl) (fun _ _ _ h => h) (Or.inl ⟨by kernel_rfl, ?_⟩) hHeld ?_
    rotate_left
    · (intro w hSw; (try dsimp only at hSw); go_simp; try with_reducible rfl)
    try simp only [Act.put, List.setIfInBounds_toArray, List.set_cons_zero, List.set_cons_succ]
    refine wpAnyH_take (i := 17) (v := ?_) rfl (by kernel_rfl) (by kernel_rfl) (by kernel_rfl) (fun _ _ _ h => h) (Or.inl ⟨by kernel_rfl, ?_⟩) hHeld ?_
    rotate_left
    · (intro w hSw; (try dsimp only at hSw); go_simp; try with_reducible rfl)
    try simp only [Act.put, List.setIfInBounds_toArray, List.set_cons_zero, List.set_cons_succ]
    refine wpAnyH_take (i := 18) (v := ?_) rfl (by kernel_rfl) (by kernel_rfl) (by kernel_rfl) (fun _ _ _ h => h) (Or.inl ⟨by kernel_rfl, ?_⟩) hHeld ?_
    rotate_left
    · (intro w hSw; (try dsimp only at hSw); go_simp; try with_reducible rfl)
    try simp only [Act.put, List.setIfInBounds_toArray, List.set_cons_zero, List.set_cons_succ]
    refine wpAnyH_ready (rs := [4]) (by kernel_rfl) (by simp) ?_
    refine AllReadyH.cons rfl (fun K hK => ?_) AllReadyH.nil
    go_simp
    refine (HN.out _).mono ?_; rintro e w' ⟨rfl, rfl⟩
    try (go_wp2_with fail)
    refine hK.out _ _ ?_ (fun hNew => ?_)
    · exact ⟨x0, x1, x2, x3, y0, y1, y2, y3⟩
    clear hK K hHeld
    have hHeld := hNew
    clear hNew
    try simp only [Act.put, List.setIfInBounds_toArray, List.set_cons_zero, List.set_cons_succ]
    refine wpAnyH_ready (rs := [9]) (by kernel_rfl) (by simp) ?_
    refine AllReadyH.cons rfl (fun K hK => ?_) AllReadyH.nil
    go_simp
    refine (HI.out _).mono ?_; rintro e w' ⟨rfl, rfl⟩
    try (go_wp2_with fail)
    refine hK.out _ _ ?_ (fun hNew => ?_)
    · exact ⟨x0, x1, x2, x3, y0, y1, y2, y3⟩
    clear hK K hHeld
    have hHeld := hNew
    clear hNew
    try simp only [Act.put, List.setIfInBounds_toArray, List.set_cons_zero, List.set_cons_succ]
    refine wpAnyH_ready (rs := [14]) (by kernel_rfl) (by simp) ?_
    refine AllReadyH.cons rfl (fun K hK => ?_) AllReadyH.nil
    go_simp
    refine (HT.out _).mono ?_; rintro e w' ⟨rfl, rfl⟩
    try (go_wp2_with fail)
    refine hK.out _ _ ?_ (fun hNew => ?_)
    · exact ⟨x0, x1, x2, x3, y0, y1, y2, y3⟩
    clear hK K hHeld
    have hHeld := hNew
    clear hNew
    try simp only [Act.put, List.setIfInBounds_toArray, List.set_cons_zero, List.set_cons_succ]
    refine wpAnyH_ready (rs := [19]) (by kernel_rfl) (by simp) ?_
    refine AllReadyH.cons rfl (fun K hK => ?_) AllReadyH.nil
    go_simp
    refine (lin_cmp (bs k.lin) W.drew).mono ?_; rintro e w3 ⟨rfl, hb3⟩; rw [HLC.out]; have HB3 := Lib.hid ((Below.refl W.heap.size W).drew.trans hb3); clear hb3
    try (go_wp2_with fail)
    refine hK.out _ _ ?_ (fun hNew => ?_)
    · exact ⟨(HB3.out.cell (p := ⟨cb, 0, none⟩) hcb).trans x0, (HB3.out.cell (p := ⟨cb, 1, none⟩) hcb).trans x1, (HB3.out.cell (p := ⟨cb, 2, none⟩) hcb).trans x2, (HB3.out.cell (p := ⟨cb, 3, none⟩) hcb).trans x3, (HB3.out.cell (p := ⟨db, 0, none⟩) hdb).trans y0, (HB3.out.cell (p := ⟨db, 1, none⟩) hdb).trans y1, (HB3.out.cell (p := ⟨db, 2, none⟩) hdb).trans y2, (HB3.out.cell (p := ⟨db, 3, none⟩) hdb).trans y3⟩
    clear hK K hHeld
    have hHeld := hNew
    clear hNew
    try simp only [Act.put, List.setIfInBounds_toArray, List.set_cons_zero, List.set_cons_succ]
    refine wpAnyH_ready (rs := [20]) (by kernel_rfl) (by simp) ?_
    refine AllReadyH.cons rfl (fun K hK => ?_) AllReadyH.nil
    go_simp
    refine hK.out _ _ ?_ (fun hNew => ?_)
    · exact ⟨((HB3.out.alloc HB3.out.size (.cells #[.int .i64 c1, .int .i64 c2, .int .i64 c3, .int .i64 (-1)] 3)).cell (p := ⟨cb, 0, none⟩) hcb).trans x0, ((HB3.out.alloc HB3.out.size (.cells #[.int .i64 c1, .int .i64 c2, .int .i64 c3, .int .i64 (-1)] 3)).cell (p := ⟨cb, 1, none⟩) hcb).trans x1, ((HB3.out.alloc HB3.out.size (.cells #[.int .i64 c1, .int .i64 c2, .int .i64 c3, .int .i64 (-1)] 3)).cell (p := ⟨cb, 2, none⟩) hcb).trans x2, ((HB3.out.alloc HB3.out.size (.cells #[.int .i64 c1, .int .i64 c2, .int .i64 c3, .int .i64 (-1)] 3)).cell (p := ⟨cb, 3, none⟩) hcb).trans x3, ((HB3.out.alloc HB3.out.size (.cells #[.int .i64 c1, .int .i64 c2, .int .i64 c3, .int .i64 (-1)] 3)).cell (p := ⟨db, 0, none⟩) hdb).trans y0, ((HB3.out.alloc HB3.out.size (.cells #[.int .i64 c1, .int .i64 c2, .int .i64 c3, .int .i64 (-1)] 3)).cell (p := ⟨db, 1, none⟩) hdb).trans y1, ((HB3.out.alloc HB3.out.size (.cells #[.int .i64 c1, .int .i64 c2, .int .i64 c3, .int .i64 (-1)] 3)).cell (p := ⟨db, 2, none⟩) hdb).trans y2, ((HB3.out.alloc HB3.out.size (.cells #[.int .i64 c1, .int .i64 c2, .int .i64 c3, .int .i64 (-1)] 3)).cell (p := ⟨db, 3, none⟩) hdb).trans y3⟩
    clear hK K hHeld
    have hHeld := hNew
    clear hNew
    try simp only [Act.put, List.setIfInBounds_toArray, List.set_cons_zero, List.set_cons_succ]
    refine wpAnyH_ready (rs := [21]) (by kernel_rfl) (by simp) ?_
    refine AllReadyH.cons rfl (fun K hK => ?_) AllReadyH.nil
    go_simp
    refine (or_4m c1 c2 c3 _ w3.heap.size ((Blk.new w3 3 #[.int .i64 c1, .int .i64 c2, .int .i64 c3, .int .i64 (-1)]).cell 0) ((Blk.new w3 3 #[.int .i64 c1, .int .i64 c2, .int .i64 c3, .int .i64 (-1)]).cell 1) ((Blk.new w3 3 #[.int .i64 c1, .int .i64 c2, .int .i64 c3, .int .i64 (-1)]).cell 2) ((Blk.new w3 3 #[.int .i64 c1, .int .i64 c2, .int .i64 c3, .int .i64 (-1)]).cell 3)).mono ?_; rintro e w' ⟨rfl, rfl⟩
    try (go_wp2_with fail)
    refine hK.out _ _ ?_ (fun hNew => ?_)
    · exact ⟨((HB3.out.alloc HB3.out.size (.cells #[.int .i64 c1, .int .i64 c2, .int .i64 c3, .int .i64 (-1)] 3)).cell (p := ⟨cb, 0, none⟩) hcb).trans x0, ((HB3.out.alloc HB3.out.size (.cells #[.int .i64 c1, .int .i64 c2, .int .i64 c3, .int .i64 (-1)] 3)).cell (p := ⟨cb, 1, none⟩) hcb).trans x1, ((HB3.out.alloc HB3.out.size (.cells #[.int .i64 c1, .int .i64 c2, .int .i64 c3, .int .i64 (-1)] 3)).cell (p := ⟨cb, 2, none⟩) hcb).trans x2, ((HB3.out.alloc HB3.out.size (.cells #[.int .i64 c1, .int .i64 c2, .int .i64 c3, .int .i64 (-1)] 3)).cell (p := ⟨cb, 3, none⟩) hcb).trans x3, ((HB3.out.alloc HB3.out.size (.cells #[.int .i64 c1, .int .i64 c2, .int .i64 c3, .int .i64 (-1)] 3)).cell (p := ⟨db, 0, none⟩) hdb).trans y0, ((HB3.out.alloc HB3.out.size (.cells #[.int .i64 c1, .int .i64 c2, .int .i64 c3, .int .i64 (-1)] 3)).cell (p := ⟨db, 1, none⟩) hdb).trans y1, ((HB3.out.alloc HB3.out.size (.cells #[.int .i64 c1, .int .i64 c2, .int .i64 c3, .int .i64 (-1)] 3)).cell (p := ⟨db, 2, none⟩) hdb).trans y2, ((HB3.out.alloc HB3.out.size (.cells #[.int .i64 c1, .int .i64 c2, .int .i64 c3, .int .i64 (-1)] 3)).cell (p := ⟨db, 3, none⟩) hdb).trans y3⟩
    clear hK K hHeld
    have hHeld := hNew
    clear hNew
    try simp only [Act.put, List.setIfInBounds_toArray, List.set_cons_zero, List.set_cons_succ]
    refine wpAnyH_take (i := 22) (v := ?_) rfl (by kernel_rfl) (by kernel_rfl) (by kernel_rfl) (fun _ _ _ h => h) (Or.inl ⟨by kernel_rfl, ?_⟩) hHeld ?_
    rotate_left
    · (intro w hSw; (try dsimp only at hSw); go_simp; try with_reducible rfl)
    try simp only [Act.put, List.setIfInBounds_toArray, List.set_cons_zero, List.set_cons_succ]
    refine wpAnyH_done (by kernel_rfl) ?_ _
    clear hHeld
    try simp only [List.getElem_toArray, List.getElem_cons_zero, List.getElem_cons_succ, Act.put, List.setIfInBounds_toArray, List.set_cons_zero, List.set_cons_succ]
    refine NoPanic.normal ?_
    go_wp2_with fail
    go_ret
    exact ⟨rfl, HB.out.trans ((HB3.out.alloc HB3.out.size _).mono HB.out.size)⟩
end Go.Proofs.YtobkmkplhbaepaaDoor
