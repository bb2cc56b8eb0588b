/- Walks of layer 46: the reference: equal, same. -/
import Derived.Test.YtobkmkplhbaepaaGreatDoorGFZ
namespace Go.Proofs.YtobkmkplhbaepaaGreatDoor
open Go.RowKit
set_option linter.unusedSimpArgs false
set_option linter.unusedVariables false
attribute [local go_sem ↓] Go.wp_at_zero Go.wp_at_succ
def requal_isRel (a b : List Nm) (w : World) (i : Value) (wr : World) : Prop := ∃ k : Nat, k ≤ a.length ∧ i = .int .i64 k ∧ (∀ j (h1 : j < a.length) (h2 : j < b.length), j < k → a[j] = b[j]) ∧ Below w.heap.size w wr
set_option maxRecDepth 100000 in
theorem requal_is {w : World} {v1 v2 : Value} {a b : List Nm} (h1 : RdNm w v1 a) (h2 : RdNm w v2 b) (l1 : a.length ≤ 100000) (l2 : b.length ≤ 100000) : Calls Tryz.prog 19 #[v1, v2] w fun e w' => e = .returned (.bool (decide (a = b))) ∧ Below w.heap.size w w' := by
  obtain ⟨A1, c1, rfl, hc1⟩ := RdP.form h1
  obtain ⟨A2, c2, rfl, hc2⟩ := RdP.form h2
  have H1 := Lib.hid h1
  have H2 := Lib.hid h2
  clear h1 h2
  by_cases hl : a.length = b.length
  · have k1 : ((a.length : Int) == (b.length : Int)) = true := by rw [hl]; simp
    have HLL := Lib.hid hl
    rw [← hl] at hc2
    have H0 : Hid (requal_isRel a b w (.int .i64 (0 : Nat)) w) := Lib.hid ⟨0, Nat.zero_le _, rfl, fun j _ _ h => by omega, Below.refl _ _⟩
    go_enter Tryz.func19, Tryz.ntmps19
    rw [← HLL.out]
    clear hl
    go_wp2_with fail
    go_loopw [5] (fun i wr => requal_isRel a b w i wr) (fun i _ => a.length - (intOf i).toNat)
    case atStart => exact H0.out
    case round =>
      clear H0
      obtain ⟨k, hkl, rfl, hz, hbw⟩ := hrel
      have HZ := Lib.hid hz
      have HBW := Lib.hid hbw
      clear hz hbw
      by_cases hk : k < a.length
      · have j1 : (0 : Int) ≤ (k : Int) := by omega
        have j2 : (k : Int) < (a.length : Int) := by omega
        have j3 : decide ((k : Int) < (a.length : Int)) = true := decide_eq_true j2
        have hkb : k < b.length := by rw [← HLL.out]; exact hk
        obtain ⟨b1, o1, hbe, hb1, x0, x1, x2, x3, x4⟩ := RdNm.piece (RdP.next H1.out HBW.out) hk
        subst hbe
        obtain ⟨b2, o2, hbe, hb2, y0, y1, y2, y3, y4⟩ := RdNm.piece (RdP.next H2.out HBW.out) hkb
        subst hbe
        obtain ⟨x, hx⟩ : ∃ x, a[k] = x := ⟨_, rfl⟩
        obtain ⟨y, hy⟩ : ∃ y, b[k] = y := ⟨_, rfl⟩
        rw [hx] at x0 x1 x2 x3 x4
        rw [hy] at y0 y1 y2 y3 y4
        have HX := Lib.hid hx
        have HY := Lib.hid hy
        clear hx hy
        obtain ⟨bq, hbq⟩ : ∃ bq, decide (x = y) = bq := ⟨_, rfl⟩
        have he := fun W => neqNm x y bq hbq W
        have hg := guardNm
        unfold nmV nmA at he
        go_upto_region 6 with (fail)
        refine wp_region_noPanic ?_
        refine wp_region_held_drew (S := (fun (w' : World) => w'.cell? ⟨b1, o1 + k * 5, none⟩ = some (.int .i64 x.kind) ∧ w'.cell? ⟨b1, o1 + k * 5 + 1, none⟩ = some (.string (bs x.owner)) ∧ w'.cell? ⟨b1, o1 + k * 5 + 2, none⟩ = some (.int .i64 x.num) ∧ w'.cell? ⟨b1, o1 + k * 5 + 3, none⟩ = some (.int .i64 x.idx) ∧ w'.cell? ⟨b1, o1 + k * 5 + 4, none⟩ = some (.string (bs x.text)) ∧ w'.cell? ⟨b2, o2 + k * 5, none⟩ = some (.int .i64 y.kind) ∧ w'.cell? ⟨b2, o2 + k * 5 + 1, none⟩ = some (.string (bs y.owner)) ∧ w'.cell? ⟨b2, o2 + k * 5 + 2, none⟩ = some (.int .i64 y.num) ∧ w'.cell? ⟨b2, o2 + k * 5 + 3, none⟩ = some (.int .i64 y.idx) ∧ w'.cell? ⟨b2, o2 + k * 5 + 4, none⟩ = some (.string (bs y.text)))) (by kernel_rfl) ?_ (fun hHeld => ?_)
        · exact ⟨x0, x1, x2, x3, x4, y0, y1, y2, y3, y4⟩
        refine wpAnyH_take (i := 0) (v := ?_) rfl (by kernel_rfl) (by kernel_rfl) (by kernel_rfl) (fun _ _ _ h => h) (Or.inl ⟨by kernel_rfl, ?_⟩) hHeld ?_
        rotate_left
        · (intro w hSw; (try dsimp only at hSw); go_simp; try with_reducible rfl)
        try simp only [Act.put, List.setIfInBounds_toArray, List.set_cons_zero, List.set_cons_succ]
        refine wpAnyH_take (i := 1) (v := ?_) rfl (by kernel_rfl) (by kernel_rfl) (by kernel_rfl) (fun _ _ _ h => h) (Or.inl ⟨by kernel_rfl, ?_⟩) hHeld ?_
        rotate_left
        · (intro w hSw; (try dsimp only at hSw); go_simp; try with_reducible rfl)
        try simp only [Act.put, List.setIfInBounds_toArray, List.set_cons_zero, List.set_cons_succ]
        refine wpAnyH_take (i := 2) (v := ?_) rfl (by kernel_rfl) (by kernel_rfl) (by kernel_rfl) (fun _ _ _ h => h) (Or.inl ⟨by kernel_rfl, ?_⟩) hHeld ?_
        rotate_left
        · (intro w hSw; (try dsimp only at hSw); go_simp; try with_reducible rfl)
        try simp only [Act.put, List.setIfInBounds_toArray, List.set_cons_zero, List.set_cons_succ]
        refine wpAnyH_take (i := 3) (v := ?_) rfl (by kernel_rfl) (by kernel_rfl) (by kernel_rfl) (fun _ _ _ h => h) (Or.inl ⟨by kernel_rfl, ?_⟩) hHeld ?_
        rotate_left
        · (intro w hSw; (try dsimp only at hSw); go_simp; try with_reducible rfl)
        try simp only [Act.put, List.setIfInBounds_toArray, List.set_cons_zero, List.set_cons_succ]
        refine wpAnyH_take (i := 4) (v := ?_) rfl (by kernel_rfl) (by kernel_rfl) (by kernel_rfl) (fun _ _ _ h => h) (Or.inl ⟨by kernel_rfl, ?_⟩) hHeld ?_
        rotate_left
        · (intro w hSw; (try dsimp only at hSw); go_simp; try with_reducible rfl)
        try simp only [Act.put, List.setIfInBounds_toArray, List.set_cons_zero, List.set_cons_succ]
        refine wpAnyH_take (i := 5) (v := ?_) rfl (by kernel_rfl) (by kernel_rfl) (by kernel_rfl) (fun _ _ _ h => h) (Or.inl ⟨by kernel_rfl, ?_⟩) hHeld ?_
        rotate_left
        · (intro w hSw; (try dsimp only at hSw); go_simp; try with_reducible rfl)
        try simp only [Act.put, List.setIfInBounds_toArray, List.set_cons_zero, List.set_cons_succ]
        refine wpAnyH_take (i := 6) (v := ?_) rfl (by kernel_rfl) (by kernel_rfl) (by kernel_rfl) (fun _ _ _ h => h) (Or.inl ⟨by kernel_rfl, ?_⟩) hHeld ?_
        rotate_left
        · (intro w hSw; (try dsimp only at hSw); go_simp; try with_reducible rfl)
        try simp only [Act.put, List.setIfInBounds_toArray, List.set_cons_zero, List.set_cons_succ]
        refine wpAnyH_take (i := 7) (v := ?_) rfl (by kernel_rfl) (by kernel_rfl) (by kernel_rfl) (fun _ _ _ h => h) (Or.inl ⟨by kernel_rfl, ?_⟩) hHeld ?_
        rotate_left
        · (intro w hSw; (try dsimp only at hSw); go_simp; try with_reducible rfl)
        try simp only [Act.put, List.setIfInBounds_toArray, List.set_cons_zero, List.set_cons_succ]
        refine wpAnyH_take (i := 8) (v := ?_) rfl (by kernel_rfl) (by kernel_rfl) (by kernel_rfl) (fun _ _ _ h => h) (Or.inl ⟨by kernel_rfl, ?_⟩) hHeld ?_
        rotate_left
        · (intro w hSw; (try dsimp only at hSw); go_simp; try with_reducible rfl)
        try simp only [Act.put, List.setIfInBounds_toArray, List.set_cons_zero, List.set_cons_succ]
        refine wpAnyH_done (by kernel_rfl) ?_ _
        clear hHeld
        try simp only [List.getElem_toArray, List.getElem_cons_zero, List.getElem_cons_succ, Act.put, List.setIfInBounds_toArray, List.set_cons_zero, List.set_cons_succ]
        refine NoPanic.normal ?_
        cases bq with
        | true =>
          have HE := Lib.hid (of_decide_eq_true hbq)
          clear hbq
          go_wp2_with fail
          go_roundw
          case rel => exact ⟨k + 1, by omega, by go_num, fun j h1 h2 hjk => by
            by_cases e : j = k
            · subst e
              rw [HX.out, HY.out, HE.out]
            · exact HZ.out j h1 h2 (by omega), HBW.out.drew⟩
          case measure => simp [intOf]; omega
        | false =>
          have HE := Lib.hid (of_decide_eq_false hbq)
          clear hbq
          go_wp2_with fail
          go_ret
          have hne : ¬ a = b := fun e => HE.out (by rw [← HX.out, ← HY.out]; subst e; rfl)
          exact ⟨by rw [decide_eq_false hne]; rfl, HBW.out.drew⟩
      · have j3 : decide ((k : Int) < (a.length : Int)) = false := decide_eq_false (by omega)
        have HK := Lib.hid (show k = a.length by omega)
        go_wp2_with fail
        go_ret
        have he : a = b := List.ext_getElem HLL.out fun j h1 h2 => HZ.out j h1 h2 (by have := HK.out; omega)
        exact ⟨by rw [decide_eq_true he]; rfl, HBW.out⟩
  · have k1 : ((a.length : Int) == (b.length : Int)) = false := by rw [beq_eq_false_iff_ne]; omega
    have k2 : (a.length == b.length) = false := by rw [beq_eq_false_iff_ne]; omega
    have HE : Hid (¬ a = b) := Lib.hid fun e => hl (by rw [e])
    clear hl
    go_enter Tryz.func19, Tryz.ntmps19
    go_wp2_with fail
    go_ret
    exact ⟨by rw [decide_eq_false HE.out]; rfl, Below.refl _ _⟩
def rsame_isRel (a b : List Ver) (w : World) (i : Value) (wr : World) : Prop := ∃ k : Nat, k ≤ a.length ∧ i = .int .i64 k ∧ (∀ j (h1 : j < a.length) (h2 : j < b.length), j < k → a[j] = b[j]) ∧ Below w.heap.size w wr
set_option maxRecDepth 100000 in
theorem rsame_is {w : World} {v1 v2 : Value} {a b : List Ver} (h1 : RdVe w v1 a) (h2 : RdVe w v2 b) (l1 : a.length ≤ 100000) (l2 : b.length ≤ 100000) : Calls Tryz.prog 15 #[v1, v2] w fun e w' => e = .returned (.bool (decide (a = b))) ∧ Below w.heap.size w w' := by
  obtain ⟨A1, c1, rfl, hc1⟩ := RdP.form h1
  obtain ⟨A2, c2, rfl, hc2⟩ := RdP.form h2
  have H1 := Lib.hid h1
  have H2 := Lib.hid h2
  clear h1 h2
  by_cases hl : a.length = b.length
  · have k1 : ((a.length : Int) == (b.length : Int)) = true := by rw [hl]; simp
    have HLL := Lib.hid hl
    rw [← hl] at hc2
    have H0 : Hid (rsame_isRel a b w (.int .i64 (0 : Nat)) w) := Lib.hid ⟨0, Nat.zero_le _, rfl, fun j _ _ h => by omega, Below.refl _ _⟩
    go_enter Tryz.func15, Tryz.ntmps15
    rw [← HLL.out]
    clear hl
    go_wp2_with fail
    go_loopw [5] (fun i wr => rsame_isRel a b w i wr) (fun i _ => a.length - (intOf i).toNat)
    case atStart => exact H0.out
    case round =>
      clear H0
      obtain ⟨k, hkl, rfl, hz, hbw⟩ := hrel
      have HZ := Lib.hid hz
      have HBW := Lib.hid hbw
      clear hz hbw
      by_cases hk : k < a.length
      · have j1 : (0 : Int) ≤ (k : Int) := by omega
        have j2 : (k : Int) < (a.length : Int) := by omega
        have j3 : decide ((k : Int) < (a.length : Int)) = true := decide_eq_true j2
        have hkb : k < b.length := by rw [← HLL.out]; exact hk
        obtain ⟨b1, o1, hbe, hb1, x0, x1, x2⟩ := RdVe.piece (RdP.next H1.out HBW.out) hk
        subst hbe
        obtain ⟨b2, o2, hbe, hb2, y0, y1, y2⟩ := RdVe.piece (RdP.next H2.out HBW.out) hkb
        subst hbe
        obtain ⟨x, hx⟩ : ∃ x, a[k] = x := ⟨_, rfl⟩
        obtain ⟨y, hy⟩ : ∃ y, b[k] = y := ⟨_, rfl⟩
        rw [hx] at x0 x1 x2
        rw [hy] at y0 y1 y2
        have HX := Lib.hid hx
        have HY := Lib.hid hy
        clear hx hy
        obtain ⟨bq, hbq⟩ : ∃ bq, decide (x = y) = bq := ⟨_, rfl⟩
        have he := fun W => neqVe x y bq hbq W
        have hg := guardVe
        unfold veV at he
        go_upto_region 6 with (fail)
        refine wp_region_noPanic ?_
        refine wp_region_held_drew (S := (fun (w' : World) => w'.cell? ⟨b1, o1 + k * 3, none⟩ = some (.int .i64 x.idx) ∧ w'.cell? ⟨b1, o1 + k * 3 + 1, none⟩ = some (.string (bs x.value)) ∧ w'.cell? ⟨b1, o1 + k * 3 + 2, none⟩ = some (.bool x.absent) ∧ w'.cell? ⟨b2, o2 + k * 3, none⟩ = some (.int .i64 y.idx) ∧ w'.cell? ⟨b2, o2 + k * 3 + 1, none⟩ = some (.string (bs y.value)) ∧ w'.cell? ⟨b2, o2 + k * 3 + 2, none⟩ = some (.bool y.absent))) (by kernel_rfl) ?_ (fun hHeld => ?_)
        · exact ⟨x0, x1, x2, y0, y1, y2⟩
        refine wpAnyH_take (i := 0) (v := ?_) rfl (by kernel_rfl) (by kernel_rfl) (by kernel_rfl) (fun _ _ _ h => h) (Or.inl ⟨by kernel_rfl, ?_⟩) hHeld ?_
        rotate_left
        · (intro w hSw; (try dsimp only at hSw); go_simp; try with_reducible rfl)
        try simp only [Act.put, List.setIfInBounds_toArray, List.set_cons_zero, List.set_cons_succ]
        refine wpAnyH_take (i := 1) (v := ?_) rfl (by kernel_rfl) (by kernel_rfl) (by kernel_rfl) (fun _ _ _ h => h) (Or.inl ⟨by kernel_rfl, ?_⟩) hHeld ?_
        rotate_left
        · (intro w hSw; (try dsimp only at hSw); go_simp; try with_reducible rfl)
        try simp only [Act.put, List.setIfInBounds_toArray, List.set_cons_zero, List.set_cons_succ]
        refine wpAnyH_take (i := 2) (v := ?_) rfl (by kernel_rfl) (by kernel_rfl) (by kernel_rfl) (fun _ _ _ h => h) (Or.inl ⟨by kernel_rfl, ?_⟩) hHeld ?_
        rotate_left
        · (intro w hSw; (try dsimp only at hSw); go_simp; try with_reducible rfl)
        try simp only [Act.put, List.setIfInBounds_toArray, List.set_cons_zero, List.set_cons_succ]
        refine wpAnyH_take (i := 3) (v := ?_) rfl (by kernel_rfl) (by kernel_rfl) (by kernel_rfl) (fun _ _ _ h => h) (Or.inl ⟨by kernel_rfl, ?_⟩) hHeld ?_
        rotate_left
        · (intro w hSw; (try dsimp only at hSw); go_simp; try with_reducible rfl)
        try simp only [Act.put, List.setIfInBounds_toArray, List.set_cons_zero, List.set_cons_succ]
        refine wpAnyH_take (i := 4) (v := ?_) rfl (by kernel_rfl) (by kernel_rfl) (by kernel_rfl) (fun _ _ _ h => h) (Or.inl ⟨by kernel_rfl, ?_⟩) hHeld ?_
        rotate_left
        · (intro w hSw; (try dsimp only at hSw); go_simp; try with_reducible rfl)
        try simp only [Act.put, List.setIfInBounds_toArray, List.set_cons_zero, List.set_cons_succ]
        refine wpAnyH_take (i := 5) (v := ?_) rfl (by kernel_rfl) (by kernel_rfl) (by kernel_rfl) (fun _ _ _ h => h) (Or.inl ⟨by kernel_rfl, ?_⟩) hHeld ?_
        rotate_left
        · (intro w hSw; (try dsimp only at hSw); go_simp; try with_reducible rfl)
        try simp only [Act.put, List.setIfInBounds_toArray, List.set_cons_zero, List.set_cons_succ]
        refine wpAnyH_take (i := 6) (v := ?_) rfl (by kernel_rfl) (by kernel_rfl) (by kernel_rfl) (fun _ _ _ h => h) (Or.inl ⟨by kernel_rfl, ?_⟩) hHeld ?_
        rotate_left
        · (intro w hSw; (try dsimp only at hSw); go_simp; try with_reducible rfl)
        try simp only [Act.put, List.setIfInBounds_toArray, List.set_cons_zero, List.set_cons_succ]
        refine wpAnyH_take (i := 7) (v := ?_) rfl (by kernel_rfl) (by kernel_rfl) (by kernel_rfl) (fun _ _ _ h => h) (Or.inl ⟨by kernel_rfl, ?_⟩) hHeld ?_
        rotate_left
        · (intro w hSw; (try dsimp only at hSw); go_simp; try with_reducible rfl)
        try simp only [Act.put, List.setIfInBounds_toArray, List.set_cons_zero, List.set_cons_succ]
        refine wpAnyH_take (i := 8) (v := ?_) rfl (by kernel_rfl) (by kernel_rfl) (by kernel_rfl) (fun _ _ _ h => h) (Or.inl ⟨by kernel_rfl, ?_⟩) hHeld ?_
        rotate_left
        · (intro w hSw; (try dsimp only at hSw); go_simp; try with_reducible rfl)
        try simp only [Act.put, List.setIfInBounds_toArray, List.set_cons_zero, List.set_cons_succ]
        refine wpAnyH_done (by kernel_rfl) ?_ _
        clear hHeld
        try simp only [List.getElem_toArray, List.getElem_cons_zero, List.getElem_cons_succ, Act.put, List.setIfInBounds_toArray, List.set_cons_zero, List.set_cons_succ]
        refine NoPanic.normal ?_
        cases bq with
        | true =>
          have HE := Lib.hid (of_decide_eq_true hbq)
          clear hbq
          go_wp2_with fail
          go_roundw
          case rel => exact ⟨k + 1, by omega, by go_num, fun j h1 h2 hjk => by
            by_cases e : j = k
            · subst e
              rw [HX.out, HY.out, HE.out]
            · exact HZ.out j h1 h2 (by omega), HBW.out.drew⟩
          case measure => simp [intOf]; omega
        | false =>
          have HE := Lib.hid (of_decide_eq_false hbq)
          clear hbq
          go_wp2_with fail
          go_ret
          have hne : ¬ a = b := fun e => HE.out (by rw [← HX.out, ← HY.out]; subst e; rfl)
          exact ⟨by rw [decide_eq_false hne]; rfl, HBW.out.drew⟩
      · have j3 : decide ((k : Int) < (a.length : Int)) = false := decide_eq_false (by omega)
        have HK := Lib.hid (show k = a.length by omega)
        go_wp2_with fail
        go_ret
        have he : a = b := List.ext_getElem HLL.out fun j h1 h2 => HZ.out j h1 h2 (by have := HK.out; omega)
        exact ⟨by rw [decide_eq_true he]; rfl, HBW.out⟩
  · have k1 : ((a.length : Int) == (b.length : Int)) = false := by rw [beq_eq_false_iff_ne]; omega
    have k2 : (a.length == b.length) = false := by rw [beq_eq_false_iff_ne]; omega
    have HE : Hid (¬ a = b) := Lib.hid fun e => hl (by rw [e])
    clear hl
    go_enter Tryz.func15, Tryz.ntmps15
    go_wp2_with fail
    go_ret
    exact ⟨by rw [decide_eq_false HE.out]; rfl, Below.refl _ _⟩
end Go.Proofs.YtobkmkplhbaepaaGreatDoor
