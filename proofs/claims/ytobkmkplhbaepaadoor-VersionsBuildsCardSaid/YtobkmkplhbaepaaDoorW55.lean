/- Walks of layer 46: equal changes, equal actions. -/
import Derived.Test.YtobkmkplhbaepaaDoorGW
namespace Go.Proofs.YtobkmkplhbaepaaDoor
open Go.RowKit
set_option linter.unusedSimpArgs false
set_option linter.unusedVariables false
attribute [local go_sem ↓] Go.wp_at_zero Go.wp_at_succ
def sleq_isRel (a b : List Ch) (w : World) (i : Value) (wr : World) : Prop := ∃ k : Nat, k ≤ a.length ∧ i = .int .i64 k ∧ (∀ j (h1 : j < a.length) (h2 : j < b.length), j < k → a[j] = b[j]) ∧ Below w.heap.size w wr
set_option maxRecDepth 100000 in
theorem sleq_is {w : World} {v1 v2 : Value} {a b : List Ch} (h1 : RdCh w v1 a) (h2 : RdCh w v2 b) (l1 : a.length ≤ 100000) (l2 : b.length ≤ 100000) : Calls Tryd.prog 48 #[v1, v2] w fun e w' => e = .returned (.bool (decide (a = b))) ∧ Below w.heap.size w w' := by
  obtain ⟨A1, c1, rfl, hc1⟩ := RdP.form h1
  obtain ⟨A2, c2, rfl, hc2⟩ := RdP.form h2
  have H1 := Lib.hid h1
  have H2 := Lib.hid h2
  clear h1 h2
  by_cases hl : a.length = b.length
  · have k1 : ((a.length : Int) == (b.length : Int)) = true := by rw [hl]; simp
    have HLL := Lib.hid hl
    rw [← hl] at hc2
    have H0 : Hid (sleq_isRel a b w (.int .i64 (0 : Nat)) w) := Lib.hid ⟨0, Nat.zero_le _, rfl, fun j _ _ h => by omega, Below.refl _ _⟩
    go_enter Tryd.func48, Tryd.ntmps48
    rw [← HLL.out]
    clear hl
    go_wp2_with fail
    go_loopw [13] (fun i wr => sleq_isRel a b w i wr) (fun i _ => a.length - (intOf i).toNat)
    case atStart => exact H0.out
    case round =>
      clear H0
      obtain ⟨k, hkl, rfl, hz, hbw⟩ := hrel
      have HZ := Lib.hid hz
      have HBW := Lib.hid hbw
      clear hz hbw
      by_cases hk : k < a.length
      · have j1 : (0 : Int) ≤ (k : Int) := by omega
        have j2 : (k : Int) < (a.length : Int) := by omega
        have j3 : decide ((k : Int) < (a.length : Int)) = true := decide_eq_true j2
        have hkb : k < b.length := by rw [← HLL.out]; exact hk
        obtain ⟨b1, o1, hbe, hb1, x0, x1, x2, x3, x4, x5, x6⟩ := RdCh.piece (RdP.next H1.out HBW.out) hk
        subst hbe
        obtain ⟨b2, o2, hbe, hb2, y0, y1, y2, y3, y4, y5, y6⟩ := RdCh.piece (RdP.next H2.out HBW.out) hkb
        subst hbe
        obtain ⟨x, hx⟩ : ∃ x, a[k] = x := ⟨_, rfl⟩
        obtain ⟨y, hy⟩ : ∃ y, b[k] = y := ⟨_, rfl⟩
        rw [hx] at x0 x1 x2 x3 x4 x5 x6
        rw [hy] at y0 y1 y2 y3 y4 y5 y6
        have HX := Lib.hid hx
        have HY := Lib.hid hy
        clear hx hy
        obtain ⟨bq, hbq⟩ : ∃ bq, decide (x = y) = bq := ⟨_, rfl⟩
        have he := fun W => neqCh x y bq hbq W
        have hg := guardCh
        unfold chV at he
        go_upto_region 6 with (fail)
        refine wp_region_noPanic ?_
        refine wp_region_held_drew (S := (fun (w' : World) => w'.cell? ⟨b1, o1 + k * 7, none⟩ = some (.int .i64 x.name.kind) ∧ w'.cell? ⟨b1, o1 + k * 7 + 1, none⟩ = some (.string (bs x.name.owner)) ∧ w'.cell? ⟨b1, o1 + k * 7 + 2, none⟩ = some (.int .i64 x.name.num) ∧ w'.cell? ⟨b1, o1 + k * 7 + 3, none⟩ = some (.int .i64 x.name.idx) ∧ w'.cell? ⟨b1, o1 + k * 7 + 4, none⟩ = some (.string (bs x.name.text)) ∧ w'.cell? ⟨b1, o1 + k * 7 + 5, none⟩ = some (.string (bs x.value)) ∧ w'.cell? ⟨b1, o1 + k * 7 + 6, none⟩ = some (.bool x.absent) ∧ w'.cell? ⟨b2, o2 + k * 7, none⟩ = some (.int .i64 y.name.kind) ∧ w'.cell? ⟨b2, o2 + k * 7 + 1, none⟩ = some (.string (bs y.name.owner)) ∧ w'.cell? ⟨b2, o2 + k * 7 + 2, none⟩ = some (.int .i64 y.name.num) ∧ w'.cell? ⟨b2, o2 + k * 7 + 3, none⟩ = some (.int .i64 y.name.idx) ∧ w'.cell? ⟨b2, o2 + k * 7 + 4, none⟩ = some (.string (bs y.name.text)) ∧ w'.cell? ⟨b2, o2 + k * 7 + 5, none⟩ = some (.string (bs y.value)) ∧ w'.cell? ⟨b2, o2 + k * 7 + 6, none⟩ = some (.bool y.absent))) (by kernel_rfl) ?_ (fun hHeld => ?_)
        · exact ⟨x0, x1, x2, x3, x4, x5, x6, y0, y1, y2, y3, y4, y5, y6⟩
        refine wpAnyH_take (i := 0) (v := ?_) rfl (by kernel_rfl) (by kernel_rfl) (by kernel_rfl) (fun _ _ _ h => h) (Or.inl ⟨by kernel_rfl, ?_⟩) hHeld ?_
        rotate_left
        · (intro w hSw; (try dsimp only at hSw); go_simp; try with_reducible rfl)
        try simp only [Act.put, List.setIfInBounds_toArray, List.set_cons_zero, List.set_cons_succ]
        refine wpAnyH_take (i := 1) (v := ?_) rfl (by kernel_rfl) (by kernel_rfl) (by kernel_rfl) (fun _ _ _ h => h) (Or.inl ⟨by kernel_rfl, ?_⟩) hHeld ?_
        rotate_left
        · (intro w hSw; (try dsimp only at hSw); go_simp; try with_reducible rfl)
        try simp only [Act.put, List.setIfInBounds_toArray, List.set_cons_zero, List.set_cons_succ]
        refine wpAnyH_take (i := 2) (v := ?_) rfl (by kernel_rfl) (by kernel_rfl) (by kernel_rfl) (fun _ _ _ h => h) (Or.inl ⟨by kernel_rfl, ?_⟩) hHeld ?_
        rotate_left
        · (intro w hSw; (try dsimp only at hSw); go_simp; try with_reducible rfl)
        try simp only [Act.put, List.setIfInBounds_toArray, List.set_cons_zero, List.set_cons_succ]
        refine wpAnyH_take (i := 3) (v := ?_) rfl (by kernel_rfl) (by kernel_rfl) (by kernel_rfl) (fun _ _ _ h => h) (Or.inl ⟨by kernel_rfl, ?_⟩) hHeld ?_
        rotate_left
        · (intro w hSw; (try dsimp only at hSw); go_simp; try with_reducible rfl)
        try simp only [Act.put, List.setIfInBounds_toArray, List.set_cons_zero, List.set_cons_succ]
        refine wpAnyH_take (i := 4) (v := ?_) rfl (by kernel_rfl) (by kernel_rfl) (by kernel_rfl) (fun _ _ _ h => h) (Or.inl ⟨by kernel_rfl, ?_⟩) hHeld ?_
        rotate_left
        · (intro w hSw; (try dsimp only at hSw); go_simp; try with_reducible rfl)
        try simp only [Act.put, List.setIfInBounds_toArray, List.set_cons_zero, List.set_cons_succ]
        refine wpAnyH_take (i := 5) (v := ?_) rfl (by kernel_rfl) (by kernel_rfl) (by kernel_rfl) (fun _ _ _ h => h) (Or.inl ⟨by kernel_rfl, ?_⟩) hHeld ?_
        rotate_left
        · (intro w hSw; (try dsimp only at hSw); go_simp; try with_reducible rfl)
        try simp only [Act.put, List.setIfInBounds_toArray, List.set_cons_zero, List.set_cons_succ]
        refine wpAnyH_take (i := 6) (v := ?_) rfl (by kernel_rfl) (by kernel_rfl) (by kernel_rfl) (fun _ _ _ h => h) (Or.inl ⟨by kernel_rfl, ?_⟩) hHeld ?_
        rotate_left
        · (intro w hSw; (try dsimp only at hSw); go_simp; try with_reducible rfl)
        try simp only [Act.put, List.setIfInBounds_toArray, List.set_cons_zero, List.set_cons_succ]
        refine wpAnyH_take (i := 7) (v := ?_) rfl (by kernel_rfl) (by kernel_rfl) (by kernel_rfl) (fun _ _ _ h => h) (Or.inl ⟨by kernel_rfl, ?_⟩) hHeld ?_
        rotate_left
        · (intro w hSw; (try dsimp only at hSw); go_simp; try with_reducible rfl)
        try simp only [Act.put, List.setIfInBounds_toArray, List.set_cons_zero, List.set_cons_succ]
        refine wpAnyH_take (i := 8) (v := ?_) rfl (by kernel_rfl) (by kernel_rfl) (by kernel_rfl) (fun _ _ _ h => h) (Or.inl ⟨by kernel_rfl, ?_⟩) hHeld ?_
        rotate_left
        · (intro w hSw; (try dsimp only at hSw); go_simp; try with_reducible rfl)
        try simp only [Act.put, List.setIfInBounds_toArray, List.set_cons_zero, List.set_cons_succ]
        refine wpAnyH_done (by kernel_rfl) ?_ _
        clear hHeld
        try simp only [List.getElem_toArray, List.getElem_cons_zero, List.getElem_cons_succ, Act.put, List.setIfInBounds_toArray, List.set_cons_zero, List.set_cons_succ]
        refine NoPanic.normal ?_
        cases bq with
        | true =>
          have HE := Lib.hid (of_decide_eq_true hbq)
          clear hbq
          go_wp2_with fail
          go_roundw
          case rel => exact ⟨k + 1, by omega, by go_num, fun j h1 h2 hjk => by
            by_cases e : j = k
            · subst e
              rw [HX.out, HY.out, HE.out]
            · exact HZ.out j h1 h2 (by omega), HBW.out.drew⟩
          case measure => simp [intOf]; omega
        | false =>
          have HE := Lib.hid (of_decide_eq_false hbq)
          clear hbq
          go_wp2_with fail
          go_ret
          have hne : ¬ a = b := fun e => HE.out (by rw [← HX.out, ← HY.out]; subst e; rfl)
          exact ⟨by rw [decide_eq_false hne]; rfl, HBW.out.drew⟩
      · have j3 : decide ((k : Int) < (a.length : Int)) = false := decide_eq_false (by omega)
        have HK := Lib.hid (show k = a.length by omega)
        go_wp2_with fail
        go_ret
        have he : a = b := List.ext_getElem HLL.out fun j h1 h2 => HZ.out j h1 h2 (by have := HK.out; omega)
        exact ⟨by rw [decide_eq_true he]; rfl, HBW.out⟩
  · have k1 : ((a.length : Int) == (b.length : Int)) = false := by rw [beq_eq_false_iff_ne]; omega
    have k2 : (a.length == b.length) = false := by rw [beq_eq_false_iff_ne]; omega
    have HE : Hid (¬ a = b) := Lib.hid fun e => hl (by rw [e])
    clear hl
    go_enter Tryd.func48, Tryd.ntmps48
    go_wp2_with fail
    go_ret
    exact ⟨by rw [decide_eq_false HE.out]; rfl, Below.refl _ _⟩
set_option maxRecDepth 100000 in
set_option maxHeartbeats 1000000 in
theorem aeq_is {w : World} {u1 u2 v1 v2 : Value} {a b : Ac} (ha1 : RdCh w u1 a.reads) (ha2 : RdCh w u2 a.writes) (hb1 : RdCh w v1 b.reads) (hb2 : RdCh w v2 b.writes) (la : a.reads.length ≤ 100000 ∧ a.writes.length ≤ 100000) (lb : b.reads.length ≤ 100000 ∧ b.writes.length ≤ 100000) :
    Calls Tryd.prog 22 #[.agg #[.int .i64 a.key.tick, .int .i64 a.key.cls, .int .i64 a.key.num, .string (bs a.key.lin), u1, u2], .agg #[.int .i64 b.key.tick, .int .i64 b.key.cls, .int .i64 b.key.num, .string (bs b.key.lin), v1, v2]] w fun e w' => e = .returned (.bool (decide (a = b))) ∧ Below w.heap.size w w' := by
  have hbd := ((Below.refl w.heap.size w).alloc (Nat.le_refl _) (.cells #[.int .i64 a.key.tick, .int .i64 a.key.cls, .int .i64 a.key.num, .string (bs a.key.lin), u1, u2] 50)).alloc (by simp) (.cells #[.int .i64 b.key.tick, .int .i64 b.key.cls, .int .i64 b.key.num, .string (bs b.key.lin), v1, v2] 50)
  have zx := (Blk.new w 50 #[.int .i64 a.key.tick, .int .i64 a.key.cls, .int .i64 a.key.num, .string (bs a.key.lin), u1, u2]).next ((Below.refl (w.alloc (.cells #[.int .i64 a.key.tick, .int .i64 a.key.cls, .int .i64 a.key.num, .string (bs a.key.lin), u1, u2] 50)).heap.size (w.alloc (.cells #[.int .i64 a.key.tick, .int .i64 a.key.cls, .int .i64 a.key.num, .string (bs a.key.lin), u1, u2] 50))).alloc (Nat.le_refl _) (.cells #[.int .i64 b.key.tick, .int .i64 b.key.cls, .int .i64 b.key.num, .string (bs b.key.lin), v1, v2] 50)) (Blk.new w 50 #[.int .i64 a.key.tick, .int .i64 a.key.cls, .int .i64 a.key.num, .string (bs a.key.lin), u1, u2]).lt
  have zy := Blk.new (w.alloc (.cells #[.int .i64 a.key.tick, .int .i64 a.key.cls, .int .i64 a.key.num, .string (bs a.key.lin), u1, u2] 50)) 50 #[.int .i64 b.key.tick, .int .i64 b.key.cls, .int .i64 b.key.num, .string (bs b.key.lin), v1, v2]
  rw [World.size_alloc] at zy
  have x0 := zx.cell 0
  have y0 := zy.cell 0
  have x1 := zx.cell 1
  have y1 := zy.cell 1
  have x2 := zx.cell 2
  have y2 := zy.cell 2
  have x3 := zx.cell 3
  have y3 := zy.cell 3
  have x4 := zx.cell 4
  have y4 := zy.cell 4
  have x5 := zx.cell 5
  have y5 := zy.cell 5
  simp only [List.getElem?_toArray, List.getElem?_cons_zero, List.getElem?_cons_succ] at x0 y0 x1 y1 x2 y2 x3 y3 x4 y4 x5 y5
  have g1l := zx.lt
  have g2l := zy.lt
  have HBD := Lib.hid hbd
  have A1 := Lib.hid (RdP.next ha1 hbd)
  have A2 := Lib.hid (RdP.next ha2 hbd)
  have B1 := Lib.hid (RdP.next hb1 hbd)
  have B2 := Lib.hid (RdP.next hb2 hbd)
  have EQ : Hid (decide (a = b) = (decide (a.key = b.key) && decide (a.reads = b.reads) && decide (a.writes = b.writes))) := Lib.hid (by
    obtain ⟨k1, r1, s1⟩ := a
    obtain ⟨k2, r2, s2⟩ := b
    simp [Ac.mk.injEq, Bool.and_assoc])
  rw [EQ.out]
  obtain ⟨kq, hkq⟩ : ∃ q, decide (a.key = b.key) = q := ⟨_, rfl⟩
  have he := fun W => eqlKy a.key b.key kq hkq W
  have hg := guardKy
  unfold kyV at he
  rw [hkq]
  obtain ⟨rq, hrq⟩ : ∃ q, decide (a.reads = b.reads) = q := ⟨_, rfl⟩
  obtain ⟨wq, hwq⟩ : ∃ q, decide (a.writes = b.writes) = q := ⟨_, rfl⟩
  rw [hrq, hwq]
  have HRQ := Lib.hid hrq
  have HWQ := Lib.hid hwq
  clear hrq hwq
  clear ha1 ha2 hb1 hb2 hbd zx zy hkq EQ
  go_enter Tryd.func22, Tryd.ntmps22
  go_upto_region 1 with (fail)
  generalize hg1 : w.heap.size = g1 at *
  have HG1 := Lib.hid hg1
  generalize (w.alloc (.cells #[.int .i64 a.key.tick, .int .i64 a.key.cls, .int .i64 a.key.num, .string (bs a.key.lin), u1, u2] 50)).alloc (.cells #[.int .i64 b.key.tick, .int .i64 b.key.cls, .int .i64 b.key.num, .string (bs b.key.lin), v1, v2] 50) = W at *
  clear hg1
  cases kq with
  | false =>
    go_wp2_with fail
    go_ret
    exact ⟨rfl, by rw [HG1.out]; exact HBD.out⟩
  | true =>
    have ONE : True := trivial
    cases rq with
    | false =>
      go_wp2_with (clear ONE; go_at_call 48; refine (sleq_is A1.out B1.out la.1 lb.1).mono ?_; rintro e w2 ⟨rfl, hb⟩; rw [HRQ.out]; have HB2 := Lib.hid (HBD.out.trans (hb.mono (Nat.le_of_lt g1l))); clear hb)
      go_ret
      exact ⟨rfl, by rw [HG1.out]; exact HB2.out⟩
    | true =>
      go_wp2_with (first
        | (clear ONE; go_at_call 48; refine (sleq_is A1.out B1.out la.1 lb.1).mono ?_; rintro e w2 ⟨rfl, hb⟩; rw [HRQ.out]; have HB2 := Lib.hid (HBD.out.trans (hb.mono (Nat.le_of_lt g1l))); have A2' := Lib.hid (RdP.next A2.out hb); have B2' := Lib.hid (RdP.next B2.out hb); replace x4 := (hb.cell (p := ⟨g1, 4, none⟩) g1l).trans x4; replace x5 := (hb.cell (p := ⟨g1, 5, none⟩) g1l).trans x5; replace y4 := (hb.cell (p := ⟨g1 + 1, 4, none⟩) g2l).trans y4; replace y5 := (hb.cell (p := ⟨g1 + 1, 5, none⟩) g2l).trans y5; replace g1l := Nat.lt_of_lt_of_le g1l hb.size; replace g2l := Nat.lt_of_lt_of_le g2l hb.size; clear hb)
        | (go_at_call 48; refine (sleq_is A2'.out B2'.out la.2 lb.2).mono ?_; rintro e w3 ⟨rfl, hb⟩; rw [HWQ.out]; have HB3 := Lib.hid (HB2.out.trans (hb.mono (Nat.le_of_lt g1l))); clear hb))
      go_ret
      exact ⟨rfl, by rw [HG1.out]; exact HB3.out⟩
end Go.Proofs.YtobkmkplhbaepaaDoor
