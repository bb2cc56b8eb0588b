/- Walks and plain facts, packed: Z6, Z7, Z8, Z9, Z10, Z11, Z12, Z13, Z14. -/
import Derived.Test.YtmjkcanjfjfkfaaGreatZV4
namespace Go.Proofs.YtmjkcanjfjfkfaaGreat
open Go.RowKit
set_option linter.unusedSimpArgs false
set_option linter.unusedVariables false
attribute [local go_sem ↓] Go.wp_at_zero Go.wp_at_succ
open Go.MapKept Go.ChangeMaps
theorem guardCh : Tryz.prog.eqGuardType Tryz.prog.depth 92 = false := by kernel_rfl
def eqch_isRel (a b : List Ch) (w : World) (i : Value) (wr : World) : Prop := ∃ k : Nat, k ≤ a.length ∧ i = .int .i64 k ∧ (∀ j (h1 : j < a.length) (h2 : j < b.length), j < k → a[j] = b[j]) ∧ Below w.heap.size w wr
set_option maxRecDepth 100000 in
theorem eqch_is {w : World} {v1 v2 : Value} {a b : List Ch} (h1 : RdCh w v1 a) (h2 : RdCh w v2 b) (l1 : a.length ≤ 100000) (l2 : b.length ≤ 100000) : Calls Tryz.prog 71 #[v1, v2] w fun e w' => e = .returned (.bool (decide (a = b))) ∧ Below w.heap.size w w' := by
  obtain ⟨A1, c1, rfl, hc1⟩ := RdP.form h1; obtain ⟨A2, c2, rfl, hc2⟩ := RdP.form h2; have H1 := Lib.hid h1; have H2 := Lib.hid h2; clear h1 h2
  by_cases hl : a.length = b.length
  · have k1 : ((a.length : Int) == (b.length : Int)) = true := by rw [hl]; simp
    have HLL := Lib.hid hl; rw [← hl] at hc2; have H0 : Hid (eqch_isRel a b w (.int .i64 (0 : Nat)) w) := Lib.hid ⟨0, Nat.zero_le _, rfl, fun j _ _ h => by omega, Below.refl _ _⟩
    go_enter Tryz.func71, Tryz.ntmps71
    rw [← HLL.out]; clear hl
    go_wp2_with fail
    go_loopw [13] (fun i wr => eqch_isRel a b w i wr) (fun i _ => a.length - (intOf i).toNat)
    case atStart => exact H0.out
    case round =>
      clear H0; obtain ⟨k, hkl, rfl, hz, hbw⟩ := hrel; have HZ := Lib.hid hz; have HBW := Lib.hid hbw; clear hz hbw
      by_cases hk : k < a.length
      · have j1 : (0 : Int) ≤ (k : Int) := by omega
        have j2 : (k : Int) < (a.length : Int) := by omega
        have j3 : decide ((k : Int) < (a.length : Int)) = true := decide_eq_true j2
        have hkb : k < b.length := by rw [← HLL.out]; exact hk
        obtain ⟨b1, o1, hbe, hb1, x0, x1, x2, x3, x4, x5, x6⟩ := RdCh.piece (RdP.next H1.out HBW.out) hk; subst hbe; obtain ⟨b2, o2, hbe, hb2, y0, y1, y2, y3, y4, y5, y6⟩ := RdCh.piece (RdP.next H2.out HBW.out) hkb; subst hbe; obtain ⟨x, hx⟩ : ∃ x, a[k] = x := ⟨_, rfl⟩; obtain ⟨y, hy⟩ : ∃ y, b[k] = y := ⟨_, rfl⟩; rw [hx] at x0 x1 x2 x3 x4 x5 x6; rw [hy] at y0 y1 y2 y3 y4 y5 y6; have HX := Lib.hid hx; have HY := Lib.hid hy; clear hx hy; obtain ⟨bq, hbq⟩ : ∃ bq, decide (x = y) = bq := ⟨_, rfl⟩
        have he := fun W => neqCh x y bq hbq W
        have hg := guardCh
        unfold chV at he
        go_upto_region 6 with (fail)
        refine wp_region_noPanic ?_
        refine wp_region_held_drew (S := (fun (w' : World) => w'.cell? ⟨b1, o1 + k * 7, none⟩ = some (.int .i64 x.name.kind) ∧ w'.cell? ⟨b1, o1 + k * 7 + 1, none⟩ = some (.string (bs x.name.owner)) ∧ w'.cell? ⟨b1, o1 + k * 7 + 2, none⟩ = some (.int .i64 x.name.num) ∧ w'.cell? ⟨b1, o1 + k * 7 + 3, none⟩ = some (.int .i64 x.name.idx) ∧ w'.cell? ⟨b1, o1 + k * 7 + 4, none⟩ = some (.string (bs x.name.text)) ∧ w'.cell? ⟨b1, o1 + k * 7 + 5, none⟩ = some (.string (bs x.value)) ∧ w'.cell? ⟨b1, o1 + k * 7 + 6, none⟩ = some (.bool x.absent) ∧ w'.cell? ⟨b2, o2 + k * 7, none⟩ = some (.int .i64 y.name.kind) ∧ w'.cell? ⟨b2, o2 + k * 7 + 1, none⟩ = some (.string (bs y.name.owner)) ∧ w'.cell? ⟨b2, o2 + k * 7 + 2, none⟩ = some (.int .i64 y.name.num) ∧ w'.cell? ⟨b2, o2 + k * 7 + 3, none⟩ = some (.int .i64 y.name.idx) ∧ w'.cell? ⟨b2, o2 + k * 7 + 4, none⟩ = some (.string (bs y.name.text)) ∧ w'.cell? ⟨b2, o2 + k * 7 + 5, none⟩ = some (.string (bs y.value)) ∧ w'.cell? ⟨b2, o2 + k * 7 + 6, none⟩ = some (.bool y.absent))) (by kernel_rfl) ?_ (fun hHeld => ?_)
        · exact ⟨x0, x1, x2, x3, x4, x5, x6, y0, y1, y2, y3, y4, y5, y6⟩
        refine tk (v := ?_) 0 rfl (by kernel_rfl) (fun _ _ _ h => h) ?_ hHeld ?_; rotate_left
        · (intro w h; (try dsimp only at h); go_simp; try with_reducible rfl)
        try simp only [Act.put, pB, pC, pD]
        refine tk (v := ?_) 1 rfl (by kernel_rfl) (fun _ _ _ h => h) ?_ hHeld ?_; rotate_left
        · (intro w h; (try dsimp only at h); go_simp; try with_reducible rfl)
        try simp only [Act.put, pB, pC, pD]
        refine tk (v := ?_) 2 rfl (by kernel_rfl) (fun _ _ _ h => h) ?_ hHeld ?_; rotate_left
        · (intro w h; (try dsimp only at h); go_simp; try with_reducible rfl)
        try simp only [Act.put, pB, pC, pD]
        refine tk (v := ?_) 3 rfl (by kernel_rfl) (fun _ _ _ h => h) ?_ hHeld ?_; rotate_left
        · (intro w h; (try dsimp only at h); go_simp; try with_reducible rfl)
        try simp only [Act.put, pB, pC, pD]
        refine tk (v := ?_) 4 rfl (by kernel_rfl) (fun _ _ _ h => h) ?_ hHeld ?_; rotate_left
        · (intro w h; (try dsimp only at h); go_simp; try with_reducible rfl)
        try simp only [Act.put, pB, pC, pD]
        refine tk (v := ?_) 5 rfl (by kernel_rfl) (fun _ _ _ h => h) ?_ hHeld ?_; rotate_left
        · (intro w h; (try dsimp only at h); go_simp; try with_reducible rfl)
        try simp only [Act.put, pB, pC, pD]
        refine tk (v := ?_) 6 rfl (by kernel_rfl) (fun _ _ _ h => h) ?_ hHeld ?_; rotate_left
        · (intro w h; (try dsimp only at h); go_simp; try with_reducible rfl)
        try simp only [Act.put, pB, pC, pD]
        refine tk (v := ?_) 7 rfl (by kernel_rfl) (fun _ _ _ h => h) ?_ hHeld ?_; rotate_left
        · (intro w h; (try dsimp only at h); go_simp; try with_reducible rfl)
        try simp only [Act.put, pB, pC, pD]
        refine tk (v := ?_) 8 rfl (by kernel_rfl) (fun _ _ _ h => h) ?_ hHeld ?_; rotate_left
        · (intro w h; (try dsimp only at h); go_simp; try with_reducible rfl)
        try simp only [Act.put, pB, pC, pD]
        refine wpAnyH_done (by kernel_rfl) ?_ _; clear hHeld
        try simp only [List.getElem_toArray, List.getElem_cons_zero, List.getElem_cons_succ, Act.put, pB, pC, pD]
        refine NoPanic.normal ?_
        cases bq with
        | true =>
          have HE := Lib.hid (of_decide_eq_true hbq); clear hbq
          go_wp2_with fail
          go_roundw
          case rel => exact ⟨k + 1, by omega, by go_num, fun j h1 h2 hjk => by
            by_cases e : j = k
            · subst e
              rw [HX.out, HY.out, HE.out]
            · exact HZ.out j h1 h2 (by omega), HBW.out.drew⟩
          case measure => simp [intOf]; omega
        | false =>
          have HE := Lib.hid (of_decide_eq_false hbq); clear hbq
          go_wp2_with fail
          go_ret
          have hne : ¬ a = b := fun e => HE.out (by rw [← HX.out, ← HY.out]; subst e; rfl)
          exact ⟨by rw [decide_eq_false hne]; rfl, HBW.out.drew⟩
      · have j3 : decide ((k : Int) < (a.length : Int)) = false := decide_eq_false (by omega)
        have HK := Lib.hid (show k = a.length by omega)
        go_wp2_with fail
        go_ret
        have he : a = b := List.ext_getElem HLL.out fun j h1 h2 => HZ.out j h1 h2 (by have := HK.out; omega)
        exact ⟨by rw [decide_eq_true he]; rfl, HBW.out⟩
  · have k1 : ((a.length : Int) == (b.length : Int)) = false := by rw [beq_eq_false_iff_ne]; omega
    have k2 : (a.length == b.length) = false := by rw [beq_eq_false_iff_ne]; omega
    have HE : Hid (¬ a = b) := Lib.hid fun e => hl (by rw [e])
    clear hl
    go_enter Tryz.func71, Tryz.ntmps71
    go_wp2_with fail
    go_ret
    exact ⟨by rw [decide_eq_false HE.out]; rfl, Below.refl _ _⟩
def rsC (x : Rs) : List Value := [.int .i64 x.key.tick, .int .i64 x.key.cls, .int .i64 x.key.num, .string (bs x.key.lin), .int .i64 x.kind, .int .i64 x.name.kind, .string (bs x.name.owner), .int .i64 x.name.num, .int .i64 x.name.idx, .string (bs x.name.text)]
def rsV (x : Rs) : Value := .agg #[.int .i64 x.key.tick, .int .i64 x.key.cls, .int .i64 x.key.num, .string (bs x.key.lin), .int .i64 x.kind, .int .i64 x.name.kind, .string (bs x.name.owner), .int .i64 x.name.num, .int .i64 x.name.idx, .string (bs x.name.text)]
theorem rsC_len (x : Rs) : (rsC x).length = 10 := rfl
abbrev RdRs (w : World) (v : Value) (l : List Rs) : Prop := RdP 47 rsC w v l
theorem RdRs.piece {w : World} {A : Option Addr} {n c : Nat} {l : List Rs} (h : RdRs w (.slice A n c) l) {k : Nat} (hk : k < l.length) : ∃ b o, A = some ⟨b, o, none⟩ ∧ b < w.heap.size ∧ w.cell? ⟨b, o + k * 10, none⟩ = some (.int .i64 l[k].key.tick) ∧ w.cell? ⟨b, o + k * 10 + 1, none⟩ = some (.int .i64 l[k].key.cls) ∧ w.cell? ⟨b, o + k * 10 + 2, none⟩ = some (.int .i64 l[k].key.num) ∧ w.cell? ⟨b, o + k * 10 + 3, none⟩ = some (.string (bs l[k].key.lin)) ∧ w.cell? ⟨b, o + k * 10 + 4, none⟩ = some (.int .i64 l[k].kind) ∧ w.cell? ⟨b, o + k * 10 + 5, none⟩ = some (.int .i64 l[k].name.kind) ∧ w.cell? ⟨b, o + k * 10 + 6, none⟩ = some (.string (bs l[k].name.owner)) ∧ w.cell? ⟨b, o + k * 10 + 7, none⟩ = some (.int .i64 l[k].name.num) ∧ w.cell? ⟨b, o + k * 10 + 8, none⟩ = some (.int .i64 l[k].name.idx) ∧ w.cell? ⟨b, o + k * 10 + 9, none⟩ = some (.string (bs l[k].name.text)) := by
  obtain ⟨b, o, e, hb, hc⟩ := RdP.at_ h rsC_len hk
  exact ⟨b, o, e, hb, hc 0 _ rfl, hc 1 _ rfl, hc 2 _ rfl, hc 3 _ rfl, hc 4 _ rfl, hc 5 _ rfl, hc 6 _ rfl, hc 7 _ rfl, hc 8 _ rfl, hc 9 _ rfl⟩
set_option maxRecDepth 100000 in
set_option maxHeartbeats 4000000 in
theorem eqRs (a0 b0 : Int) (a1 b1 : Int) (a2 b2 : Int) (a3 b3 : ByteArray) (a4 b4 : Int) (a5 b5 : Int) (a6 b6 : ByteArray) (a7 b7 : Int) (a8 b8 : Int) (a9 b9 : ByteArray) (w : World) : (Op.equalIn 10000 47 (.agg #[.int .i64 a0, .int .i64 a1, .int .i64 a2, .string a3, .int .i64 a4, .int .i64 a5, .string a6, .int .i64 a7, .int .i64 a8, .string a9]) (.agg #[.int .i64 b0, .int .i64 b1, .int .i64 b2, .string b3, .int .i64 b4, .int .i64 b5, .string b6, .int .i64 b7, .int .i64 b8, .string b9])).run Tryz.prog w = .ok ((a0 == b0 && a1 == b1 && a2 == b2 && a3.toList == b3.toList) && a4 == b4 && (a5 == b5 && a6.toList == b6.toList && a7 == b7 && a8 == b8 && a9.toList == b9.toList)) w := by
  have u1 := Tryz.underlying3; have u2 := Tryz.underlying9; have u3 := Tryz.underlying4; have u4 := Tryz.underlying33
  have hS : Tryz.prog.underlying 47 = some (.struct (Tryz.prog.fieldsOf 47)) := by kernel_rfl
  have hp : Tryz.prog.stoodInHeld 47 = false := by kernel_rfl
  rw [show (10000 : Nat) = 9999 + 1 from rfl, run_equalIn_agg w 9999 47 _ _ hS hp]
  simp only [Program.fieldsOf, Tryz.underlying47]
  go_simp
  rcases Decidable.em (a0 = b0) with h0 | h0; rotate_left
  · simp [h0]
  rcases Decidable.em (a1 = b1) with h1 | h1; rotate_left
  · simp [h1]
  rcases Decidable.em (a2 = b2) with h2 | h2; rotate_left
  · simp [h2]
  rcases Decidable.em (a3.toList = b3.toList) with h3 | h3; rotate_left
  · simp [h3]
  rcases Decidable.em (a4 = b4) with h4 | h4; rotate_left
  · simp [h4]
  rcases Decidable.em (a5 = b5) with h5 | h5; rotate_left
  · simp [h5]
  rcases Decidable.em (a6.toList = b6.toList) with h6 | h6; rotate_left
  · simp [h6]
  rcases Decidable.em (a7 = b7) with h7 | h7; rotate_left
  · simp [h7]
  rcases Decidable.em (a8 = b8) with h8 | h8; rotate_left
  · simp [h8]
  rcases Decidable.em (a9.toList = b9.toList) with h9 | h9; rotate_left
  · simp [h9]
  simp [h0, h1, h2, h3, h4, h5, h6, h7, h8, h9]
theorem guardRs : Tryz.prog.eqGuardType Tryz.prog.depth 47 = false := by kernel_rfl
theorem rs_dec (p q : Rs) : decide (p = q) = ((p.key.tick == q.key.tick && p.key.cls == q.key.cls && p.key.num == q.key.num && p.key.lin == q.key.lin) && p.kind == q.kind && (p.name.kind == q.name.kind && p.name.owner == q.name.owner && p.name.num == q.name.num && p.name.idx == q.name.idx && p.name.text == q.name.text)) := by
  obtain ⟨⟨t, c, m, l⟩, f, ⟨k, o, n, i, x⟩⟩ := p; obtain ⟨⟨t2, c2, m2, l2⟩, f2, ⟨k2, o2, n2, i2, x2⟩⟩ := q
  simp [bool_dec, beq_dec, Bool.and_assoc]
theorem neqRs (p q : Rs) (b : Bool) (hb : decide (p = q) = b) (w : World) : (binOp .neq 47 (rsV p) (rsV q)).run Tryz.prog w = .ok (.bool (!b)) w := by
  subst hb
  unfold rsV
  rw [run_neq_struct, eqRs, rs_dec]
  simp only [bs_tl]
  rfl
def eqrs_isRel (a b : List Rs) (w : World) (i : Value) (wr : World) : Prop := ∃ k : Nat, k ≤ a.length ∧ i = .int .i64 k ∧ (∀ j (h1 : j < a.length) (h2 : j < b.length), j < k → a[j] = b[j]) ∧ Below w.heap.size w wr
set_option maxRecDepth 100000 in
theorem eqrs_is {w : World} {v1 v2 : Value} {a b : List Rs} (h1 : RdRs w v1 a) (h2 : RdRs w v2 b) (l1 : a.length ≤ 100000) (l2 : b.length ≤ 100000) : Calls Tryz.prog 9 #[v1, v2] w fun e w' => e = .returned (.bool (decide (a = b))) ∧ Below w.heap.size w w' := by
  obtain ⟨A1, c1, rfl, hc1⟩ := RdP.form h1; obtain ⟨A2, c2, rfl, hc2⟩ := RdP.form h2; have H1 := Lib.hid h1; have H2 := Lib.hid h2; clear h1 h2
  by_cases hl : a.length = b.length
  · have k1 : ((a.length : Int) == (b.length : Int)) = true := by rw [hl]; simp
    have HLL := Lib.hid hl; rw [← hl] at hc2; have H0 : Hid (eqrs_isRel a b w (.int .i64 (0 : Nat)) w) := Lib.hid ⟨0, Nat.zero_le _, rfl, fun j _ _ h => by omega, Below.refl _ _⟩
    go_enter Tryz.func9, Tryz.ntmps9
    rw [← HLL.out]; clear hl
    go_wp2_with fail
    go_loopw [13] (fun i wr => eqrs_isRel a b w i wr) (fun i _ => a.length - (intOf i).toNat)
    case atStart => exact H0.out
    case round =>
      clear H0; obtain ⟨k, hkl, rfl, hz, hbw⟩ := hrel; have HZ := Lib.hid hz; have HBW := Lib.hid hbw; clear hz hbw
      by_cases hk : k < a.length
      · have j1 : (0 : Int) ≤ (k : Int) := by omega
        have j2 : (k : Int) < (a.length : Int) := by omega
        have j3 : decide ((k : Int) < (a.length : Int)) = true := decide_eq_true j2
        have hkb : k < b.length := by rw [← HLL.out]; exact hk
        obtain ⟨b1, o1, hbe, hb1, x0, x1, x2, x3, x4, x5, x6, x7, x8, x9⟩ := RdRs.piece (RdP.next H1.out HBW.out) hk; subst hbe; obtain ⟨b2, o2, hbe, hb2, y0, y1, y2, y3, y4, y5, y6, y7, y8, y9⟩ := RdRs.piece (RdP.next H2.out HBW.out) hkb; subst hbe; obtain ⟨x, hx⟩ : ∃ x, a[k] = x := ⟨_, rfl⟩; obtain ⟨y, hy⟩ : ∃ y, b[k] = y := ⟨_, rfl⟩; rw [hx] at x0 x1 x2 x3 x4 x5 x6 x7 x8 x9; rw [hy] at y0 y1 y2 y3 y4 y5 y6 y7 y8 y9; have HX := Lib.hid hx; have HY := Lib.hid hy; clear hx hy; obtain ⟨bq, hbq⟩ : ∃ bq, decide (x = y) = bq := ⟨_, rfl⟩
        have he := fun W => neqRs x y bq hbq W
        have hg := guardRs
        unfold rsV at he
        go_upto_region 6 with (fail)
        refine wp_region_noPanic ?_
        refine wp_region_held_drew (S := (fun (w' : World) => w'.cell? ⟨b1, o1 + k * 10, none⟩ = some (.int .i64 x.key.tick) ∧ w'.cell? ⟨b1, o1 + k * 10 + 1, none⟩ = some (.int .i64 x.key.cls) ∧ w'.cell? ⟨b1, o1 + k * 10 + 2, none⟩ = some (.int .i64 x.key.num) ∧ w'.cell? ⟨b1, o1 + k * 10 + 3, none⟩ = some (.string (bs x.key.lin)) ∧ w'.cell? ⟨b1, o1 + k * 10 + 4, none⟩ = some (.int .i64 x.kind) ∧ w'.cell? ⟨b1, o1 + k * 10 + 5, none⟩ = some (.int .i64 x.name.kind) ∧ w'.cell? ⟨b1, o1 + k * 10 + 6, none⟩ = some (.string (bs x.name.owner)) ∧ w'.cell? ⟨b1, o1 + k * 10 + 7, none⟩ = some (.int .i64 x.name.num) ∧ w'.cell? ⟨b1, o1 + k * 10 + 8, none⟩ = some (.int .i64 x.name.idx) ∧ w'.cell? ⟨b1, o1 + k * 10 + 9, none⟩ = some (.string (bs x.name.text)) ∧ w'.cell? ⟨b2, o2 + k * 10, none⟩ = some (.int .i64 y.key.tick) ∧ w'.cell? ⟨b2, o2 + k * 10 + 1, none⟩ = some (.int .i64 y.key.cls) ∧ w'.cell? ⟨b2, o2 + k * 10 + 2, none⟩ = some (.int .i64 y.key.num) ∧ w'.cell? ⟨b2, o2 + k * 10 + 3, none⟩ = some (.string (bs y.key.lin)) ∧ w'.cell? ⟨b2, o2 + k * 10 + 4, none⟩ = some (.int .i64 y.kind) ∧ w'.cell? ⟨b2, o2 + k * 10 + 5, none⟩ = some (.int .i64 y.name.kind) ∧ w'.cell? ⟨b2, o2 + k * 10 + 6, none⟩ = some (.string (bs y.name.owner)) ∧ w'.cell? ⟨b2, o2 + k * 10 + 7, none⟩ = some (.int .i64 y.name.num) ∧ w'.cell? ⟨b2, o2 + k * 10 + 8, none⟩ = some (.int .i64 y.name.idx) ∧ w'.cell? ⟨b2, o2 + k * 10 + 9, none⟩ = some (.string (bs y.name.text)))) (by kernel_rfl) ?_ (fun hHeld => ?_)
        · exact ⟨x0, x1, x2, x3, x4, x5, x6, x7, x8, x9, y0, y1, y2, y3, y4, y5, y6, y7, y8, y9⟩
        refine tk (v := ?_) 0 rfl (by kernel_rfl) (fun _ _ _ h => h) ?_ hHeld ?_; rotate_left
        · (intro w h; (try dsimp only at h); go_simp; try with_reducible rfl)
        try simp only [Act.put, pB, pC, pD]
        refine tk (v := ?_) 1 rfl (by kernel_rfl) (fun _ _ _ h => h) ?_ hHeld ?_; rotate_left
        · (intro w h; (try dsimp only at h); go_simp; try with_reducible rfl)
        try simp only [Act.put, pB, pC, pD]
        refine tk (v := ?_) 2 rfl (by kernel_rfl) (fun _ _ _ h => h) ?_ hHeld ?_; rotate_left
        · (intro w h; (try dsimp only at h); go_simp; try with_reducible rfl)
        try simp only [Act.put, pB, pC, pD]
        refine tk (v := ?_) 3 rfl (by kernel_rfl) (fun _ _ _ h => h) ?_ hHeld ?_; rotate_left
        · (intro w h; (try dsimp only at h); go_simp; try with_reducible rfl)
        try simp only [Act.put, pB, pC, pD]
        refine tk (v := ?_) 4 rfl (by kernel_rfl) (fun _ _ _ h => h) ?_ hHeld ?_; rotate_left
        · (intro w h; (try dsimp only at h); go_simp; try with_reducible rfl)
        try simp only [Act.put, pB, pC, pD]
        refine tk (v := ?_) 5 rfl (by kernel_rfl) (fun _ _ _ h => h) ?_ hHeld ?_; rotate_left
        · (intro w h; (try dsimp only at h); go_simp; try with_reducible rfl)
        try simp only [Act.put, pB, pC, pD]
        refine tk (v := ?_) 6 rfl (by kernel_rfl) (fun _ _ _ h => h) ?_ hHeld ?_; rotate_left
        · (intro w h; (try dsimp only at h); go_simp; try with_reducible rfl)
        try simp only [Act.put, pB, pC, pD]
        refine tk (v := ?_) 7 rfl (by kernel_rfl) (fun _ _ _ h => h) ?_ hHeld ?_; rotate_left
        · (intro w h; (try dsimp only at h); go_simp; try with_reducible rfl)
        try simp only [Act.put, pB, pC, pD]
        refine tk (v := ?_) 8 rfl (by kernel_rfl) (fun _ _ _ h => h) ?_ hHeld ?_; rotate_left
        · (intro w h; (try dsimp only at h); go_simp; try with_reducible rfl)
        try simp only [Act.put, pB, pC, pD]
        refine wpAnyH_done (by kernel_rfl) ?_ _; clear hHeld
        try simp only [List.getElem_toArray, List.getElem_cons_zero, List.getElem_cons_succ, Act.put, pB, pC, pD]
        refine NoPanic.normal ?_
        cases bq with
        | true =>
          have HE := Lib.hid (of_decide_eq_true hbq); clear hbq
          go_wp2_with fail
          go_roundw
          case rel => exact ⟨k + 1, by omega, by go_num, fun j h1 h2 hjk => by
            by_cases e : j = k
            · subst e
              rw [HX.out, HY.out, HE.out]
            · exact HZ.out j h1 h2 (by omega), HBW.out.drew⟩
          case measure => simp [intOf]; omega
        | false =>
          have HE := Lib.hid (of_decide_eq_false hbq); clear hbq
          go_wp2_with fail
          go_ret
          have hne : ¬ a = b := fun e => HE.out (by rw [← HX.out, ← HY.out]; subst e; rfl)
          exact ⟨by rw [decide_eq_false hne]; rfl, HBW.out.drew⟩
      · have j3 : decide ((k : Int) < (a.length : Int)) = false := decide_eq_false (by omega)
        have HK := Lib.hid (show k = a.length by omega)
        go_wp2_with fail
        go_ret
        have he : a = b := List.ext_getElem HLL.out fun j h1 h2 => HZ.out j h1 h2 (by have := HK.out; omega)
        exact ⟨by rw [decide_eq_true he]; rfl, HBW.out⟩
  · have k1 : ((a.length : Int) == (b.length : Int)) = false := by rw [beq_eq_false_iff_ne]; omega
    have k2 : (a.length == b.length) = false := by rw [beq_eq_false_iff_ne]; omega
    have HE : Hid (¬ a = b) := Lib.hid fun e => hl (by rw [e])
    clear hl
    go_enter Tryz.func9, Tryz.ntmps9
    go_wp2_with fail
    go_ret
    exact ⟨by rw [decide_eq_false HE.out]; rfl, Below.refl _ _⟩
theorem set10z_ {w : World} {g : Nat} {t : TypeId} {z0 z1 z2 z3 z4 z5 z6 z7 z8 z9 : Value} (v0 v1 v2 v3 v4 v5 v6 v7 v8 v9 : Value) (h : Blk w g t #[z0, z1, z2, z3, z4, z5, z6, z7, z8, z9]) : Blk ((((((((((w.setCell ⟨g, 0, none⟩ (v0)).setCell ⟨g, 1, none⟩ (v1)).setCell ⟨g, 2, none⟩ (v2)).setCell ⟨g, 3, none⟩ (v3)).setCell ⟨g, 4, none⟩ (v4)).setCell ⟨g, 5, none⟩ (v5)).setCell ⟨g, 6, none⟩ (v6)).setCell ⟨g, 7, none⟩ (v7)).setCell ⟨g, 8, none⟩ (v8)).setCell ⟨g, 9, none⟩ (v9)) g t #[v0, v1, v2, v3, v4, v5, v6, v7, v8, v9] := by
  have := ((((((((((h.set_ 0 v0).set_ 1 v1).set_ 2 v2).set_ 3 v3).set_ 4 v4).set_ 5 v5).set_ 6 v6).set_ 7 v7).set_ 8 v8).set_ 9 v9)
  simpa using this
theorem low10z_ {B : Nat} {w0 w : World} {g : Nat} (v0 v1 v2 v3 v4 v5 v6 v7 v8 v9 : Value) (h : Below B w0 w) (hg : B ≤ g) : Below B w0 ((((((((((w.setCell ⟨g, 0, none⟩ (v0)).setCell ⟨g, 1, none⟩ (v1)).setCell ⟨g, 2, none⟩ (v2)).setCell ⟨g, 3, none⟩ (v3)).setCell ⟨g, 4, none⟩ (v4)).setCell ⟨g, 5, none⟩ (v5)).setCell ⟨g, 6, none⟩ (v6)).setCell ⟨g, 7, none⟩ (v7)).setCell ⟨g, 8, none⟩ (v8)).setCell ⟨g, 9, none⟩ (v9)) :=
  ((((((((((h.setCell (p := ⟨g, 0, none⟩) hg v0).setCell (p := ⟨g, 1, none⟩) hg v1).setCell (p := ⟨g, 2, none⟩) hg v2).setCell (p := ⟨g, 3, none⟩) hg v3).setCell (p := ⟨g, 4, none⟩) hg v4).setCell (p := ⟨g, 5, none⟩) hg v5).setCell (p := ⟨g, 6, none⟩) hg v6).setCell (p := ⟨g, 7, none⟩) hg v7).setCell (p := ⟨g, 8, none⟩) hg v8).setCell (p := ⟨g, 9, none⟩) hg v9)
theorem setNz_ {w : World} {g : Nat} {t : TypeId} {z0 z1 z2 z3 z4 z5 z6 z7 z8 z9 : Value} (v0 v1 v2 v3 v4 : Value) (h : Blk w g t #[z0, z1, z2, z3, z4, z5, z6, z7, z8, z9]) : Blk (((((w.setCell ⟨g, 5, none⟩ (v0)).setCell ⟨g, 6, none⟩ (v1)).setCell ⟨g, 7, none⟩ (v2)).setCell ⟨g, 8, none⟩ (v3)).setCell ⟨g, 9, none⟩ (v4)) g t #[z0, z1, z2, z3, z4, v0, v1, v2, v3, v4] := by
  have := (((((h.set_ 5 v0).set_ 6 v1).set_ 7 v2).set_ 8 v3).set_ 9 v4)
  simpa using this
theorem lowNz_ {B : Nat} {w0 w : World} {g : Nat} (v0 v1 v2 v3 v4 : Value) (h : Below B w0 w) (hg : B ≤ g) : Below B w0 (((((w.setCell ⟨g, 5, none⟩ (v0)).setCell ⟨g, 6, none⟩ (v1)).setCell ⟨g, 7, none⟩ (v2)).setCell ⟨g, 8, none⟩ (v3)).setCell ⟨g, 9, none⟩ (v4)) :=
  (((((h.setCell (p := ⟨g, 5, none⟩) hg v0).setCell (p := ⟨g, 6, none⟩) hg v1).setCell (p := ⟨g, 7, none⟩) hg v2).setCell (p := ⟨g, 8, none⟩) hg v3).setCell (p := ⟨g, 9, none⟩) hg v4)
theorem kpNz_ {w : World} {g b : Nat} {t : TypeId} {cs : Array Value} (v0 v1 v2 v3 v4 : Value) (h : Blk w b t cs) (hne : b ≠ g) : Blk (((((w.setCell ⟨g, 5, none⟩ (v0)).setCell ⟨g, 6, none⟩ (v1)).setCell ⟨g, 7, none⟩ (v2)).setCell ⟨g, 8, none⟩ (v3)).setCell ⟨g, 9, none⟩ (v4)) b t cs :=
  h.grown (only_setCell (only_setCell (only_setCell (only_setCell (only_setCell (only_of_below (Below.refl w.heap.size w) (some g)) (.inl rfl) _) (.inl rfl) _) (.inl rfl) _) (.inl rfl) _) (.inl rfl) _) (fun e => hne (by injection e))
def epN : Nm := ⟨20, [], 0, 0, []⟩
theorem ofepoch_is (w : World) : Calls Tryz.prog 33 #[] w fun e w' => e = .returned (nmV epN) ∧ Below w.heap.size w w' := by
  go_enter Tryz.func33, Tryz.ntmps33
  go_wp2
  exact bodyPost_ret (v := nmV epN) (by simp [results, Tryz.results33, go_sem, nmV, nmA, epN, bs]) rfl ⟨rfl, (Below.refl _ _).alloc (Nat.le_refl _) _⟩
theorem lwr_ep {l : List Ac} (h : RunOk l) (k : Ky) : lwr l epN k = -1 := by
  unfold lwr
  rcases wrB_spec l epN (befK l k) with ⟨h1, _⟩ | ⟨i, h1, h2, h3, _⟩
  · exact h1
  · exfalso
    have hl := befK_le l k
    unfold hasW at h3
    rw [List.getElem?_eq_getElem (by omega)] at h3; obtain ⟨c, hc, hn⟩ := List.any_eq_true.1 h3; have hob := ((h.r _ (List.getElem_mem (show i < l.length by omega))).2.2.1 c hc); have hn := of_decide_eq_true hn
    rcases hob.1 with h | h
    · rw [hn] at h
      exact absurd (show epN ∈ objs from h) (by decide)
    · rw [hn] at h
      exact absurd h (by decide)
theorem vdf_ep {a b : List Ac} (ha : RunOk a) (hb : RunOk b) (k : Ky) : vdf a b epN k = false := by
  unfold vdf
  rw [lwr_ep ha, lwr_ep hb, if_pos (.inl (by decide))]
  rfl
def alRel (a b : List Ac) (k : Ky) (kind : Int) (w2 : World) (rb qb : Nat) (i : Value) (wr : World) : Prop := ∃ j : Nat, j ≤ 2 ∧ i = .int .i64 (j : Int) ∧ (0 < j → alo a b k kind = ⟨k, kind, nm0⟩) ∧ Blk wr rb 47 #[.int .i64 0, .int .i64 0, .int .i64 0, .string ⟨#[]⟩, .int .i64 0, .int .i64 0, .string ⟨#[]⟩, .int .i64 0, .int .i64 0, .string ⟨#[]⟩] ∧ Blk wr qb 47 #[.int .i64 k.tick, .int .i64 k.cls, .int .i64 k.num, .string (bs k.lin), .int .i64 kind, .int .i64 0, .string ⟨#[]⟩, .int .i64 0, .int .i64 0, .string ⟨#[]⟩] ∧ Below w2.heap.size w2 wr
set_option maxRecDepth 100000 in
set_option maxHeartbeats 4000000 in
theorem alone_is {w : World} {va ma vb mb : Value} {B : Nat} {a b : List Ac} {k : Ky} (kind : Int) (ha : RunAt w B va ma a) (hb : RunAt w B vb mb b) (oa : RunOk a) (ob : RunOk b) (hk : k.lin ∈ lin5) :
    Calls Tryz.prog 52 #[.agg #[va, ma, vb, mb], kyV k, .int .i64 kind] w fun e w' => e = .returned (rsV (alo a b k kind)) ∧ Below w.heap.size w w' := by
  obtain ⟨A1, c1, hva, hc1⟩ := RowRd.form ha.1; subst hva; obtain ⟨A2, c2, hvb, hc2⟩ := RowRd.form hb.1; subst hvb; have hal := oa.len; have hbl := ob.len
  obtain ⟨ta, hma⟩ : ∃ ta, ma = .map (some ta) := ha.2.imp fun _ h => h.1
  subst hma
  obtain ⟨tb, hmb⟩ : ∃ tb, mb = .map (some tb) := hb.2.imp fun _ h => h.1
  subst hmb; have b0 := Below.refl w.heap.size w; have b1 := b0.alloc b0.size (.cells #[.slice A1 a.length c1, .map (some ta), .slice A2 b.length c2, .map (some tb)] 85); have b2 := b1.alloc b1.size (.cells #[.int .i64 k.tick, .int .i64 k.cls, .int .i64 k.num, .string (bs k.lin)] 35); have z0 := ((Blk.new w 85 #[.slice A1 a.length c1, .map (some ta), .slice A2 b.length c2, .map (some tb)]).alloc (.cells #[.int .i64 k.tick, .int .i64 k.cls, .int .i64 k.num, .string (bs k.lin)] 35)); have z1 := (Blk.newE (w.alloc (.cells #[.slice A1 a.length c1, .map (some ta), .slice A2 b.length c2, .map (some tb)] 85)) 35 #[.int .i64 k.tick, .int .i64 k.cls, .int .i64 k.num, .string (bs k.lin)] (w.heap.size + 1) (by simp)); have p0 := z0.cell 0; have p1 := z0.cell 1; have p2 := z0.cell 2; have p3 := z0.cell 3; simp only [qB, qC, qD] at p0 p1 p2 p3; have k0 := z1.cell 0; have k1 := z1.cell 1; have k2 := z1.cell 2; have k3 := z1.cell 3; simp only [qB, qC, qD] at k0 k1 k2 k3; have HYY := Lib.hid (fun (W : World) (hW : Below ((w.alloc (.cells #[.slice A1 a.length c1, .map (some ta), .slice A2 b.length c2, .map (some tb)] 85)).alloc (.cells #[.int .i64 k.tick, .int .i64 k.cls, .int .i64 k.num, .string (bs k.lin)] 35)).heap.size ((w.alloc (.cells #[.slice A1 a.length c1, .map (some ta), .slice A2 b.length c2, .map (some tb)] 85)).alloc (.cells #[.int .i64 k.tick, .int .i64 k.cls, .int .i64 k.num, .string (bs k.lin)] 35)) W) => show W.cell? ⟨w.heap.size, 0, none⟩ = some (.slice A1 a.length c1) ∧ W.cell? ⟨w.heap.size, 1, none⟩ = some (.map (some ta)) ∧ W.cell? ⟨w.heap.size, 2, none⟩ = some (.slice A2 b.length c2) ∧ W.cell? ⟨w.heap.size, 3, none⟩ = some (.map (some tb)) ∧ W.cell? ⟨w.heap.size + 1, 0, none⟩ = some (.int .i64 k.tick) ∧ W.cell? ⟨w.heap.size + 1, 1, none⟩ = some (.int .i64 k.cls) ∧ W.cell? ⟨w.heap.size + 1, 2, none⟩ = some (.int .i64 k.num) ∧ W.cell? ⟨w.heap.size + 1, 3, none⟩ = some (.string (bs k.lin)) from ⟨(hW.cell (p := ⟨w.heap.size, 0, none⟩) z0.lt).trans p0, (hW.cell (p := ⟨w.heap.size, 1, none⟩) z0.lt).trans p1, (hW.cell (p := ⟨w.heap.size, 2, none⟩) z0.lt).trans p2, (hW.cell (p := ⟨w.heap.size, 3, none⟩) z0.lt).trans p3, (hW.cell (p := ⟨w.heap.size + 1, 0, none⟩) z1.lt).trans k0, (hW.cell (p := ⟨w.heap.size + 1, 1, none⟩) z1.lt).trans k1, (hW.cell (p := ⟨w.heap.size + 1, 2, none⟩) z1.lt).trans k2, (hW.cell (p := ⟨w.heap.size + 1, 3, none⟩) z1.lt).trans k3⟩); have HVD := Lib.hid (fun (n : Nm) (W : World) (hW : Below ((w.alloc (.cells #[.slice A1 a.length c1, .map (some ta), .slice A2 b.length c2, .map (some tb)] 85)).alloc (.cells #[.int .i64 k.tick, .int .i64 k.cls, .int .i64 k.num, .string (bs k.lin)] 35)).heap.size ((w.alloc (.cells #[.slice A1 a.length c1, .map (some ta), .slice A2 b.length c2, .map (some tb)] 85)).alloc (.cells #[.int .i64 k.tick, .int .i64 k.cls, .int .i64 k.num, .string (bs k.lin)] 35)) W) => vdiffer_is (k := sloK k.tick) n ((ha.next b2).next hW) ((hb.next b2).next hW) oa ob (show ([] : Bs) ∈ lin5 by decide)); have HVE := Lib.hid (vdf_ep oa ob (sloK k.tick))
  have HB0 := Lib.hid b2
  unfold nmV nmA at HVD
  have bb := ((Below.refl ((w.alloc (.cells #[.slice A1 a.length c1, .map (some ta), .slice A2 b.length c2, .map (some tb)] 85)).alloc (.cells #[.int .i64 k.tick, .int .i64 k.cls, .int .i64 k.num, .string (bs k.lin)] 35)).heap.size ((w.alloc (.cells #[.slice A1 a.length c1, .map (some ta), .slice A2 b.length c2, .map (some tb)] 85)).alloc (.cells #[.int .i64 k.tick, .int .i64 k.cls, .int .i64 k.num, .string (bs k.lin)] 35))).alloc (Nat.le_refl _) (.cells #[.int .i64 0, .int .i64 0, .int .i64 0, .string ⟨#[]⟩, .int .i64 0, .int .i64 0, .string ⟨#[]⟩, .int .i64 0, .int .i64 0, .string ⟨#[]⟩] 47)).alloc (by simp) (.cells #[.int .i64 k.tick, .int .i64 k.cls, .int .i64 k.num, .string (bs k.lin), .int .i64 kind, .int .i64 0, .string ⟨#[]⟩, .int .i64 0, .int .i64 0, .string ⟨#[]⟩] 47); have z3 := (Blk.newE ((w.alloc (.cells #[.slice A1 a.length c1, .map (some ta), .slice A2 b.length c2, .map (some tb)] 85)).alloc (.cells #[.int .i64 k.tick, .int .i64 k.cls, .int .i64 k.num, .string (bs k.lin)] 35)) 47 #[.int .i64 0, .int .i64 0, .int .i64 0, .string ⟨#[]⟩, .int .i64 0, .int .i64 0, .string ⟨#[]⟩, .int .i64 0, .int .i64 0, .string ⟨#[]⟩] (w.heap.size + 1 + 1) (by simp)).alloc (.cells #[.int .i64 k.tick, .int .i64 k.cls, .int .i64 k.num, .string (bs k.lin), .int .i64 kind, .int .i64 0, .string ⟨#[]⟩, .int .i64 0, .int .i64 0, .string ⟨#[]⟩] 47); have z4 := Blk.newE (((w.alloc (.cells #[.slice A1 a.length c1, .map (some ta), .slice A2 b.length c2, .map (some tb)] 85)).alloc (.cells #[.int .i64 k.tick, .int .i64 k.cls, .int .i64 k.num, .string (bs k.lin)] 35)).alloc (.cells #[.int .i64 0, .int .i64 0, .int .i64 0, .string ⟨#[]⟩, .int .i64 0, .int .i64 0, .string ⟨#[]⟩, .int .i64 0, .int .i64 0, .string ⟨#[]⟩] 47)) 47 #[.int .i64 k.tick, .int .i64 k.cls, .int .i64 k.num, .string (bs k.lin), .int .i64 kind, .int .i64 0, .string ⟨#[]⟩, .int .i64 0, .int .i64 0, .string ⟨#[]⟩] (w.heap.size + 1 + 1 + 1) (by simp)
  have hsz : ((w.alloc (.cells #[.slice A1 a.length c1, .map (some ta), .slice A2 b.length c2, .map (some tb)] 85)).alloc (.cells #[.int .i64 k.tick, .int .i64 k.cls, .int .i64 k.num, .string (bs k.lin)] 35)).heap.size = w.heap.size + 1 + 1 := by simp
  have HRL := Lib.hid (show ((w.alloc (.cells #[.slice A1 a.length c1, .map (some ta), .slice A2 b.length c2, .map (some tb)] 85)).alloc (.cells #[.int .i64 k.tick, .int .i64 k.cls, .int .i64 k.num, .string (bs k.lin)] 35)).heap.size ≤ w.heap.size + 1 + 1 by omega); have HQL := Lib.hid (show ((w.alloc (.cells #[.slice A1 a.length c1, .map (some ta), .slice A2 b.length c2, .map (some tb)] 85)).alloc (.cells #[.int .i64 k.tick, .int .i64 k.cls, .int .i64 k.num, .string (bs k.lin)] 35)).heap.size ≤ w.heap.size + 1 + 1 + 1 by omega); have HNE := Lib.hid (show w.heap.size + 1 + 1 ≠ w.heap.size + 1 + 1 + 1 by omega)
  unfold kyV
  clear ha hb oa ob b0 b1 b2 z0 z1 p0 p1 p2 p3 k0 k1 k2 k3 hsz
  go_enter Tryz.func52, Tryz.ntmps52
  go_upto_region 2 with (fail)
  generalize ((w.alloc (.cells #[.slice A1 a.length c1, .map (some ta), .slice A2 b.length c2, .map (some tb)] 85)).alloc (.cells #[.int .i64 k.tick, .int .i64 k.cls, .int .i64 k.num, .string (bs k.lin)] 35)) = w2 at *; have Z3 := Lib.hid z3; have Z4 := Lib.hid z4; have BW := Lib.hid bb; clear z3 z4 bb; generalize (w2.alloc (.cells #[.int .i64 0, .int .i64 0, .int .i64 0, .string ⟨#[]⟩, .int .i64 0, .int .i64 0, .string ⟨#[]⟩, .int .i64 0, .int .i64 0, .string ⟨#[]⟩] 47)).alloc (.cells #[.int .i64 k.tick, .int .i64 k.cls, .int .i64 k.num, .string (bs k.lin), .int .i64 kind, .int .i64 0, .string ⟨#[]⟩, .int .i64 0, .int .i64 0, .string ⟨#[]⟩] 47) = w5 at *; obtain ⟨qb, hqb⟩ : ∃ qb, w.heap.size + 1 + 1 + 1 = qb := ⟨_, rfl⟩; rw [hqb] at Z4 HQL HNE ⊢; obtain ⟨rb, hrb⟩ : ∃ rb, w.heap.size + 1 + 1 = rb := ⟨_, rfl⟩; rw [hrb] at Z3 HRL HNE ⊢; obtain ⟨kb, hkb⟩ : ∃ kb, w.heap.size + 1 = kb := ⟨_, rfl⟩; rw [hkb] at HYY ⊢; obtain ⟨pb, hpb⟩ : ∃ pb, w.heap.size = pb := ⟨_, rfl⟩; have HPB := Lib.hid hpb; rw [hpb] at HYY ⊢; clear hqb hrb hkb hpb; obtain ⟨y0, y1, y2, y3, y4, y5, y6, y7⟩ := HYY.out w5 BW.out
  by_cases hc : k.cls = 0
  · have e1 : (k.cls == 0) = true := by rw [hc]; rfl
    have HE := Lib.hid (show alo a b k kind = ⟨k, kind, nm0⟩ by unfold alo; rw [if_pos hc]); clear hc
    go_upto_region 3 with (fail)
    clear y0 y1 y2 y3 y4 y5 y6 y7; have x0 := Z4.out.cell 0; have x1 := Z4.out.cell 1; have x2 := Z4.out.cell 2; have x3 := Z4.out.cell 3; have x4 := Z4.out.cell 4; have x5 := Z4.out.cell 5; have x6 := Z4.out.cell 6; have x7 := Z4.out.cell 7; have x8 := Z4.out.cell 8; have x9 := Z4.out.cell 9; simp only [qB, qC, qD] at x0 x1 x2 x3 x4 x5 x6 x7 x8 x9; have d0 := Z3.out.cell 0; have d1 := Z3.out.cell 1; have d2 := Z3.out.cell 2; have d3 := Z3.out.cell 3; have d4 := Z3.out.cell 4; have d5 := Z3.out.cell 5; have d6 := Z3.out.cell 6; have d7 := Z3.out.cell 7; have d8 := Z3.out.cell 8; have d9 := Z3.out.cell 9; simp only [qB, qC, qD] at d0 d1 d2 d3 d4 d5 d6 d7 d8 d9; have f0 := Z3.out.frozen 0; have f1 := Z3.out.frozen 1; have f2 := Z3.out.frozen 2; have f3 := Z3.out.frozen 3; have f4 := Z3.out.frozen 4; have f5 := Z3.out.frozen 5; have f6 := Z3.out.frozen 6; have f7 := Z3.out.frozen 7; have f8 := Z3.out.frozen 8; have f9 := Z3.out.frozen 9; have ZE := Lib.hid (set10z_ (.int .i64 k.tick) (.int .i64 k.cls) (.int .i64 k.num) (.string (bs k.lin)) (.int .i64 kind) (.int .i64 0) (.string ⟨#[]⟩) (.int .i64 0) (.int .i64 0) (.string ⟨#[]⟩) Z3.out); have BE := Lib.hid (low10z_ (.int .i64 k.tick) (.int .i64 k.cls) (.int .i64 k.num) (.string (bs k.lin)) (.int .i64 kind) (.int .i64 0) (.string ⟨#[]⟩) (.int .i64 0) (.int .i64 0) (.string ⟨#[]⟩) BW.out HRL.out)
    go_wp2_with fail
    clear x0 x1 x2 x3 x4 x5 x6 x7 x8 x9; clear d0 d1 d2 d3 d4 d5 d6 d7 d8 d9 f0 f1 f2 f3 f4 f5 f6 f7 f8 f9; have d0 := ZE.out.cell 0; have d1 := ZE.out.cell 1; have d2 := ZE.out.cell 2; have d3 := ZE.out.cell 3; have d4 := ZE.out.cell 4; have d5 := ZE.out.cell 5; have d6 := ZE.out.cell 6; have d7 := ZE.out.cell 7; have d8 := ZE.out.cell 8; have d9 := ZE.out.cell 9; simp only [qB, qC, qD] at d0 d1 d2 d3 d4 d5 d6 d7 d8 d9; generalize ((((((((((w5.setCell ⟨rb, 0, none⟩ (.int .i64 k.tick)).setCell ⟨rb, 1, none⟩ (.int .i64 k.cls)).setCell ⟨rb, 2, none⟩ (.int .i64 k.num)).setCell ⟨rb, 3, none⟩ (.string (bs k.lin))).setCell ⟨rb, 4, none⟩ (.int .i64 kind)).setCell ⟨rb, 5, none⟩ (.int .i64 0)).setCell ⟨rb, 6, none⟩ (.string ⟨#[]⟩)).setCell ⟨rb, 7, none⟩ (.int .i64 0)).setCell ⟨rb, 8, none⟩ (.int .i64 0)).setCell ⟨rb, 9, none⟩ (.string ⟨#[]⟩)) = W9 at *
    exact bodyPost_ret (v := .agg #[.int .i64 k.tick, .int .i64 k.cls, .int .i64 k.num, .string (bs k.lin), .int .i64 kind, .int .i64 0, .string ⟨#[]⟩, .int .i64 0, .int .i64 0, .string ⟨#[]⟩]) (by simp [results, Tryz.results52, go_sem, d0, d1, d2, d3, d4, d5, d6, d7, d8, d9]) rfl ⟨by rw [HE.out]; rfl, HB0.out.trans (BE.out.mono HB0.out.size)⟩
  · have e1 : (k.cls == 0) = false := by simpa using hc
    have HCL := Lib.hid hc; clear hc; obtain ⟨qn, hqn⟩ : ∃ qn, prcN k.lin = qn := ⟨_, rfl⟩; obtain ⟨en, hen⟩ : ∃ en, epN = en := ⟨_, rfl⟩; have HQN := Lib.hid hqn; have HEN := Lib.hid hen; have HOP := Lib.hid (ofproc_is k.lin); have HOE := Lib.hid ofepoch_is; rw [hqn] at HOP; rw [hen] at HOE; clear hqn hen
    unfold nmV nmA at HOP HOE
    go_wp2_with (first | (go_at_call 16; refine (HOP.out _).mono ?_; rintro e w6 ⟨rfl, hb⟩; have Z3A := Lib.hid (Z3.out.next hb Z3.out.lt); have Z4A := Lib.hid (Z4.out.next hb Z4.out.lt); have BA := Lib.hid (BW.out.trans (hb.mono BW.out.size)); clear hb) | (go_at_call 33; refine (HOE.out _).mono ?_; rintro e w7 ⟨rfl, hb⟩; have Z3B := Lib.hid (Z3A.out.next hb Z3A.out.lt); have Z4B := Lib.hid (Z4A.out.next hb Z4A.out.lt); have BB := Lib.hid (BA.out.trans (hb.mono BA.out.size)); clear hb))
    have H0 : Hid (alRel a b k kind w2 rb qb (.int .i64 (0 : Nat)) w7) := Lib.hid ⟨0, by decide, rfl, fun h => by omega, Z3B.out, Z4B.out, BB.out⟩; clear y0 y1 y2 y3 y4 y5 y6 y7 Z3 Z4 BW Z3A Z4A BA Z3B Z4B BB
    go_loopw [22] (fun i wr => alRel a b k kind w2 rb qb i wr) (fun i _ => 2 - (intOf i).toNat)
    case atStart => exact H0.out
    case round =>
      clear H0; obtain ⟨j, hj, rfl, hst, hz1, hz2, hB⟩ := hrel; have HST := Lib.hid hst; have Z1 := Lib.hid hz1; have Z2 := Lib.hid hz2; have HB := Lib.hid hB; clear hst hz1 hz2 hB
      have h3 : j = 0 ∨ j = 1 ∨ j = 2 := by omega
      rcases h3 with rfl | rfl | rfl
      · clear hj
        obtain ⟨pn, hpn⟩ : ∃ pn, pn = qn := ⟨_, rfl⟩
        have ix : ∀ w, (Instr.index 145 (.agg #[.int .i64 qn.kind, .string (bs qn.owner), .int .i64 qn.num, .int .i64 qn.idx, .string (bs qn.text), .int .i64 en.kind, .string (bs en.owner), .int .i64 en.num, .int .i64 en.idx, .string (bs en.text)]) (.int .i64 0)).run Tryz.prog w = .ok (.agg #[.int .i64 pn.kind, .string (bs pn.owner), .int .i64 pn.num, .int .i64 pn.idx, .string (bs pn.text)]) w := fun _ => by rw [hpn]; kernel_rfl
        have HPN := Lib.hid hpn; clear hpn
        go_upto_region 7 with (fail)
        have hba := (Below.refl wr.heap.size wr).alloc (Nat.le_refl _) (.cells #[.int .i64 pn.kind, .string (bs pn.owner), .int .i64 pn.num, .int .i64 pn.idx, .string (bs pn.text)] 45); have Z1A := Lib.hid (Z1.out.next hba Z1.out.lt); have Z2A := Lib.hid (Z2.out.next hba Z2.out.lt); have BA := Lib.hid (HB.out.trans (hba.mono HB.out.size)); have ZXA := Lib.hid (Blk.new wr 45 #[.int .i64 pn.kind, .string (bs pn.owner), .int .i64 pn.num, .int .i64 pn.idx, .string (bs pn.text)]); obtain ⟨y0, y1, y2, y3, y4, y5, y6, y7⟩ := HYY.out _ BA.out; clear hba ix; generalize wr.alloc (.cells #[.int .i64 pn.kind, .string (bs pn.owner), .int .i64 pn.num, .int .i64 pn.idx, .string (bs pn.text)] 45) = w6 at *; obtain ⟨xb, hxb⟩ : ∃ xb, wr.heap.size = xb := ⟨_, rfl⟩; rw [hxb] at ZXA ⊢; clear hxb; have yn0 := ZXA.out.cell 0; have yn1 := ZXA.out.cell 1; have yn2 := ZXA.out.cell 2; have yn3 := ZXA.out.cell 3; have yn4 := ZXA.out.cell 4; (simp only [qB, qC, qD] at yn0 yn1 yn2 yn3 yn4)
        refine wp_region_noPanic ?_
        refine wp_region_held_drew (S := (fun (w' : World) => w'.cell? ⟨pb, 0, none⟩ = some (.slice A1 a.length c1) ∧ w'.cell? ⟨pb, 1, none⟩ = some (.map (some ta)) ∧ w'.cell? ⟨pb, 2, none⟩ = some (.slice A2 b.length c2) ∧ w'.cell? ⟨pb, 3, none⟩ = some (.map (some tb)) ∧ w'.cell? ⟨xb, 0, none⟩ = some (.int .i64 pn.kind) ∧ w'.cell? ⟨xb, 1, none⟩ = some (.string (bs pn.owner)) ∧ w'.cell? ⟨xb, 2, none⟩ = some (.int .i64 pn.num) ∧ w'.cell? ⟨xb, 3, none⟩ = some (.int .i64 pn.idx) ∧ w'.cell? ⟨xb, 4, none⟩ = some (.string (bs pn.text)) ∧ w'.cell? ⟨kb, 0, none⟩ = some (.int .i64 k.tick))) (by kernel_rfl) ?_ (fun hHeld => ?_)
        · exact ⟨y0, y1, y2, y3, yn0, yn1, yn2, yn3, yn4, y4⟩
        refine tk (v := ?_) 0 rfl (by kernel_rfl) (fun _ _ _ h => h) ?_ hHeld ?_; rotate_left
        · (intro w h; (try dsimp only at h); go_simp; try with_reducible rfl)
        try simp only [Act.put, pB, pC, pD]
        refine tk (v := ?_) 1 rfl (by kernel_rfl) (fun _ _ _ h => h) ?_ hHeld ?_; rotate_left
        · (intro w h; (try dsimp only at h); go_simp; try with_reducible rfl)
        try simp only [Act.put, pB, pC, pD]
        refine tk (v := ?_) 2 rfl (by kernel_rfl) (fun _ _ _ h => h) ?_ hHeld ?_; rotate_left
        · (intro w h; (try dsimp only at h); go_simp; try with_reducible rfl)
        try simp only [Act.put, pB, pC, pD]
        refine tk (v := ?_) 3 rfl (by kernel_rfl) (fun _ _ _ h => h) ?_ hHeld ?_; rotate_left
        · (intro w h; (try dsimp only at h); go_simp; try with_reducible rfl)
        try simp only [Act.put, pB, pC, pD]
        refine wpAnyH_ready (rs := [4]) (by kernel_rfl) (by simp) ?_; refine AllReadyH.cons rfl (fun K hK => ?_) AllReadyH.nil; go_simp; refine (turnsOf_is _ _).mono ?_; rintro e w7 ⟨rfl, hb'⟩; have hb := (Below.refl w6.heap.size w6).drew.trans hb'; have BB := Lib.hid (BA.out.trans (hb.mono BA.out.size)); have Z1B := Lib.hid (Z1A.out.next hb Z1A.out.lt); have Z2B := Lib.hid (Z2A.out.next hb Z2A.out.lt); have ZXB := Lib.hid (ZXA.out.next hb ZXA.out.lt); obtain ⟨s0, s1, s2, s3, s4, s5, s6, s7⟩ := HYY.out w7 BB.out; have sn0 := ZXB.out.cell 0; have sn1 := ZXB.out.cell 1; have sn2 := ZXB.out.cell 2; have sn3 := ZXB.out.cell 3; have sn4 := ZXB.out.cell 4; (simp only [qB, qC, qD] at sn0 sn1 sn2 sn3 sn4); clear hb hb'
        try (go_wp2_with fail)
        refine hK.out _ _ ?_ (fun hNew => ?_)
        · exact ⟨s0, s1, s2, s3, sn0, sn1, sn2, sn3, sn4, s4⟩
        clear hK K hHeld; have hHeld := hNew; clear hNew; try simp only [Act.put, pB, pC, pD]
        refine wpAnyH_ready (rs := [5]) (by kernel_rfl) (by simp) ?_; refine AllReadyH.cons rfl (fun K hK => ?_) AllReadyH.nil; go_simp; refine (HVD.out pn _ BB.out).mono ?_; rintro e w8 ⟨rfl, hb⟩; have BC := Lib.hid (BB.out.trans (hb.mono BB.out.size)); have Z1C := Lib.hid (Z1B.out.next hb Z1B.out.lt); have Z2C := Lib.hid (Z2B.out.next hb Z2B.out.lt); have ZXC := Lib.hid (ZXB.out.next hb ZXB.out.lt); obtain ⟨t0, t1, t2, t3, t4, t5, t6, t7⟩ := HYY.out w8 BC.out; have tn0 := ZXC.out.cell 0; have tn1 := ZXC.out.cell 1; have tn2 := ZXC.out.cell 2; have tn3 := ZXC.out.cell 3; have tn4 := ZXC.out.cell 4; (simp only [qB, qC, qD] at tn0 tn1 tn2 tn3 tn4); clear hb
        try (go_wp2_with fail)
        refine hK.out _ _ ?_ (fun hNew => ?_)
        · exact ⟨t0, t1, t2, t3, tn0, tn1, tn2, tn3, tn4, t4⟩
        clear hK K hHeld; have hHeld := hNew; clear hNew; try simp only [Act.put, pB, pC, pD]
        refine wpAnyH_done (by kernel_rfl) ?_ _; clear hHeld
        try simp only [List.getElem_toArray, List.getElem_cons_zero, List.getElem_cons_succ, Act.put, pB, pC, pD]
        refine NoPanic.normal ?_
        clear y0 y1 y2 y3 y4 y5 y6 y7 s0 s1 s2 s3 s4 s5 s6 s7 t0 t1 t2 t3 t4 t5 t6 t7 yn0 yn1 yn2 yn3 yn4 sn0 sn1 sn2 sn3 sn4 tn0 tn1 tn2 tn3 tn4; obtain ⟨d, hd⟩ : ∃ d, vdf a b pn (sloK k.tick) = d := ⟨_, rfl⟩; have HD := Lib.hid hd; rw [hd]; clear hd
        cases d with
        | true =>
          have HE := Lib.hid (show alo a b k kind = ⟨k, kind, pn⟩ by
            unfold alo
            rw [if_neg HCL.out, HQN.out, ← HPN.out, HD.out]
            rfl)
          have x0 := ZXC.out.cell 0; have x1 := ZXC.out.cell 1; have x2 := ZXC.out.cell 2; have x3 := ZXC.out.cell 3; have x4 := ZXC.out.cell 4; simp only [qB, qC, qD] at x0 x1 x2 x3 x4; have c0 := Z2C.out.cell 0; have c1 := Z2C.out.cell 1; have c2 := Z2C.out.cell 2; have c3 := Z2C.out.cell 3; have c4 := Z2C.out.cell 4; have c5 := Z2C.out.cell 5; have c6 := Z2C.out.cell 6; have c7 := Z2C.out.cell 7; have c8 := Z2C.out.cell 8; have c9 := Z2C.out.cell 9; simp only [qB, qC, qD] at c0 c1 c2 c3 c4 c5 c6 c7 c8 c9; have g0 := Z2C.out.frozen 0; have g1 := Z2C.out.frozen 1; have g2 := Z2C.out.frozen 2; have g3 := Z2C.out.frozen 3; have g4 := Z2C.out.frozen 4; have g5 := Z2C.out.frozen 5; have g6 := Z2C.out.frozen 6; have g7 := Z2C.out.frozen 7; have g8 := Z2C.out.frozen 8; have g9 := Z2C.out.frozen 9; have ZQ := Lib.hid (setNz_ (.int .i64 pn.kind) (.string (bs pn.owner)) (.int .i64 pn.num) (.int .i64 pn.idx) (.string (bs pn.text)) Z2C.out); have Z1D := Lib.hid (kpNz_ (.int .i64 pn.kind) (.string (bs pn.owner)) (.int .i64 pn.num) (.int .i64 pn.idx) (.string (bs pn.text)) Z1C.out HNE.out); have BD := Lib.hid (lowNz_ (.int .i64 pn.kind) (.string (bs pn.owner)) (.int .i64 pn.num) (.int .i64 pn.idx) (.string (bs pn.text)) BC.out HQL.out)
          go_upto_region 9 with (fail)
          clear x0 x1 x2 x3 x4 c0 c1 c2 c3 c4 c5 c6 c7 c8 c9 g0 g1 g2 g3 g4 g5 g6 g7 g8 g9; generalize (((((w8.setCell ⟨qb, 5, none⟩ (.int .i64 pn.kind)).setCell ⟨qb, 6, none⟩ (.string (bs pn.owner))).setCell ⟨qb, 7, none⟩ (.int .i64 pn.num)).setCell ⟨qb, 8, none⟩ (.int .i64 pn.idx)).setCell ⟨qb, 9, none⟩ (.string (bs pn.text))) = w9 at *; have x0 := ZQ.out.cell 0; have x1 := ZQ.out.cell 1; have x2 := ZQ.out.cell 2; have x3 := ZQ.out.cell 3; have x4 := ZQ.out.cell 4; have x5 := ZQ.out.cell 5; have x6 := ZQ.out.cell 6; have x7 := ZQ.out.cell 7; have x8 := ZQ.out.cell 8; have x9 := ZQ.out.cell 9; simp only [qB, qC, qD] at x0 x1 x2 x3 x4 x5 x6 x7 x8 x9; have d0 := Z1D.out.cell 0; have d1 := Z1D.out.cell 1; have d2 := Z1D.out.cell 2; have d3 := Z1D.out.cell 3; have d4 := Z1D.out.cell 4; have d5 := Z1D.out.cell 5; have d6 := Z1D.out.cell 6; have d7 := Z1D.out.cell 7; have d8 := Z1D.out.cell 8; have d9 := Z1D.out.cell 9; simp only [qB, qC, qD] at d0 d1 d2 d3 d4 d5 d6 d7 d8 d9; have f0 := Z1D.out.frozen 0; have f1 := Z1D.out.frozen 1; have f2 := Z1D.out.frozen 2; have f3 := Z1D.out.frozen 3; have f4 := Z1D.out.frozen 4; have f5 := Z1D.out.frozen 5; have f6 := Z1D.out.frozen 6; have f7 := Z1D.out.frozen 7; have f8 := Z1D.out.frozen 8; have f9 := Z1D.out.frozen 9; have ZE := Lib.hid (set10z_ (.int .i64 k.tick) (.int .i64 k.cls) (.int .i64 k.num) (.string (bs k.lin)) (.int .i64 kind) (.int .i64 pn.kind) (.string (bs pn.owner)) (.int .i64 pn.num) (.int .i64 pn.idx) (.string (bs pn.text)) Z1D.out); have BE := Lib.hid (low10z_ (.int .i64 k.tick) (.int .i64 k.cls) (.int .i64 k.num) (.string (bs k.lin)) (.int .i64 kind) (.int .i64 pn.kind) (.string (bs pn.owner)) (.int .i64 pn.num) (.int .i64 pn.idx) (.string (bs pn.text)) BD.out HRL.out)
          go_wp2_with fail
          clear x0 x1 x2 x3 x4 x5 x6 x7 x8 x9; clear d0 d1 d2 d3 d4 d5 d6 d7 d8 d9 f0 f1 f2 f3 f4 f5 f6 f7 f8 f9; have d0 := ZE.out.cell 0; have d1 := ZE.out.cell 1; have d2 := ZE.out.cell 2; have d3 := ZE.out.cell 3; have d4 := ZE.out.cell 4; have d5 := ZE.out.cell 5; have d6 := ZE.out.cell 6; have d7 := ZE.out.cell 7; have d8 := ZE.out.cell 8; have d9 := ZE.out.cell 9; simp only [qB, qC, qD] at d0 d1 d2 d3 d4 d5 d6 d7 d8 d9; generalize ((((((((((w9.setCell ⟨rb, 0, none⟩ (.int .i64 k.tick)).setCell ⟨rb, 1, none⟩ (.int .i64 k.cls)).setCell ⟨rb, 2, none⟩ (.int .i64 k.num)).setCell ⟨rb, 3, none⟩ (.string (bs k.lin))).setCell ⟨rb, 4, none⟩ (.int .i64 kind)).setCell ⟨rb, 5, none⟩ (.int .i64 pn.kind)).setCell ⟨rb, 6, none⟩ (.string (bs pn.owner))).setCell ⟨rb, 7, none⟩ (.int .i64 pn.num)).setCell ⟨rb, 8, none⟩ (.int .i64 pn.idx)).setCell ⟨rb, 9, none⟩ (.string (bs pn.text))) = W9 at *
          exact bodyPost_ret (v := .agg #[.int .i64 k.tick, .int .i64 k.cls, .int .i64 k.num, .string (bs k.lin), .int .i64 kind, .int .i64 pn.kind, .string (bs pn.owner), .int .i64 pn.num, .int .i64 pn.idx, .string (bs pn.text)]) (by simp [results, Tryz.results52, go_sem, d0, d1, d2, d3, d4, d5, d6, d7, d8, d9]) rfl ⟨by rw [HE.out]; rfl, HB0.out.trans (BE.out.mono HB0.out.size)⟩
        | false =>
          have HE := Lib.hid (show alo a b k kind = ⟨k, kind, nm0⟩ by
            unfold alo
            rw [if_neg HCL.out, HQN.out, ← HPN.out, HD.out]
            rfl)
          go_wp2_with fail
          go_roundw
          case rel => exact ⟨1, by decide, by go_num, fun _ => HE.out, Z1C.out, Z2C.out, BC.out⟩
          case measure => simp [intOf]
      · clear hj
        obtain ⟨pn, hpn⟩ : ∃ pn, pn = en := ⟨_, rfl⟩
        have ix : ∀ w, (Instr.index 145 (.agg #[.int .i64 qn.kind, .string (bs qn.owner), .int .i64 qn.num, .int .i64 qn.idx, .string (bs qn.text), .int .i64 en.kind, .string (bs en.owner), .int .i64 en.num, .int .i64 en.idx, .string (bs en.text)]) (.int .i64 1)).run Tryz.prog w = .ok (.agg #[.int .i64 pn.kind, .string (bs pn.owner), .int .i64 pn.num, .int .i64 pn.idx, .string (bs pn.text)]) w := fun _ => by rw [hpn]; kernel_rfl
        have HPN := Lib.hid hpn; clear hpn
        go_upto_region 7 with (fail)
        have hba := (Below.refl wr.heap.size wr).alloc (Nat.le_refl _) (.cells #[.int .i64 pn.kind, .string (bs pn.owner), .int .i64 pn.num, .int .i64 pn.idx, .string (bs pn.text)] 45); have Z1A := Lib.hid (Z1.out.next hba Z1.out.lt); have Z2A := Lib.hid (Z2.out.next hba Z2.out.lt); have BA := Lib.hid (HB.out.trans (hba.mono HB.out.size)); have ZXA := Lib.hid (Blk.new wr 45 #[.int .i64 pn.kind, .string (bs pn.owner), .int .i64 pn.num, .int .i64 pn.idx, .string (bs pn.text)]); obtain ⟨y0, y1, y2, y3, y4, y5, y6, y7⟩ := HYY.out _ BA.out; clear hba ix; generalize wr.alloc (.cells #[.int .i64 pn.kind, .string (bs pn.owner), .int .i64 pn.num, .int .i64 pn.idx, .string (bs pn.text)] 45) = w6 at *; obtain ⟨xb, hxb⟩ : ∃ xb, wr.heap.size = xb := ⟨_, rfl⟩; rw [hxb] at ZXA ⊢; clear hxb; have yn0 := ZXA.out.cell 0; have yn1 := ZXA.out.cell 1; have yn2 := ZXA.out.cell 2; have yn3 := ZXA.out.cell 3; have yn4 := ZXA.out.cell 4; (simp only [qB, qC, qD] at yn0 yn1 yn2 yn3 yn4)
        refine wp_region_noPanic ?_
        refine wp_region_held_drew (S := (fun (w' : World) => w'.cell? ⟨pb, 0, none⟩ = some (.slice A1 a.length c1) ∧ w'.cell? ⟨pb, 1, none⟩ = some (.map (some ta)) ∧ w'.cell? ⟨pb, 2, none⟩ = some (.slice A2 b.length c2) ∧ w'.cell? ⟨pb, 3, none⟩ = some (.map (some tb)) ∧ w'.cell? ⟨xb, 0, none⟩ = some (.int .i64 pn.kind) ∧ w'.cell? ⟨xb, 1, none⟩ = some (.string (bs pn.owner)) ∧ w'.cell? ⟨xb, 2, none⟩ = some (.int .i64 pn.num) ∧ w'.cell? ⟨xb, 3, none⟩ = some (.int .i64 pn.idx) ∧ w'.cell? ⟨xb, 4, none⟩ = some (.string (bs pn.text)) ∧ w'.cell? ⟨kb, 0, none⟩ = some (.int .i64 k.tick))) (by kernel_rfl) ?_ (fun hHeld => ?_)
        · exact ⟨y0, y1, y2, y3, yn0, yn1, yn2, yn3, yn4, y4⟩
        refine tk (v := ?_) 0 rfl (by kernel_rfl) (fun _ _ _ h => h) ?_ hHeld ?_; rotate_left
        · (intro w h; (try dsimp only at h); go_simp; try with_reducible rfl)
        try simp only [Act.put, pB, pC, pD]
        refine tk (v := ?_) 1 rfl (by kernel_rfl) (fun _ _ _ h => h) ?_ hHeld ?_; rotate_left
        · (intro w h; (try dsimp only at h); go_simp; try with_reducible rfl)
        try simp only [Act.put, pB, pC, pD]
        refine tk (v := ?_) 2 rfl (by kernel_rfl) (fun _ _ _ h => h) ?_ hHeld ?_; rotate_left
        · (intro w h; (try dsimp only at h); go_simp; try with_reducible rfl)
        try simp only [Act.put, pB, pC, pD]
        refine tk (v := ?_) 3 rfl (by kernel_rfl) (fun _ _ _ h => h) ?_ hHeld ?_; rotate_left
        · (intro w h; (try dsimp only at h); go_simp; try with_reducible rfl)
        try simp only [Act.put, pB, pC, pD]
        refine wpAnyH_ready (rs := [4]) (by kernel_rfl) (by simp) ?_; refine AllReadyH.cons rfl (fun K hK => ?_) AllReadyH.nil; go_simp; refine (turnsOf_is _ _).mono ?_; rintro e w7 ⟨rfl, hb'⟩; have hb := (Below.refl w6.heap.size w6).drew.trans hb'; have BB := Lib.hid (BA.out.trans (hb.mono BA.out.size)); have Z1B := Lib.hid (Z1A.out.next hb Z1A.out.lt); have Z2B := Lib.hid (Z2A.out.next hb Z2A.out.lt); have ZXB := Lib.hid (ZXA.out.next hb ZXA.out.lt); obtain ⟨s0, s1, s2, s3, s4, s5, s6, s7⟩ := HYY.out w7 BB.out; have sn0 := ZXB.out.cell 0; have sn1 := ZXB.out.cell 1; have sn2 := ZXB.out.cell 2; have sn3 := ZXB.out.cell 3; have sn4 := ZXB.out.cell 4; (simp only [qB, qC, qD] at sn0 sn1 sn2 sn3 sn4); clear hb hb'
        try (go_wp2_with fail)
        refine hK.out _ _ ?_ (fun hNew => ?_)
        · exact ⟨s0, s1, s2, s3, sn0, sn1, sn2, sn3, sn4, s4⟩
        clear hK K hHeld; have hHeld := hNew; clear hNew; try simp only [Act.put, pB, pC, pD]
        refine wpAnyH_ready (rs := [5]) (by kernel_rfl) (by simp) ?_; refine AllReadyH.cons rfl (fun K hK => ?_) AllReadyH.nil; go_simp; refine (HVD.out pn _ BB.out).mono ?_; rintro e w8 ⟨rfl, hb⟩; have BC := Lib.hid (BB.out.trans (hb.mono BB.out.size)); have Z1C := Lib.hid (Z1B.out.next hb Z1B.out.lt); have Z2C := Lib.hid (Z2B.out.next hb Z2B.out.lt); have ZXC := Lib.hid (ZXB.out.next hb ZXB.out.lt); obtain ⟨t0, t1, t2, t3, t4, t5, t6, t7⟩ := HYY.out w8 BC.out; have tn0 := ZXC.out.cell 0; have tn1 := ZXC.out.cell 1; have tn2 := ZXC.out.cell 2; have tn3 := ZXC.out.cell 3; have tn4 := ZXC.out.cell 4; (simp only [qB, qC, qD] at tn0 tn1 tn2 tn3 tn4); clear hb
        try (go_wp2_with fail)
        refine hK.out _ _ ?_ (fun hNew => ?_)
        · exact ⟨t0, t1, t2, t3, tn0, tn1, tn2, tn3, tn4, t4⟩
        clear hK K hHeld; have hHeld := hNew; clear hNew; try simp only [Act.put, pB, pC, pD]
        refine wpAnyH_done (by kernel_rfl) ?_ _; clear hHeld
        try simp only [List.getElem_toArray, List.getElem_cons_zero, List.getElem_cons_succ, Act.put, pB, pC, pD]
        refine NoPanic.normal ?_
        clear y0 y1 y2 y3 y4 y5 y6 y7 s0 s1 s2 s3 s4 s5 s6 s7 t0 t1 t2 t3 t4 t5 t6 t7 yn0 yn1 yn2 yn3 yn4 sn0 sn1 sn2 sn3 sn4 tn0 tn1 tn2 tn3 tn4; rw [show vdf a b pn (sloK k.tick) = false by rw [HPN.out, ← HEN.out]; exact HVE.out]
        go_wp2_with fail
        go_roundw
        case rel => exact ⟨2, by decide, by go_num, fun _ => HST.out (by decide), Z1C.out, Z2C.out, BC.out⟩
        case measure => simp [intOf]
      · clear hj
        have HE := Lib.hid (HST.out (by decide))
        go_upto_region 11 with (fail)
        have x0 := Z2.out.cell 0; have x1 := Z2.out.cell 1; have x2 := Z2.out.cell 2; have x3 := Z2.out.cell 3; have x4 := Z2.out.cell 4; have x5 := Z2.out.cell 5; have x6 := Z2.out.cell 6; have x7 := Z2.out.cell 7; have x8 := Z2.out.cell 8; have x9 := Z2.out.cell 9; simp only [qB, qC, qD] at x0 x1 x2 x3 x4 x5 x6 x7 x8 x9; have d0 := Z1.out.cell 0; have d1 := Z1.out.cell 1; have d2 := Z1.out.cell 2; have d3 := Z1.out.cell 3; have d4 := Z1.out.cell 4; have d5 := Z1.out.cell 5; have d6 := Z1.out.cell 6; have d7 := Z1.out.cell 7; have d8 := Z1.out.cell 8; have d9 := Z1.out.cell 9; simp only [qB, qC, qD] at d0 d1 d2 d3 d4 d5 d6 d7 d8 d9; have f0 := Z1.out.frozen 0; have f1 := Z1.out.frozen 1; have f2 := Z1.out.frozen 2; have f3 := Z1.out.frozen 3; have f4 := Z1.out.frozen 4; have f5 := Z1.out.frozen 5; have f6 := Z1.out.frozen 6; have f7 := Z1.out.frozen 7; have f8 := Z1.out.frozen 8; have f9 := Z1.out.frozen 9; have ZE := Lib.hid (set10z_ (.int .i64 k.tick) (.int .i64 k.cls) (.int .i64 k.num) (.string (bs k.lin)) (.int .i64 kind) (.int .i64 0) (.string ⟨#[]⟩) (.int .i64 0) (.int .i64 0) (.string ⟨#[]⟩) Z1.out); have BE := Lib.hid (low10z_ (.int .i64 k.tick) (.int .i64 k.cls) (.int .i64 k.num) (.string (bs k.lin)) (.int .i64 kind) (.int .i64 0) (.string ⟨#[]⟩) (.int .i64 0) (.int .i64 0) (.string ⟨#[]⟩) HB.out HRL.out)
        go_wp2_with fail
        clear x0 x1 x2 x3 x4 x5 x6 x7 x8 x9; clear d0 d1 d2 d3 d4 d5 d6 d7 d8 d9 f0 f1 f2 f3 f4 f5 f6 f7 f8 f9; have d0 := ZE.out.cell 0; have d1 := ZE.out.cell 1; have d2 := ZE.out.cell 2; have d3 := ZE.out.cell 3; have d4 := ZE.out.cell 4; have d5 := ZE.out.cell 5; have d6 := ZE.out.cell 6; have d7 := ZE.out.cell 7; have d8 := ZE.out.cell 8; have d9 := ZE.out.cell 9; simp only [qB, qC, qD] at d0 d1 d2 d3 d4 d5 d6 d7 d8 d9; generalize ((((((((((wr.setCell ⟨rb, 0, none⟩ (.int .i64 k.tick)).setCell ⟨rb, 1, none⟩ (.int .i64 k.cls)).setCell ⟨rb, 2, none⟩ (.int .i64 k.num)).setCell ⟨rb, 3, none⟩ (.string (bs k.lin))).setCell ⟨rb, 4, none⟩ (.int .i64 kind)).setCell ⟨rb, 5, none⟩ (.int .i64 0)).setCell ⟨rb, 6, none⟩ (.string ⟨#[]⟩)).setCell ⟨rb, 7, none⟩ (.int .i64 0)).setCell ⟨rb, 8, none⟩ (.int .i64 0)).setCell ⟨rb, 9, none⟩ (.string ⟨#[]⟩)) = W9 at *
        exact bodyPost_ret (v := .agg #[.int .i64 k.tick, .int .i64 k.cls, .int .i64 k.num, .string (bs k.lin), .int .i64 kind, .int .i64 0, .string ⟨#[]⟩, .int .i64 0, .int .i64 0, .string ⟨#[]⟩]) (by simp [results, Tryz.results52, go_sem, d0, d1, d2, d3, d4, d5, d6, d7, d8, d9]) rfl ⟨by rw [HE.out]; rfl, HB0.out.trans (BE.out.mono HB0.out.size)⟩
def fdm (ys : List Ch) (n : Nm) : Option Ch := ys.find? fun c => decide (c.name = n)
def chgP (ys : List Ch) (c : Ch) : Bool := ys.any fun d => decide (d.name = c.name) && difC c d
def chP (xs ys : List Ch) (j : Nat) : Option Nm := ((xs.take j).find? (chgP ys)).map Ch.name
theorem chP_all (xs ys : List Ch) : chP xs ys xs.length = chgN xs ys := by
  unfold chP chgN
  rw [List.take_length]
  rfl
def chS (c : Ch) (b : Bool) : Option Nm → Option Nm
  | some n => some n
  | none => if b then some c.name else none
theorem chP_succ {xs ys : List Ch} {j : Nat} (hj : j < xs.length) : chP xs ys (j + 1) = chS xs[j] (chgP ys xs[j]) (chP xs ys j) := by
  unfold chP
  rw [List.take_succ_eq_append_getElem hj, List.find?_append]
  cases h : (xs.take j).find? (chgP ys) with
  | some c => simp [chS]
  | none =>
    simp only [Option.none_or, Option.map_none, List.find?_cons, List.find?_nil, chS]
    cases chgP ys xs[j] <;> rfl
theorem fdm_some {ys : List Ch} {n : Nm} {d : Ch} (h : fdm ys n = some d) : d ∈ ys ∧ d.name = n := ⟨List.mem_of_find?_eq_some h, of_decide_eq_true (List.find?_some (p := fun c : Ch => decide (c.name = n)) (show ys.find? (fun c : Ch => decide (c.name = n)) = some d from h))⟩
theorem chgP_fdm {ys : List Ch} (ho : ordCh ys = true) (c : Ch) : chgP ys c = match fdm ys c.name with
  | some d => difC c d
  | none => false := by
  unfold chgP
  cases h : fdm ys c.name with
  | none =>
    rw [List.any_eq_false]
    intro d hd
    have := List.find?_eq_none.1 h d hd
    simp only [decide_eq_true_eq] at this
    simp [this]
  | some d =>
    obtain ⟨hd, hn⟩ := fdm_some h
    show (ys.any fun d => decide (d.name = c.name) && difC c d) = difC c d
    cases hq : difC c d with
    | true => exact List.any_eq_true.2 ⟨d, hd, by simp [hn, hq]⟩
    | false =>
      rw [List.any_eq_false]
      intro e he hx
      rw [Bool.and_eq_true] at hx; have hen := of_decide_eq_true hx.1; obtain ⟨q, hq2, rfl⟩ := List.getElem_of_mem he; have := chOf_at ho hq2 hen; have h' : ys.find? (fun z => decide (z.name = c.name)) = some d := h; rw [h'] at this
      simp only [Option.getD_some] at this
      rw [← this, hq] at hx
      cases hx.2
theorem fdm_take {ys : List Ch} (ho : ordCh ys = true) {k : Nat} (hk : k < ys.length) (n : Nm) : fdm (ys.take (k + 1)) n = if ys[k].name = n then some ys[k] else fdm (ys.take k) n := by
  unfold fdm
  rw [List.take_succ_eq_append_getElem hk, List.find?_append]
  by_cases hn : ys[k].name = n
  · rw [if_pos hn, List.find?_eq_none.2 (fun c hc => ?_)]
    · simp [hn]
    · obtain ⟨j, hj, rfl⟩ := List.getElem_of_mem hc
      rw [List.length_take] at hj; have := List.pairwise_iff_getElem.1 (ord_nodup ho).1 j k (by omega) hk (by omega); rw [List.getElem_take, decide_eq_true_eq]
      intro e
      rw [e, hn, cmpN_eq.2 rfl] at this
      omega
  · rw [if_neg hn]
    cases h : (ys.take k).find? fun c => decide (c.name = n) <;> simp [hn]
theorem chP_ge {xs ys : List Ch} (ho : ordCh xs = true) {j : Nat} (hj : j < xs.length) {n : Nm} (h : chP xs ys j = some n) : ¬ cmpN xs[j].name n < 0 ∧ ∃ c ∈ xs, c.name = n := by
  unfold chP at h
  rw [Option.map_eq_some_iff] at h; obtain ⟨c, hc, rfl⟩ := h; have hm := List.mem_of_find?_eq_some hc; obtain ⟨i, hi, rfl⟩ := List.getElem_of_mem hm; rw [List.length_take] at hi; have := List.pairwise_iff_getElem.1 (ord_nodup ho).1 i j (by omega) hj (by omega); rw [List.getElem_take]
  refine ⟨fun hlt => ?_, _, List.getElem_mem (show i < xs.length by omega), rfl⟩
  have h2 := (wordN.anti xs[i].name xs[j].name).1 this
  omega
def chgE (x y : Ac) : Rs × Int := if x.reads = y.reads then (rs0, 8) else match chgN x.reads y.reads with
  | some n => (⟨x.key, 1, n⟩, 0)
  | none => (rs0, 10)
def CMap (w : World) (b : Nat) (f : Nm → Option Ch) : Prop := ∃ l, MapAt w b l ∧ ∀ n, lookM n l = (f n).map chV
theorem CMap.next {w w' : World} {b : Nat} {f : Nm → Option Ch} (h : CMap w b f) (hb : Below w.heap.size w w') : CMap w' b f := h.imp fun l hl => ⟨hl.1.next hb, hl.2⟩
theorem CMap.same {w w' : World} {b : Nat} {f : Nm → Option Ch} (h : CMap w b f) (e : w'.heap[b]? = w.heap[b]?) : CMap w' b f := h.imp fun l hl => ⟨hl.1.same e, hl.2⟩
theorem CMap.lt {w : World} {b : Nat} {f : Nm → Option Ch} (h : CMap w b f) : b < w.heap.size := by
  obtain ⟨l, h, _⟩ := h
  exact h.lt
theorem CMap.noCells {w : World} {b g : Nat} {f : Nm → Option Ch} (h : CMap w b f) {t : TypeId} {cs : Array Value} (hb : Blk w g t cs) : some g ≠ some b := by
  obtain ⟨l, h, _⟩ := h
  exact h.noCells hb
theorem CMap.new (w : World) : CMap (w.alloc (.map #[] 0)) w.heap.size (fun _ => none) := ⟨[], MapAt.new w, fun _ => rfl⟩
theorem CMap.congr {w : World} {b : Nat} {f g : Nm → Option Ch} (h : CMap w b f) (e : ∀ n, f n = g n) : CMap w b g := h.imp fun l hl => ⟨hl.1, fun n => by rw [hl.2, e]⟩
theorem CMap.put {w : World} {b : Nat} {f : Nm → Option Ch} (h : CMap w b f) (c : Ch) : ∃ w', (Instr.mapUpdate 142 (.map (some b)) (nmV c.name) (chV c)).run Tryz.prog w = .ok () w' ∧ CMap w' b (fun m => if c.name = m then some c else f m) ∧ w.grownBy w' (some b) := by
  obtain ⟨l, h1, h2⟩ := h; obtain ⟨w', g1, g2, g3⟩ := map_put h1 c.name (chV c) Tryz.underlying142
  refine ⟨w', g1, ⟨_, g2, fun m => ?_⟩, g3⟩
  rw [look_put]
  show _ = Option.map chV (if c.name = m then some c else f m)
  by_cases e : c.name = m
  · rw [if_pos e, if_pos e]; rfl
  · rw [if_neg e, if_neg e]; exact h2 m
theorem zeroCh47 (w : World) : (zeroValue 92).run Tryz.prog w = .ok (chV ch0) w := by kernel_rfl
theorem CMap.ok {w : World} {b : Nat} {f : Nm → Option Ch} (h : CMap w b f) (n : Nm) {d : Ch} {q : Bool} (hd : (f n).getD ch0 = d) (hq : (f n).isSome = q) : (Instr.lookup 142 (.map (some b)) (nmV n) true).run Tryz.prog w = .ok (.tuple #[chV d, .bool q]) w := by
  obtain ⟨l, h1, h2⟩ := h; have := map_ok47 h1 n Tryz.underlying142 (zeroCh47 w); rw [h2] at this; rw [this, ← hd, ← hq]
  cases f n <;> rfl
theorem heapN_ {b g : Nat} (v0 v1 v2 v3 v4 : Value) (w : World) (hne : b ≠ g) (hb : b < w.heap.size) : (((((w.setCell ⟨g, 5, none⟩ (v0)).setCell ⟨g, 6, none⟩ (v1)).setCell ⟨g, 7, none⟩ (v2)).setCell ⟨g, 8, none⟩ (v3)).setCell ⟨g, 9, none⟩ (v4)).heap[b]? = w.heap[b]? := by
  have h : w.grownBy (((((w.setCell ⟨g, 5, none⟩ (v0)).setCell ⟨g, 6, none⟩ (v1)).setCell ⟨g, 7, none⟩ (v2)).setCell ⟨g, 8, none⟩ (v3)).setCell ⟨g, 9, none⟩ (v4)) (some g) := (only_setCell (only_setCell (only_setCell (only_setCell (only_setCell (only_of_below (Below.refl w.heap.size w) (some g)) (.inl rfl) _) (.inl rfl) _) (.inl rfl) _) (.inl rfl) _) (.inl rfl) _)
  exact h.block b hb (fun e => hne (by injection e))
def c1Rel (ys : List Ch) (w3 : World) (mb : Nat) (i : Value) (wr : World) : Prop := ∃ k : Nat, k ≤ ys.length ∧ i = .int .i64 (k : Int) ∧ CMap wr mb (fdm (ys.take k)) ∧ Below w3.heap.size w3 wr
def c2Rel (x : Ac) (xs ys : List Ch) (w3 : World) (mb qb : Nat) (is i : Value) (wr : World) : Prop := ∃ (j : Nat) (o : Option Nm), j ≤ xs.length ∧ i = .int .i64 (j : Int) ∧ is = .bool o.isSome ∧ chP xs ys j = o ∧ CMap wr mb (fdm ys) ∧ Blk wr qb 47 #[.int .i64 x.key.tick, .int .i64 x.key.cls, .int .i64 x.key.num, .string (bs x.key.lin), .int .i64 1, .int .i64 (o.getD nm0).kind, .string (bs (o.getD nm0).owner), .int .i64 (o.getD nm0).num, .int .i64 (o.getD nm0).idx, .string (bs (o.getD nm0).text)] ∧ Below w3.heap.size w3 wr
set_option maxRecDepth 100000 in
set_option maxHeartbeats 8000000 in
theorem changed_is {w : World} {x y : Ac} {u1 u2 v1 v2 : Value} (h1 : RdCh w u1 x.reads) (h2 : RdCh w v1 y.reads) (g1 : RdCh w u2 x.writes) (g2 : RdCh w v2 y.writes) (l1 : x.reads.length ≤ 10) (l2 : y.reads.length ≤ 10) (o1 : ordCh x.reads = true) (o2 : ordCh y.reads = true) (r1 : ∀ c ∈ x.reads, OwnE c.name) :
    Calls Tryz.prog 51 #[.agg #[.int .i64 x.key.tick, .int .i64 x.key.cls, .int .i64 x.key.num, .string (bs x.key.lin), u1, u2], .agg #[.int .i64 y.key.tick, .int .i64 y.key.cls, .int .i64 y.key.num, .string (bs y.key.lin), v1, v2]] w fun e w' => e = .returned (.tuple #[rsV (chgE x y).1, .int .i64 (chgE x y).2]) ∧ Below w.heap.size w w' := by
  obtain ⟨A1, c1, rfl, hc1⟩ := RdP.form h1; obtain ⟨A2, c2, rfl, hc2⟩ := RdP.form h2; obtain ⟨B1, d1, rfl, _⟩ := RdP.form g1; obtain ⟨B2, d2, rfl, _⟩ := RdP.form g2; have b0 := Below.refl w.heap.size w; have b1 := b0.alloc b0.size (.cells #[.int .i64 x.key.tick, .int .i64 x.key.cls, .int .i64 x.key.num, .string (bs x.key.lin), .slice A1 x.reads.length c1, .slice B1 x.writes.length d1] 38); have b2 := b1.alloc b1.size (.cells #[.int .i64 y.key.tick, .int .i64 y.key.cls, .int .i64 y.key.num, .string (bs y.key.lin), .slice A2 y.reads.length c2, .slice B2 y.writes.length d2] 38); have b3 := b2.alloc b2.size (.cells #[.int .i64 0, .int .i64 0, .int .i64 0, .string ⟨#[]⟩, .int .i64 0, .int .i64 0, .string ⟨#[]⟩, .int .i64 0, .int .i64 0, .string ⟨#[]⟩] 47); have z0 := (((Blk.new w 38 #[.int .i64 x.key.tick, .int .i64 x.key.cls, .int .i64 x.key.num, .string (bs x.key.lin), .slice A1 x.reads.length c1, .slice B1 x.writes.length d1]).alloc (.cells #[.int .i64 y.key.tick, .int .i64 y.key.cls, .int .i64 y.key.num, .string (bs y.key.lin), .slice A2 y.reads.length c2, .slice B2 y.writes.length d2] 38)).alloc (.cells #[.int .i64 0, .int .i64 0, .int .i64 0, .string ⟨#[]⟩, .int .i64 0, .int .i64 0, .string ⟨#[]⟩, .int .i64 0, .int .i64 0, .string ⟨#[]⟩] 47)); have z1 := ((Blk.newE (w.alloc (.cells #[.int .i64 x.key.tick, .int .i64 x.key.cls, .int .i64 x.key.num, .string (bs x.key.lin), .slice A1 x.reads.length c1, .slice B1 x.writes.length d1] 38)) 38 #[.int .i64 y.key.tick, .int .i64 y.key.cls, .int .i64 y.key.num, .string (bs y.key.lin), .slice A2 y.reads.length c2, .slice B2 y.writes.length d2] (w.heap.size + 1) (by simp)).alloc (.cells #[.int .i64 0, .int .i64 0, .int .i64 0, .string ⟨#[]⟩, .int .i64 0, .int .i64 0, .string ⟨#[]⟩, .int .i64 0, .int .i64 0, .string ⟨#[]⟩] 47)); have z2 := (Blk.newE ((w.alloc (.cells #[.int .i64 x.key.tick, .int .i64 x.key.cls, .int .i64 x.key.num, .string (bs x.key.lin), .slice A1 x.reads.length c1, .slice B1 x.writes.length d1] 38)).alloc (.cells #[.int .i64 y.key.tick, .int .i64 y.key.cls, .int .i64 y.key.num, .string (bs y.key.lin), .slice A2 y.reads.length c2, .slice B2 y.writes.length d2] 38)) 47 #[.int .i64 0, .int .i64 0, .int .i64 0, .string ⟨#[]⟩, .int .i64 0, .int .i64 0, .string ⟨#[]⟩, .int .i64 0, .int .i64 0, .string ⟨#[]⟩] (w.heap.size + 1 + 1) (by simp)); have HYY := Lib.hid (fun (W : World) (hW : Below (((w.alloc (.cells #[.int .i64 x.key.tick, .int .i64 x.key.cls, .int .i64 x.key.num, .string (bs x.key.lin), .slice A1 x.reads.length c1, .slice B1 x.writes.length d1] 38)).alloc (.cells #[.int .i64 y.key.tick, .int .i64 y.key.cls, .int .i64 y.key.num, .string (bs y.key.lin), .slice A2 y.reads.length c2, .slice B2 y.writes.length d2] 38)).alloc (.cells #[.int .i64 0, .int .i64 0, .int .i64 0, .string ⟨#[]⟩, .int .i64 0, .int .i64 0, .string ⟨#[]⟩, .int .i64 0, .int .i64 0, .string ⟨#[]⟩] 47)).heap.size (((w.alloc (.cells #[.int .i64 x.key.tick, .int .i64 x.key.cls, .int .i64 x.key.num, .string (bs x.key.lin), .slice A1 x.reads.length c1, .slice B1 x.writes.length d1] 38)).alloc (.cells #[.int .i64 y.key.tick, .int .i64 y.key.cls, .int .i64 y.key.num, .string (bs y.key.lin), .slice A2 y.reads.length c2, .slice B2 y.writes.length d2] 38)).alloc (.cells #[.int .i64 0, .int .i64 0, .int .i64 0, .string ⟨#[]⟩, .int .i64 0, .int .i64 0, .string ⟨#[]⟩, .int .i64 0, .int .i64 0, .string ⟨#[]⟩] 47)) W) => show Blk W w.heap.size 38 #[.int .i64 x.key.tick, .int .i64 x.key.cls, .int .i64 x.key.num, .string (bs x.key.lin), .slice A1 x.reads.length c1, .slice B1 x.writes.length d1] ∧ Blk W (w.heap.size + 1) 38 #[.int .i64 y.key.tick, .int .i64 y.key.cls, .int .i64 y.key.num, .string (bs y.key.lin), .slice A2 y.reads.length c2, .slice B2 y.writes.length d2] ∧ Blk W (w.heap.size + 1 + 1) 47 #[.int .i64 0, .int .i64 0, .int .i64 0, .string ⟨#[]⟩, .int .i64 0, .int .i64 0, .string ⟨#[]⟩, .int .i64 0, .int .i64 0, .string ⟨#[]⟩] ∧ RdCh W (.slice A1 x.reads.length c1) x.reads ∧ RdCh W (.slice A2 y.reads.length c2) y.reads from ⟨z0.next hW z0.lt, z1.next hW z1.lt, z2.next hW z2.lt, RdP.next (RdP.next h1 b3) hW, RdP.next (RdP.next h2 b3) hW⟩)
  have HB0 := Lib.hid b3; have HO1 := Lib.hid o1; have HO2 := Lib.hid o2; have HOW := Lib.hid r1; have hmm := @run_makeMap Tryz.prog; have HRL := Lib.hid (show w.heap.size ≤ w.heap.size + 1 + 1 by omega); have x0 := z0.cell 0; have x1 := z0.cell 1; have x2 := z0.cell 2; have x3 := z0.cell 3; have x4 := z0.cell 4; have x5 := z0.cell 5; simp only [qB, qC, qD] at x0 x1 x2 x3 x4 x5; have y0 := z1.cell 0; have y1 := z1.cell 1; have y2 := z1.cell 2; have y3 := z1.cell 3; have y4 := z1.cell 4; have y5 := z1.cell 5; simp only [qB, qC, qD] at y0 y1 y2 y3 y4 y5; clear h1 h2 g1 g2 b0 b1 b2 b3 z0 z1 z2 o1 o2 r1
  unfold rsV
  go_enter Tryz.func51, Tryz.ntmps51
  go_upto_region 1 with (fail)
  have HW3 := Lib.hid (show (((w.alloc (.cells #[.int .i64 x.key.tick, .int .i64 x.key.cls, .int .i64 x.key.num, .string (bs x.key.lin), .slice A1 x.reads.length c1, .slice B1 x.writes.length d1] 38)).alloc (.cells #[.int .i64 y.key.tick, .int .i64 y.key.cls, .int .i64 y.key.num, .string (bs y.key.lin), .slice A2 y.reads.length c2, .slice B2 y.writes.length d2] 38)).alloc (.cells #[.int .i64 0, .int .i64 0, .int .i64 0, .string ⟨#[]⟩, .int .i64 0, .int .i64 0, .string ⟨#[]⟩, .int .i64 0, .int .i64 0, .string ⟨#[]⟩] 47)).heap.size = w.heap.size + 1 + 1 + 1 by simp); generalize (((w.alloc (.cells #[.int .i64 x.key.tick, .int .i64 x.key.cls, .int .i64 x.key.num, .string (bs x.key.lin), .slice A1 x.reads.length c1, .slice B1 x.writes.length d1] 38)).alloc (.cells #[.int .i64 y.key.tick, .int .i64 y.key.cls, .int .i64 y.key.num, .string (bs y.key.lin), .slice A2 y.reads.length c2, .slice B2 y.writes.length d2] 38)).alloc (.cells #[.int .i64 0, .int .i64 0, .int .i64 0, .string ⟨#[]⟩, .int .i64 0, .int .i64 0, .string ⟨#[]⟩, .int .i64 0, .int .i64 0, .string ⟨#[]⟩] 47)) = w3 at *; obtain ⟨rb, hrb⟩ : ∃ rb, w.heap.size + 1 + 1 = rb := ⟨_, rfl⟩; rw [hrb] at HYY HRL ⊢; obtain ⟨yb, hyb⟩ : ∃ yb, w.heap.size + 1 = yb := ⟨_, rfl⟩; rw [hyb] at HYY y0 y1 y2 y3 y4 y5 ⊢; obtain ⟨xb, hxb⟩ : ∃ xb, w.heap.size = xb := ⟨_, rfl⟩; rw [hxb] at HYY x0 x1 x2 x3 x4 x5 ⊢; clear hrb hyb hxb
  by_cases he : x.reads = y.reads
  · have HE := Lib.hid (show chgE x y = (rs0, 8) by unfold chgE; rw [if_pos he])
    have HQ := Lib.hid (decide_eq_true he); clear he
    go_upto_region 2 with (go_at_call 71; obtain ⟨_, _, _, k1, k2⟩ := HYY.out w3 (Below.refl _ _); refine (eqch_is k1 k2 (by omega) (by omega)).mono ?_; rintro e w4 ⟨rfl, hb⟩; rw [HQ.out]; have B4 := Lib.hid hb; clear hb k1 k2)
    clear x0 x1 x2 x3 x4 x5 y0 y1 y2 y3 y4 y5 hmm; obtain ⟨_, _, HZR, _, _⟩ := HYY.out w4 B4.out; have d0 := HZR.cell 0; have d1 := HZR.cell 1; have d2 := HZR.cell 2; have d3 := HZR.cell 3; have d4 := HZR.cell 4; have d5 := HZR.cell 5; have d6 := HZR.cell 6; have d7 := HZR.cell 7; have d8 := HZR.cell 8; have d9 := HZR.cell 9; simp only [qB, qC, qD] at d0 d1 d2 d3 d4 d5 d6 d7 d8 d9; have f0 := HZR.frozen 0; have f1 := HZR.frozen 1; have f2 := HZR.frozen 2; have f3 := HZR.frozen 3; have f4 := HZR.frozen 4; have f5 := HZR.frozen 5; have f6 := HZR.frozen 6; have f7 := HZR.frozen 7; have f8 := HZR.frozen 8; have f9 := HZR.frozen 9; have ZE := Lib.hid (set10z_ (.int .i64 0) (.int .i64 0) (.int .i64 0) (.string ⟨#[]⟩) (.int .i64 0) (.int .i64 0) (.string ⟨#[]⟩) (.int .i64 0) (.int .i64 0) (.string ⟨#[]⟩) HZR); have BE := Lib.hid (low10z_ (.int .i64 0) (.int .i64 0) (.int .i64 0) (.string ⟨#[]⟩) (.int .i64 0) (.int .i64 0) (.string ⟨#[]⟩) (.int .i64 0) (.int .i64 0) (.string ⟨#[]⟩) (HB0.out.trans (B4.out.mono HB0.out.size)) HRL.out); clear HZR
    go_wp2_with fail
    clear d0 d1 d2 d3 d4 d5 d6 d7 d8 d9 f0 f1 f2 f3 f4 f5 f6 f7 f8 f9; have d0 := ZE.out.cell 0; have d1 := ZE.out.cell 1; have d2 := ZE.out.cell 2; have d3 := ZE.out.cell 3; have d4 := ZE.out.cell 4; have d5 := ZE.out.cell 5; have d6 := ZE.out.cell 6; have d7 := ZE.out.cell 7; have d8 := ZE.out.cell 8; have d9 := ZE.out.cell 9; simp only [qB, qC, qD] at d0 d1 d2 d3 d4 d5 d6 d7 d8 d9; generalize ((((((((((w4.setCell ⟨rb, 0, none⟩ (.int .i64 0)).setCell ⟨rb, 1, none⟩ (.int .i64 0)).setCell ⟨rb, 2, none⟩ (.int .i64 0)).setCell ⟨rb, 3, none⟩ (.string ⟨#[]⟩)).setCell ⟨rb, 4, none⟩ (.int .i64 0)).setCell ⟨rb, 5, none⟩ (.int .i64 0)).setCell ⟨rb, 6, none⟩ (.string ⟨#[]⟩)).setCell ⟨rb, 7, none⟩ (.int .i64 0)).setCell ⟨rb, 8, none⟩ (.int .i64 0)).setCell ⟨rb, 9, none⟩ (.string ⟨#[]⟩)) = W9 at *
    exact bodyPost_ret (v := .tuple #[.agg #[.int .i64 0, .int .i64 0, .int .i64 0, .string ⟨#[]⟩, .int .i64 0, .int .i64 0, .string ⟨#[]⟩, .int .i64 0, .int .i64 0, .string ⟨#[]⟩], .int .i64 8]) (by simp [results, Tryz.results51, go_sem, d0, d1, d2, d3, d4, d5, d6, d7, d8, d9]) rfl ⟨by rw [HE.out]; rfl, BE.out⟩
  · have HEN := Lib.hid he
    have HQ := Lib.hid (decide_eq_false he); clear he
    go_upto_region 3 with (go_at_call 71; obtain ⟨_, _, _, k1, k2⟩ := HYY.out w3 (Below.refl _ _); refine (eqch_is k1 k2 (by omega) (by omega)).mono ?_; rintro e w4 ⟨rfl, hb⟩; rw [HQ.out]; have B4 := Lib.hid hb; clear hb k1 k2)
    clear x0 x1 x2 x3 x4 x5 y0 y1 y2 y3 y4 y5; have hba := (Below.refl w4.heap.size w4).alloc (Nat.le_refl _) (.map #[] 0); have BM := Lib.hid (B4.out.trans (hba.mono B4.out.size)); have CM := Lib.hid (CMap.new w4); have HMB := Lib.hid (show w3.heap.size ≤ w4.heap.size from B4.out.size); clear hba
    go_upto_region 4 with (fail)
    clear hmm; generalize w4.alloc (.map #[] 0) = w5 at *; obtain ⟨mb, hmb⟩ : ∃ mb, w4.heap.size = mb := ⟨_, rfl⟩; rw [hmb] at CM HMB ⊢; clear hmb; obtain ⟨ys, hys⟩ : ∃ ys, y.reads = ys := ⟨_, rfl⟩; obtain ⟨xs, hxs⟩ : ∃ xs, x.reads = xs := ⟨_, rfl⟩; obtain ⟨_, ZY, _, _, _⟩ := HYY.out w5 BM.out; have y0 := ZY.cell 0; have y1 := ZY.cell 1; have y2 := ZY.cell 2; have y3 := ZY.cell 3; have y4 := ZY.cell 4; have y5 := ZY.cell 5; simp only [qB, qC, qD] at y0 y1 y2 y3 y4 y5; clear ZY; have HRX := Lib.hid (fun W hW => (HYY.out W hW).2.2.2)
    have HCE := Lib.hid (show chgE x y = match chgN xs ys with
      | some n => (⟨x.key, 1, n⟩, 0)
      | none => (rs0, 10) by unfold chgE; rw [if_neg HEN.out, hxs, hys])
    rw [hys] at y4 HRX HO2 l2; rw [hxs] at HRX HO1 HOW l1; have HXS := Lib.hid hxs; have H1 : Hid (c1Rel ys w3 mb (.int .i64 (0 : Nat)) w5) := Lib.hid ⟨0, Nat.zero_le _, rfl, CM.out.congr (fun n => by simp [fdm]), BM.out⟩; clear hys hxs HQ HEN
    go_upto_region 5 with (fail)
    clear y0 y1 y2 y3 y4 y5 BM CM
    go_wp2_with fail
    go_loopw [25] (fun i wr => c1Rel ys w3 mb i wr) (fun i _ => ys.length - (intOf i).toNat)
    case atStart => exact H1.out
    case round =>
      clear H1; obtain ⟨k, hk, rfl, hcm, hB⟩ := hrel; have CM := Lib.hid hcm; have HB := Lib.hid hB; clear hcm hB
      by_cases hkl : k < ys.length
      · have j1 : decide ((k : Int) < (ys.length : Int)) = true := decide_eq_true (by omega)
        have j2 : (0 : Int) ≤ (k : Int) := by omega
        have j3 : (k : Int) < (ys.length : Int) := by omega
        obtain ⟨vb, vo, hbe, hvb, v0, v1, v2, v3, v4, v5, v6⟩ := RdCh.piece (HRX.out wr HB.out).2 hkl; have HTK := Lib.hid (fdm_take HO2.out hkl); obtain ⟨c, hc⟩ : ∃ c, ys[k] = c := ⟨_, rfl⟩; rw [hc] at v0 v1 v2 v3 v4 v5 v6 HTK; rw [hbe]; have HKL := Lib.hid hkl; clear hc hvb
        go_upto_region 7 with (fail)
        have hba := (Below.refl wr.heap.size wr).alloc (Nat.le_refl _) (.cells #[.int .i64 c.name.kind, .string (bs c.name.owner), .int .i64 c.name.num, .int .i64 c.name.idx, .string (bs c.name.text), .string (bs c.value), .bool c.absent] 92); have CMA := Lib.hid (CM.out.next hba); have BA := Lib.hid (HB.out.trans (hba.mono HB.out.size)); have ZC := Lib.hid (Blk.new wr 92 #[.int .i64 c.name.kind, .string (bs c.name.owner), .int .i64 c.name.num, .int .i64 c.name.idx, .string (bs c.name.text), .string (bs c.value), .bool c.absent]); clear hba v0 v1 v2 v3 v4 v5 v6; generalize wr.alloc (.cells #[.int .i64 c.name.kind, .string (bs c.name.owner), .int .i64 c.name.num, .int .i64 c.name.idx, .string (bs c.name.text), .string (bs c.value), .bool c.absent] 92) = w6 at *; obtain ⟨cb, hcb⟩ : ∃ cb, wr.heap.size = cb := ⟨_, rfl⟩; rw [hcb] at ZC ⊢; clear hcb; have v0 := ZC.out.cell 0; have v1 := ZC.out.cell 1; have v2 := ZC.out.cell 2; have v3 := ZC.out.cell 3; have v4 := ZC.out.cell 4; have v5 := ZC.out.cell 5; have v6 := ZC.out.cell 6; simp only [qB, qC, qD] at v0 v1 v2 v3 v4 v5 v6; obtain ⟨w7, hput, hcm, hg⟩ := CMA.out.put c
        unfold nmV nmA chV at hput
        have CMB := Lib.hid hcm; have BB := Lib.hid (BA.out.grown hg BA.out.size (fun r e => by injection e with e; subst e; exact HMB.out)); clear hcm hg
        go_wp2_with fail
        go_roundw
        case rel => exact ⟨k + 1, HKL.out, by go_num, CMB.out.congr (fun n => (HTK.out n).symm), BB.out⟩
        case measure => have := HKL.out; simp [intOf]; omega
      · have j1 : decide ((k : Int) < (ys.length : Int)) = false := decide_eq_false (by omega)
        have HTE := Lib.hid (show ys.take k = ys from List.take_of_length_le (by omega)); rw [HTE.out] at CM; clear HTE; obtain ⟨ZX, _, _, _, _⟩ := HYY.out wr HB.out; have x0 := ZX.cell 0; have x1 := ZX.cell 1; have x2 := ZX.cell 2; have x3 := ZX.cell 3; have x4 := ZX.cell 4; have x5 := ZX.cell 5; simp only [qB, qC, qD] at x0 x1 x2 x3 x4 x5; rw [HXS.out] at x4; clear ZX; have hba := (Below.refl wr.heap.size wr).alloc (Nat.le_refl _) (.cells #[.int .i64 x.key.tick, .int .i64 x.key.cls, .int .i64 x.key.num, .string (bs x.key.lin), .int .i64 1, .int .i64 0, .string ⟨#[]⟩, .int .i64 0, .int .i64 0, .string ⟨#[]⟩] 47); have CMA := Lib.hid (CM.out.next hba); have BA := Lib.hid (HB.out.trans (hba.mono HB.out.size)); have ZQ := Lib.hid (Blk.new wr 47 #[.int .i64 x.key.tick, .int .i64 x.key.cls, .int .i64 x.key.num, .string (bs x.key.lin), .int .i64 1, .int .i64 0, .string ⟨#[]⟩, .int .i64 0, .int .i64 0, .string ⟨#[]⟩]); have HQL := Lib.hid (show w3.heap.size ≤ wr.heap.size from HB.out.size)
        go_upto_region 10 with (fail)
        clear x0 x1 x2 x3 x4 x5 hba; generalize wr.alloc (.cells #[.int .i64 x.key.tick, .int .i64 x.key.cls, .int .i64 x.key.num, .string (bs x.key.lin), .int .i64 1, .int .i64 0, .string ⟨#[]⟩, .int .i64 0, .int .i64 0, .string ⟨#[]⟩] 47) = w6 at *; obtain ⟨qb, hqb⟩ : ∃ qb, wr.heap.size = qb := ⟨_, rfl⟩; have HNE := Lib.hid (show mb ≠ qb by have := CM.out.lt; omega); rw [hqb] at ZQ HQL ⊢; clear hqb CM HB; obtain ⟨ZX, _, _, _, _⟩ := HYY.out w6 BA.out; have x0 := ZX.cell 0; have x1 := ZX.cell 1; have x2 := ZX.cell 2; have x3 := ZX.cell 3; have x4 := ZX.cell 4; have x5 := ZX.cell 5; simp only [qB, qC, qD] at x0 x1 x2 x3 x4 x5; rw [HXS.out] at x4; clear ZX; have H2 : Hid (c2Rel x xs ys w3 mb qb (.bool false) (.int .i64 (0 : Nat)) w6) := Lib.hid ⟨0, none, Nat.zero_le _, rfl, rfl, rfl, CMA.out, ZQ.out, BA.out⟩
        go_upto_region 11 with (fail)
        clear x0 x1 x2 x3 x4 x5 CMA ZQ BA
        go_wp2_with fail
        go_loopw [10, 40] (fun is i wr => c2Rel x xs ys w3 mb qb is i wr) (fun _ i _ => xs.length - (intOf i).toNat)
        case atStart => exact H2.out
        case round =>
          clear H2; obtain ⟨j, o, hj, rfl, rfl, hcp, hcm, hzq, hB⟩ := hrel; have HCP := Lib.hid hcp; have CM := Lib.hid hcm; have ZQ := Lib.hid hzq; have HB := Lib.hid hB; clear hcp hcm hzq hB
          by_cases hjl : j < xs.length
          · have j1 : decide ((j : Int) < (xs.length : Int)) = true := decide_eq_true (by omega)
            have j2 : (0 : Int) ≤ (j : Int) := by omega
            have j3 : (j : Int) < (xs.length : Int) := by omega
            obtain ⟨vb, vo, hbe, hvb, v0, v1, v2, v3, v4, v5, v6⟩ := RdCh.piece (HRX.out wr HB.out).1 hjl; have HOWC := Lib.hid (HOW.out xs[j] (List.getElem_mem hjl)); have HCF := Lib.hid (chgP_fdm HO2.out xs[j]); have HGE := Lib.hid (fun n (h : chP xs ys j = some n) => chP_ge HO1.out hjl h); have HXJ := Lib.hid (show chP xs ys (j + 1) = chS xs[j] (chgP ys xs[j]) o by rw [chP_succ hjl, HCP.out]); obtain ⟨c, hc⟩ : ∃ c, xs[j] = c := ⟨_, rfl⟩; rw [hc] at v0 v1 v2 v3 v4 v5 v6 HOWC HCF HGE HXJ; have HJL := Lib.hid hjl; rw [hbe]; clear hc hvb hjl
            go_upto_region 13 with (fail)
            have hba := (Below.refl wr.heap.size wr).alloc (Nat.le_refl _) (.cells #[.int .i64 c.name.kind, .string (bs c.name.owner), .int .i64 c.name.num, .int .i64 c.name.idx, .string (bs c.name.text), .string (bs c.value), .bool c.absent] 92); have CMA := Lib.hid (CM.out.next hba); have ZQA := Lib.hid (ZQ.out.next hba ZQ.out.lt); have BA := Lib.hid (HB.out.trans (hba.mono HB.out.size)); have ZC := Lib.hid (Blk.new wr 92 #[.int .i64 c.name.kind, .string (bs c.name.owner), .int .i64 c.name.num, .int .i64 c.name.idx, .string (bs c.name.text), .string (bs c.value), .bool c.absent]); clear hba v0 v1 v2 v3 v4 v5 v6; generalize wr.alloc (.cells #[.int .i64 c.name.kind, .string (bs c.name.owner), .int .i64 c.name.num, .int .i64 c.name.idx, .string (bs c.name.text), .string (bs c.value), .bool c.absent] 92) = w7 at *; obtain ⟨cb, hcb⟩ : ∃ cb, wr.heap.size = cb := ⟨_, rfl⟩; rw [hcb] at ZC ⊢; clear hcb; have v0 := ZC.out.cell 0; have v1 := ZC.out.cell 1; have v2 := ZC.out.cell 2; have v3 := ZC.out.cell 3; have v4 := ZC.out.cell 4; have v5 := ZC.out.cell 5; have v6 := ZC.out.cell 6; simp only [qB, qC, qD] at v0 v1 v2 v3 v4 v5 v6; obtain ⟨od, hod⟩ : ∃ od, fdm ys c.name = od := ⟨_, rfl⟩; obtain ⟨d, hd⟩ : ∃ d, od.getD ch0 = d := ⟨_, rfl⟩; obtain ⟨q, hq⟩ : ∃ q, od.isSome = q := ⟨_, rfl⟩; have hlook := CMA.out.ok c.name (d := d) (q := q) (by rw [hod]; exact hd) (by rw [hod]; exact hq)
            unfold nmV nmA chV at hlook
            rw [hod] at HCF; have HD := Lib.hid hd; have HQQ := Lib.hid hq; clear hod hd hq
            go_upto_region 14 with (fail)
            have hba := (Below.refl w7.heap.size w7).alloc (Nat.le_refl _) (.cells #[.int .i64 d.name.kind, .string (bs d.name.owner), .int .i64 d.name.num, .int .i64 d.name.idx, .string (bs d.name.text), .string (bs d.value), .bool d.absent] 92); have CMB := Lib.hid (CMA.out.next hba); have ZQB := Lib.hid (ZQA.out.next hba ZQA.out.lt); have BB := Lib.hid (BA.out.trans (hba.mono BA.out.size)); have ZCB := Lib.hid (ZC.out.next hba ZC.out.lt); have ZDB := Lib.hid (Blk.new w7 92 #[.int .i64 d.name.kind, .string (bs d.name.owner), .int .i64 d.name.num, .int .i64 d.name.idx, .string (bs d.name.text), .string (bs d.value), .bool d.absent]); clear hba hlook v0 v1 v2 v3 v4 v5 v6; generalize w7.alloc (.cells #[.int .i64 d.name.kind, .string (bs d.name.owner), .int .i64 d.name.num, .int .i64 d.name.idx, .string (bs d.name.text), .string (bs d.value), .bool d.absent] 92) = w8 at *; obtain ⟨db, hdb⟩ : ∃ db, w7.heap.size = db := ⟨_, rfl⟩; rw [hdb] at ZDB ⊢; clear hdb; have v0 := ZCB.out.cell 0; have v1 := ZCB.out.cell 1; have v2 := ZCB.out.cell 2; have v3 := ZCB.out.cell 3; have v4 := ZCB.out.cell 4; have v5 := ZCB.out.cell 5; have v6 := ZCB.out.cell 6; simp only [qB, qC, qD] at v0 v1 v2 v3 v4 v5 v6; have t0 := ZDB.out.cell 0; have t1 := ZDB.out.cell 1; have t2 := ZDB.out.cell 2; have t3 := ZDB.out.cell 3; have t4 := ZDB.out.cell 4; have t5 := ZDB.out.cell 5; have t6 := ZDB.out.cell 6; simp only [qB, qC, qD] at t0 t1 t2 t3 t4 t5 t6
            cases od with
            | none =>
              obtain rfl : q = false := HQQ.out.symm
              have HNX := Lib.hid (show chP xs ys (j + 1) = o by
                have hcf : chgP ys c = false := HCF.out; rw [HXJ.out, hcf]
                cases o <;> rfl)
              clear HCF HXJ HGE
              go_wp2_with fail
              go_roundw
              case rel => exact ⟨j + 1, o, HJL.out, by go_num, rfl, HNX.out, CMB.out, ZQB.out, BB.out⟩
              case measure => have := HJL.out; simp [intOf]; omega
            | some d2 =>
              obtain rfl : q = true := HQQ.out.symm; obtain rfl : d2 = d := HD.out; obtain ⟨u, hu⟩ : ∃ u, difC c d2 = u := ⟨_, rfl⟩; have HU := Lib.hid hu; have HCU := Lib.hid (show chgP ys c = u from HCF.out.trans hu); have HDF := Lib.hid (fun W => differs_is (w := W) c d2); rw [hu] at HDF
              unfold chV at HDF
              clear hu HCF
              cases u with
              | false =>
                have HNX := Lib.hid (show chP xs ys (j + 1) = o by
                  rw [HXJ.out, HCU.out]
                  cases o <;> rfl)
                clear HXJ HGE
                go_wp2_with (go_at_call 72; refine (HDF.out _).mono ?_; rintro e w9 ⟨rfl, hb⟩; have CMC := Lib.hid (CMB.out.next hb); have ZQC := Lib.hid (ZQB.out.next hb ZQB.out.lt); have BC := Lib.hid (BB.out.trans (hb.mono BB.out.size)); clear hb)
                go_roundw
                case rel => exact ⟨j + 1, o, HJL.out, by go_num, rfl, HNX.out, CMC.out, ZQC.out, BC.out⟩
                case measure => have := HJL.out; simp [intOf]; omega
              | true =>
                cases o with
                | none =>
                  have HNX := Lib.hid (show chP xs ys (j + 1) = some c.name by rw [HXJ.out, HCU.out]; rfl); clear HXJ HGE
                  go_upto_region 15 with (go_at_call 72; refine (HDF.out _).mono ?_; rintro e w9 ⟨rfl, hb⟩; have CMC := Lib.hid (CMB.out.next hb); have ZQC := Lib.hid (ZQB.out.next hb ZQB.out.lt); have ZCC := Lib.hid (ZCB.out.next hb ZCB.out.lt); have BC := Lib.hid (BB.out.trans (hb.mono BB.out.size)); clear hb)
                  clear v0 v1 v2 v3 v4 v5 v6 t0 t1 t2 t3 t4 t5 t6; have v0 := ZCC.out.cell 0; have v1 := ZCC.out.cell 1; have v2 := ZCC.out.cell 2; have v3 := ZCC.out.cell 3; have v4 := ZCC.out.cell 4; have v5 := ZCC.out.cell 5; have v6 := ZCC.out.cell 6; simp only [qB, qC, qD] at v0 v1 v2 v3 v4 v5 v6; have ZQK := ZQC.out
                  simp only [Option.getD_none] at ZQK
                  have c0 := ZQK.cell 0; have c1 := ZQK.cell 1; have c2 := ZQK.cell 2; have c3 := ZQK.cell 3; have c4 := ZQK.cell 4; have c5 := ZQK.cell 5; have c6 := ZQK.cell 6; have c7 := ZQK.cell 7; have c8 := ZQK.cell 8; have c9 := ZQK.cell 9; simp only [qB, qC, qD] at c0 c1 c2 c3 c4 c5 c6 c7 c8 c9; have g0 := ZQK.frozen 0; have g1 := ZQK.frozen 1; have g2 := ZQK.frozen 2; have g3 := ZQK.frozen 3; have g4 := ZQK.frozen 4; have g5 := ZQK.frozen 5; have g6 := ZQK.frozen 6; have g7 := ZQK.frozen 7; have g8 := ZQK.frozen 8; have g9 := ZQK.frozen 9; have ZE := Lib.hid (setNz_ (.int .i64 c.name.kind) (.string (bs c.name.owner)) (.int .i64 c.name.num) (.int .i64 c.name.idx) (.string (bs c.name.text)) ZQK); have BE := Lib.hid (lowNz_ (.int .i64 c.name.kind) (.string (bs c.name.owner)) (.int .i64 c.name.num) (.int .i64 c.name.idx) (.string (bs c.name.text)) BC.out HQL.out); have CME := Lib.hid (CMC.out.same (heapN_ (.int .i64 c.name.kind) (.string (bs c.name.owner)) (.int .i64 c.name.num) (.int .i64 c.name.idx) (.string (bs c.name.text)) w9 HNE.out CMC.out.lt)); clear ZQK
                  go_wp2_with fail
                  go_roundw
                  case rel => exact ⟨j + 1, some c.name, HJL.out, by go_num, rfl, HNX.out, CME.out, ZE.out, BE.out⟩
                  case measure => have := HJL.out; simp [intOf]; omega
                | some n =>
                  have HNX := Lib.hid (show chP xs ys (j + 1) = some n by rw [HXJ.out]; rfl); obtain ⟨hge, m, hm, hmn⟩ := HGE.out n HCP.out; have HNO := Lib.hid (show OwnE n by rw [← hmn]; exact HOW.out m hm); have HCC := Lib.hid (fun W => compare_is c.name n W HOWC.out HNO.out)
                  unfold nmV nmA at HCC
                  have e1 : decide (cmpN c.name n < 0) = false := decide_eq_false hge
                  simp only [Option.getD_some] at ZQB
                  clear HXJ HGE hge hm hmn; have ZQK := ZQB.out; have c0 := ZQK.cell 0; have c1 := ZQK.cell 1; have c2 := ZQK.cell 2; have c3 := ZQK.cell 3; have c4 := ZQK.cell 4; have c5 := ZQK.cell 5; have c6 := ZQK.cell 6; have c7 := ZQK.cell 7; have c8 := ZQK.cell 8; have c9 := ZQK.cell 9; simp only [qB, qC, qD] at c0 c1 c2 c3 c4 c5 c6 c7 c8 c9; clear ZQK
                  go_wp2_with (first | (go_at_call 72; refine (HDF.out _).mono ?_; rintro e w9 ⟨rfl, hb⟩; have CMC := Lib.hid (CMB.out.next hb); have ZQC := Lib.hid (ZQB.out.next hb ZQB.out.lt); have ZCC := Lib.hid (ZCB.out.next hb ZCB.out.lt); have BC := Lib.hid (BB.out.trans (hb.mono BB.out.size)); clear hb; clear v0 v1 v2 v3 v4 v5 v6 t0 t1 t2 t3 t4 t5 t6 c0 c1 c2 c3 c4 c5 c6 c7 c8 c9; have v0 := ZCC.out.cell 0; have v1 := ZCC.out.cell 1; have v2 := ZCC.out.cell 2; have v3 := ZCC.out.cell 3; have v4 := ZCC.out.cell 4; have v5 := ZCC.out.cell 5; have v6 := ZCC.out.cell 6; (simp only [qB, qC, qD] at v0 v1 v2 v3 v4 v5 v6); have c0 := ZQC.out.cell 0; have c1 := ZQC.out.cell 1; have c2 := ZQC.out.cell 2; have c3 := ZQC.out.cell 3; have c4 := ZQC.out.cell 4; have c5 := ZQC.out.cell 5; have c6 := ZQC.out.cell 6; have c7 := ZQC.out.cell 7; have c8 := ZQC.out.cell 8; have c9 := ZQC.out.cell 9; (simp only [qB, qC, qD] at c0 c1 c2 c3 c4 c5 c6 c7 c8 c9)) | (go_at_call 42; refine (HCC.out _).mono ?_; rintro e w10 ⟨rfl, hb⟩; have CMD := Lib.hid (CMC.out.next hb); have ZQD := Lib.hid (ZQC.out.next hb ZQC.out.lt); have BD := Lib.hid (BC.out.trans (hb.mono BC.out.size)); clear hb))
                  go_roundw
                  case rel => exact ⟨j + 1, some n, HJL.out, by go_num, rfl, HNX.out, CMD.out, ZQD.out, BD.out⟩
                  case measure => have := HJL.out; simp [intOf]; omega
          · have j1 : decide ((j : Int) < (xs.length : Int)) = false := decide_eq_false (by omega)
            have HOC := Lib.hid (show chgN xs ys = o by rw [← HCP.out, ← chP_all, show j = xs.length by omega]); clear HCP
            cases o with
            | none =>
              have HE := Lib.hid (show chgE x y = (rs0, 10) by rw [HCE.out, HOC.out])
              go_upto_region 18 with (fail)
              obtain ⟨_, _, HZR, _, _⟩ := HYY.out wr HB.out; have d0 := HZR.cell 0; have d1 := HZR.cell 1; have d2 := HZR.cell 2; have d3 := HZR.cell 3; have d4 := HZR.cell 4; have d5 := HZR.cell 5; have d6 := HZR.cell 6; have d7 := HZR.cell 7; have d8 := HZR.cell 8; have d9 := HZR.cell 9; simp only [qB, qC, qD] at d0 d1 d2 d3 d4 d5 d6 d7 d8 d9; have f0 := HZR.frozen 0; have f1 := HZR.frozen 1; have f2 := HZR.frozen 2; have f3 := HZR.frozen 3; have f4 := HZR.frozen 4; have f5 := HZR.frozen 5; have f6 := HZR.frozen 6; have f7 := HZR.frozen 7; have f8 := HZR.frozen 8; have f9 := HZR.frozen 9; have ZE := Lib.hid (set10z_ (.int .i64 0) (.int .i64 0) (.int .i64 0) (.string ⟨#[]⟩) (.int .i64 0) (.int .i64 0) (.string ⟨#[]⟩) (.int .i64 0) (.int .i64 0) (.string ⟨#[]⟩) HZR); have BE := Lib.hid (low10z_ (.int .i64 0) (.int .i64 0) (.int .i64 0) (.string ⟨#[]⟩) (.int .i64 0) (.int .i64 0) (.string ⟨#[]⟩) (.int .i64 0) (.int .i64 0) (.string ⟨#[]⟩) (HB0.out.trans (HB.out.mono HB0.out.size)) HRL.out); clear HZR
              go_wp2_with fail
              clear d0 d1 d2 d3 d4 d5 d6 d7 d8 d9 f0 f1 f2 f3 f4 f5 f6 f7 f8 f9; have d0 := ZE.out.cell 0; have d1 := ZE.out.cell 1; have d2 := ZE.out.cell 2; have d3 := ZE.out.cell 3; have d4 := ZE.out.cell 4; have d5 := ZE.out.cell 5; have d6 := ZE.out.cell 6; have d7 := ZE.out.cell 7; have d8 := ZE.out.cell 8; have d9 := ZE.out.cell 9; simp only [qB, qC, qD] at d0 d1 d2 d3 d4 d5 d6 d7 d8 d9; generalize ((((((((((wr.setCell ⟨rb, 0, none⟩ (.int .i64 0)).setCell ⟨rb, 1, none⟩ (.int .i64 0)).setCell ⟨rb, 2, none⟩ (.int .i64 0)).setCell ⟨rb, 3, none⟩ (.string ⟨#[]⟩)).setCell ⟨rb, 4, none⟩ (.int .i64 0)).setCell ⟨rb, 5, none⟩ (.int .i64 0)).setCell ⟨rb, 6, none⟩ (.string ⟨#[]⟩)).setCell ⟨rb, 7, none⟩ (.int .i64 0)).setCell ⟨rb, 8, none⟩ (.int .i64 0)).setCell ⟨rb, 9, none⟩ (.string ⟨#[]⟩)) = W9 at *
              exact bodyPost_ret (v := .tuple #[.agg #[.int .i64 0, .int .i64 0, .int .i64 0, .string ⟨#[]⟩, .int .i64 0, .int .i64 0, .string ⟨#[]⟩, .int .i64 0, .int .i64 0, .string ⟨#[]⟩], .int .i64 10]) (by simp [results, Tryz.results51, go_sem, d0, d1, d2, d3, d4, d5, d6, d7, d8, d9]) rfl ⟨by rw [HE.out]; rfl, BE.out⟩
            | some n =>
              have HE := Lib.hid (show chgE x y = (⟨x.key, 1, n⟩, 0) by rw [HCE.out, HOC.out])
              simp only [Option.getD_some] at ZQ
              go_upto_region 19 with (fail)
              have c0 := ZQ.out.cell 0; have c1 := ZQ.out.cell 1; have c2 := ZQ.out.cell 2; have c3 := ZQ.out.cell 3; have c4 := ZQ.out.cell 4; have c5 := ZQ.out.cell 5; have c6 := ZQ.out.cell 6; have c7 := ZQ.out.cell 7; have c8 := ZQ.out.cell 8; have c9 := ZQ.out.cell 9; simp only [qB, qC, qD] at c0 c1 c2 c3 c4 c5 c6 c7 c8 c9; obtain ⟨_, _, HZR, _, _⟩ := HYY.out wr HB.out; have d0 := HZR.cell 0; have d1 := HZR.cell 1; have d2 := HZR.cell 2; have d3 := HZR.cell 3; have d4 := HZR.cell 4; have d5 := HZR.cell 5; have d6 := HZR.cell 6; have d7 := HZR.cell 7; have d8 := HZR.cell 8; have d9 := HZR.cell 9; simp only [qB, qC, qD] at d0 d1 d2 d3 d4 d5 d6 d7 d8 d9; have f0 := HZR.frozen 0; have f1 := HZR.frozen 1; have f2 := HZR.frozen 2; have f3 := HZR.frozen 3; have f4 := HZR.frozen 4; have f5 := HZR.frozen 5; have f6 := HZR.frozen 6; have f7 := HZR.frozen 7; have f8 := HZR.frozen 8; have f9 := HZR.frozen 9; have ZE := Lib.hid (set10z_ (.int .i64 x.key.tick) (.int .i64 x.key.cls) (.int .i64 x.key.num) (.string (bs x.key.lin)) (.int .i64 1) (.int .i64 n.kind) (.string (bs n.owner)) (.int .i64 n.num) (.int .i64 n.idx) (.string (bs n.text)) HZR); have BE := Lib.hid (low10z_ (.int .i64 x.key.tick) (.int .i64 x.key.cls) (.int .i64 x.key.num) (.string (bs x.key.lin)) (.int .i64 1) (.int .i64 n.kind) (.string (bs n.owner)) (.int .i64 n.num) (.int .i64 n.idx) (.string (bs n.text)) (HB0.out.trans (HB.out.mono HB0.out.size)) HRL.out); clear HZR
              go_wp2_with fail
              clear c0 c1 c2 c3 c4 c5 c6 c7 c8 c9; clear d0 d1 d2 d3 d4 d5 d6 d7 d8 d9 f0 f1 f2 f3 f4 f5 f6 f7 f8 f9; have d0 := ZE.out.cell 0; have d1 := ZE.out.cell 1; have d2 := ZE.out.cell 2; have d3 := ZE.out.cell 3; have d4 := ZE.out.cell 4; have d5 := ZE.out.cell 5; have d6 := ZE.out.cell 6; have d7 := ZE.out.cell 7; have d8 := ZE.out.cell 8; have d9 := ZE.out.cell 9; simp only [qB, qC, qD] at d0 d1 d2 d3 d4 d5 d6 d7 d8 d9; generalize ((((((((((wr.setCell ⟨rb, 0, none⟩ (.int .i64 x.key.tick)).setCell ⟨rb, 1, none⟩ (.int .i64 x.key.cls)).setCell ⟨rb, 2, none⟩ (.int .i64 x.key.num)).setCell ⟨rb, 3, none⟩ (.string (bs x.key.lin))).setCell ⟨rb, 4, none⟩ (.int .i64 1)).setCell ⟨rb, 5, none⟩ (.int .i64 n.kind)).setCell ⟨rb, 6, none⟩ (.string (bs n.owner))).setCell ⟨rb, 7, none⟩ (.int .i64 n.num)).setCell ⟨rb, 8, none⟩ (.int .i64 n.idx)).setCell ⟨rb, 9, none⟩ (.string (bs n.text))) = W9 at *
              exact bodyPost_ret (v := .tuple #[.agg #[.int .i64 x.key.tick, .int .i64 x.key.cls, .int .i64 x.key.num, .string (bs x.key.lin), .int .i64 1, .int .i64 n.kind, .string (bs n.owner), .int .i64 n.num, .int .i64 n.idx, .string (bs n.text)], .int .i64 0]) (by simp [results, Tryz.results51, go_sem, d0, d1, d2, d3, d4, d5, d6, d7, d8, d9]) rfl ⟨by rw [HE.out], BE.out⟩
theorem okAc_r {a : Ac} (h : okAc a = true) : ordCh a.reads = true := by unfold okAc at h; rw [Bool.and_eq_true] at h; exact h.1
theorem rsnE_both {a b : List Ac} {k : Ky} {p q : Nat} (hp : p < a.length) (hq : q < b.length) (ha : hasK a k = true) (hb : hasK b k = true) (ep : befK a k = p) (eq : befK b k = q) : rsnE a b k = chgE a[p] b[q] := by
  obtain ⟨h1, h2⟩ := hasK_at ha
  unfold rsnE chgE
  rw [if_pos ha, if_pos hb]; subst ep eq
  have e1 : acG a ((befK a k : Nat) : Int) = a[befK a k] := by rw [acG_at (by omega) (by omega)]; rfl
  have e2 : acG b ((befK b k : Nat) : Int) = b[befK b k] := by rw [acG_at (by omega) (by omega)]; rfl
  rw [e1, e2, h2]
  rfl
set_option maxRecDepth 100000 in
set_option maxHeartbeats 8000000 in
theorem reason_is {w : World} {va ma vb mb : Value} {B : Nat} {a b : List Ac} {k : Ky} (ha : RunAt w B va ma a) (hb : RunAt w B vb mb b) (oa : RunOk a) (ob : RunOk b) (hk : k.lin ∈ lin5) :
    Calls Tryz.prog 26 #[.agg #[va, ma, vb, mb], kyV k] w fun e w' => e = .returned (.tuple #[rsV (rsnE a b k).1, .int .i64 (rsnE a b k).2]) ∧ Below w.heap.size w w' := by
  obtain ⟨A1, c1, hva, hc1⟩ := RowRd.form ha.1; subst hva; obtain ⟨A2, c2, hvb, hc2⟩ := RowRd.form hb.1; subst hvb; have hal := oa.len; have hbl := ob.len
  obtain ⟨ta, hma⟩ : ∃ ta, ma = .map (some ta) := ha.2.imp fun _ h => h.1
  subst hma
  obtain ⟨tb, hmb⟩ : ∃ tb, mb = .map (some tb) := hb.2.imp fun _ h => h.1
  subst hmb; have b0 := Below.refl w.heap.size w; have b1 := b0.alloc b0.size (.cells #[.slice A1 a.length c1, .map (some ta), .slice A2 b.length c2, .map (some tb)] 85); have b2 := b1.alloc b1.size (.cells #[.int .i64 k.tick, .int .i64 k.cls, .int .i64 k.num, .string (bs k.lin)] 35); have b3 := b2.alloc b2.size (.cells #[.int .i64 0, .int .i64 0, .int .i64 0, .string ⟨#[]⟩, .int .i64 0, .int .i64 0, .string ⟨#[]⟩, .int .i64 0, .int .i64 0, .string ⟨#[]⟩] 47); have z0 := (((Blk.new w 85 #[.slice A1 a.length c1, .map (some ta), .slice A2 b.length c2, .map (some tb)]).alloc (.cells #[.int .i64 k.tick, .int .i64 k.cls, .int .i64 k.num, .string (bs k.lin)] 35)).alloc (.cells #[.int .i64 0, .int .i64 0, .int .i64 0, .string ⟨#[]⟩, .int .i64 0, .int .i64 0, .string ⟨#[]⟩, .int .i64 0, .int .i64 0, .string ⟨#[]⟩] 47)); have z1 := ((Blk.newE (w.alloc (.cells #[.slice A1 a.length c1, .map (some ta), .slice A2 b.length c2, .map (some tb)] 85)) 35 #[.int .i64 k.tick, .int .i64 k.cls, .int .i64 k.num, .string (bs k.lin)] (w.heap.size + 1) (by simp)).alloc (.cells #[.int .i64 0, .int .i64 0, .int .i64 0, .string ⟨#[]⟩, .int .i64 0, .int .i64 0, .string ⟨#[]⟩, .int .i64 0, .int .i64 0, .string ⟨#[]⟩] 47)); have z2 := (Blk.newE ((w.alloc (.cells #[.slice A1 a.length c1, .map (some ta), .slice A2 b.length c2, .map (some tb)] 85)).alloc (.cells #[.int .i64 k.tick, .int .i64 k.cls, .int .i64 k.num, .string (bs k.lin)] 35)) 47 #[.int .i64 0, .int .i64 0, .int .i64 0, .string ⟨#[]⟩, .int .i64 0, .int .i64 0, .string ⟨#[]⟩, .int .i64 0, .int .i64 0, .string ⟨#[]⟩] (w.heap.size + 1 + 1) (by simp)); have HSA := Lib.hid (fun (W : World) (hW : Below ((w.alloc (.cells #[.slice A1 a.length c1, .map (some ta), .slice A2 b.length c2, .map (some tb)] 85)).alloc (.cells #[.int .i64 k.tick, .int .i64 k.cls, .int .i64 k.num, .string (bs k.lin)] 35)).heap.size ((w.alloc (.cells #[.slice A1 a.length c1, .map (some ta), .slice A2 b.length c2, .map (some tb)] 85)).alloc (.cells #[.int .i64 k.tick, .int .i64 k.cls, .int .i64 k.num, .string (bs k.lin)] 35)) W) => ((ha.next b2).next hW).search oa hk); have HSB := Lib.hid (fun (W : World) (hW : Below ((w.alloc (.cells #[.slice A1 a.length c1, .map (some ta), .slice A2 b.length c2, .map (some tb)] 85)).alloc (.cells #[.int .i64 k.tick, .int .i64 k.cls, .int .i64 k.num, .string (bs k.lin)] 35)).heap.size ((w.alloc (.cells #[.slice A1 a.length c1, .map (some ta), .slice A2 b.length c2, .map (some tb)] 85)).alloc (.cells #[.int .i64 k.tick, .int .i64 k.cls, .int .i64 k.num, .string (bs k.lin)] 35)) W) => ((hb.next b2).next hW).search ob hk); have HAL := Lib.hid (fun (kd : Int) (W : World) (hW : Below ((w.alloc (.cells #[.slice A1 a.length c1, .map (some ta), .slice A2 b.length c2, .map (some tb)] 85)).alloc (.cells #[.int .i64 k.tick, .int .i64 k.cls, .int .i64 k.num, .string (bs k.lin)] 35)).heap.size ((w.alloc (.cells #[.slice A1 a.length c1, .map (some ta), .slice A2 b.length c2, .map (some tb)] 85)).alloc (.cells #[.int .i64 k.tick, .int .i64 k.cls, .int .i64 k.num, .string (bs k.lin)] 35)) W) => alone_is (k := k) kd ((ha.next b2).next hW) ((hb.next b2).next hW) oa ob hk)
  have HRA := Lib.hid (fun (W : World) (hW : Below ((w.alloc (.cells #[.slice A1 a.length c1, .map (some ta), .slice A2 b.length c2, .map (some tb)] 85)).alloc (.cells #[.int .i64 k.tick, .int .i64 k.cls, .int .i64 k.num, .string (bs k.lin)] 35)).heap.size ((w.alloc (.cells #[.slice A1 a.length c1, .map (some ta), .slice A2 b.length c2, .map (some tb)] 85)).alloc (.cells #[.int .i64 k.tick, .int .i64 k.cls, .int .i64 k.num, .string (bs k.lin)] 35)) W) => ((ha.next b2).next hW).1); have HRB := Lib.hid (fun (W : World) (hW : Below ((w.alloc (.cells #[.slice A1 a.length c1, .map (some ta), .slice A2 b.length c2, .map (some tb)] 85)).alloc (.cells #[.int .i64 k.tick, .int .i64 k.cls, .int .i64 k.num, .string (bs k.lin)] 35)).heap.size ((w.alloc (.cells #[.slice A1 a.length c1, .map (some ta), .slice A2 b.length c2, .map (some tb)] 85)).alloc (.cells #[.int .i64 k.tick, .int .i64 k.cls, .int .i64 k.num, .string (bs k.lin)] 35)) W) => ((hb.next b2).next hW).1); have OA := Lib.hid oa; have OB := Lib.hid ob; have hpa := befK_le a k; have hpb := befK_le b k; have HPA := Lib.hid (fun h => hasK_at (l := a) (k := k) h); have HPB := Lib.hid (fun h => hasK_at (l := b) (k := k) h); have HB0 := Lib.hid b2
  unfold kyV at HSA HSB HAL ⊢
  have HZZ := Lib.hid (fun (W : World) (hW : Below ((w.alloc (.cells #[.slice A1 a.length c1, .map (some ta), .slice A2 b.length c2, .map (some tb)] 85)).alloc (.cells #[.int .i64 k.tick, .int .i64 k.cls, .int .i64 k.num, .string (bs k.lin)] 35)).heap.size ((w.alloc (.cells #[.slice A1 a.length c1, .map (some ta), .slice A2 b.length c2, .map (some tb)] 85)).alloc (.cells #[.int .i64 k.tick, .int .i64 k.cls, .int .i64 k.num, .string (bs k.lin)] 35)) W) => show Blk W w.heap.size 85 #[.slice A1 a.length c1, .map (some ta), .slice A2 b.length c2, .map (some tb)] ∧ Blk W (w.heap.size + 1) 35 #[.int .i64 k.tick, .int .i64 k.cls, .int .i64 k.num, .string (bs k.lin)] from ⟨((Blk.new w 85 #[.slice A1 a.length c1, .map (some ta), .slice A2 b.length c2, .map (some tb)]).alloc (.cells #[.int .i64 k.tick, .int .i64 k.cls, .int .i64 k.num, .string (bs k.lin)] 35)).next hW (Blk.lt ((Blk.new w 85 #[.slice A1 a.length c1, .map (some ta), .slice A2 b.length c2, .map (some tb)]).alloc (.cells #[.int .i64 k.tick, .int .i64 k.cls, .int .i64 k.num, .string (bs k.lin)] 35))), (Blk.newE (w.alloc (.cells #[.slice A1 a.length c1, .map (some ta), .slice A2 b.length c2, .map (some tb)] 85)) 35 #[.int .i64 k.tick, .int .i64 k.cls, .int .i64 k.num, .string (bs k.lin)] (w.heap.size + 1) (by simp)).next hW (Blk.lt (Blk.newE (w.alloc (.cells #[.slice A1 a.length c1, .map (some ta), .slice A2 b.length c2, .map (some tb)] 85)) 35 #[.int .i64 k.tick, .int .i64 k.cls, .int .i64 k.num, .string (bs k.lin)] (w.heap.size + 1) (by simp)))⟩); have bb := (Below.refl ((w.alloc (.cells #[.slice A1 a.length c1, .map (some ta), .slice A2 b.length c2, .map (some tb)] 85)).alloc (.cells #[.int .i64 k.tick, .int .i64 k.cls, .int .i64 k.num, .string (bs k.lin)] 35)).heap.size ((w.alloc (.cells #[.slice A1 a.length c1, .map (some ta), .slice A2 b.length c2, .map (some tb)] 85)).alloc (.cells #[.int .i64 k.tick, .int .i64 k.cls, .int .i64 k.num, .string (bs k.lin)] 35))).alloc (Nat.le_refl _) (.cells #[.int .i64 0, .int .i64 0, .int .i64 0, .string ⟨#[]⟩, .int .i64 0, .int .i64 0, .string ⟨#[]⟩, .int .i64 0, .int .i64 0, .string ⟨#[]⟩] 47)
  have hsz : ((w.alloc (.cells #[.slice A1 a.length c1, .map (some ta), .slice A2 b.length c2, .map (some tb)] 85)).alloc (.cells #[.int .i64 k.tick, .int .i64 k.cls, .int .i64 k.num, .string (bs k.lin)] 35)).heap.size = w.heap.size + 1 + 1 := by simp
  have HRL := Lib.hid (show ((w.alloc (.cells #[.slice A1 a.length c1, .map (some ta), .slice A2 b.length c2, .map (some tb)] 85)).alloc (.cells #[.int .i64 k.tick, .int .i64 k.cls, .int .i64 k.num, .string (bs k.lin)] 35)).heap.size ≤ w.heap.size + 1 + 1 by omega); have p0 := z0.cell 0; have p1 := z0.cell 1; have p2 := z0.cell 2; have p3 := z0.cell 3; simp only [qB, qC, qD] at p0 p1 p2 p3

  have k0 := z1.cell 0; have k1 := z1.cell 1; have k2 := z1.cell 2; have k3 := z1.cell 3; simp only [qB, qC, qD] at k0 k1 k2 k3

  have Z3 := Lib.hid z2
  unfold rsV
  clear ha hb oa ob b0 b1 b2 b3 z0 z1 z2 hsz
  go_enter Tryz.func26, Tryz.ntmps26
  go_upto_region 1 with (fail)
  generalize ((w.alloc (.cells #[.slice A1 a.length c1, .map (some ta), .slice A2 b.length c2, .map (some tb)] 85)).alloc (.cells #[.int .i64 k.tick, .int .i64 k.cls, .int .i64 k.num, .string (bs k.lin)] 35)) = w2 at *; have BW := Lib.hid bb; clear bb; generalize w2.alloc (.cells #[.int .i64 0, .int .i64 0, .int .i64 0, .string ⟨#[]⟩, .int .i64 0, .int .i64 0, .string ⟨#[]⟩, .int .i64 0, .int .i64 0, .string ⟨#[]⟩] 47) = w3 at *; obtain ⟨rb, hrb⟩ : ∃ rb, w.heap.size + 1 + 1 = rb := ⟨_, rfl⟩; rw [hrb] at Z3 HRL ⊢; obtain ⟨kb, hkb⟩ : ∃ kb, w.heap.size + 1 = kb := ⟨_, rfl⟩; rw [hkb] at HZZ k0 k1 k2 k3 ⊢; obtain ⟨pb, hpb2⟩ : ∃ pb, w.heap.size = pb := ⟨_, rfl⟩; rw [hpb2] at HZZ p0 p1 p2 p3 ⊢; clear hrb hkb hpb2
  go_upto_region 2 with (go_at_call 50; refine (HSA.out _ BW.out).mono ?_; rintro e w4 ⟨rfl, hb⟩; have Z4 := Lib.hid (Z3.out.next hb Z3.out.lt); have B4 := Lib.hid (BW.out.trans (hb.mono BW.out.size)); clear hb)
  clear p0 p1 p2 p3 k0 k1 k2 k3; have HZ4 := Lib.hid (HZZ.out _ B4.out); have p0 := HZ4.out.1.cell 0; have p1 := HZ4.out.1.cell 1; have p2 := HZ4.out.1.cell 2; have p3 := HZ4.out.1.cell 3; simp only [qB, qC, qD] at p0 p1 p2 p3

  have k0 := HZ4.out.2.cell 0; have k1 := HZ4.out.2.cell 1; have k2 := HZ4.out.2.cell 2; have k3 := HZ4.out.2.cell 3; simp only [qB, qC, qD] at k0 k1 k2 k3

  go_upto_region 3 with (go_at_call 50; refine (HSB.out _ B4.out).mono ?_; rintro e w5 ⟨rfl, hb⟩; have Z5 := Lib.hid (Z4.out.next hb Z4.out.lt); have B5 := Lib.hid (B4.out.trans (hb.mono B4.out.size)); clear hb)
  clear p0 p1 p2 p3 k0 k1 k2 k3 HZ4; have HZ5 := Lib.hid (HZZ.out _ B5.out); have p0 := HZ5.out.1.cell 0; have p1 := HZ5.out.1.cell 1; have p2 := HZ5.out.1.cell 2; have p3 := HZ5.out.1.cell 3; simp only [qB, qC, qD] at p0 p1 p2 p3

  have k0 := HZ5.out.2.cell 0; have k1 := HZ5.out.2.cell 1; have k2 := HZ5.out.2.cell 2; have k3 := HZ5.out.2.cell 3; simp only [qB, qC, qD] at k0 k1 k2 k3

  clear HZ5; obtain ⟨ia, hia⟩ : ∃ ia, hasK a k = ia := ⟨_, rfl⟩; obtain ⟨ib, hib⟩ : ∃ ib, hasK b k = ib := ⟨_, rfl⟩; rw [hia, hib]; rw [hia] at HPA; rw [hib] at HPB; have HIA := Lib.hid hia; have HIB := Lib.hid hib; clear hia hib; obtain ⟨p, hp⟩ : ∃ p, befK a k = p := ⟨_, rfl⟩; obtain ⟨q, hq⟩ : ∃ q, befK b k = q := ⟨_, rfl⟩; have HP := Lib.hid hp; have HQ := Lib.hid hq; rw [hp] at hpa ⊢; rw [hq] at hpb ⊢
  cases ia with
  | true =>
    cases ib with
    | true =>
      have hpl : p < a.length := by obtain ⟨h, _⟩ := HPA.out rfl; omega
      have hql : q < b.length := by obtain ⟨h, _⟩ := HPB.out rfl; omega
      have HE := Lib.hid (rsnE_both hpl hql HIA.out HIB.out hp hq)
      have i1 : (0 : Int) ≤ (p : Int) := by omega
      have i2 : (p : Int) < (a.length : Int) := by omega
      have i3 : (0 : Int) ≤ (q : Int) := by omega
      have i4 : (q : Int) < (b.length : Int) := by omega
      obtain ⟨xb, xo, u1, u2, hbe, hxb, hr1, hr2, y0, y1, y2, y3, y4, y5⟩ := RdAc.piece (HRA.out w2 (Below.refl _ _)) hpl; subst hbe; obtain ⟨U1, e1, hu, _⟩ := RdP.form hr1; subst hu; obtain ⟨V1, g1, hu, _⟩ := RdP.form hr2; subst hu; have HR1X := Lib.hid hr1; have HR2X := Lib.hid hr2; clear hr1 hr2; obtain ⟨zb, zo, v1, v2, hbe, hzb, hr1, hr2, t0, t1, t2, t3, t4, t5⟩ := RdAc.piece (HRB.out w2 (Below.refl _ _)) hql; subst hbe; obtain ⟨U2, e2, hu, _⟩ := RdP.form hr1; subst hu; obtain ⟨V2, g2, hu, _⟩ := RdP.form hr2; subst hu; have HR1Y := Lib.hid hr1; have HR2Y := Lib.hid hr2; clear hr1 hr2; have hra := OA.out.r a[p] (List.getElem_mem hpl); have hrb := OB.out.r b[q] (List.getElem_mem hql); have hoa := OA.out.o a[p] (List.getElem_mem hpl); have hob := OB.out.o b[q] (List.getElem_mem hql); have HCG := Lib.hid (fun (W : World) (hW : Below w2.heap.size w2 W) => changed_is (RdP.next HR1X.out hW) (RdP.next HR1Y.out hW) (RdP.next HR2X.out hW) (RdP.next HR2Y.out hW) hra.2.2.2.1 hrb.2.2.2.1 (okAc_r hoa) (okAc_r hob) (fun c hc => (hra.2.1 c hc).own)); obtain ⟨x, hx⟩ : ∃ x, a[p] = x := ⟨_, rfl⟩; obtain ⟨z, hz⟩ : ∃ z, b[q] = z := ⟨_, rfl⟩; rw [hx, hz] at HCG HE; rw [hx] at y0 y1 y2 y3 y4 y5; rw [hz] at t0 t1 t2 t3 t4 t5; obtain ⟨y, hy⟩ : ∃ y, (chgE x z).1 = y := ⟨_, rfl⟩; obtain ⟨er, her⟩ : ∃ er, (chgE x z).2 = er := ⟨_, rfl⟩; rw [hy, her] at HCG; have HEY := Lib.hid (show (rsnE a b k).1 = y ∧ (rsnE a b k).2 = er by rw [HE.out]; exact ⟨hy, her⟩)
      unfold rsV at HCG
      have hpp := fun (W : World) (hW : Below w2.heap.size w2 W) => (HZZ.out W hW).1
      have HSS := Lib.hid (fun (W : World) (hW : Below w2.heap.size w2 W) => show W.cell? ⟨pb, 0, none⟩ = some (.slice (some ⟨xb, xo, none⟩) a.length c1) ∧ W.cell? ⟨pb, 1, none⟩ = some (.map (some ta)) ∧ W.cell? ⟨pb, 2, none⟩ = some (.slice (some ⟨zb, zo, none⟩) b.length c2) ∧ W.cell? ⟨pb, 3, none⟩ = some (.map (some tb)) ∧ W.cell? ⟨xb, xo + p * 6, none⟩ = some (.int .i64 x.key.tick) ∧ W.cell? ⟨xb, xo + p * 6 + 1, none⟩ = some (.int .i64 x.key.cls) ∧ W.cell? ⟨xb, xo + p * 6 + 2, none⟩ = some (.int .i64 x.key.num) ∧ W.cell? ⟨xb, xo + p * 6 + 3, none⟩ = some (.string (bs x.key.lin)) ∧ W.cell? ⟨xb, xo + p * 6 + 4, none⟩ = some (.slice U1 x.reads.length e1) ∧ W.cell? ⟨xb, xo + p * 6 + 5, none⟩ = some (.slice V1 x.writes.length g1) ∧ W.cell? ⟨zb, zo + q * 6, none⟩ = some (.int .i64 z.key.tick) ∧ W.cell? ⟨zb, zo + q * 6 + 1, none⟩ = some (.int .i64 z.key.cls) ∧ W.cell? ⟨zb, zo + q * 6 + 2, none⟩ = some (.int .i64 z.key.num) ∧ W.cell? ⟨zb, zo + q * 6 + 3, none⟩ = some (.string (bs z.key.lin)) ∧ W.cell? ⟨zb, zo + q * 6 + 4, none⟩ = some (.slice U2 z.reads.length e2) ∧ W.cell? ⟨zb, zo + q * 6 + 5, none⟩ = some (.slice V2 z.writes.length g2) from ⟨(hpp W hW).cell 0, (hpp W hW).cell 1, (hpp W hW).cell 2, (hpp W hW).cell 3, (hW.cell (p := ⟨xb, xo + p * 6, none⟩) hxb).trans y0, (hW.cell (p := ⟨xb, xo + p * 6 + 1, none⟩) hxb).trans y1, (hW.cell (p := ⟨xb, xo + p * 6 + 2, none⟩) hxb).trans y2, (hW.cell (p := ⟨xb, xo + p * 6 + 3, none⟩) hxb).trans y3, (hW.cell (p := ⟨xb, xo + p * 6 + 4, none⟩) hxb).trans y4, (hW.cell (p := ⟨xb, xo + p * 6 + 5, none⟩) hxb).trans y5, (hW.cell (p := ⟨zb, zo + q * 6, none⟩) hzb).trans t0, (hW.cell (p := ⟨zb, zo + q * 6 + 1, none⟩) hzb).trans t1, (hW.cell (p := ⟨zb, zo + q * 6 + 2, none⟩) hzb).trans t2, (hW.cell (p := ⟨zb, zo + q * 6 + 3, none⟩) hzb).trans t3, (hW.cell (p := ⟨zb, zo + q * 6 + 4, none⟩) hzb).trans t4, (hW.cell (p := ⟨zb, zo + q * 6 + 5, none⟩) hzb).trans t5⟩); clear HIA HIB HPA HPB hpp hx hz hy her HE hra hrb hoa hob hxb hzb y0 y1 y2 y3 y4 y5 t0 t1 t2 t3 t4 t5 p0 p1 p2 p3 k0 k1 k2 k3; rw [← HP.out, ← HQ.out]; rw [HP.out, HQ.out]
      go_upto_region 4 with (fail)
      refine wp_region_noPanic ?_
      refine wp_region_held_drew (S := (fun (w' : World) => w'.cell? ⟨pb, 0, none⟩ = some (.slice (some ⟨xb, xo, none⟩) a.length c1) ∧ w'.cell? ⟨pb, 1, none⟩ = some (.map (some ta)) ∧ w'.cell? ⟨pb, 2, none⟩ = some (.slice (some ⟨zb, zo, none⟩) b.length c2) ∧ w'.cell? ⟨pb, 3, none⟩ = some (.map (some tb)) ∧ w'.cell? ⟨xb, xo + p * 6, none⟩ = some (.int .i64 x.key.tick) ∧ w'.cell? ⟨xb, xo + p * 6 + 1, none⟩ = some (.int .i64 x.key.cls) ∧ w'.cell? ⟨xb, xo + p * 6 + 2, none⟩ = some (.int .i64 x.key.num) ∧ w'.cell? ⟨xb, xo + p * 6 + 3, none⟩ = some (.string (bs x.key.lin)) ∧ w'.cell? ⟨xb, xo + p * 6 + 4, none⟩ = some (.slice U1 x.reads.length e1) ∧ w'.cell? ⟨xb, xo + p * 6 + 5, none⟩ = some (.slice V1 x.writes.length g1) ∧ w'.cell? ⟨zb, zo + q * 6, none⟩ = some (.int .i64 z.key.tick) ∧ w'.cell? ⟨zb, zo + q * 6 + 1, none⟩ = some (.int .i64 z.key.cls) ∧ w'.cell? ⟨zb, zo + q * 6 + 2, none⟩ = some (.int .i64 z.key.num) ∧ w'.cell? ⟨zb, zo + q * 6 + 3, none⟩ = some (.string (bs z.key.lin)) ∧ w'.cell? ⟨zb, zo + q * 6 + 4, none⟩ = some (.slice U2 z.reads.length e2) ∧ w'.cell? ⟨zb, zo + q * 6 + 5, none⟩ = some (.slice V2 z.writes.length g2))) (by kernel_rfl) ?_ (fun hHeld => ?_)
      · exact HSS.out w5 B5.out
      refine tk (v := ?_) 0 rfl (by kernel_rfl) (fun _ _ _ h => h) ?_ hHeld ?_; rotate_left
      · (intro w h; (try dsimp only at h); go_simp; try with_reducible rfl)
      try simp only [Act.put, pB, pC, pD]
      refine tk (v := ?_) 1 rfl (by kernel_rfl) (fun _ _ _ h => h) ?_ hHeld ?_; rotate_left
      · (intro w h; (try dsimp only at h); go_simp; try with_reducible rfl)
      try simp only [Act.put, pB, pC, pD]
      refine tk (v := ?_) 2 rfl (by kernel_rfl) (fun _ _ _ h => h) ?_ hHeld ?_; rotate_left
      · (intro w h; (try dsimp only at h); go_simp; try with_reducible rfl)
      try simp only [Act.put, pB, pC, pD]
      refine tk (v := ?_) 3 rfl (by kernel_rfl) (fun _ _ _ h => h) ?_ hHeld ?_; rotate_left
      · (intro w h; (try dsimp only at h); go_simp; try with_reducible rfl)
      try simp only [Act.put, pB, pC, pD]
      refine tk (v := ?_) 4 rfl (by kernel_rfl) (fun _ _ _ h => h) ?_ hHeld ?_; rotate_left
      · (intro w h; (try dsimp only at h); go_simp; try with_reducible rfl)
      try simp only [Act.put, pB, pC, pD]
      refine tk (v := ?_) 5 rfl (by kernel_rfl) (fun _ _ _ h => h) ?_ hHeld ?_; rotate_left
      · (intro w h; (try dsimp only at h); go_simp; try with_reducible rfl)
      try simp only [Act.put, pB, pC, pD]
      refine tk (v := ?_) 6 rfl (by kernel_rfl) (fun _ _ _ h => h) ?_ hHeld ?_; rotate_left
      · (intro w h; (try dsimp only at h); go_simp; try with_reducible rfl)
      try simp only [Act.put, pB, pC, pD]
      refine tk (v := ?_) 7 rfl (by kernel_rfl) (fun _ _ _ h => h) ?_ hHeld ?_; rotate_left
      · (intro w h; (try dsimp only at h); go_simp; try with_reducible rfl)
      try simp only [Act.put, pB, pC, pD]
      refine tk (v := ?_) 8 rfl (by kernel_rfl) (fun _ _ _ h => h) ?_ hHeld ?_; rotate_left
      · (intro w h; (try dsimp only at h); go_simp; try with_reducible rfl)
      try simp only [Act.put, pB, pC, pD]
      refine tk (v := ?_) 9 rfl (by kernel_rfl) (fun _ _ _ h => h) ?_ hHeld ?_; rotate_left
      · (intro w h; (try dsimp only at h); go_simp; try with_reducible rfl)
      try simp only [Act.put, pB, pC, pD]
      refine tk (v := ?_) 10 rfl (by kernel_rfl) (fun _ _ _ h => h) ?_ hHeld ?_; rotate_left
      · (intro w h; (try dsimp only at h); go_simp; try with_reducible rfl)
      try simp only [Act.put, pB, pC, pD]
      refine tk (v := ?_) 11 rfl (by kernel_rfl) (fun _ _ _ h => h) ?_ hHeld ?_; rotate_left
      · (intro w h; (try dsimp only at h); go_simp; try with_reducible rfl)
      try simp only [Act.put, pB, pC, pD]
      refine wpAnyH_ready (rs := [12]) (by kernel_rfl) (by simp) ?_; refine AllReadyH.cons rfl (fun K hK => ?_) AllReadyH.nil; go_simp; refine (HCG.out _ (B5.out.trans ((Below.refl w5.heap.size w5).drew.mono B5.out.size))).mono ?_; rintro e w6 ⟨rfl, hb'⟩; have hb := (Below.refl w5.heap.size w5).drew.trans hb'; have Z6 := Lib.hid (Z5.out.next hb Z5.out.lt); have B6 := Lib.hid (B5.out.trans (hb.mono B5.out.size)); clear hb hb'
      try (go_wp2_with fail)
      refine hK.out _ _ ?_ (fun hNew => ?_)
      · exact HSS.out w6 B6.out
      clear hK K hHeld; have hHeld := hNew; clear hNew; try simp only [Act.put, pB, pC, pD]
      refine tk (v := ?_) 13 rfl (by kernel_rfl) (fun _ _ _ h => h) ?_ hHeld ?_; rotate_left
      · (intro w h; (try dsimp only at h); go_simp; try with_reducible rfl)
      try simp only [Act.put, pB, pC, pD]
      refine tk (v := ?_) 14 rfl (by kernel_rfl) (fun _ _ _ h => h) ?_ hHeld ?_; rotate_left
      · (intro w h; (try dsimp only at h); go_simp; try with_reducible rfl)
      try simp only [Act.put, pB, pC, pD]
      have d0 := Z6.out.cell 0; have d1 := Z6.out.cell 1; have d2 := Z6.out.cell 2; have d3 := Z6.out.cell 3; have d4 := Z6.out.cell 4; have d5 := Z6.out.cell 5; have d6 := Z6.out.cell 6; have d7 := Z6.out.cell 7; have d8 := Z6.out.cell 8; have d9 := Z6.out.cell 9; simp only [qB, qC, qD] at d0 d1 d2 d3 d4 d5 d6 d7 d8 d9; have f0 := Z6.out.frozen 0; have f1 := Z6.out.frozen 1; have f2 := Z6.out.frozen 2; have f3 := Z6.out.frozen 3; have f4 := Z6.out.frozen 4; have f5 := Z6.out.frozen 5; have f6 := Z6.out.frozen 6; have f7 := Z6.out.frozen 7; have f8 := Z6.out.frozen 8; have f9 := Z6.out.frozen 9; have ZE := Lib.hid (set10z_ (.int .i64 y.key.tick) (.int .i64 y.key.cls) (.int .i64 y.key.num) (.string (bs y.key.lin)) (.int .i64 y.kind) (.int .i64 y.name.kind) (.string (bs y.name.owner)) (.int .i64 y.name.num) (.int .i64 y.name.idx) (.string (bs y.name.text)) Z6.out); have BE := Lib.hid (low10z_ (.int .i64 y.key.tick) (.int .i64 y.key.cls) (.int .i64 y.key.num) (.string (bs y.key.lin)) (.int .i64 y.kind) (.int .i64 y.name.kind) (.string (bs y.name.owner)) (.int .i64 y.name.num) (.int .i64 y.name.idx) (.string (bs y.name.text)) B6.out HRL.out); refine wpAnyH_ready (rs := [15]) (by kernel_rfl) (by simp) ?_; refine AllReadyH.cons rfl (fun K hK => ?_) AllReadyH.nil; go_simp
      refine hK.out _ _ ?_ (fun hNew => ?_)
      · exact HSS.out _ BE.out
      clear hK K hHeld; have hHeld := hNew; clear hNew; try simp only [Act.put, pB, pC, pD]
      refine tk (v := ?_) 16 rfl (by kernel_rfl) (fun _ _ _ h => h) ?_ hHeld ?_; rotate_left
      · (intro w h; (try dsimp only at h); go_simp; try with_reducible rfl)
      try simp only [Act.put, pB, pC, pD]
      refine wpAnyH_done (by kernel_rfl) ?_ _; clear hHeld
      try simp only [List.getElem_toArray, List.getElem_cons_zero, List.getElem_cons_succ, Act.put, pB, pC, pD]
      refine NoPanic.normal ?_
      clear d0 d1 d2 d3 d4 d5 d6 d7 d8 d9 f0 f1 f2 f3 f4 f5 f6 f7 f8 f9; have d0 := ZE.out.cell 0; have d1 := ZE.out.cell 1; have d2 := ZE.out.cell 2; have d3 := ZE.out.cell 3; have d4 := ZE.out.cell 4; have d5 := ZE.out.cell 5; have d6 := ZE.out.cell 6; have d7 := ZE.out.cell 7; have d8 := ZE.out.cell 8; have d9 := ZE.out.cell 9; simp only [qB, qC, qD] at d0 d1 d2 d3 d4 d5 d6 d7 d8 d9; generalize ((((((((((w6.setCell ⟨rb, 0, none⟩ (.int .i64 y.key.tick)).setCell ⟨rb, 1, none⟩ (.int .i64 y.key.cls)).setCell ⟨rb, 2, none⟩ (.int .i64 y.key.num)).setCell ⟨rb, 3, none⟩ (.string (bs y.key.lin))).setCell ⟨rb, 4, none⟩ (.int .i64 y.kind)).setCell ⟨rb, 5, none⟩ (.int .i64 y.name.kind)).setCell ⟨rb, 6, none⟩ (.string (bs y.name.owner))).setCell ⟨rb, 7, none⟩ (.int .i64 y.name.num)).setCell ⟨rb, 8, none⟩ (.int .i64 y.name.idx)).setCell ⟨rb, 9, none⟩ (.string (bs y.name.text))) = W9 at *
      go_wp2_with fail
      exact bodyPost_ret (v := .tuple #[.agg #[.int .i64 y.key.tick, .int .i64 y.key.cls, .int .i64 y.key.num, .string (bs y.key.lin), .int .i64 y.kind, .int .i64 y.name.kind, .string (bs y.name.owner), .int .i64 y.name.num, .int .i64 y.name.idx, .string (bs y.name.text)], .int .i64 er]) (by simp [results, Tryz.results26, go_sem, d0, d1, d2, d3, d4, d5, d6, d7, d8, d9]) rfl ⟨by rw [HEY.out.1, HEY.out.2], HB0.out.trans (BE.out.mono HB0.out.size)⟩
    | false =>
      have HE := Lib.hid (show rsnE a b k = (alo a b k 3, 0) by unfold rsnE; rw [if_pos HIA.out, if_neg (by rw [HIB.out]; decide)]); obtain ⟨y, hy⟩ : ∃ y, alo a b k 3 = y := ⟨_, rfl⟩; have HAL := Lib.hid (fun W hW => HAL.out 3 W hW); rw [hy] at HE HAL
      unfold rsV at HAL
      clear hy
      go_wp2_with (go_at_call 52; refine (HAL.out _ B5.out).mono ?_; rintro e w6 ⟨rfl, hb⟩; have Z6 := Lib.hid (Z5.out.next hb Z5.out.lt); have B6 := Lib.hid (B5.out.trans (hb.mono B5.out.size)); clear hb p0 p1 p2 p3 k0 k1 k2 k3; have d0 := Z6.out.cell 0; have d1 := Z6.out.cell 1; have d2 := Z6.out.cell 2; have d3 := Z6.out.cell 3; have d4 := Z6.out.cell 4; have d5 := Z6.out.cell 5; have d6 := Z6.out.cell 6; have d7 := Z6.out.cell 7; have d8 := Z6.out.cell 8; have d9 := Z6.out.cell 9; (simp only [qB, qC, qD] at d0 d1 d2 d3 d4 d5 d6 d7 d8 d9); have f0 := Z6.out.frozen 0; have f1 := Z6.out.frozen 1; have f2 := Z6.out.frozen 2; have f3 := Z6.out.frozen 3; have f4 := Z6.out.frozen 4; have f5 := Z6.out.frozen 5; have f6 := Z6.out.frozen 6; have f7 := Z6.out.frozen 7; have f8 := Z6.out.frozen 8; have f9 := Z6.out.frozen 9; have ZE := Lib.hid (set10z_ (.int .i64 y.key.tick) (.int .i64 y.key.cls) (.int .i64 y.key.num) (.string (bs y.key.lin)) (.int .i64 y.kind) (.int .i64 y.name.kind) (.string (bs y.name.owner)) (.int .i64 y.name.num) (.int .i64 y.name.idx) (.string (bs y.name.text)) Z6.out); have BE := Lib.hid (low10z_ (.int .i64 y.key.tick) (.int .i64 y.key.cls) (.int .i64 y.key.num) (.string (bs y.key.lin)) (.int .i64 y.kind) (.int .i64 y.name.kind) (.string (bs y.name.owner)) (.int .i64 y.name.num) (.int .i64 y.name.idx) (.string (bs y.name.text)) B6.out HRL.out))
      clear d0 d1 d2 d3 d4 d5 d6 d7 d8 d9 f0 f1 f2 f3 f4 f5 f6 f7 f8 f9; have d0 := ZE.out.cell 0; have d1 := ZE.out.cell 1; have d2 := ZE.out.cell 2; have d3 := ZE.out.cell 3; have d4 := ZE.out.cell 4; have d5 := ZE.out.cell 5; have d6 := ZE.out.cell 6; have d7 := ZE.out.cell 7; have d8 := ZE.out.cell 8; have d9 := ZE.out.cell 9; simp only [qB, qC, qD] at d0 d1 d2 d3 d4 d5 d6 d7 d8 d9; generalize ((((((((((w6.setCell ⟨rb, 0, none⟩ (.int .i64 y.key.tick)).setCell ⟨rb, 1, none⟩ (.int .i64 y.key.cls)).setCell ⟨rb, 2, none⟩ (.int .i64 y.key.num)).setCell ⟨rb, 3, none⟩ (.string (bs y.key.lin))).setCell ⟨rb, 4, none⟩ (.int .i64 y.kind)).setCell ⟨rb, 5, none⟩ (.int .i64 y.name.kind)).setCell ⟨rb, 6, none⟩ (.string (bs y.name.owner))).setCell ⟨rb, 7, none⟩ (.int .i64 y.name.num)).setCell ⟨rb, 8, none⟩ (.int .i64 y.name.idx)).setCell ⟨rb, 9, none⟩ (.string (bs y.name.text))) = W9 at *
      exact bodyPost_ret (v := .tuple #[.agg #[.int .i64 y.key.tick, .int .i64 y.key.cls, .int .i64 y.key.num, .string (bs y.key.lin), .int .i64 y.kind, .int .i64 y.name.kind, .string (bs y.name.owner), .int .i64 y.name.num, .int .i64 y.name.idx, .string (bs y.name.text)], .int .i64 0]) (by simp [results, Tryz.results26, go_sem, d0, d1, d2, d3, d4, d5, d6, d7, d8, d9]) rfl ⟨by rw [HE.out], HB0.out.trans (BE.out.mono HB0.out.size)⟩
  | false =>
    cases ib with
    | true =>
      have HE := Lib.hid (show rsnE a b k = (alo a b k 2, 0) by unfold rsnE; rw [if_neg (by rw [HIA.out]; decide), if_pos HIB.out]); obtain ⟨y, hy⟩ : ∃ y, alo a b k 2 = y := ⟨_, rfl⟩; have HAL := Lib.hid (fun W hW => HAL.out 2 W hW); rw [hy] at HE HAL
      unfold rsV at HAL
      clear hy
      go_wp2_with (go_at_call 52; refine (HAL.out _ B5.out).mono ?_; rintro e w6 ⟨rfl, hb⟩; have Z6 := Lib.hid (Z5.out.next hb Z5.out.lt); have B6 := Lib.hid (B5.out.trans (hb.mono B5.out.size)); clear hb p0 p1 p2 p3 k0 k1 k2 k3; have d0 := Z6.out.cell 0; have d1 := Z6.out.cell 1; have d2 := Z6.out.cell 2; have d3 := Z6.out.cell 3; have d4 := Z6.out.cell 4; have d5 := Z6.out.cell 5; have d6 := Z6.out.cell 6; have d7 := Z6.out.cell 7; have d8 := Z6.out.cell 8; have d9 := Z6.out.cell 9; (simp only [qB, qC, qD] at d0 d1 d2 d3 d4 d5 d6 d7 d8 d9); have f0 := Z6.out.frozen 0; have f1 := Z6.out.frozen 1; have f2 := Z6.out.frozen 2; have f3 := Z6.out.frozen 3; have f4 := Z6.out.frozen 4; have f5 := Z6.out.frozen 5; have f6 := Z6.out.frozen 6; have f7 := Z6.out.frozen 7; have f8 := Z6.out.frozen 8; have f9 := Z6.out.frozen 9; have ZE := Lib.hid (set10z_ (.int .i64 y.key.tick) (.int .i64 y.key.cls) (.int .i64 y.key.num) (.string (bs y.key.lin)) (.int .i64 y.kind) (.int .i64 y.name.kind) (.string (bs y.name.owner)) (.int .i64 y.name.num) (.int .i64 y.name.idx) (.string (bs y.name.text)) Z6.out); have BE := Lib.hid (low10z_ (.int .i64 y.key.tick) (.int .i64 y.key.cls) (.int .i64 y.key.num) (.string (bs y.key.lin)) (.int .i64 y.kind) (.int .i64 y.name.kind) (.string (bs y.name.owner)) (.int .i64 y.name.num) (.int .i64 y.name.idx) (.string (bs y.name.text)) B6.out HRL.out))
      clear d0 d1 d2 d3 d4 d5 d6 d7 d8 d9 f0 f1 f2 f3 f4 f5 f6 f7 f8 f9; have d0 := ZE.out.cell 0; have d1 := ZE.out.cell 1; have d2 := ZE.out.cell 2; have d3 := ZE.out.cell 3; have d4 := ZE.out.cell 4; have d5 := ZE.out.cell 5; have d6 := ZE.out.cell 6; have d7 := ZE.out.cell 7; have d8 := ZE.out.cell 8; have d9 := ZE.out.cell 9; simp only [qB, qC, qD] at d0 d1 d2 d3 d4 d5 d6 d7 d8 d9; generalize ((((((((((w6.setCell ⟨rb, 0, none⟩ (.int .i64 y.key.tick)).setCell ⟨rb, 1, none⟩ (.int .i64 y.key.cls)).setCell ⟨rb, 2, none⟩ (.int .i64 y.key.num)).setCell ⟨rb, 3, none⟩ (.string (bs y.key.lin))).setCell ⟨rb, 4, none⟩ (.int .i64 y.kind)).setCell ⟨rb, 5, none⟩ (.int .i64 y.name.kind)).setCell ⟨rb, 6, none⟩ (.string (bs y.name.owner))).setCell ⟨rb, 7, none⟩ (.int .i64 y.name.num)).setCell ⟨rb, 8, none⟩ (.int .i64 y.name.idx)).setCell ⟨rb, 9, none⟩ (.string (bs y.name.text))) = W9 at *
      exact bodyPost_ret (v := .tuple #[.agg #[.int .i64 y.key.tick, .int .i64 y.key.cls, .int .i64 y.key.num, .string (bs y.key.lin), .int .i64 y.kind, .int .i64 y.name.kind, .string (bs y.name.owner), .int .i64 y.name.num, .int .i64 y.name.idx, .string (bs y.name.text)], .int .i64 0]) (by simp [results, Tryz.results26, go_sem, d0, d1, d2, d3, d4, d5, d6, d7, d8, d9]) rfl ⟨by rw [HE.out], HB0.out.trans (BE.out.mono HB0.out.size)⟩
    | false =>
      have HE := Lib.hid (show rsnE a b k = (rs0, 8) by unfold rsnE; rw [if_neg (by rw [HIA.out]; decide), if_neg (by rw [HIB.out]; decide)]); clear p0 p1 p2 p3 k0 k1 k2 k3
      go_upto_region 9 with (fail)
      have d0 := Z5.out.cell 0; have d1 := Z5.out.cell 1; have d2 := Z5.out.cell 2; have d3 := Z5.out.cell 3; have d4 := Z5.out.cell 4; have d5 := Z5.out.cell 5; have d6 := Z5.out.cell 6; have d7 := Z5.out.cell 7; have d8 := Z5.out.cell 8; have d9 := Z5.out.cell 9; simp only [qB, qC, qD] at d0 d1 d2 d3 d4 d5 d6 d7 d8 d9; have f0 := Z5.out.frozen 0; have f1 := Z5.out.frozen 1; have f2 := Z5.out.frozen 2; have f3 := Z5.out.frozen 3; have f4 := Z5.out.frozen 4; have f5 := Z5.out.frozen 5; have f6 := Z5.out.frozen 6; have f7 := Z5.out.frozen 7; have f8 := Z5.out.frozen 8; have f9 := Z5.out.frozen 9; have ZE := Lib.hid (set10z_ (.int .i64 0) (.int .i64 0) (.int .i64 0) (.string ⟨#[]⟩) (.int .i64 0) (.int .i64 0) (.string ⟨#[]⟩) (.int .i64 0) (.int .i64 0) (.string ⟨#[]⟩) Z5.out); have BE := Lib.hid (low10z_ (.int .i64 0) (.int .i64 0) (.int .i64 0) (.string ⟨#[]⟩) (.int .i64 0) (.int .i64 0) (.string ⟨#[]⟩) (.int .i64 0) (.int .i64 0) (.string ⟨#[]⟩) B5.out HRL.out)
      go_wp2_with fail
      clear d0 d1 d2 d3 d4 d5 d6 d7 d8 d9 f0 f1 f2 f3 f4 f5 f6 f7 f8 f9; have d0 := ZE.out.cell 0; have d1 := ZE.out.cell 1; have d2 := ZE.out.cell 2; have d3 := ZE.out.cell 3; have d4 := ZE.out.cell 4; have d5 := ZE.out.cell 5; have d6 := ZE.out.cell 6; have d7 := ZE.out.cell 7; have d8 := ZE.out.cell 8; have d9 := ZE.out.cell 9; simp only [qB, qC, qD] at d0 d1 d2 d3 d4 d5 d6 d7 d8 d9; generalize ((((((((((w5.setCell ⟨rb, 0, none⟩ (.int .i64 0)).setCell ⟨rb, 1, none⟩ (.int .i64 0)).setCell ⟨rb, 2, none⟩ (.int .i64 0)).setCell ⟨rb, 3, none⟩ (.string ⟨#[]⟩)).setCell ⟨rb, 4, none⟩ (.int .i64 0)).setCell ⟨rb, 5, none⟩ (.int .i64 0)).setCell ⟨rb, 6, none⟩ (.string ⟨#[]⟩)).setCell ⟨rb, 7, none⟩ (.int .i64 0)).setCell ⟨rb, 8, none⟩ (.int .i64 0)).setCell ⟨rb, 9, none⟩ (.string ⟨#[]⟩)) = W9 at *
      exact bodyPost_ret (v := .tuple #[.agg #[.int .i64 0, .int .i64 0, .int .i64 0, .string ⟨#[]⟩, .int .i64 0, .int .i64 0, .string ⟨#[]⟩, .int .i64 0, .int .i64 0, .string ⟨#[]⟩], .int .i64 8]) (by simp [results, Tryz.results26, go_sem, d0, d1, d2, d3, d4, d5, d6, d7, d8, d9]) rfl ⟨by rw [HE.out]; rfl, HB0.out.trans (BE.out.mono HB0.out.size)⟩
end Go.Proofs.YtmjkcanjfjfkfaaGreat
namespace Go.Proofs.YtmjkcanjfjfkfaaGreat
set_option linter.unusedSimpArgs false
set_option linter.unusedVariables false
theorem alo_key (a b : List Ac) (k : Ky) (kd : Int) : (alo a b k kd).key = k ∧ (alo a b k kd).kind = kd ∧ ((alo a b k kd).name ≠ nm0 → k.cls ≠ 0 ∧ (alo a b k kd).name = prcN k.lin ∧ vdf a b (prcN k.lin) (sloK k.tick) = true) := by
  unfold alo
  by_cases h : k.cls = 0
  · rw [if_pos h]; exact ⟨rfl, rfl, fun h => absurd rfl h⟩
  · rw [if_neg h]
    cases hv : vdf a b (prcN k.lin) (sloK k.tick) with
    | true => exact ⟨rfl, rfl, fun _ => ⟨h, rfl, rfl⟩⟩
    | false => exact ⟨rfl, rfl, fun h => absurd rfl h⟩
theorem rsnE_cases (a b : List Ac) (k : Ky) :
    (hasK a k = false ∧ hasK b k = false ∧ rsnE a b k = (rs0, 8)) ∨
    (hasK a k = true ∧ hasK b k = false ∧ rsnE a b k = (alo a b k 3, 0)) ∨
    (hasK a k = false ∧ hasK b k = true ∧ rsnE a b k = (alo a b k 2, 0)) ∨
    (hasK a k = true ∧ hasK b k = true ∧ (acG a (befK a k)).reads = (acG b (befK b k)).reads ∧ rsnE a b k = (rs0, 8)) ∨
    (hasK a k = true ∧ hasK b k = true ∧ (acG a (befK a k)).reads ≠ (acG b (befK b k)).reads ∧ chgN (acG a (befK a k)).reads (acG b (befK b k)).reads = none ∧ rsnE a b k = (rs0, 10)) ∨
    (hasK a k = true ∧ hasK b k = true ∧ (acG a (befK a k)).reads ≠ (acG b (befK b k)).reads ∧ ∃ n, chgN (acG a (befK a k)).reads (acG b (befK b k)).reads = some n ∧ rsnE a b k = (⟨k, 1, n⟩, 0)) := by
  unfold rsnE
  cases ha : hasK a k <;> cases hb : hasK b k
  · exact .inl ⟨rfl, rfl, rfl⟩
  · exact .inr (.inr (.inl ⟨rfl, rfl, rfl⟩))
  · exact .inr (.inl ⟨rfl, rfl, rfl⟩)
  · by_cases h : (acG a (befK a k)).reads = (acG b (befK b k)).reads
    · exact .inr (.inr (.inr (.inl ⟨rfl, rfl, h, by simp [h]⟩)))
    · cases hc : chgN (acG a (befK a k)).reads (acG b (befK b k)).reads with
      | none => exact .inr (.inr (.inr (.inr (.inl ⟨rfl, rfl, h, rfl, by simp [h]⟩))))
      | some n => exact .inr (.inr (.inr (.inr (.inr ⟨rfl, rfl, h, n, rfl, by simp [h]⟩))))
theorem rsnE_key {a b : List Ac} {k : Ky} (h : (rsnE a b k).2 = 0) : (rsnE a b k).1.key = k := by
  rcases rsnE_cases a b k with ⟨_, _, e⟩ | ⟨_, _, e⟩ | ⟨_, _, e⟩ | ⟨_, _, _, e⟩ | ⟨_, _, _, _, e⟩ | ⟨_, _, _, n, _, e⟩ <;> rw [e] at h ⊢
  · exact absurd h (by decide)
  · exact (alo_key a b k 3).1
  · exact (alo_key a b k 2).1
  · exact absurd h (by decide)
  · exact absurd h (by decide)
theorem rsnE_has {a b : List Ac} {k : Ky} (h : (rsnE a b k).2 = 0) : hasK a k = true ∨ hasK b k = true := by
  rcases rsnE_cases a b k with ⟨_, _, e⟩ | ⟨h1, _, e⟩ | ⟨_, h1, e⟩ | ⟨h1, _, _, e⟩ | ⟨h1, _, _, _, e⟩ | ⟨h1, _, _, n, _, e⟩
  · rw [e] at h; exact absurd h (by decide)
  · exact .inl h1
  · exact .inr h1
  · exact .inl h1
  · exact .inl h1
  · exact .inl h1
theorem rsnE_cls {a b : List Ac} {k : Ky} (h : (rsnE a b k).2 = 0) (hn : (rsnE a b k).1.name ≠ nm0) (hk : (rsnE a b k).1.kind ≠ 1) : k.cls ≠ 0 := by
  rcases rsnE_cases a b k with ⟨_, _, e⟩ | ⟨h1, _, e⟩ | ⟨_, h1, e⟩ | ⟨h1, _, _, e⟩ | ⟨h1, _, _, _, e⟩ | ⟨h1, _, _, n, _, e⟩ <;> rw [e] at h hn hk
  · exact absurd h (by decide)
  · exact ((alo_key a b k 3).2.2 hn).1
  · exact ((alo_key a b k 2).2.2 hn).1
  · exact absurd h (by decide)
  · exact absurd h (by decide)
  · exact absurd rfl hk
theorem hasK_r {l : List Ac} (h : RunOk l) {k : Ky} (hk : hasK l k = true) : KyR k := by
  obtain ⟨x, hx, rfl⟩ := (hasK_iff h.pw).1 hk
  exact (h.r x hx).1
theorem rsnE_r {a b : List Ac} (oa : RunOk a) (ob : RunOk b) {k : Ky} (h : (rsnE a b k).2 = 0) : KyR k := by
  rcases rsnE_has h with h | h
  · exact hasK_r oa h
  · exact hasK_r ob h
def bkK (r : Rs) : Ky := if r.kind = 1 then r.key else sloK r.key.tick
theorem bkK_le {a b : List Ac} (oa : RunOk a) (ob : RunOk b) {k : Ky} (h : (rsnE a b k).2 = 0) (hn : (rsnE a b k).1.name ≠ nm0) : cmpK (bkK (rsnE a b k).1) k ≤ 0 := by
  unfold bkK
  rw [rsnE_key h]
  by_cases hk : (rsnE a b k).1.kind = 1
  · rw [if_pos hk, wordK.refl]; exact Int.le_refl _
  · rw [if_neg hk]
    have hc := rsnE_cls h hn hk; obtain ⟨_, _, h3⟩ := rsnE_r oa ob h
    have h2 : k.cls = 2 := by omega
    have := sloK_lt h2
    omega
theorem bkK_lin {a b : List Ac} (oa : RunOk a) (ob : RunOk b) {k : Ky} (h : (rsnE a b k).2 = 0) : (bkK (rsnE a b k).1).lin ∈ lin5 := by
  unfold bkK
  split
  · rw [rsnE_key h]; exact (rsnE_r oa ob h).2.1
  · show ([] : Bs) ∈ lin5; decide
theorem org_step {a b : List Ac} (oa : RunOk a) (ob : RunOk b) {k o : Ky} (h : (rsnE a b k).2 = 0) (hn : (rsnE a b k).1.name ≠ nm0) (ho : orgK a b (rsnE a b k).1.name (bkK (rsnE a b k).1) = some o) : cmpK o k < 0 ∧ msr a b o < msr a b k ∧ KyR o := by
  obtain ⟨h1, h2, h3⟩ := orgK_lt oa.pw ob.pw ho; have h4 := bkK_le oa ob h hn
  refine ⟨(wordK.trans o _ k (by omega) h4).2 (.inl h1), Nat.lt_of_lt_of_le h2 (Nat.add_le_add (befK_mono oa.pw h4) (befK_mono ob.pw h4)), ?_⟩
  rcases h3 with ⟨x, hx, rfl⟩ | ⟨x, hx, rfl⟩
  · exact (oa.r x hx).1
  · exact (ob.r x hx).1
def expR (a b : List Ac) (n : Nat) (r : Rs) (out : List Rs) : List Rs × Int := if r.name = nm0 then (out, 0) else match orgK a b r.name (bkK r) with
  | none => ([], 10)
  | some o => expF a b n o out
theorem expF_succ (a b : List Ac) (n : Nat) (k : Ky) (out : List Rs) : expF a b (n + 1) k out = if (rsnE a b k).2 ≠ 0 then ([], if out = [] then (rsnE a b k).2 else 10) else expR a b n (rsnE a b k).1 (out ++ [(rsnE a b k).1]) := by
  unfold expR bkK
  rw [expF]
  by_cases h : (rsnE a b k).2 = 0
  · have e : ¬ (rsnE a b k).2 ≠ 0 := fun x => x h
    rw [rsnE_key h, if_neg e, if_neg e]
    by_cases hn : (rsnE a b k).1.name = nm0
    · rw [if_pos hn, if_pos hn]
    · rw [if_neg hn, if_neg hn]
      cases orgK a b (rsnE a b k).1.name (if (rsnE a b k).1.kind = 1 then k else sloK k.tick) <;> rfl
  · rw [if_pos h, if_pos h]
theorem ks_of {l : List Ac} (h : KP l) : ∀ k (hk : k + 1 < l.length), cmpK (l[k]'(by omega)).key l[k + 1].key < 0 := fun k hk => h.lt hk (by omega)
end Go.Proofs.YtmjkcanjfjfkfaaGreat
namespace Go.Proofs.YtmjkcanjfjfkfaaGreat
open Go.RowKit
set_option linter.unusedSimpArgs false
set_option linter.unusedVariables false
attribute [local go_sem ↓] Go.wp_at_zero Go.wp_at_succ
open Go.MapKept Go.ChangeMaps
theorem infoRs : (Tryz.prog.info? 47).map (fun i => (i.zero, i.size, i.bytes)) = some (some (.agg #[.int .i64 0, .int .i64 0, .int .i64 0, .string ⟨#[]⟩, .int .i64 0, .int .i64 0, .string ⟨#[]⟩, .int .i64 0, .int .i64 0, .string ⟨#[]⟩]), 10, 104) := by kernel_rfl
theorem WRows.zero {w : World} {B tb : Nat} {D : Nm → List Int} (h : WRows w B tb D) : WRows w 0 tb D := h.keep (fun _ _ _ _ => rfl) (fun _ _ _ _ => rfl) (fun _ _ _ => Nat.zero_le _)
def lenV : Value → Nat
  | .slice _ n _ => n
  | _ => 0
def exRel (a b : List Ac) (k0 : Ky) (w3 : World) (rb B : Nat) (v : Value) (wr : World) : Prop := ∃ (n : Nat) (k : Ky) (out : List Rs), (rsnE a b k).2 = 0 ∧ OwnP 47 10 rsC wr B v out ∧ out ≠ [] ∧ expA a b k0 = expR a b n (rsnE a b k).1 out ∧ msr a b k ≤ n ∧ out.length + n ≤ 72 ∧ Blk wr rb 47 #[.int .i64 (rsnE a b k).1.key.tick, .int .i64 (rsnE a b k).1.key.cls, .int .i64 (rsnE a b k).1.key.num, .string (bs (rsnE a b k).1.key.lin), .int .i64 (rsnE a b k).1.kind, .int .i64 (rsnE a b k).1.name.kind, .string (bs (rsnE a b k).1.name.owner), .int .i64 (rsnE a b k).1.name.num, .int .i64 (rsnE a b k).1.name.idx, .string (bs (rsnE a b k).1.name.text)] ∧ Below w3.heap.size w3 wr ∧ B ≤ wr.heap.size
theorem own4_ {b g : Nat} (v0 v1 v2 v3 : Value) (w : World) (hne : b ≠ g) : ((((w.setCell ⟨g, 0, none⟩ (v0)).setCell ⟨g, 1, none⟩ (v1)).setCell ⟨g, 2, none⟩ (v2)).setCell ⟨g, 3, none⟩ (v3)).heap[b]? = w.heap[b]? := by
  exact (Below.heap_setCell (((w.setCell ⟨g, 0, none⟩ (v0)).setCell ⟨g, 1, none⟩ (v1)).setCell ⟨g, 2, none⟩ (v2)) ⟨g, 3, none⟩ _ _ hne).trans ((Below.heap_setCell ((w.setCell ⟨g, 0, none⟩ (v0)).setCell ⟨g, 1, none⟩ (v1)) ⟨g, 2, none⟩ _ _ hne).trans ((Below.heap_setCell (w.setCell ⟨g, 0, none⟩ (v0)) ⟨g, 1, none⟩ _ _ hne).trans ((Below.heap_setCell w ⟨g, 0, none⟩ _ _ hne).trans (rfl))))
theorem kp4_ {w : World} {g b : Nat} {t : TypeId} {cs : Array Value} (v0 v1 v2 v3 : Value) (h : Blk w b t cs) (hne : b ≠ g) : Blk ((((w.setCell ⟨g, 0, none⟩ (v0)).setCell ⟨g, 1, none⟩ (v1)).setCell ⟨g, 2, none⟩ (v2)).setCell ⟨g, 3, none⟩ (v3)) b t cs :=
  h.grown (only_setCell (only_setCell (only_setCell (only_setCell (only_of_below (Below.refl w.heap.size w) (some g)) (.inl rfl) _) (.inl rfl) _) (.inl rfl) _) (.inl rfl) _) (fun e => hne (by injection e))
theorem own10_ {b g : Nat} (v0 v1 v2 v3 v4 v5 v6 v7 v8 v9 : Value) (w : World) (hne : b ≠ g) : ((((((((((w.setCell ⟨g, 0, none⟩ (v0)).setCell ⟨g, 1, none⟩ (v1)).setCell ⟨g, 2, none⟩ (v2)).setCell ⟨g, 3, none⟩ (v3)).setCell ⟨g, 4, none⟩ (v4)).setCell ⟨g, 5, none⟩ (v5)).setCell ⟨g, 6, none⟩ (v6)).setCell ⟨g, 7, none⟩ (v7)).setCell ⟨g, 8, none⟩ (v8)).setCell ⟨g, 9, none⟩ (v9)).heap[b]? = w.heap[b]? := by
  exact (Below.heap_setCell (((((((((w.setCell ⟨g, 0, none⟩ (v0)).setCell ⟨g, 1, none⟩ (v1)).setCell ⟨g, 2, none⟩ (v2)).setCell ⟨g, 3, none⟩ (v3)).setCell ⟨g, 4, none⟩ (v4)).setCell ⟨g, 5, none⟩ (v5)).setCell ⟨g, 6, none⟩ (v6)).setCell ⟨g, 7, none⟩ (v7)).setCell ⟨g, 8, none⟩ (v8)) ⟨g, 9, none⟩ _ _ hne).trans ((Below.heap_setCell ((((((((w.setCell ⟨g, 0, none⟩ (v0)).setCell ⟨g, 1, none⟩ (v1)).setCell ⟨g, 2, none⟩ (v2)).setCell ⟨g, 3, none⟩ (v3)).setCell ⟨g, 4, none⟩ (v4)).setCell ⟨g, 5, none⟩ (v5)).setCell ⟨g, 6, none⟩ (v6)).setCell ⟨g, 7, none⟩ (v7)) ⟨g, 8, none⟩ _ _ hne).trans ((Below.heap_setCell (((((((w.setCell ⟨g, 0, none⟩ (v0)).setCell ⟨g, 1, none⟩ (v1)).setCell ⟨g, 2, none⟩ (v2)).setCell ⟨g, 3, none⟩ (v3)).setCell ⟨g, 4, none⟩ (v4)).setCell ⟨g, 5, none⟩ (v5)).setCell ⟨g, 6, none⟩ (v6)) ⟨g, 7, none⟩ _ _ hne).trans ((Below.heap_setCell ((((((w.setCell ⟨g, 0, none⟩ (v0)).setCell ⟨g, 1, none⟩ (v1)).setCell ⟨g, 2, none⟩ (v2)).setCell ⟨g, 3, none⟩ (v3)).setCell ⟨g, 4, none⟩ (v4)).setCell ⟨g, 5, none⟩ (v5)) ⟨g, 6, none⟩ _ _ hne).trans ((Below.heap_setCell (((((w.setCell ⟨g, 0, none⟩ (v0)).setCell ⟨g, 1, none⟩ (v1)).setCell ⟨g, 2, none⟩ (v2)).setCell ⟨g, 3, none⟩ (v3)).setCell ⟨g, 4, none⟩ (v4)) ⟨g, 5, none⟩ _ _ hne).trans ((Below.heap_setCell ((((w.setCell ⟨g, 0, none⟩ (v0)).setCell ⟨g, 1, none⟩ (v1)).setCell ⟨g, 2, none⟩ (v2)).setCell ⟨g, 3, none⟩ (v3)) ⟨g, 4, none⟩ _ _ hne).trans ((Below.heap_setCell (((w.setCell ⟨g, 0, none⟩ (v0)).setCell ⟨g, 1, none⟩ (v1)).setCell ⟨g, 2, none⟩ (v2)) ⟨g, 3, none⟩ _ _ hne).trans ((Below.heap_setCell ((w.setCell ⟨g, 0, none⟩ (v0)).setCell ⟨g, 1, none⟩ (v1)) ⟨g, 2, none⟩ _ _ hne).trans ((Below.heap_setCell (w.setCell ⟨g, 0, none⟩ (v0)) ⟨g, 1, none⟩ _ _ hne).trans ((Below.heap_setCell w ⟨g, 0, none⟩ _ _ hne).trans (rfl))))))))))
set_option maxRecDepth 100000 in
set_option maxHeartbeats 16000000 in
theorem explain_is {w : World} {v1 v2 : Value} {a b : List Ac} {k0 : Ky} (ha : RdAc w v1 a) (hb0 : RdAc w v2 b) (oa : RunOk a) (ob : RunOk b) (hk : k0.lin ∈ lin5) :
    Calls Tryz.prog 7 #[v1, v2, kyV k0] w fun e w' => ∃ v, e = .returned (.tuple #[v, .int .i64 (expA a b k0).2]) ∧ RdRs w' v (expA a b k0).1 ∧ Below w.heap.size w w' := by
  obtain ⟨A1, c1, rfl, hc1⟩ := RowRd.form ha; obtain ⟨A2, c2, rfl, hc2⟩ := RowRd.form hb0; have hal := oa.len; have hbl := ob.len; have b0 := Below.refl w.heap.size w; have b1 := b0.alloc b0.size (.cells #[.int .i64 k0.tick, .int .i64 k0.cls, .int .i64 k0.num, .string (bs k0.lin)] 35); have z0 := (Blk.new w 35 #[.int .i64 k0.tick, .int .i64 k0.cls, .int .i64 k0.num, .string (bs k0.lin)]); have HA := Lib.hid (fun (W : World) (hW : Below (w.alloc (.cells #[.int .i64 k0.tick, .int .i64 k0.cls, .int .i64 k0.num, .string (bs k0.lin)] 35)).heap.size (w.alloc (.cells #[.int .i64 k0.tick, .int .i64 k0.cls, .int .i64 k0.num, .string (bs k0.lin)] 35)) W) => (ha.next b1).next hW); have HB := Lib.hid (fun (W : World) (hW : Below (w.alloc (.cells #[.int .i64 k0.tick, .int .i64 k0.cls, .int .i64 k0.num, .string (bs k0.lin)] 35)).heap.size (w.alloc (.cells #[.int .i64 k0.tick, .int .i64 k0.cls, .int .i64 k0.num, .string (bs k0.lin)] 35)) W) => (hb0.next b1).next hW); have Z0 := Lib.hid z0; have HB0 := Lib.hid b1
  unfold kyV
  clear ha hb0 b0 b1 z0
  go_enter Tryz.func7, Tryz.ntmps7
  go_upto_region 1 with (fail)
  generalize (w.alloc (.cells #[.int .i64 k0.tick, .int .i64 k0.cls, .int .i64 k0.num, .string (bs k0.lin)] 35)) = w1 at *; obtain ⟨kb, hkb⟩ : ∃ kb, w.heap.size = kb := ⟨_, rfl⟩; have HKB := Lib.hid hkb; rw [hkb] at Z0 ⊢; clear hkb
  go_wp2_with fail
  go_at_call 24; refine (increasing_is (HA.out _ (Below.refl _ _)) (ks_of oa.pw) (fun x hx => (oa.r x hx).1.2.1) (by omega)).mono ?_; rintro e w2 ⟨rfl, hb⟩; have B2 := Lib.hid hb; clear hb
  go_wp2_with fail
  go_at_call 24; refine (increasing_is (HB.out _ B2.out) (ks_of ob.pw) (fun x hx => (ob.r x hx).1.2.1) (by omega)).mono ?_; rintro e w3 ⟨rfl, hb⟩; have B3 := Lib.hid (B2.out.trans (hb.mono B2.out.size)); clear hb B2
  go_wp2_with fail
  go_at_call 25; refine (newrun_is (HA.out _ B3.out) oa.r oa.len).mono ?_; rintro e w4 ⟨ta, rfl, hwa, hb⟩; have B4 := Lib.hid (B3.out.trans (hb.mono B3.out.size)); have WA := Lib.hid hwa.zero; clear hb hwa B3
  go_wp2_with fail
  go_at_call 25; refine (newrun_is (HB.out _ B4.out) ob.r ob.len).mono ?_; rintro e w5 ⟨tb, rfl, hwb, hb⟩; have B5 := Lib.hid (B4.out.trans (hb.mono B4.out.size)); have WA5 := Lib.hid (WA.out.next hb); have WB5 := Lib.hid hwb.zero; clear hb hwb B4 WA
  go_upto_region 4 with (fail)
  have hba := (Below.refl w5.heap.size w5).alloc (Nat.le_refl _) (.cells #[.slice A1 a.length c1, .map (some ta), .slice A2 b.length c2, .map (some tb)] 85); have B6 := Lib.hid (B5.out.trans (hba.mono B5.out.size)); have ZP := Lib.hid (Blk.new w5 85 #[.slice A1 a.length c1, .map (some ta), .slice A2 b.length c2, .map (some tb)]); have WA6 := Lib.hid (WA5.out.next hba); have WB6 := Lib.hid (WB5.out.next hba); clear hba; generalize w5.alloc (.cells #[.slice A1 a.length c1, .map (some ta), .slice A2 b.length c2, .map (some tb)] 85) = w6 at *; obtain ⟨pb, hpb⟩ : ∃ pb, w5.heap.size = pb := ⟨_, rfl⟩; rw [hpb] at ZP ⊢; clear hpb; have HPP := Lib.hid (fun (W : World) (hW : Below w6.heap.size w6 W) => show Blk W pb 85 #[.slice A1 a.length c1, .map (some ta), .slice A2 b.length c2, .map (some tb)] ∧ Blk W kb 35 #[.int .i64 k0.tick, .int .i64 k0.cls, .int .i64 k0.num, .string (bs k0.lin)] ∧ RunAt W 0 (.slice A1 a.length c1) (.map (some ta)) a ∧ RunAt W 0 (.slice A2 b.length c2) (.map (some tb)) b from ⟨ZP.out.next hW ZP.out.lt, (Z0.out.next B6.out Z0.out.lt).next hW (Z0.out.next B6.out Z0.out.lt).lt, ⟨(HA.out _ B6.out).next hW, ta, rfl, WA6.out.next hW⟩, ⟨(HB.out _ B6.out).next hW, tb, rfl, WB6.out.next hW⟩⟩); have HB0 := Lib.hid (show Below w.heap.size w w6 from HB0.out.trans (B6.out.mono HB0.out.size)); have HRS := Lib.hid (fun (k : Ky) (hk : k.lin ∈ lin5) (W : World) (hW : Below w6.heap.size w6 W) => reason_is (k := k) (HPP.out W hW).2.2.1 (HPP.out W hW).2.2.2 oa ob hk); have HORR := Lib.hid (fun (n : Nm) (k : Ky) (hk : k.lin ∈ lin5) (W : World) (hW : Below w6.heap.size w6 W) => origin_is n (HPP.out W hW).2.2.1 (HPP.out W hW).2.2.2 oa ob hk)
  unfold kyV rsV at HRS
  unfold nmV nmA kyV at HORR
  have OA := Lib.hid oa; have OB := Lib.hid ob; clear ZP WA6 WB6 WA5 WB5 HA HB B5 B6 Z0 oa ob; have HR0 := Lib.hid (fun W hW => HRS.out k0 hk W hW); obtain ⟨y, hy⟩ : ∃ y, (rsnE a b k0).1 = y := ⟨_, rfl⟩; obtain ⟨er, her⟩ : ∃ er, (rsnE a b k0).2 = er := ⟨_, rfl⟩; rw [hy, her] at HR0; obtain ⟨HPW, HKW, -, -⟩ := HPP.out w6 (Below.refl _ _); have p0 := HPW.cell 0; have p1 := HPW.cell 1; have p2 := HPW.cell 2; have p3 := HPW.cell 3; simp only [qB, qC, qD] at p0 p1 p2 p3; have kk0 := HKW.cell 0; have kk1 := HKW.cell 1; have kk2 := HKW.cell 2; have kk3 := HKW.cell 3; simp only [qB, qC, qD] at kk0 kk1 kk2 kk3; clear HPW HKW
  go_upto_region 5 with (go_at_call 26; refine (HR0.out _ (Below.refl _ _)).mono ?_; rintro e w7 ⟨rfl, hb⟩; have B7 := Lib.hid hb; clear hb p0 p1 p2 p3 kk0 kk1 kk2 kk3)
  have hba := (Below.refl w7.heap.size w7).alloc (Nat.le_refl _) (.cells #[.int .i64 y.key.tick, .int .i64 y.key.cls, .int .i64 y.key.num, .string (bs y.key.lin), .int .i64 y.kind, .int .i64 y.name.kind, .string (bs y.name.owner), .int .i64 y.name.num, .int .i64 y.name.idx, .string (bs y.name.text)] 47); have B8 := Lib.hid (B7.out.trans (hba.mono B7.out.size)); have Z8 := Lib.hid (Blk.new w7 47 #[.int .i64 y.key.tick, .int .i64 y.key.cls, .int .i64 y.key.num, .string (bs y.key.lin), .int .i64 y.kind, .int .i64 y.name.kind, .string (bs y.name.owner), .int .i64 y.name.num, .int .i64 y.name.idx, .string (bs y.name.text)]); have HRB := Lib.hid (show w6.heap.size ≤ w7.heap.size from B7.out.size); clear hba; generalize w7.alloc (.cells #[.int .i64 y.key.tick, .int .i64 y.key.cls, .int .i64 y.key.num, .string (bs y.key.lin), .int .i64 y.kind, .int .i64 y.name.kind, .string (bs y.name.owner), .int .i64 y.name.num, .int .i64 y.name.idx, .string (bs y.name.text)] 47) = w8 at *; obtain ⟨rb, hrb⟩ : ∃ rb, w7.heap.size = rb := ⟨_, rfl⟩; rw [hrb] at Z8 HRB ⊢; clear hrb B7
  by_cases h0 : er = 0
  · subst h0
    have HEX0 := Lib.hid (show expA a b k0 = expR a b (msr a b k0) y [y] by
      unfold expA
      rw [expF_succ, if_neg (fun h => h her), hy]
      rfl)
    have c0 := Z8.out.cell 0; have c1 := Z8.out.cell 1; have c2 := Z8.out.cell 2; have c3 := Z8.out.cell 3; have c4 := Z8.out.cell 4; have c5 := Z8.out.cell 5; have c6 := Z8.out.cell 6; have c7 := Z8.out.cell 7; have c8 := Z8.out.cell 8; have c9 := Z8.out.cell 9; simp only [qB, qC, qD] at c0 c1 c2 c3 c4 c5 c6 c7 c8 c9
    go_upto_region 8 with (fail)
    have hba := (Below.refl w8.heap.size w8).alloc (Nat.le_refl _) (.cells #[.int .i64 y.key.tick, .int .i64 y.key.cls, .int .i64 y.key.num, .string (bs y.key.lin), .int .i64 y.kind, .int .i64 y.name.kind, .string (bs y.name.owner), .int .i64 y.name.num, .int .i64 y.name.idx, .string (bs y.name.text)] 47); have B9 := Lib.hid (B8.out.trans (hba.mono B8.out.size)); have Z9 := Lib.hid (Z8.out.next hba Z8.out.lt); have O9 := Lib.hid (own_new w8 w8.heap.size 47 10 [.int .i64 y.key.tick, .int .i64 y.key.cls, .int .i64 y.key.num, .string (bs y.key.lin), .int .i64 y.kind, .int .i64 y.name.kind, .string (bs y.name.owner), .int .i64 y.name.num, .int .i64 y.name.idx, .string (bs y.name.text)] rfl (Nat.le_refl _)); have hsz9 : w8.heap.size ≤ (w8.alloc (.cells #[.int .i64 y.key.tick, .int .i64 y.key.cls, .int .i64 y.key.num, .string (bs y.key.lin), .int .i64 y.kind, .int .i64 y.name.kind, .string (bs y.name.owner), .int .i64 y.name.num, .int .i64 y.name.idx, .string (bs y.name.text)] 47)).heap.size := hba.size; have HRBB := Lib.hid (show rb < w8.heap.size from Z8.out.lt); have HB3 := Lib.hid (show w6.heap.size ≤ w8.heap.size from B8.out.size); clear hba c0 c1 c2 c3 c4 c5 c6 c7 c8 c9
    have HM0 : msr a b k0 ≤ 70 := by have h1 := befK_le a k0; have h2 := befK_le b k0; unfold msr; omega
    have H0 : Hid (exRel a b k0 w6 rb w8.heap.size (.slice (some ⟨w8.heap.size, 0, none⟩) 1 1) (w8.alloc (.cells #[.int .i64 y.key.tick, .int .i64 y.key.cls, .int .i64 y.key.num, .string (bs y.key.lin), .int .i64 y.kind, .int .i64 y.name.kind, .string (bs y.name.owner), .int .i64 y.name.num, .int .i64 y.name.idx, .string (bs y.name.text)] 47))) := Lib.hid ⟨msr a b k0, k0, [y], her, O9.out, by simp, by rw [hy]; exact HEX0.out, Nat.le_refl _, by simp only [List.length_singleton]; omega, by rw [hy]; exact Z9.out, B9.out, hsz9⟩; generalize w8.alloc (.cells #[.int .i64 y.key.tick, .int .i64 y.key.cls, .int .i64 y.key.num, .string (bs y.key.lin), .int .i64 y.kind, .int .i64 y.name.kind, .string (bs y.name.owner), .int .i64 y.name.num, .int .i64 y.name.idx, .string (bs y.name.text)] 47) = w9 at *; obtain ⟨B, hBB⟩ : ∃ B, w8.heap.size = B := ⟨_, rfl⟩; rw [hBB] at H0 HRBB HB3 ⊢; clear hBB B9 Z9 O9 hsz9 HEX0 B8 Z8 hy her HR0 HM0
    go_loopw [11] (fun v wr => exRel a b k0 w6 rb B v wr) (fun v _ => 200 - lenV v)
    case atStart => exact H0.out
    case round =>
      clear H0; obtain ⟨n, k, out, h0, how, hne, hex, hms, hle, hz, hB, hS⟩ := hrel; have HK0 := Lib.hid h0; have OW := Lib.hid how; have HNE := Lib.hid hne; have HMS := Lib.hid hms; have HLE := Lib.hid hle; have HS := Lib.hid hS; have HB := Lib.hid hB; have HYK := Lib.hid (rsnE_key h0); have HYR := Lib.hid (rsnE_r OA.out OB.out h0); have HSTP0 := Lib.hid (fun hn o ho => org_step OA.out OB.out (o := o) h0 hn ho); have HBL := Lib.hid (bkK_lin OA.out OB.out h0); obtain ⟨y, hy⟩ : ∃ y, (rsnE a b k).1 = y := ⟨_, rfl⟩; rw [hy] at hex hz HYK HSTP0 HBL; have HEX := Lib.hid hex; have Z := Lib.hid hz; have HYL := Lib.hid (show y.key.lin ∈ lin5 by rw [HYK.out]; exact HYR.out.2.1); clear h0 how hne hex hms hle hz hB hS hy; have c0 := Z.out.cell 0; have c1 := Z.out.cell 1; have c2 := Z.out.cell 2; have c3 := Z.out.cell 3; have c4 := Z.out.cell 4; have c5 := Z.out.cell 5; have c6 := Z.out.cell 6; have c7 := Z.out.cell 7; have c8 := Z.out.cell 8; have c9 := Z.out.cell 9; simp only [qB, qC, qD] at c0 c1 c2 c3 c4 c5 c6 c7 c8 c9
      by_cases hn : y.name = nm0
      · have he : ∀ W, (binOp .neq 45 (.agg #[.int .i64 y.name.kind, .string (bs y.name.owner), .int .i64 y.name.num, .int .i64 y.name.idx, .string (bs y.name.text)]) (.agg #[.int .i64 0, .string ⟨#[]⟩, .int .i64 0, .int .i64 0, .string ⟨#[]⟩])).run Tryz.prog W = .ok (.bool false) W := fun W => neqNm y.name nm0 true (by simp [hn]) W
        have HE := Lib.hid (show expA a b k0 = (out, 0) by rw [HEX.out]; unfold expR; rw [if_pos hn]); clear hn
        go_wp2_with fail
        go_ret2
        exact ⟨_, by rw [HE.out]; rfl, by rw [HE.out]; exact Rd.of_own OW.out, HB0.out.trans (HB.out.mono HB0.out.size)⟩
      · have he : ∀ W, (binOp .neq 45 (.agg #[.int .i64 y.name.kind, .string (bs y.name.owner), .int .i64 y.name.num, .int .i64 y.name.idx, .string (bs y.name.text)]) (.agg #[.int .i64 0, .string ⟨#[]⟩, .int .i64 0, .int .i64 0, .string ⟨#[]⟩])).run Tryz.prog W = .ok (.bool true) W := fun W => neqNm y.name nm0 false (by simp [hn]) W
        have HN := Lib.hid hn; clear hn
        go_upto_region 10 with (fail)
        have hba := (Below.refl wr.heap.size wr).alloc (Nat.le_refl _) (.cells #[.int .i64 y.key.tick, .int .i64 y.key.cls, .int .i64 y.key.num, .string (bs y.key.lin)] 35); have ZA := Lib.hid (Z.out.next hba Z.out.lt); have OA1 := Lib.hid (own_next OW.out hba); have BA := Lib.hid (HB.out.trans (hba.mono HB.out.size)); have HSA := Lib.hid (Nat.le_trans HS.out hba.size); have ZBA := Lib.hid (Blk.new wr 35 #[.int .i64 y.key.tick, .int .i64 y.key.cls, .int .i64 y.key.num, .string (bs y.key.lin)]); have HBB := Lib.hid (show w6.heap.size ≤ wr.heap.size from HB.out.size); have HBL2 := Lib.hid (show B ≤ wr.heap.size from HS.out); have HOLT := Lib.hid (fun g hg => own_lt OW.out (g := g) hg); have HNR := Lib.hid (Nat.ne_of_lt Z.out.lt); clear hba he c0 c1 c2 c3 c4 c5 c6 c7 c8 c9; generalize wr.alloc (.cells #[.int .i64 y.key.tick, .int .i64 y.key.cls, .int .i64 y.key.num, .string (bs y.key.lin)] 35) = w7 at *; obtain ⟨bb, hbb⟩ : ∃ bb, wr.heap.size = bb := ⟨_, rfl⟩; rw [hbb] at ZBA HBB HBL2 HOLT HNR ⊢; clear hbb OW HB HS Z; obtain ⟨kz, hkz⟩ : ∃ kz, bkK y = kz := ⟨_, rfl⟩; obtain ⟨o, ho⟩ : ∃ o, orgK a b y.name kz = o := ⟨_, rfl⟩; have HKZ := Lib.hid hkz; have HO := Lib.hid ho; have HSTP := Lib.hid (fun o' (h : o = some o') => HSTP0.out HN.out o' (by rw [HKZ.out, HO.out, h])); rw [hkz] at HBL; have HOR := Lib.hid (fun W hW => HORR.out y.name kz HBL.out W hW); rw [ho] at HOR; clear hkz ho; have c0 := ZA.out.cell 0; have c1 := ZA.out.cell 1; have c2 := ZA.out.cell 2; have c3 := ZA.out.cell 3; have c4 := ZA.out.cell 4; have c5 := ZA.out.cell 5; have c6 := ZA.out.cell 6; have c7 := ZA.out.cell 7; have c8 := ZA.out.cell 8; have c9 := ZA.out.cell 9; simp only [qB, qC, qD] at c0 c1 c2 c3 c4 c5 c6 c7 c8 c9
        by_cases hkd : y.kind = 1
        · have e0 : (y.kind != 1) = false := by rw [hkd]; rfl
          have HKE := Lib.hid (show y.key = kz by rw [← HKZ.out]; unfold bkK; rw [if_pos hkd]); rw [HKE.out] at ZBA; have Z8 := ZA; have O8 := OA1; have B8 := BA; have HS8 := HSA; have ZB8 := ZBA; clear hkd ZA OA1 BA HSA ZBA; obtain ⟨w8, hw8⟩ : ∃ w8, w7 = w8 := ⟨_, rfl⟩; subst hw8
          go_upto_region 12 with (fail)
          clear e0 c0 c1 c2 c3 c4 c5 c6 c7 c8 c9; obtain ⟨HPW, -, -, -⟩ := HPP.out w7 B8.out; have p0 := HPW.cell 0; have p1 := HPW.cell 1; have p2 := HPW.cell 2; have p3 := HPW.cell 3; simp only [qB, qC, qD] at p0 p1 p2 p3; clear HPW; have c0 := Z8.out.cell 0; have c1 := Z8.out.cell 1; have c2 := Z8.out.cell 2; have c3 := Z8.out.cell 3; have c4 := Z8.out.cell 4; have c5 := Z8.out.cell 5; have c6 := Z8.out.cell 6; have c7 := Z8.out.cell 7; have c8 := Z8.out.cell 8; have c9 := Z8.out.cell 9; simp only [qB, qC, qD] at c0 c1 c2 c3 c4 c5 c6 c7 c8 c9; have t0 := ZB8.out.cell 0; have t1 := ZB8.out.cell 1; have t2 := ZB8.out.cell 2; have t3 := ZB8.out.cell 3; simp only [qB, qC, qD] at t0 t1 t2 t3
          go_upto_region 13 with (go_at_call 28; refine (HOR.out _ B8.out).mono ?_; rintro e w9 ⟨rfl, hb⟩; have Z9 := Lib.hid (Z8.out.next hb Z8.out.lt); have O9 := Lib.hid (own_next O8.out hb); have B9 := Lib.hid (B8.out.trans (hb.mono B8.out.size)); have HS9 := Lib.hid (Nat.le_trans HS8.out hb.size); clear hb; clear p0 p1 p2 p3 c0 c1 c2 c3 c4 c5 c6 c7 c8 c9 t0 t1 t2 t3)
          have hba := (Below.refl w9.heap.size w9).alloc (Nat.le_refl _) (.cells #[.int .i64 (o.getD ky00).tick, .int .i64 (o.getD ky00).cls, .int .i64 (o.getD ky00).num, .string (bs (o.getD ky00).lin)] 35); have Z10 := Lib.hid (Z9.out.next hba Z9.out.lt); have O10 := Lib.hid (own_next O9.out hba); have B10 := Lib.hid (B9.out.trans (hba.mono B9.out.size)); have HS10 := Lib.hid (Nat.le_trans HS9.out hba.size); have ZO10 := Lib.hid (Blk.new w9 35 #[.int .i64 (o.getD ky00).tick, .int .i64 (o.getD ky00).cls, .int .i64 (o.getD ky00).num, .string (bs (o.getD ky00).lin)]); clear hba; generalize w9.alloc (.cells #[.int .i64 (o.getD ky00).tick, .int .i64 (o.getD ky00).cls, .int .i64 (o.getD ky00).num, .string (bs (o.getD ky00).lin)] 35) = w10 at *; obtain ⟨ob, hob⟩ : ∃ ob, w9.heap.size = ob := ⟨_, rfl⟩; rw [hob] at ZO10 ⊢; clear hob
          cases o with
          | none =>
            have HE := Lib.hid (show expA a b k0 = ([], 10) by
              rw [HEX.out]
              unfold expR
              rw [if_neg HN.out, HKZ.out, HO.out])
            go_wp2_with fail
            go_ret2
            exact ⟨_, by rw [HE.out]; rfl, by rw [HE.out]; exact RdP.nil, HB0.out.trans (B10.out.mono HB0.out.size)⟩
          | some o =>
            simp only [Option.getD_some] at ZO10
            obtain ⟨ho1, ho2, ho3⟩ := HSTP.out o rfl; have e1 : decide (0 ≤ cmpK o y.key) = false := decide_eq_false (by rw [HYK.out]; omega); have HKC := Lib.hid (fun W => key_compare o y.key W ho3.2.1 HYL.out)
            unfold kyV at HKC
            have HR2 := Lib.hid (fun W hW => HRS.out o ho3.2.1 W hW); obtain ⟨y2, hy2⟩ : ∃ y2, (rsnE a b o).1 = y2 := ⟨_, rfl⟩; obtain ⟨er, her⟩ : ∃ er, (rsnE a b o).2 = er := ⟨_, rfl⟩; rw [hy2, her] at HR2; have HY2 := Lib.hid hy2; have HER := Lib.hid her; have HLT := Lib.hid ho2; clear ho1 ho2 ho3 hy2 her; have c0 := Z10.out.cell 0; have c1 := Z10.out.cell 1; have c2 := Z10.out.cell 2; have c3 := Z10.out.cell 3; have c4 := Z10.out.cell 4; have c5 := Z10.out.cell 5; have c6 := Z10.out.cell 6; have c7 := Z10.out.cell 7; have c8 := Z10.out.cell 8; have c9 := Z10.out.cell 9; simp only [qB, qC, qD] at c0 c1 c2 c3 c4 c5 c6 c7 c8 c9; have t0 := ZO10.out.cell 0; have t1 := ZO10.out.cell 1; have t2 := ZO10.out.cell 2; have t3 := ZO10.out.cell 3; simp only [qB, qC, qD] at t0 t1 t2 t3
            go_upto_region 15 with (go_at_call 11; refine (HKC.out _).mono ?_; rintro e w11 ⟨rfl, hb⟩; have Z11 := Lib.hid (Z10.out.next hb Z10.out.lt); have ZO11 := Lib.hid (ZO10.out.next hb ZO10.out.lt); have O11 := Lib.hid (own_next O10.out hb); have B11 := Lib.hid (B10.out.trans (hb.mono B10.out.size)); have HS11 := Lib.hid (Nat.le_trans HS10.out hb.size); clear hb; clear c0 c1 c2 c3 c4 c5 c6 c7 c8 c9 t0 t1 t2 t3)
            obtain ⟨HPW, -, -, -⟩ := HPP.out w11 B11.out; have p0 := HPW.cell 0; have p1 := HPW.cell 1; have p2 := HPW.cell 2; have p3 := HPW.cell 3; simp only [qB, qC, qD] at p0 p1 p2 p3; clear HPW; have t0 := ZO11.out.cell 0; have t1 := ZO11.out.cell 1; have t2 := ZO11.out.cell 2; have t3 := ZO11.out.cell 3; simp only [qB, qC, qD] at t0 t1 t2 t3
            go_upto_region 16 with (go_at_call 26; refine (HR2.out _ B11.out).mono ?_; rintro e w12 ⟨rfl, hb⟩; have Z12 := Lib.hid (Z11.out.next hb Z11.out.lt); have O12 := Lib.hid (own_next O11.out hb); have B12 := Lib.hid (B11.out.trans (hb.mono B11.out.size)); have HS12 := Lib.hid (Nat.le_trans HS11.out hb.size); clear hb p0 p1 p2 p3 t0 t1 t2 t3; have c0 := Z12.out.cell 0; have c1 := Z12.out.cell 1; have c2 := Z12.out.cell 2; have c3 := Z12.out.cell 3; have c4 := Z12.out.cell 4; have c5 := Z12.out.cell 5; have c6 := Z12.out.cell 6; have c7 := Z12.out.cell 7; have c8 := Z12.out.cell 8; have c9 := Z12.out.cell 9; (simp only [qB, qC, qD] at c0 c1 c2 c3 c4 c5 c6 c7 c8 c9); have f0 := Z12.out.frozen 0; have f1 := Z12.out.frozen 1; have f2 := Z12.out.frozen 2; have f3 := Z12.out.frozen 3; have f4 := Z12.out.frozen 4; have f5 := Z12.out.frozen 5; have f6 := Z12.out.frozen 6; have f7 := Z12.out.frozen 7; have f8 := Z12.out.frozen 8; have f9 := Z12.out.frozen 9; have ZE := Lib.hid (set10z_ (.int .i64 y2.key.tick) (.int .i64 y2.key.cls) (.int .i64 y2.key.num) (.string (bs y2.key.lin)) (.int .i64 y2.kind) (.int .i64 y2.name.kind) (.string (bs y2.name.owner)) (.int .i64 y2.name.num) (.int .i64 y2.name.idx) (.string (bs y2.name.text)) Z12.out); have BE := Lib.hid (low10z_ (.int .i64 y2.key.tick) (.int .i64 y2.key.cls) (.int .i64 y2.key.num) (.string (bs y2.key.lin)) (.int .i64 y2.kind) (.int .i64 y2.name.kind) (.string (bs y2.name.owner)) (.int .i64 y2.name.num) (.int .i64 y2.name.idx) (.string (bs y2.name.text)) B12.out HRB.out))
            clear c0 c1 c2 c3 c4 c5 c6 c7 c8 c9 f0 f1 f2 f3 f4 f5 f6 f7 f8 f9; have OE := Lib.hid (own_same O12.out fun z hz => own10_ (g := rb) (.int .i64 y2.key.tick) (.int .i64 y2.key.cls) (.int .i64 y2.key.num) (.string (bs y2.key.lin)) (.int .i64 y2.kind) (.int .i64 y2.name.kind) (.string (bs y2.name.owner)) (.int .i64 y2.name.num) (.int .i64 y2.name.idx) (.string (bs y2.name.text)) w12 (fun e => by have := own_ge O12.out (e ▸ hz); have := HRBB.out; omega)); have HSE := Lib.hid (show B ≤ ((((((((((w12.setCell ⟨rb, 0, none⟩ (.int .i64 y2.key.tick)).setCell ⟨rb, 1, none⟩ (.int .i64 y2.key.cls)).setCell ⟨rb, 2, none⟩ (.int .i64 y2.key.num)).setCell ⟨rb, 3, none⟩ (.string (bs y2.key.lin))).setCell ⟨rb, 4, none⟩ (.int .i64 y2.kind)).setCell ⟨rb, 5, none⟩ (.int .i64 y2.name.kind)).setCell ⟨rb, 6, none⟩ (.string (bs y2.name.owner))).setCell ⟨rb, 7, none⟩ (.int .i64 y2.name.num)).setCell ⟨rb, 8, none⟩ (.int .i64 y2.name.idx)).setCell ⟨rb, 9, none⟩ (.string (bs y2.name.text))).heap.size from Nat.le_trans HS12.out (low10z_ (g := rb) (.int .i64 y2.key.tick) (.int .i64 y2.key.cls) (.int .i64 y2.key.num) (.string (bs y2.key.lin)) (.int .i64 y2.kind) (.int .i64 y2.name.kind) (.string (bs y2.name.owner)) (.int .i64 y2.name.num) (.int .i64 y2.name.idx) (.string (bs y2.name.text)) (Below.refl 0 w12) (Nat.zero_le _)).size); generalize ((((((((((w12.setCell ⟨rb, 0, none⟩ (.int .i64 y2.key.tick)).setCell ⟨rb, 1, none⟩ (.int .i64 y2.key.cls)).setCell ⟨rb, 2, none⟩ (.int .i64 y2.key.num)).setCell ⟨rb, 3, none⟩ (.string (bs y2.key.lin))).setCell ⟨rb, 4, none⟩ (.int .i64 y2.kind)).setCell ⟨rb, 5, none⟩ (.int .i64 y2.name.kind)).setCell ⟨rb, 6, none⟩ (.string (bs y2.name.owner))).setCell ⟨rb, 7, none⟩ (.int .i64 y2.name.num)).setCell ⟨rb, 8, none⟩ (.int .i64 y2.name.idx)).setCell ⟨rb, 9, none⟩ (.string (bs y2.name.text))) = W9 at *
            by_cases h0 : er = 0
            · subst h0
              obtain ⟨n2, hn2⟩ : ∃ n2, n = n2 + 1 := ⟨n - 1, by have := HLT.out; have := HMS.out; omega⟩; subst hn2
              have HEN := Lib.hid (show expA a b k0 = expR a b n2 (rsnE a b o).1 (out ++ [y2]) by
                rw [HEX.out]
                unfold expR
                rw [if_neg HN.out, HKZ.out, HO.out]
                show expF a b (n2 + 1) o out = _
                rw [expF_succ, if_neg (fun h => h HER.out), HY2.out]
                rfl)
              have hol := HLE.out; obtain ⟨A3, cc3, rfl, hc3⟩ := own_len OE.out; have c0 := ZE.out.cell 0; have c1 := ZE.out.cell 1; have c2 := ZE.out.cell 2; have c3 := ZE.out.cell 3; have c4 := ZE.out.cell 4; have c5 := ZE.out.cell 5; have c6 := ZE.out.cell 6; have c7 := ZE.out.cell 7; have c8 := ZE.out.cell 8; have c9 := ZE.out.cell 9; simp only [qB, qC, qD] at c0 c1 c2 c3 c4 c5 c6 c7 c8 c9; obtain ⟨i0, hi, hz0, hz1, hz2⟩ := info_parts infoRs; have hba := (Below.refl W9.heap.size W9).alloc (Nat.le_refl _) (.cells #[.int .i64 y2.key.tick, .int .i64 y2.key.cls, .int .i64 y2.key.num, .string (bs y2.key.lin), .int .i64 y2.kind, .int .i64 y2.name.kind, .string (bs y2.name.owner), .int .i64 y2.name.num, .int .i64 y2.name.idx, .string (bs y2.name.text)] 47); have hws := HSE.out
              go_wp2_with (at_builtin; refine wpList_append_w _ rfl _ _ _ rfl B 47 i0 _ 10 104 Tryz.underlying39 hi hz0 hz1 hz2 rfl (by omega) (.slice A3 out.length cc3) out.length (out.flatMap rsC) rfl (own_next OE.out hba) (.slice (some ⟨W9.heap.size, 0, none⟩) 1 1) 1 [.int .i64 y2.key.tick, .int .i64 y2.key.cls, .int .i64 y2.key.num, .string (bs y2.key.lin), .int .i64 y2.kind, .int .i64 y2.name.kind, .string (bs y2.name.owner), .int .i64 y2.name.num, .int .i64 y2.name.idx, .string (bs y2.name.text)] (by rfl) (Rd.of_own (own_new W9 0 47 10 [.int .i64 y2.key.tick, .int .i64 y2.key.cls, .int .i64 y2.key.num, .string (bs y2.key.lin), .int .i64 y2.kind, .int .i64 y2.name.kind, .string (bs y2.name.owner), .int .i64 y2.name.num, .int .i64 y2.name.idx, .string (bs y2.name.text)] rfl (Nat.zero_le _))) (by omega) (by rfl) (by simp [Value.oneCell']) (by unfold maxLen; omega) (by omega) (by simp; omega) ?_; intro v8 w13 hown hg hat; have O13 := Lib.hid hown; have Z13 := Lib.hid ((ZE.out.next hba ZE.out.lt).grown hg (fun e => by have := own_ge (own_next OE.out hba) e.symm; have := HRBB.out; omega)); have B13 := Lib.hid (Below.grown (BE.out.trans (hba.mono BE.out.size)) hg (BE.out.trans (hba.mono BE.out.size)).size (fun r hr => Nat.le_trans HB3.out (own_ge (own_next OE.out hba) hr))); have HS13 := Lib.hid (Nat.le_trans hws (Nat.le_trans hba.size hg.size)); clear hown hg hat)
              clear c0 c1 c2 c3 c4 c5 c6 c7 c8 c9 i0 hi hz0 hz1 hz2 hba hws
              go_roundw
              case rel => exact ⟨n2, o, out ++ [y2], HER.out, OwnP.snoc O13.out, by simp, HEN.out, by have := HLT.out; have := HMS.out; omega, by rw [List.length_append]; have := HLE.out; simp only [List.length_singleton]; omega, by rw [HY2.out]; exact Z13.out, B13.out, HS13.out⟩
              case measure => obtain ⟨A9, c9, rfl, _⟩ := own_len O13.out; have := HLE.out; simp [lenV]; omega
            · have e2 : (er != 0) = true := by simpa using h0
              have HE := Lib.hid (show expA a b k0 = ([], 10) by
                rw [HEX.out]
                unfold expR
                rw [if_neg HN.out, HKZ.out, HO.out]
                show expF a b n o out = _
                obtain ⟨n2, hn2⟩ : ∃ n2, n = n2 + 1 := ⟨n - 1, by have := HLT.out; have := HMS.out; omega⟩
                rw [hn2, expF_succ, if_pos (by rw [HER.out]; exact h0), if_neg HNE.out])
              clear h0
              go_wp2_with fail
              go_ret2
              exact ⟨_, by rw [HE.out]; rfl, by rw [HE.out]; exact RdP.nil, HB0.out.trans (BE.out.mono HB0.out.size)⟩
        · have e0 : (y.kind != 1) = true := by simpa using hkd
          have HTO := Lib.hid (fun W => turnsOf_is W y.key.tick); rw [show sloK y.key.tick = kz by rw [← HKZ.out]; unfold bkK; rw [if_neg hkd]] at HTO
          unfold kyV at HTO
          clear hkd
          go_upto_region 12 with (go_at_call 27; refine (HTO.out _).mono ?_; rintro e wt ⟨rfl, hb⟩; have ZB1 := Lib.hid (ZA.out.next hb ZA.out.lt); have OB1 := Lib.hid (own_next OA1.out hb); have BB1 := Lib.hid (BA.out.trans (hb.mono BA.out.size)); have HSB := Lib.hid (Nat.le_trans HSA.out hb.size); have ZBB := Lib.hid (ZBA.out.next hb ZBA.out.lt); clear hb c0 c1 c2 c3 c4 c5 c6 c7 c8 c9; have q0 := ZBB.out.cell 0; have q1 := ZBB.out.cell 1; have q2 := ZBB.out.cell 2; have q3 := ZBB.out.cell 3; (simp only [qB, qC, qD] at q0 q1 q2 q3); have f0 := ZBB.out.frozen 0; have f1 := ZBB.out.frozen 1; have f2 := ZBB.out.frozen 2; have f3 := ZBB.out.frozen 3; have ZB8 := Lib.hid (set4z_ (.int .i64 kz.tick) (.int .i64 kz.cls) (.int .i64 kz.num) (.string (bs kz.lin)) ZBB.out); have B8 := Lib.hid (low4z_ (.int .i64 kz.tick) (.int .i64 kz.cls) (.int .i64 kz.num) (.string (bs kz.lin)) BB1.out HBB.out))
          clear q0 q1 q2 q3 f0 f1 f2 f3; have O8 := Lib.hid (own_same OB1.out fun z hz => own4_ (g := bb) (.int .i64 kz.tick) (.int .i64 kz.cls) (.int .i64 kz.num) (.string (bs kz.lin)) wt (Nat.ne_of_lt (HOLT.out z hz))); have HS8 := Lib.hid (show B ≤ ((((wt.setCell ⟨bb, 0, none⟩ (.int .i64 kz.tick)).setCell ⟨bb, 1, none⟩ (.int .i64 kz.cls)).setCell ⟨bb, 2, none⟩ (.int .i64 kz.num)).setCell ⟨bb, 3, none⟩ (.string (bs kz.lin))).heap.size from Nat.le_trans HSB.out (low4z_ (g := bb) (.int .i64 kz.tick) (.int .i64 kz.cls) (.int .i64 kz.num) (.string (bs kz.lin)) (Below.refl 0 wt) (Nat.zero_le _)).size); have Z8 := Lib.hid (kp4_ (.int .i64 kz.tick) (.int .i64 kz.cls) (.int .i64 kz.num) (.string (bs kz.lin)) ZB1.out HNR.out); generalize ((((wt.setCell ⟨bb, 0, none⟩ (.int .i64 kz.tick)).setCell ⟨bb, 1, none⟩ (.int .i64 kz.cls)).setCell ⟨bb, 2, none⟩ (.int .i64 kz.num)).setCell ⟨bb, 3, none⟩ (.string (bs kz.lin))) = w8 at *; obtain ⟨HPW, -, -, -⟩ := HPP.out w8 B8.out; have p0 := HPW.cell 0; have p1 := HPW.cell 1; have p2 := HPW.cell 2; have p3 := HPW.cell 3; simp only [qB, qC, qD] at p0 p1 p2 p3; clear HPW; have c0 := Z8.out.cell 0; have c1 := Z8.out.cell 1; have c2 := Z8.out.cell 2; have c3 := Z8.out.cell 3; have c4 := Z8.out.cell 4; have c5 := Z8.out.cell 5; have c6 := Z8.out.cell 6; have c7 := Z8.out.cell 7; have c8 := Z8.out.cell 8; have c9 := Z8.out.cell 9; simp only [qB, qC, qD] at c0 c1 c2 c3 c4 c5 c6 c7 c8 c9; have t0 := ZB8.out.cell 0; have t1 := ZB8.out.cell 1; have t2 := ZB8.out.cell 2; have t3 := ZB8.out.cell 3; simp only [qB, qC, qD] at t0 t1 t2 t3
          go_upto_region 13 with (go_at_call 28; refine (HOR.out _ B8.out).mono ?_; rintro e w9 ⟨rfl, hb⟩; have Z9 := Lib.hid (Z8.out.next hb Z8.out.lt); have O9 := Lib.hid (own_next O8.out hb); have B9 := Lib.hid (B8.out.trans (hb.mono B8.out.size)); have HS9 := Lib.hid (Nat.le_trans HS8.out hb.size); clear hb; clear p0 p1 p2 p3 c0 c1 c2 c3 c4 c5 c6 c7 c8 c9 t0 t1 t2 t3)
          have hba := (Below.refl w9.heap.size w9).alloc (Nat.le_refl _) (.cells #[.int .i64 (o.getD ky00).tick, .int .i64 (o.getD ky00).cls, .int .i64 (o.getD ky00).num, .string (bs (o.getD ky00).lin)] 35); have Z10 := Lib.hid (Z9.out.next hba Z9.out.lt); have O10 := Lib.hid (own_next O9.out hba); have B10 := Lib.hid (B9.out.trans (hba.mono B9.out.size)); have HS10 := Lib.hid (Nat.le_trans HS9.out hba.size); have ZO10 := Lib.hid (Blk.new w9 35 #[.int .i64 (o.getD ky00).tick, .int .i64 (o.getD ky00).cls, .int .i64 (o.getD ky00).num, .string (bs (o.getD ky00).lin)]); clear hba; generalize w9.alloc (.cells #[.int .i64 (o.getD ky00).tick, .int .i64 (o.getD ky00).cls, .int .i64 (o.getD ky00).num, .string (bs (o.getD ky00).lin)] 35) = w10 at *; obtain ⟨ob, hob⟩ : ∃ ob, w9.heap.size = ob := ⟨_, rfl⟩; rw [hob] at ZO10 ⊢; clear hob
          cases o with
          | none =>
            have HE := Lib.hid (show expA a b k0 = ([], 10) by
              rw [HEX.out]
              unfold expR
              rw [if_neg HN.out, HKZ.out, HO.out])
            go_wp2_with fail
            go_ret2
            exact ⟨_, by rw [HE.out]; rfl, by rw [HE.out]; exact RdP.nil, HB0.out.trans (B10.out.mono HB0.out.size)⟩
          | some o =>
            simp only [Option.getD_some] at ZO10
            obtain ⟨ho1, ho2, ho3⟩ := HSTP.out o rfl; have e1 : decide (0 ≤ cmpK o y.key) = false := decide_eq_false (by rw [HYK.out]; omega); have HKC := Lib.hid (fun W => key_compare o y.key W ho3.2.1 HYL.out)
            unfold kyV at HKC
            have HR2 := Lib.hid (fun W hW => HRS.out o ho3.2.1 W hW); obtain ⟨y2, hy2⟩ : ∃ y2, (rsnE a b o).1 = y2 := ⟨_, rfl⟩; obtain ⟨er, her⟩ : ∃ er, (rsnE a b o).2 = er := ⟨_, rfl⟩; rw [hy2, her] at HR2; have HY2 := Lib.hid hy2; have HER := Lib.hid her; have HLT := Lib.hid ho2; clear ho1 ho2 ho3 hy2 her; have c0 := Z10.out.cell 0; have c1 := Z10.out.cell 1; have c2 := Z10.out.cell 2; have c3 := Z10.out.cell 3; have c4 := Z10.out.cell 4; have c5 := Z10.out.cell 5; have c6 := Z10.out.cell 6; have c7 := Z10.out.cell 7; have c8 := Z10.out.cell 8; have c9 := Z10.out.cell 9; simp only [qB, qC, qD] at c0 c1 c2 c3 c4 c5 c6 c7 c8 c9; have t0 := ZO10.out.cell 0; have t1 := ZO10.out.cell 1; have t2 := ZO10.out.cell 2; have t3 := ZO10.out.cell 3; simp only [qB, qC, qD] at t0 t1 t2 t3
            go_upto_region 15 with (go_at_call 11; refine (HKC.out _).mono ?_; rintro e w11 ⟨rfl, hb⟩; have Z11 := Lib.hid (Z10.out.next hb Z10.out.lt); have ZO11 := Lib.hid (ZO10.out.next hb ZO10.out.lt); have O11 := Lib.hid (own_next O10.out hb); have B11 := Lib.hid (B10.out.trans (hb.mono B10.out.size)); have HS11 := Lib.hid (Nat.le_trans HS10.out hb.size); clear hb; clear c0 c1 c2 c3 c4 c5 c6 c7 c8 c9 t0 t1 t2 t3)
            obtain ⟨HPW, -, -, -⟩ := HPP.out w11 B11.out; have p0 := HPW.cell 0; have p1 := HPW.cell 1; have p2 := HPW.cell 2; have p3 := HPW.cell 3; simp only [qB, qC, qD] at p0 p1 p2 p3; clear HPW; have t0 := ZO11.out.cell 0; have t1 := ZO11.out.cell 1; have t2 := ZO11.out.cell 2; have t3 := ZO11.out.cell 3; simp only [qB, qC, qD] at t0 t1 t2 t3
            go_upto_region 16 with (go_at_call 26; refine (HR2.out _ B11.out).mono ?_; rintro e w12 ⟨rfl, hb⟩; have Z12 := Lib.hid (Z11.out.next hb Z11.out.lt); have O12 := Lib.hid (own_next O11.out hb); have B12 := Lib.hid (B11.out.trans (hb.mono B11.out.size)); have HS12 := Lib.hid (Nat.le_trans HS11.out hb.size); clear hb p0 p1 p2 p3 t0 t1 t2 t3; have c0 := Z12.out.cell 0; have c1 := Z12.out.cell 1; have c2 := Z12.out.cell 2; have c3 := Z12.out.cell 3; have c4 := Z12.out.cell 4; have c5 := Z12.out.cell 5; have c6 := Z12.out.cell 6; have c7 := Z12.out.cell 7; have c8 := Z12.out.cell 8; have c9 := Z12.out.cell 9; (simp only [qB, qC, qD] at c0 c1 c2 c3 c4 c5 c6 c7 c8 c9); have f0 := Z12.out.frozen 0; have f1 := Z12.out.frozen 1; have f2 := Z12.out.frozen 2; have f3 := Z12.out.frozen 3; have f4 := Z12.out.frozen 4; have f5 := Z12.out.frozen 5; have f6 := Z12.out.frozen 6; have f7 := Z12.out.frozen 7; have f8 := Z12.out.frozen 8; have f9 := Z12.out.frozen 9; have ZE := Lib.hid (set10z_ (.int .i64 y2.key.tick) (.int .i64 y2.key.cls) (.int .i64 y2.key.num) (.string (bs y2.key.lin)) (.int .i64 y2.kind) (.int .i64 y2.name.kind) (.string (bs y2.name.owner)) (.int .i64 y2.name.num) (.int .i64 y2.name.idx) (.string (bs y2.name.text)) Z12.out); have BE := Lib.hid (low10z_ (.int .i64 y2.key.tick) (.int .i64 y2.key.cls) (.int .i64 y2.key.num) (.string (bs y2.key.lin)) (.int .i64 y2.kind) (.int .i64 y2.name.kind) (.string (bs y2.name.owner)) (.int .i64 y2.name.num) (.int .i64 y2.name.idx) (.string (bs y2.name.text)) B12.out HRB.out))
            clear c0 c1 c2 c3 c4 c5 c6 c7 c8 c9 f0 f1 f2 f3 f4 f5 f6 f7 f8 f9; have OE := Lib.hid (own_same O12.out fun z hz => own10_ (g := rb) (.int .i64 y2.key.tick) (.int .i64 y2.key.cls) (.int .i64 y2.key.num) (.string (bs y2.key.lin)) (.int .i64 y2.kind) (.int .i64 y2.name.kind) (.string (bs y2.name.owner)) (.int .i64 y2.name.num) (.int .i64 y2.name.idx) (.string (bs y2.name.text)) w12 (fun e => by have := own_ge O12.out (e ▸ hz); have := HRBB.out; omega)); have HSE := Lib.hid (show B ≤ ((((((((((w12.setCell ⟨rb, 0, none⟩ (.int .i64 y2.key.tick)).setCell ⟨rb, 1, none⟩ (.int .i64 y2.key.cls)).setCell ⟨rb, 2, none⟩ (.int .i64 y2.key.num)).setCell ⟨rb, 3, none⟩ (.string (bs y2.key.lin))).setCell ⟨rb, 4, none⟩ (.int .i64 y2.kind)).setCell ⟨rb, 5, none⟩ (.int .i64 y2.name.kind)).setCell ⟨rb, 6, none⟩ (.string (bs y2.name.owner))).setCell ⟨rb, 7, none⟩ (.int .i64 y2.name.num)).setCell ⟨rb, 8, none⟩ (.int .i64 y2.name.idx)).setCell ⟨rb, 9, none⟩ (.string (bs y2.name.text))).heap.size from Nat.le_trans HS12.out (low10z_ (g := rb) (.int .i64 y2.key.tick) (.int .i64 y2.key.cls) (.int .i64 y2.key.num) (.string (bs y2.key.lin)) (.int .i64 y2.kind) (.int .i64 y2.name.kind) (.string (bs y2.name.owner)) (.int .i64 y2.name.num) (.int .i64 y2.name.idx) (.string (bs y2.name.text)) (Below.refl 0 w12) (Nat.zero_le _)).size); generalize ((((((((((w12.setCell ⟨rb, 0, none⟩ (.int .i64 y2.key.tick)).setCell ⟨rb, 1, none⟩ (.int .i64 y2.key.cls)).setCell ⟨rb, 2, none⟩ (.int .i64 y2.key.num)).setCell ⟨rb, 3, none⟩ (.string (bs y2.key.lin))).setCell ⟨rb, 4, none⟩ (.int .i64 y2.kind)).setCell ⟨rb, 5, none⟩ (.int .i64 y2.name.kind)).setCell ⟨rb, 6, none⟩ (.string (bs y2.name.owner))).setCell ⟨rb, 7, none⟩ (.int .i64 y2.name.num)).setCell ⟨rb, 8, none⟩ (.int .i64 y2.name.idx)).setCell ⟨rb, 9, none⟩ (.string (bs y2.name.text))) = W9 at *
            by_cases h0 : er = 0
            · subst h0
              obtain ⟨n2, hn2⟩ : ∃ n2, n = n2 + 1 := ⟨n - 1, by have := HLT.out; have := HMS.out; omega⟩; subst hn2
              have HEN := Lib.hid (show expA a b k0 = expR a b n2 (rsnE a b o).1 (out ++ [y2]) by
                rw [HEX.out]
                unfold expR
                rw [if_neg HN.out, HKZ.out, HO.out]
                show expF a b (n2 + 1) o out = _
                rw [expF_succ, if_neg (fun h => h HER.out), HY2.out]
                rfl)
              have hol := HLE.out; obtain ⟨A3, cc3, rfl, hc3⟩ := own_len OE.out; have c0 := ZE.out.cell 0; have c1 := ZE.out.cell 1; have c2 := ZE.out.cell 2; have c3 := ZE.out.cell 3; have c4 := ZE.out.cell 4; have c5 := ZE.out.cell 5; have c6 := ZE.out.cell 6; have c7 := ZE.out.cell 7; have c8 := ZE.out.cell 8; have c9 := ZE.out.cell 9; simp only [qB, qC, qD] at c0 c1 c2 c3 c4 c5 c6 c7 c8 c9; obtain ⟨i0, hi, hz0, hz1, hz2⟩ := info_parts infoRs; have hba := (Below.refl W9.heap.size W9).alloc (Nat.le_refl _) (.cells #[.int .i64 y2.key.tick, .int .i64 y2.key.cls, .int .i64 y2.key.num, .string (bs y2.key.lin), .int .i64 y2.kind, .int .i64 y2.name.kind, .string (bs y2.name.owner), .int .i64 y2.name.num, .int .i64 y2.name.idx, .string (bs y2.name.text)] 47); have hws := HSE.out
              go_wp2_with (at_builtin; refine wpList_append_w _ rfl _ _ _ rfl B 47 i0 _ 10 104 Tryz.underlying39 hi hz0 hz1 hz2 rfl (by omega) (.slice A3 out.length cc3) out.length (out.flatMap rsC) rfl (own_next OE.out hba) (.slice (some ⟨W9.heap.size, 0, none⟩) 1 1) 1 [.int .i64 y2.key.tick, .int .i64 y2.key.cls, .int .i64 y2.key.num, .string (bs y2.key.lin), .int .i64 y2.kind, .int .i64 y2.name.kind, .string (bs y2.name.owner), .int .i64 y2.name.num, .int .i64 y2.name.idx, .string (bs y2.name.text)] (by rfl) (Rd.of_own (own_new W9 0 47 10 [.int .i64 y2.key.tick, .int .i64 y2.key.cls, .int .i64 y2.key.num, .string (bs y2.key.lin), .int .i64 y2.kind, .int .i64 y2.name.kind, .string (bs y2.name.owner), .int .i64 y2.name.num, .int .i64 y2.name.idx, .string (bs y2.name.text)] rfl (Nat.zero_le _))) (by omega) (by rfl) (by simp [Value.oneCell']) (by unfold maxLen; omega) (by omega) (by simp; omega) ?_; intro v8 w13 hown hg hat; have O13 := Lib.hid hown; have Z13 := Lib.hid ((ZE.out.next hba ZE.out.lt).grown hg (fun e => by have := own_ge (own_next OE.out hba) e.symm; have := HRBB.out; omega)); have B13 := Lib.hid (Below.grown (BE.out.trans (hba.mono BE.out.size)) hg (BE.out.trans (hba.mono BE.out.size)).size (fun r hr => Nat.le_trans HB3.out (own_ge (own_next OE.out hba) hr))); have HS13 := Lib.hid (Nat.le_trans hws (Nat.le_trans hba.size hg.size)); clear hown hg hat)
              clear c0 c1 c2 c3 c4 c5 c6 c7 c8 c9 i0 hi hz0 hz1 hz2 hba hws
              go_roundw
              case rel => exact ⟨n2, o, out ++ [y2], HER.out, OwnP.snoc O13.out, by simp, HEN.out, by have := HLT.out; have := HMS.out; omega, by rw [List.length_append]; have := HLE.out; simp only [List.length_singleton]; omega, by rw [HY2.out]; exact Z13.out, B13.out, HS13.out⟩
              case measure => obtain ⟨A9, c9, rfl, _⟩ := own_len O13.out; have := HLE.out; simp [lenV]; omega
            · have e2 : (er != 0) = true := by simpa using h0
              have HE := Lib.hid (show expA a b k0 = ([], 10) by
                rw [HEX.out]
                unfold expR
                rw [if_neg HN.out, HKZ.out, HO.out]
                show expF a b n o out = _
                obtain ⟨n2, hn2⟩ : ∃ n2, n = n2 + 1 := ⟨n - 1, by have := HLT.out; have := HMS.out; omega⟩
                rw [hn2, expF_succ, if_pos (by rw [HER.out]; exact h0), if_neg HNE.out])
              clear h0
              go_wp2_with fail
              go_ret2
              exact ⟨_, by rw [HE.out]; rfl, by rw [HE.out]; exact RdP.nil, HB0.out.trans (BE.out.mono HB0.out.size)⟩
  · have e1 : (er != 0) = true := by simpa using h0
    have HE := Lib.hid (show expA a b k0 = ([], er) by
      unfold expA
      rw [expF_succ, if_pos (by rw [her]; exact h0), her, if_pos rfl])
    clear h0
    go_wp2_with fail
    go_ret2
    exact ⟨_, by rw [HE.out]; rfl, by rw [HE.out]; exact RdP.nil, HB0.out.trans (B8.out.mono HB0.out.size)⟩
theorem slots_is (w : World) (t : Int) : Calls Tryz.prog 29 #[.int .i64 t] w fun e w' => e = .returned (kyV (sloK t)) ∧ Below w.heap.size w w' := by
  have b0 := Below.refl w.heap.size w; have b1 := b0.alloc b0.size (.cells #[.int .i64 t, .int .i64 1, .int .i64 0, .string ⟨#[]⟩] 35); have z0 := (Blk.new w 35 #[.int .i64 t, .int .i64 1, .int .i64 0, .string ⟨#[]⟩]); have q0 := z0.cell 0; have q1 := z0.cell 1; have q2 := z0.cell 2; have q3 := z0.cell 3; simp only [qB, qC, qD] at q0 q1 q2 q3
  go_enter Tryz.func29, Tryz.ntmps29
  clear b0 z0
  go_wp2_with fail
  exact bodyPost_ret (v := .agg #[.int .i64 t, .int .i64 1, .int .i64 0, .string ⟨#[]⟩]) (by simp [results, Tryz.results29, go_sem, q0, q1, q2, q3]) rfl ⟨rfl, b1⟩
def fiRel (l : List Ac) (k : Ky) (w : World) (i : Value) (wr : World) : Prop := ∃ j : Nat, j ≤ l.length ∧ i = .int .i64 (j : Int) ∧ (∀ q (hq : q < l.length), q < j → l[q].key ≠ k) ∧ Below w.heap.size w wr
theorem fndI_no {l : List Ac} {k : Ky} (h : ∀ q (hq : q < l.length), l[q].key ≠ k) : fndI l k = -1 := by
  rcases fndI_spec l k with ⟨h1, _⟩ | ⟨i, hi, _, h2, _⟩
  · exact h1
  · exact absurd h2 (h i hi)
theorem fndI_at {l : List Ac} {k : Ky} {j : Nat} (hj : j < l.length) (he : l[j].key = k) (h : ∀ q (hq : q < l.length), q < j → l[q].key ≠ k) : fndI l k = (j : Int) := by
  rcases fndI_spec l k with ⟨_, h2⟩ | ⟨i, hi, h1, h2, h3⟩
  · exact absurd he (h2 _ (List.getElem_mem hj))
  · rcases Nat.lt_trichotomy i j with hlt | rfl | hlt
    · exact absurd h2 (h i hi hlt)
    · exact h1
    · exact absurd he (h3 j hj hlt)
set_option maxRecDepth 100000 in
set_option maxHeartbeats 2000000 in
theorem find_is {w : World} {v : Value} {l : List Ac} (k : Ky) (h : RdAc w v l) (hl : l.length ≤ 100) : Calls Tryz.prog 31 #[v, kyV k] w fun e w' => e = .returned (.int .i64 (fndI l k)) ∧ Below w.heap.size w w' := by
  obtain ⟨A, c, rfl, hc⟩ := RowRd.form h; have b0 := Below.refl w.heap.size w; have b1 := b0.alloc b0.size (.cells #[.int .i64 k.tick, .int .i64 k.cls, .int .i64 k.num, .string (bs k.lin)] 35); have z0 := (Blk.new w 35 #[.int .i64 k.tick, .int .i64 k.cls, .int .i64 k.num, .string (bs k.lin)]); have H0 : Hid (fiRel l k (w.alloc (.cells #[.int .i64 k.tick, .int .i64 k.cls, .int .i64 k.num, .string (bs k.lin)] 35)) (.int .i64 (0 : Nat)) (w.alloc (.cells #[.int .i64 k.tick, .int .i64 k.cls, .int .i64 k.num, .string (bs k.lin)] 35))) := Lib.hid ⟨0, Nat.zero_le _, rfl, fun q _ h => by omega, Below.refl _ _⟩; have HH := Lib.hid (fun (W : World) (hW : Below (w.alloc (.cells #[.int .i64 k.tick, .int .i64 k.cls, .int .i64 k.num, .string (bs k.lin)] 35)).heap.size (w.alloc (.cells #[.int .i64 k.tick, .int .i64 k.cls, .int .i64 k.num, .string (bs k.lin)] 35)) W) => (h.next b1).next hW); have ZK := Lib.hid (fun (W : World) (hW : Below (w.alloc (.cells #[.int .i64 k.tick, .int .i64 k.cls, .int .i64 k.num, .string (bs k.lin)] 35)).heap.size (w.alloc (.cells #[.int .i64 k.tick, .int .i64 k.cls, .int .i64 k.num, .string (bs k.lin)] 35)) W) => z0.next hW z0.lt); have HB0 := Lib.hid b1
  unfold kyV
  clear h b0 b1 z0
  go_enter Tryz.func31, Tryz.ntmps31
  go_upto_region 1 with (fail)
  generalize (w.alloc (.cells #[.int .i64 k.tick, .int .i64 k.cls, .int .i64 k.num, .string (bs k.lin)] 35)) = w1 at *; obtain ⟨kb, hkb⟩ : ∃ kb, w.heap.size = kb := ⟨_, rfl⟩; have HKB := Lib.hid hkb; rw [hkb] at ZK ⊢; clear hkb
  go_wp2_with fail
  go_loopw [5] (fun i wr => fiRel l k w1 i wr) (fun i _ => l.length - (intOf i).toNat)
  case atStart => exact H0.out
  case round =>
    clear H0; obtain ⟨j, hj, rfl, hno, hB⟩ := hrel; have HNO := Lib.hid hno; have HB := Lib.hid hB; clear hno hB
    by_cases hjl : j < l.length
    · have j1 : decide ((j : Int) < (l.length : Int)) = true := decide_eq_true (by omega)
      have j2 : (0 : Int) ≤ (j : Int) := by omega
      have j3 : (j : Int) < (l.length : Int) := by omega
      obtain ⟨xb, xo, u1, u2, hbe, hxb, -, -, y0, y1, y2, y3, -, -⟩ := RdAc.piece (HH.out wr HB.out) hjl; subst hbe; have ZW := ZK.out wr HB.out; have t0 := ZW.cell 0; have t1 := ZW.cell 1; have t2 := ZW.cell 2; have t3 := ZW.cell 3; simp only [qB, qC, qD] at t0 t1 t2 t3; clear ZW hxb; obtain ⟨x, hx⟩ : ∃ x, l[j].key = x := ⟨_, rfl⟩; have HX := Lib.hid hx; have HJL := Lib.hid hjl; rw [hx] at y0 y1 y2 y3; clear hx
      by_cases hxk : x = k
      · have he := fun W => eqlKy x k true (by simp [hxk]) W
        unfold kyV at he
        have HE := Lib.hid (fndI_at HJL.out (HX.out.trans hxk) HNO.out); clear hxk
        go_wp2_with fail
        go_quiet (fail)
        have HFF := Lib.hid (HB.out.trans ((below_drewN (Below.refl _ wr) nq).mono HB.out.size)); clear y0 y1 y2 y3 t0 t1 t2 t3 he; generalize World.drewN wr nq = w3 at *
        go_wp2_with fail
        go_ret
        exact ⟨by rw [HE.out]; rfl, HB0.out.trans (HFF.out.mono HB0.out.size)⟩
      · have he := fun W => eqlKy x k false (by simp [hxk]) W
        unfold kyV at he
        have HN := Lib.hid hxk; clear hxk
        go_wp2_with fail
        go_quiet (fail)
        have HFF := Lib.hid (HB.out.trans ((below_drewN (Below.refl _ wr) nq).mono HB.out.size)); clear y0 y1 y2 y3 t0 t1 t2 t3 he; generalize World.drewN wr nq = w3 at *
        go_wp2_with fail
        go_roundw
        case rel => exact ⟨j + 1, HJL.out, by go_num, fun q hq h => by
          rcases Nat.lt_succ_iff_lt_or_eq.1 h with h | h
          · exact HNO.out q hq h
          · subst h; rw [HX.out]; exact HN.out, HFF.out⟩
        case measure => have := HJL.out; simp [intOf]; omega
    · have j1 : decide ((j : Int) < (l.length : Int)) = false := decide_eq_false (by omega)
      have HE := Lib.hid (fndI_no (l := l) (k := k) (fun q hq => HNO.out q hq (by omega)))
      go_wp2_with fail
      go_ret
      exact ⟨by rw [HE.out]; rfl, HB0.out.trans (HB.out.mono HB0.out.size)⟩
def beRel (l : List Ac) (k : Ky) (w : World) (i : Value) (wr : World) : Prop := ∃ j : Nat, j ≤ l.length ∧ i = .int .i64 (j : Int) ∧ (∀ q (hq : q < l.length), q < j → cmpK l[q].key k < 0) ∧ Below w.heap.size w wr
set_option maxRecDepth 100000 in
set_option maxHeartbeats 2000000 in
theorem before_is {w : World} {v : Value} {l : List Ac} {k : Ky} (h : RdAc w v l) (hp : KP l) (hl : l.length ≤ 100) (hk : k.lin ∈ lin5) (hr : ∀ a ∈ l, a.key.lin ∈ lin5) : Calls Tryz.prog 55 #[v, kyV k] w fun e w' => e = .returned (.int .i64 (befK l k : Nat)) ∧ Below w.heap.size w w' := by
  obtain ⟨A, c, rfl, hc⟩ := RowRd.form h; have b0 := Below.refl w.heap.size w; have b1 := b0.alloc b0.size (.cells #[.int .i64 k.tick, .int .i64 k.cls, .int .i64 k.num, .string (bs k.lin)] 35); have z0 := (Blk.new w 35 #[.int .i64 k.tick, .int .i64 k.cls, .int .i64 k.num, .string (bs k.lin)]); have H0 : Hid (beRel l k (w.alloc (.cells #[.int .i64 k.tick, .int .i64 k.cls, .int .i64 k.num, .string (bs k.lin)] 35)) (.int .i64 (0 : Nat)) (w.alloc (.cells #[.int .i64 k.tick, .int .i64 k.cls, .int .i64 k.num, .string (bs k.lin)] 35))) := Lib.hid ⟨0, Nat.zero_le _, rfl, fun q _ h => by omega, Below.refl _ _⟩; have HH := Lib.hid (fun (W : World) (hW : Below (w.alloc (.cells #[.int .i64 k.tick, .int .i64 k.cls, .int .i64 k.num, .string (bs k.lin)] 35)).heap.size (w.alloc (.cells #[.int .i64 k.tick, .int .i64 k.cls, .int .i64 k.num, .string (bs k.lin)] 35)) W) => (h.next b1).next hW); have ZK := Lib.hid (fun (W : World) (hW : Below (w.alloc (.cells #[.int .i64 k.tick, .int .i64 k.cls, .int .i64 k.num, .string (bs k.lin)] 35)).heap.size (w.alloc (.cells #[.int .i64 k.tick, .int .i64 k.cls, .int .i64 k.num, .string (bs k.lin)] 35)) W) => z0.next hW z0.lt); have HB0 := Lib.hid b1; have HP := Lib.hid hp; have HLI := Lib.hid hr
  unfold kyV
  clear h b0 b1 z0 hp hr
  go_enter Tryz.func55, Tryz.ntmps55
  go_upto_region 1 with (fail)
  generalize (w.alloc (.cells #[.int .i64 k.tick, .int .i64 k.cls, .int .i64 k.num, .string (bs k.lin)] 35)) = w1 at *; obtain ⟨kb, hkb⟩ : ∃ kb, w.heap.size = kb := ⟨_, rfl⟩; have HKB := Lib.hid hkb; rw [hkb] at ZK ⊢; clear hkb
  go_wp2_with fail
  go_loopw [5] (fun i wr => beRel l k w1 i wr) (fun i _ => l.length - (intOf i).toNat)
  case atStart => exact H0.out
  case round =>
    clear H0; obtain ⟨j, hj, rfl, hno, hB⟩ := hrel; have HNO := Lib.hid hno; have HB := Lib.hid hB; clear hno hB
    by_cases hjl : j < l.length
    · have j1 : decide ((j : Int) < (l.length : Int)) = true := decide_eq_true (by omega)
      have j2 : (0 : Int) ≤ (j : Int) := by omega
      have j3 : (j : Int) < (l.length : Int) := by omega
      obtain ⟨xb, xo, u1, u2, hbe, hxb, -, -, y0, y1, y2, y3, -, -⟩ := RdAc.piece (HH.out w1 (Below.refl _ _)) hjl; subst hbe; have HXL := Lib.hid (HLI.out l[j] (List.getElem_mem hjl))
      have HHI := Lib.hid (fun (h : ¬ cmpK l[j].key k < 0) => befK_eq HP.out (k := k) (p := j) (by omega) HNO.out (fun i h1 h2 hc => h (by
        rcases Nat.eq_or_lt_of_le h2 with rfl | h4
        · exact hc
        · have h5 := HP.out.lt h1 h4
          exact (wordK.trans _ _ _ (by omega) (by omega : cmpK l[i].key k ≤ 0)).2 (.inl h5))))
      have HNX := Lib.hid (fun (h : cmpK l[j].key k < 0) => show ∀ q (hq : q < l.length), q < j + 1 → cmpK l[q].key k < 0 from fun q hq hqj => by
        rcases Nat.lt_succ_iff_lt_or_eq.1 hqj with h' | h'
        · exact HNO.out q hq h'
        · subst h'; exact h)
      obtain ⟨x, hx⟩ : ∃ x, l[j].key = x := ⟨_, rfl⟩; rw [hx] at y0 y1 y2 y3 HXL HHI HNX; have HCY := Lib.hid (fun W => key_compare x k W HXL.out hk)
      unfold kyV at HCY
      have HSS := Lib.hid (fun (W : World) (hW : Below w1.heap.size w1 W) => show W.cell? ⟨xb, xo + j * 6, none⟩ = some (.int .i64 x.tick) ∧ W.cell? ⟨xb, xo + j * 6 + 1, none⟩ = some (.int .i64 x.cls) ∧ W.cell? ⟨xb, xo + j * 6 + 2, none⟩ = some (.int .i64 x.num) ∧ W.cell? ⟨xb, xo + j * 6 + 3, none⟩ = some (.string (bs x.lin)) ∧ W.cell? ⟨kb, 0, none⟩ = some (.int .i64 k.tick) ∧ W.cell? ⟨kb, 1, none⟩ = some (.int .i64 k.cls) ∧ W.cell? ⟨kb, 2, none⟩ = some (.int .i64 k.num) ∧ W.cell? ⟨kb, 3, none⟩ = some (.string (bs k.lin)) from ⟨(hW.cell (p := ⟨xb, xo + j * 6, none⟩) hxb).trans y0, (hW.cell (p := ⟨xb, xo + j * 6 + 1, none⟩) hxb).trans y1, (hW.cell (p := ⟨xb, xo + j * 6 + 2, none⟩) hxb).trans y2, (hW.cell (p := ⟨xb, xo + j * 6 + 3, none⟩) hxb).trans y3, (ZK.out W hW).cell 0, (ZK.out W hW).cell 1, (ZK.out W hW).cell 2, (ZK.out W hW).cell 3⟩); have HJL := Lib.hid hjl; clear hx hjl y0 y1 y2 y3 hxb
      by_cases hc : cmpK x k < 0
      · have e1 : decide (cmpK x k < 0) = true := decide_eq_true hc
        have HN2 := Lib.hid (HNX.out hc); clear hc
        go_upto_region 2 with (fail)
        refine wp_region_noPanic ?_
        refine wp_region_held_drew (S := (fun (w' : World) => w'.cell? ⟨xb, xo + j * 6, none⟩ = some (.int .i64 x.tick) ∧ w'.cell? ⟨xb, xo + j * 6 + 1, none⟩ = some (.int .i64 x.cls) ∧ w'.cell? ⟨xb, xo + j * 6 + 2, none⟩ = some (.int .i64 x.num) ∧ w'.cell? ⟨xb, xo + j * 6 + 3, none⟩ = some (.string (bs x.lin)) ∧ w'.cell? ⟨kb, 0, none⟩ = some (.int .i64 k.tick) ∧ w'.cell? ⟨kb, 1, none⟩ = some (.int .i64 k.cls) ∧ w'.cell? ⟨kb, 2, none⟩ = some (.int .i64 k.num) ∧ w'.cell? ⟨kb, 3, none⟩ = some (.string (bs k.lin)))) (by kernel_rfl) ?_ (fun hHeld => ?_)
        · exact HSS.out wr HB.out
        refine tk (v := ?_) 0 rfl (by kernel_rfl) (fun _ _ _ h => h) ?_ hHeld ?_; rotate_left
        · (intro w h; (try dsimp only at h); go_simp; try with_reducible rfl)
        try simp only [Act.put, pB, pC, pD]
        refine tk (v := ?_) 1 rfl (by kernel_rfl) (fun _ _ _ h => h) ?_ hHeld ?_; rotate_left
        · (intro w h; (try dsimp only at h); go_simp; try with_reducible rfl)
        try simp only [Act.put, pB, pC, pD]
        refine tk (v := ?_) 2 rfl (by kernel_rfl) (fun _ _ _ h => h) ?_ hHeld ?_; rotate_left
        · (intro w h; (try dsimp only at h); go_simp; try with_reducible rfl)
        try simp only [Act.put, pB, pC, pD]
        refine tk (v := ?_) 3 rfl (by kernel_rfl) (fun _ _ _ h => h) ?_ hHeld ?_; rotate_left
        · (intro w h; (try dsimp only at h); go_simp; try with_reducible rfl)
        try simp only [Act.put, pB, pC, pD]
        refine tk (v := ?_) 4 rfl (by kernel_rfl) (fun _ _ _ h => h) ?_ hHeld ?_; rotate_left
        · (intro w h; (try dsimp only at h); go_simp; try with_reducible rfl)
        try simp only [Act.put, pB, pC, pD]
        refine tk (v := ?_) 5 rfl (by kernel_rfl) (fun _ _ _ h => h) ?_ hHeld ?_; rotate_left
        · (intro w h; (try dsimp only at h); go_simp; try with_reducible rfl)
        try simp only [Act.put, pB, pC, pD]
        refine tk (v := ?_) 6 rfl (by kernel_rfl) (fun _ _ _ h => h) ?_ hHeld ?_; rotate_left
        · (intro w h; (try dsimp only at h); go_simp; try with_reducible rfl)
        try simp only [Act.put, pB, pC, pD]
        refine tk (v := ?_) 7 rfl (by kernel_rfl) (fun _ _ _ h => h) ?_ hHeld ?_; rotate_left
        · (intro w h; (try dsimp only at h); go_simp; try with_reducible rfl)
        try simp only [Act.put, pB, pC, pD]
        refine tk (v := ?_) 8 rfl (by kernel_rfl) (fun _ _ _ h => h) ?_ hHeld ?_; rotate_left
        · (intro w h; (try dsimp only at h); go_simp; try with_reducible rfl)
        try simp only [Act.put, pB, pC, pD]
        refine tk (v := ?_) 9 rfl (by kernel_rfl) (fun _ _ _ h => h) ?_ hHeld ?_; rotate_left
        · (intro w h; (try dsimp only at h); go_simp; try with_reducible rfl)
        try simp only [Act.put, pB, pC, pD]
        refine tk (v := ?_) 10 rfl (by kernel_rfl) (fun _ _ _ h => h) ?_ hHeld ?_; rotate_left
        · (intro w h; (try dsimp only at h); go_simp; try with_reducible rfl)
        try simp only [Act.put, pB, pC, pD]
        refine wpAnyH_ready (rs := [11]) (by kernel_rfl) (by simp) ?_; refine AllReadyH.cons rfl (fun K hK => ?_) AllReadyH.nil; go_simp; refine (HCY.out _).mono ?_; rintro e w6 ⟨rfl, hb'⟩; have B6 := Lib.hid (HB.out.trans (((Below.refl wr.heap.size wr).drew.trans hb').mono HB.out.size)); have h6 := HSS.out w6 B6.out; clear hb'
        try (go_wp2_with fail)
        refine hK.out _ _ ?_ (fun hNew => ?_)
        · exact h6
        clear hK K hHeld; have hHeld := hNew; clear hNew; try simp only [Act.put, pB, pC, pD]
        refine tk (v := ?_) 12 rfl (by kernel_rfl) (fun _ _ _ h => h) ?_ hHeld ?_; rotate_left
        · (intro w h; (try dsimp only at h); go_simp; try with_reducible rfl)
        try simp only [Act.put, pB, pC, pD]
        refine tk (v := ?_) 13 rfl (by kernel_rfl) (fun _ _ _ h => h) ?_ hHeld ?_; rotate_left
        · (intro w h; (try dsimp only at h); go_simp; try with_reducible rfl)
        try simp only [Act.put, pB, pC, pD]
        refine wpAnyH_done (by kernel_rfl) ?_ _; clear hHeld
        try simp only [List.getElem_toArray, List.getElem_cons_zero, List.getElem_cons_succ, Act.put, pB, pC, pD]
        refine NoPanic.normal ?_
        go_wp2_with fail
        go_roundw
        case rel => exact ⟨j + 1, HJL.out, by go_num, HN2.out, B6.out⟩
        case measure => have := HJL.out; simp [intOf]; omega
      · have e1 : decide (cmpK x k < 0) = false := decide_eq_false hc
        have HE := Lib.hid (HHI.out (by first | exact hc | omega)); clear hc
        go_upto_region 2 with (fail)
        refine wp_region_noPanic ?_
        refine wp_region_held_drew (S := (fun (w' : World) => w'.cell? ⟨xb, xo + j * 6, none⟩ = some (.int .i64 x.tick) ∧ w'.cell? ⟨xb, xo + j * 6 + 1, none⟩ = some (.int .i64 x.cls) ∧ w'.cell? ⟨xb, xo + j * 6 + 2, none⟩ = some (.int .i64 x.num) ∧ w'.cell? ⟨xb, xo + j * 6 + 3, none⟩ = some (.string (bs x.lin)) ∧ w'.cell? ⟨kb, 0, none⟩ = some (.int .i64 k.tick) ∧ w'.cell? ⟨kb, 1, none⟩ = some (.int .i64 k.cls) ∧ w'.cell? ⟨kb, 2, none⟩ = some (.int .i64 k.num) ∧ w'.cell? ⟨kb, 3, none⟩ = some (.string (bs k.lin)))) (by kernel_rfl) ?_ (fun hHeld => ?_)
        · exact HSS.out wr HB.out
        refine tk (v := ?_) 0 rfl (by kernel_rfl) (fun _ _ _ h => h) ?_ hHeld ?_; rotate_left
        · (intro w h; (try dsimp only at h); go_simp; try with_reducible rfl)
        try simp only [Act.put, pB, pC, pD]
        refine tk (v := ?_) 1 rfl (by kernel_rfl) (fun _ _ _ h => h) ?_ hHeld ?_; rotate_left
        · (intro w h; (try dsimp only at h); go_simp; try with_reducible rfl)
        try simp only [Act.put, pB, pC, pD]
        refine tk (v := ?_) 2 rfl (by kernel_rfl) (fun _ _ _ h => h) ?_ hHeld ?_; rotate_left
        · (intro w h; (try dsimp only at h); go_simp; try with_reducible rfl)
        try simp only [Act.put, pB, pC, pD]
        refine tk (v := ?_) 3 rfl (by kernel_rfl) (fun _ _ _ h => h) ?_ hHeld ?_; rotate_left
        · (intro w h; (try dsimp only at h); go_simp; try with_reducible rfl)
        try simp only [Act.put, pB, pC, pD]
        refine tk (v := ?_) 4 rfl (by kernel_rfl) (fun _ _ _ h => h) ?_ hHeld ?_; rotate_left
        · (intro w h; (try dsimp only at h); go_simp; try with_reducible rfl)
        try simp only [Act.put, pB, pC, pD]
        refine tk (v := ?_) 5 rfl (by kernel_rfl) (fun _ _ _ h => h) ?_ hHeld ?_; rotate_left
        · (intro w h; (try dsimp only at h); go_simp; try with_reducible rfl)
        try simp only [Act.put, pB, pC, pD]
        refine tk (v := ?_) 6 rfl (by kernel_rfl) (fun _ _ _ h => h) ?_ hHeld ?_; rotate_left
        · (intro w h; (try dsimp only at h); go_simp; try with_reducible rfl)
        try simp only [Act.put, pB, pC, pD]
        refine tk (v := ?_) 7 rfl (by kernel_rfl) (fun _ _ _ h => h) ?_ hHeld ?_; rotate_left
        · (intro w h; (try dsimp only at h); go_simp; try with_reducible rfl)
        try simp only [Act.put, pB, pC, pD]
        refine tk (v := ?_) 8 rfl (by kernel_rfl) (fun _ _ _ h => h) ?_ hHeld ?_; rotate_left
        · (intro w h; (try dsimp only at h); go_simp; try with_reducible rfl)
        try simp only [Act.put, pB, pC, pD]
        refine tk (v := ?_) 9 rfl (by kernel_rfl) (fun _ _ _ h => h) ?_ hHeld ?_; rotate_left
        · (intro w h; (try dsimp only at h); go_simp; try with_reducible rfl)
        try simp only [Act.put, pB, pC, pD]
        refine tk (v := ?_) 10 rfl (by kernel_rfl) (fun _ _ _ h => h) ?_ hHeld ?_; rotate_left
        · (intro w h; (try dsimp only at h); go_simp; try with_reducible rfl)
        try simp only [Act.put, pB, pC, pD]
        refine wpAnyH_ready (rs := [11]) (by kernel_rfl) (by simp) ?_; refine AllReadyH.cons rfl (fun K hK => ?_) AllReadyH.nil; go_simp; refine (HCY.out _).mono ?_; rintro e w6 ⟨rfl, hb'⟩; have B6 := Lib.hid (HB.out.trans (((Below.refl wr.heap.size wr).drew.trans hb').mono HB.out.size)); have h6 := HSS.out w6 B6.out; clear hb'
        try (go_wp2_with fail)
        refine hK.out _ _ ?_ (fun hNew => ?_)
        · exact h6
        clear hK K hHeld; have hHeld := hNew; clear hNew; try simp only [Act.put, pB, pC, pD]
        refine tk (v := ?_) 12 rfl (by kernel_rfl) (fun _ _ _ h => h) ?_ hHeld ?_; rotate_left
        · (intro w h; (try dsimp only at h); go_simp; try with_reducible rfl)
        try simp only [Act.put, pB, pC, pD]
        refine tk (v := ?_) 13 rfl (by kernel_rfl) (fun _ _ _ h => h) ?_ hHeld ?_; rotate_left
        · (intro w h; (try dsimp only at h); go_simp; try with_reducible rfl)
        try simp only [Act.put, pB, pC, pD]
        refine wpAnyH_done (by kernel_rfl) ?_ _; clear hHeld
        try simp only [List.getElem_toArray, List.getElem_cons_zero, List.getElem_cons_succ, Act.put, pB, pC, pD]
        refine NoPanic.normal ?_
        go_wp2_with fail
        go_ret
        exact ⟨by rw [HE.out]; rfl, HB0.out.trans (B6.out.mono HB0.out.size)⟩
    · have j1 : decide ((j : Int) < (l.length : Int)) = false := decide_eq_false (by omega)
      have HE := Lib.hid (befK_eq HP.out (k := k) (p := j) (by omega) HNO.out (fun i h1 h2 => by omega))
      go_upto_region 2 with (fail)
      refine wp_region_noPanic ?_
      refine wp_region_held_drew (S := (fun (_ : World) => True)) (by kernel_rfl) ?_ (fun hHeld => ?_)
      · exact trivial
      refine tk (v := ?_) 0 rfl (by kernel_rfl) (fun _ _ _ h => h) ?_ hHeld ?_; rotate_left
      · (intro w h; (try dsimp only at h); go_simp; try with_reducible rfl)
      try simp only [Act.put, pB, pC, pD]
      refine tk (v := ?_) 1 rfl (by kernel_rfl) (fun _ _ _ h => h) ?_ hHeld ?_; rotate_left
      · (intro w h; (try dsimp only at h); go_simp; try with_reducible rfl)
      try simp only [Act.put, pB, pC, pD]
      refine tk (v := ?_) 2 rfl (by kernel_rfl) (fun _ _ _ h => h) ?_ hHeld ?_; rotate_left
      · (intro w h; (try dsimp only at h); go_simp; try with_reducible rfl)
      try simp only [Act.put, pB, pC, pD]
      refine tk (v := ?_) 3 rfl (by kernel_rfl) (fun _ _ _ h => h) ?_ hHeld ?_; rotate_left
      · (intro w h; (try dsimp only at h); go_simp; try with_reducible rfl)
      try simp only [Act.put, pB, pC, pD]
      refine tk (v := ?_) 4 rfl (by kernel_rfl) (fun _ _ _ h => h) ?_ hHeld ?_; rotate_left
      · (intro w h; (try dsimp only at h); go_simp; try with_reducible rfl)
      try simp only [Act.put, pB, pC, pD]
      refine wpAnyH_take (i := 5) (v := undef) rfl (by kernel_rfl) (by kernel_rfl) (by kernel_rfl) (fun _ _ _ h => h) (Or.inr ⟨by kernel_rfl, rfl⟩) hHeld ?_
      try simp only [Act.put, pB, pC, pD]
      refine wpAnyH_take (i := 6) (v := undef) rfl (by kernel_rfl) (by kernel_rfl) (by kernel_rfl) (fun _ _ _ h => h) (Or.inr ⟨by kernel_rfl, rfl⟩) hHeld ?_
      try simp only [Act.put, pB, pC, pD]
      refine wpAnyH_take (i := 7) (v := undef) rfl (by kernel_rfl) (by kernel_rfl) (by kernel_rfl) (fun _ _ _ h => h) (Or.inr ⟨by kernel_rfl, rfl⟩) hHeld ?_
      try simp only [Act.put, pB, pC, pD]
      refine wpAnyH_take (i := 8) (v := undef) rfl (by kernel_rfl) (by kernel_rfl) (by kernel_rfl) (fun _ _ _ h => h) (Or.inr ⟨by kernel_rfl, rfl⟩) hHeld ?_
      try simp only [Act.put, pB, pC, pD]
      refine wpAnyH_take (i := 9) (v := undef) rfl (by kernel_rfl) (by kernel_rfl) (by kernel_rfl) (fun _ _ _ h => h) (Or.inr ⟨by kernel_rfl, rfl⟩) hHeld ?_
      try simp only [Act.put, pB, pC, pD]
      refine wpAnyH_take (i := 10) (v := undef) rfl (by kernel_rfl) (by kernel_rfl) (by kernel_rfl) (fun _ _ _ h => h) (Or.inr ⟨by kernel_rfl, rfl⟩) hHeld ?_
      try simp only [Act.put, pB, pC, pD]
      refine wpAnyH_take (i := 11) (v := undef) rfl (by kernel_rfl) (by kernel_rfl) (by kernel_rfl) (fun _ _ _ h => h) (Or.inr ⟨by kernel_rfl, rfl⟩) hHeld ?_
      try simp only [Act.put, pB, pC, pD]
      refine wpAnyH_take (i := 12) (v := undef) rfl (by kernel_rfl) (by kernel_rfl) (by kernel_rfl) (fun _ _ _ h => h) (Or.inr ⟨by kernel_rfl, rfl⟩) hHeld ?_
      try simp only [Act.put, pB, pC, pD]
      refine tk (v := ?_) 13 rfl (by kernel_rfl) (fun _ _ _ h => h) ?_ hHeld ?_; rotate_left
      · (intro w h; (try dsimp only at h); go_simp; try with_reducible rfl)
      try simp only [Act.put, pB, pC, pD]
      refine wpAnyH_done (by kernel_rfl) ?_ _; clear hHeld
      try simp only [List.getElem_toArray, List.getElem_cons_zero, List.getElem_cons_succ, Act.put, pB, pC, pD]
      refine NoPanic.normal ?_
      go_wp2_with fail
      go_ret
      exact ⟨by rw [HE.out]; rfl, HB0.out.trans (HB.out.drew.mono HB0.out.size)⟩
theorem kp7_ {w : World} {g b : Nat} {t : TypeId} {cs : Array Value} (v0 v1 v2 v3 v4 v5 v6 : Value) (h : Blk w b t cs) (hne : b ≠ g) : Blk (((((((w.setCell ⟨g, 0, none⟩ (v0)).setCell ⟨g, 1, none⟩ (v1)).setCell ⟨g, 2, none⟩ (v2)).setCell ⟨g, 3, none⟩ (v3)).setCell ⟨g, 4, none⟩ (v4)).setCell ⟨g, 5, none⟩ (v5)).setCell ⟨g, 6, none⟩ (v6)) b t cs :=
  h.grown (only_setCell (only_setCell (only_setCell (only_setCell (only_setCell (only_setCell (only_setCell (only_of_below (Below.refl w.heap.size w) (some g)) (.inl rfl) _) (.inl rfl) _) (.inl rfl) _) (.inl rfl) _) (.inl rfl) _) (.inl rfl) _) (.inl rfl) _) (fun e => hne (by injection e))
def ch1 (ws : List Ch) (n : Nm) : Nat → Ch
  | 0 => ch0
  | j + 1 => if (ws.getD j ch0).name = n then ws.getD j ch0 else ch1 ws n j
theorem getD_ch {ws : List Ch} {j : Nat} (h : j < ws.length) : ws.getD j ch0 = ws[j] := by
  rw [List.getD_eq_getElem?_getD, List.getElem?_eq_getElem h]; rfl
theorem ch1_yes {ws : List Ch} {n : Nm} {j : Nat} (h : j < ws.length) (hn : ws[j].name = n) : ch1 ws n (j + 1) = ws[j] := by
  unfold ch1; rw [getD_ch h, if_pos hn]
theorem ch1_no {ws : List Ch} {n : Nm} {j : Nat} (h : j < ws.length) (hn : ws[j].name ≠ n) : ch1 ws n (j + 1) = ch1 ws n j := by
  rw [ch1, getD_ch h, if_neg hn]
theorem ch1_spec {ws : List Ch} {n : Nm} : ∀ j, j ≤ ws.length → (∃ (q : Nat) (hq : q < ws.length), q < j ∧ ws[q].name = n ∧ ch1 ws n j = ws[q]) ∨ (ch1 ws n j = ch0 ∧ ∀ q (hq : q < ws.length), q < j → ws[q].name ≠ n)
  | 0, _ => .inr ⟨rfl, fun q _ h => by omega⟩
  | j + 1, h => by
    by_cases hn : (ws[j]'(by omega)).name = n
    · exact .inl ⟨j, by omega, by omega, hn, ch1_yes (by omega) hn⟩
    · rw [ch1_no (by omega) hn]
      rcases ch1_spec (ws := ws) (n := n) j (by omega) with ⟨q, hq, h1, h2, h3⟩ | ⟨h1, h2⟩
      · exact .inl ⟨q, hq, by omega, h2, h3⟩
      · refine .inr ⟨h1, fun q hq hqj => ?_⟩
        rcases Nat.lt_succ_iff_lt_or_eq.1 hqj with h4 | rfl
        · exact h2 q hq h4
        · exact hn
theorem ch1_all {a : Ac} {n : Nm} (ho : ordCh a.writes = true) : ch1 a.writes n a.writes.length = chOf a n := by
  unfold chOf
  rcases ch1_spec (ws := a.writes) (n := n) a.writes.length (Nat.le_refl _) with ⟨q, hq, _, h2, h3⟩ | ⟨h1, h2⟩
  · rw [h3, chOf_at ho hq h2]
  · rw [h1, chOf_no fun q hq => h2 q hq hq]
def lstC (l : List Ac) (n : Nm) (k : Ky) : Ch := if 0 ≤ lwr l n k then chOf (acG l (lwr l n k)) n else ch0
def lstK (l : List Ac) (n : Nm) (k : Ky) : Ky := if 0 ≤ lwr l n k then (acG l (lwr l n k)).key else ky00
def laRel (ws : List Ch) (n : Nm) (w : World) (nb cb ab : Nat) (i : Value) (wr : World) : Prop := ∃ j : Nat, j ≤ ws.length ∧ i = .int .i64 (j : Int) ∧ Blk wr nb 45 #[.int .i64 n.kind, .string (bs n.owner), .int .i64 n.num, .int .i64 n.idx, .string (bs n.text)] ∧ Blk wr cb 92 #[.int .i64 (ch1 ws n j).name.kind, .string (bs (ch1 ws n j).name.owner), .int .i64 (ch1 ws n j).name.num, .int .i64 (ch1 ws n j).name.idx, .string (bs (ch1 ws n j).name.text), .string (bs (ch1 ws n j).value), .bool (ch1 ws n j).absent] ∧ Blk wr ab 35 #[.int .i64 0, .int .i64 0, .int .i64 0, .string ⟨#[]⟩] ∧ Below w.heap.size w wr
set_option maxRecDepth 100000 in
set_option maxHeartbeats 1200000 in
theorem last_is {w : World} {v : Value} {l : List Ac} (n : Nm) {k : Ky} (h : RdAc w v l) (ol : RunOk l) (hk : k.lin ∈ lin5) : Calls Tryz.prog 30 #[v, nmV n, kyV k] w fun e w' => e = .returned (.tuple #[chV (lstC l n k), kyV (lstK l n k), .bool (decide (0 ≤ lwr l n k))]) ∧ Below w.heap.size w w' := by
  obtain ⟨A, c, rfl, hc⟩ := RowRd.form h; have hll := ol.len; have b0 := Below.refl w.heap.size w; have b1 := b0.alloc b0.size (.cells #[.int .i64 n.kind, .string (bs n.owner), .int .i64 n.num, .int .i64 n.idx, .string (bs n.text)] 45); have b2 := b1.alloc b1.size (.cells #[.int .i64 k.tick, .int .i64 k.cls, .int .i64 k.num, .string (bs k.lin)] 35); have b3 := b2.alloc b2.size (.cells #[.int .i64 0, .string ⟨#[]⟩, .int .i64 0, .int .i64 0, .string ⟨#[]⟩, .string ⟨#[]⟩, .bool false] 92); have b4 := b3.alloc b3.size (.cells #[.int .i64 0, .int .i64 0, .int .i64 0, .string ⟨#[]⟩] 35); have z0 := ((((Blk.new w 45 #[.int .i64 n.kind, .string (bs n.owner), .int .i64 n.num, .int .i64 n.idx, .string (bs n.text)]).alloc (.cells #[.int .i64 k.tick, .int .i64 k.cls, .int .i64 k.num, .string (bs k.lin)] 35)).alloc (.cells #[.int .i64 0, .string ⟨#[]⟩, .int .i64 0, .int .i64 0, .string ⟨#[]⟩, .string ⟨#[]⟩, .bool false] 92)).alloc (.cells #[.int .i64 0, .int .i64 0, .int .i64 0, .string ⟨#[]⟩] 35)); have z1 := (((Blk.newE (w.alloc (.cells #[.int .i64 n.kind, .string (bs n.owner), .int .i64 n.num, .int .i64 n.idx, .string (bs n.text)] 45)) 35 #[.int .i64 k.tick, .int .i64 k.cls, .int .i64 k.num, .string (bs k.lin)] (w.heap.size + 1) (by simp)).alloc (.cells #[.int .i64 0, .string ⟨#[]⟩, .int .i64 0, .int .i64 0, .string ⟨#[]⟩, .string ⟨#[]⟩, .bool false] 92)).alloc (.cells #[.int .i64 0, .int .i64 0, .int .i64 0, .string ⟨#[]⟩] 35)); have z2 := ((Blk.newE ((w.alloc (.cells #[.int .i64 n.kind, .string (bs n.owner), .int .i64 n.num, .int .i64 n.idx, .string (bs n.text)] 45)).alloc (.cells #[.int .i64 k.tick, .int .i64 k.cls, .int .i64 k.num, .string (bs k.lin)] 35)) 92 #[.int .i64 0, .string ⟨#[]⟩, .int .i64 0, .int .i64 0, .string ⟨#[]⟩, .string ⟨#[]⟩, .bool false] (w.heap.size + 1 + 1) (by simp)).alloc (.cells #[.int .i64 0, .int .i64 0, .int .i64 0, .string ⟨#[]⟩] 35)); have z3 := (Blk.newE (((w.alloc (.cells #[.int .i64 n.kind, .string (bs n.owner), .int .i64 n.num, .int .i64 n.idx, .string (bs n.text)] 45)).alloc (.cells #[.int .i64 k.tick, .int .i64 k.cls, .int .i64 k.num, .string (bs k.lin)] 35)).alloc (.cells #[.int .i64 0, .string ⟨#[]⟩, .int .i64 0, .int .i64 0, .string ⟨#[]⟩, .string ⟨#[]⟩, .bool false] 92)) 35 #[.int .i64 0, .int .i64 0, .int .i64 0, .string ⟨#[]⟩] (w.heap.size + 1 + 1 + 1) (by simp)); have Z0 := Lib.hid z0; have Z1 := Lib.hid z1; have Z2 := Lib.hid z2; have Z3 := Lib.hid z3; have HH := Lib.hid h; have HB0 := Lib.hid b4; have HBE := Lib.hid (fun (W : World) (hW : Below w.heap.size w W) => before_is (k := k) (h.next hW) ol.pw (Nat.le_trans ol.len (by decide)) hk (fun a ha => (ol.r a ha).1.2.1)); have HWR := Lib.hid (fun (W : World) (hW : Below w.heap.size w W) => rwriter_is n ((befK l k : Nat) : Int) (h.next hW) (Nat.le_trans ol.len (by decide)) (fun a ha => (ol.r a ha).2.2.2.2))
  have hmin : (min ((befK l k : Nat) : Int) (l.length : Int)).toNat = befK l k := by have := befK_le l k; omega
  rw [hmin] at HWR; clear hmin; have HLS := Lib.hid (fun h => lwr_spec ol.pw (n := n) (k := k) h); have HOK := Lib.hid ol; obtain ⟨z, hz⟩ : ∃ z, lwr l n k = z := ⟨_, rfl⟩; have hz2 : wrB l n (befK l k) = z := hz; rw [hz2] at HWR; have HLC := Lib.hid (show lstC l n k = if 0 ≤ z then chOf (acG l z) n else ch0 by unfold lstC; rw [hz]); have HLK := Lib.hid (show lstK l n k = if 0 ≤ z then (acG l z).key else ky00 by unfold lstK; rw [hz]); rw [hz] at HLS ⊢
  unfold kyV at HBE
  unfold nmV nmA at HWR
  unfold kyV nmV nmA
  clear h b0 b1 b2 b3 b4 z0 z1 z2 z3 hz hz2 ol
  go_enter Tryz.func30, Tryz.ntmps30
  go_upto_region 1 with (fail)
  generalize ((((w.alloc (.cells #[.int .i64 n.kind, .string (bs n.owner), .int .i64 n.num, .int .i64 n.idx, .string (bs n.text)] 45)).alloc (.cells #[.int .i64 k.tick, .int .i64 k.cls, .int .i64 k.num, .string (bs k.lin)] 35)).alloc (.cells #[.int .i64 0, .string ⟨#[]⟩, .int .i64 0, .int .i64 0, .string ⟨#[]⟩, .string ⟨#[]⟩, .bool false] 92)).alloc (.cells #[.int .i64 0, .int .i64 0, .int .i64 0, .string ⟨#[]⟩] 35)) = w4 at *; obtain ⟨ab, hab⟩ : ∃ ab, w.heap.size + 1 + 1 + 1 = ab := ⟨_, rfl⟩; obtain ⟨cb, hcb⟩ : ∃ cb, w.heap.size + 1 + 1 = cb := ⟨_, rfl⟩; have HAC := Lib.hid (show ab ≠ cb by omega); have HCA := Lib.hid (show cb ≠ ab by omega); have HCB := Lib.hid (show w.heap.size ≤ cb by omega); have HAB := Lib.hid (show w.heap.size ≤ ab by omega); rw [hab] at Z3 ⊢; rw [hcb] at Z2 ⊢; obtain ⟨kb, hkb⟩ : ∃ kb, w.heap.size + 1 = kb := ⟨_, rfl⟩; rw [hkb] at Z1 ⊢; obtain ⟨nb, hnb⟩ : ∃ nb, w.heap.size = nb := ⟨_, rfl⟩; have HNB := Lib.hid hnb; rw [hnb] at Z0 ⊢; have HNC := Lib.hid (show nb ≠ cb by omega); clear hab hcb hkb hnb; have HSS := Lib.hid (fun (W : World) (hW : Below w4.heap.size w4 W) => show W.cell? ⟨nb, 0, none⟩ = some (.int .i64 n.kind) ∧ W.cell? ⟨nb, 1, none⟩ = some (.string (bs n.owner)) ∧ W.cell? ⟨nb, 2, none⟩ = some (.int .i64 n.num) ∧ W.cell? ⟨nb, 3, none⟩ = some (.int .i64 n.idx) ∧ W.cell? ⟨nb, 4, none⟩ = some (.string (bs n.text)) ∧ W.cell? ⟨kb, 0, none⟩ = some (.int .i64 k.tick) ∧ W.cell? ⟨kb, 1, none⟩ = some (.int .i64 k.cls) ∧ W.cell? ⟨kb, 2, none⟩ = some (.int .i64 k.num) ∧ W.cell? ⟨kb, 3, none⟩ = some (.string (bs k.lin)) from ⟨(Z0.out.next hW Z0.out.lt).cell 0, (Z0.out.next hW Z0.out.lt).cell 1, (Z0.out.next hW Z0.out.lt).cell 2, (Z0.out.next hW Z0.out.lt).cell 3, (Z0.out.next hW Z0.out.lt).cell 4, (Z1.out.next hW Z1.out.lt).cell 0, (Z1.out.next hW Z1.out.lt).cell 1, (Z1.out.next hW Z1.out.lt).cell 2, (Z1.out.next hW Z1.out.lt).cell 3⟩)
  by_cases hz0 : z < 0
  · have e1 : decide (z < 0) = true := decide_eq_true hz0
    have HDC := Lib.hid (show lstC l n k = ch0 by rw [HLC.out, if_neg (by omega)]); have HDK := Lib.hid (show lstK l n k = ky00 by rw [HLK.out, if_neg (by omega)]); have HDB := Lib.hid (show decide (0 ≤ z) = false from decide_eq_false (by omega)); clear hz0
    refine wp_region_noPanic ?_
    refine wp_region_held_drew (S := (fun (w' : World) => w'.cell? ⟨nb, 0, none⟩ = some (.int .i64 n.kind) ∧ w'.cell? ⟨nb, 1, none⟩ = some (.string (bs n.owner)) ∧ w'.cell? ⟨nb, 2, none⟩ = some (.int .i64 n.num) ∧ w'.cell? ⟨nb, 3, none⟩ = some (.int .i64 n.idx) ∧ w'.cell? ⟨nb, 4, none⟩ = some (.string (bs n.text)) ∧ w'.cell? ⟨kb, 0, none⟩ = some (.int .i64 k.tick) ∧ w'.cell? ⟨kb, 1, none⟩ = some (.int .i64 k.cls) ∧ w'.cell? ⟨kb, 2, none⟩ = some (.int .i64 k.num) ∧ w'.cell? ⟨kb, 3, none⟩ = some (.string (bs k.lin)))) (by kernel_rfl) ?_ (fun hHeld => ?_)
    · exact HSS.out w4 (Below.refl _ _)
    refine tk (v := ?_) 0 rfl (by kernel_rfl) (fun _ _ _ h => h) ?_ hHeld ?_; rotate_left
    · (intro w h; (try dsimp only at h); go_simp; try with_reducible rfl)
    try simp only [Act.put, pB, pC, pD]
    refine tk (v := ?_) 1 rfl (by kernel_rfl) (fun _ _ _ h => h) ?_ hHeld ?_; rotate_left
    · (intro w h; (try dsimp only at h); go_simp; try with_reducible rfl)
    try simp only [Act.put, pB, pC, pD]
    refine tk (v := ?_) 2 rfl (by kernel_rfl) (fun _ _ _ h => h) ?_ hHeld ?_; rotate_left
    · (intro w h; (try dsimp only at h); go_simp; try with_reducible rfl)
    try simp only [Act.put, pB, pC, pD]
    refine tk (v := ?_) 3 rfl (by kernel_rfl) (fun _ _ _ h => h) ?_ hHeld ?_; rotate_left
    · (intro w h; (try dsimp only at h); go_simp; try with_reducible rfl)
    try simp only [Act.put, pB, pC, pD]
    refine wpAnyH_ready (rs := [4]) (by kernel_rfl) (by simp) ?_; refine AllReadyH.cons rfl (fun K hK => ?_) AllReadyH.nil; go_simp; refine (HBE.out _ (HB0.out.trans ((Below.refl w4.heap.size w4).drew.mono HB0.out.size))).mono ?_; rintro e w5 ⟨rfl, hb'⟩; have B5 := Lib.hid ((Below.refl w4.heap.size w4).drew.trans hb'); have h5 := HSS.out w5 B5.out; clear hb'
    try (go_wp2_with fail)
    refine hK.out _ _ ?_ (fun hNew => ?_)
    · exact h5
    clear hK K hHeld; have hHeld := hNew; clear hNew; try simp only [Act.put, pB, pC, pD]
    refine wpAnyH_ready (rs := [5]) (by kernel_rfl) (by simp) ?_; refine AllReadyH.cons rfl (fun K hK => ?_) AllReadyH.nil; go_simp; refine (HWR.out _ (HB0.out.trans (B5.out.mono HB0.out.size))).mono ?_; rintro e w6 ⟨rfl, hb'⟩; have B6 := Lib.hid (B5.out.trans (hb'.mono B5.out.size)); have h6 := HSS.out w6 B6.out; clear hb'
    try (go_wp2_with fail)
    refine hK.out _ _ ?_ (fun hNew => ?_)
    · exact h6
    clear hK K hHeld; have hHeld := hNew; clear hNew; try simp only [Act.put, pB, pC, pD]
    refine tk (v := ?_) 6 rfl (by kernel_rfl) (fun _ _ _ h => h) ?_ hHeld ?_; rotate_left
    · (intro w h; (try dsimp only at h); go_simp; try with_reducible rfl)
    try simp only [Act.put, pB, pC, pD]
    refine wpAnyH_done (by kernel_rfl) ?_ _; clear hHeld
    try simp only [List.getElem_toArray, List.getElem_cons_zero, List.getElem_cons_succ, Act.put, pB, pC, pD]
    refine NoPanic.normal ?_
    have B6w := Lib.hid (HB0.out.trans (B6.out.mono HB0.out.size)); replace Z2 := Lib.hid (Z2.out.next B6.out Z2.out.lt); replace Z3 := Lib.hid (Z3.out.next B6.out Z3.out.lt); have hac := HAC.out; have hca := HCA.out; clear h5 h6; have ZC1 := Lib.hid (set7z_ (.int .i64 0) (.string ⟨#[]⟩) (.int .i64 0) (.int .i64 0) (.string ⟨#[]⟩) (.string ⟨#[]⟩) (.bool false) Z2.out); have ZA1 := Lib.hid (kp7_ (g := cb) (.int .i64 0) (.string ⟨#[]⟩) (.int .i64 0) (.int .i64 0) (.string ⟨#[]⟩) (.string ⟨#[]⟩) (.bool false) Z3.out HAC.out); have BC1 := Lib.hid (low7z_ (.int .i64 0) (.string ⟨#[]⟩) (.int .i64 0) (.int .i64 0) (.string ⟨#[]⟩) (.string ⟨#[]⟩) (.bool false) B6w.out HCB.out); have ZC2 := Lib.hid (kp4_ (g := ab) (.int .i64 0) (.int .i64 0) (.int .i64 0) (.string ⟨#[]⟩) ZC1.out HCA.out); have ZA2 := Lib.hid (set4z_ (.int .i64 0) (.int .i64 0) (.int .i64 0) (.string ⟨#[]⟩) ZA1.out); have BE := Lib.hid (low4z_ (.int .i64 0) (.int .i64 0) (.int .i64 0) (.string ⟨#[]⟩) BC1.out HAB.out); have q0 := Z2.out.cell 0; have q1 := Z2.out.cell 1; have q2 := Z2.out.cell 2; have q3 := Z2.out.cell 3; have q4 := Z2.out.cell 4; have q5 := Z2.out.cell 5; have q6 := Z2.out.cell 6; simp only [qB, qC, qD] at q0 q1 q2 q3 q4 q5 q6; have f0 := Z2.out.frozen 0; have f1 := Z2.out.frozen 1; have f2 := Z2.out.frozen 2; have f3 := Z2.out.frozen 3; have f4 := Z2.out.frozen 4; have f5 := Z2.out.frozen 5; have f6 := Z2.out.frozen 6; have r0 := Z3.out.cell 0; have r1 := Z3.out.cell 1; have r2 := Z3.out.cell 2; have r3 := Z3.out.cell 3; simp only [qB, qC, qD] at r0 r1 r2 r3; have e0 := Z3.out.frozen 0; have e1 := Z3.out.frozen 1; have e2 := Z3.out.frozen 2; have e3 := Z3.out.frozen 3
    go_wp2_with fail
    clear q0 q1 q2 q3 q4 q5 q6 f0 f1 f2 f3 f4 f5 f6 r0 r1 r2 r3 e0 e1 e2 e3; have q0 := ZC2.out.cell 0; have q1 := ZC2.out.cell 1; have q2 := ZC2.out.cell 2; have q3 := ZC2.out.cell 3; have q4 := ZC2.out.cell 4; have q5 := ZC2.out.cell 5; have q6 := ZC2.out.cell 6; simp only [qB, qC, qD] at q0 q1 q2 q3 q4 q5 q6; have r0 := ZA2.out.cell 0; have r1 := ZA2.out.cell 1; have r2 := ZA2.out.cell 2; have r3 := ZA2.out.cell 3; simp only [qB, qC, qD] at r0 r1 r2 r3; generalize (((((((((((w6.setCell ⟨cb, 0, none⟩ (.int .i64 0)).setCell ⟨cb, 1, none⟩ (.string ⟨#[]⟩)).setCell ⟨cb, 2, none⟩ (.int .i64 0)).setCell ⟨cb, 3, none⟩ (.int .i64 0)).setCell ⟨cb, 4, none⟩ (.string ⟨#[]⟩)).setCell ⟨cb, 5, none⟩ (.string ⟨#[]⟩)).setCell ⟨cb, 6, none⟩ (.bool false)).setCell ⟨ab, 0, none⟩ (.int .i64 0)).setCell ⟨ab, 1, none⟩ (.int .i64 0)).setCell ⟨ab, 2, none⟩ (.int .i64 0)).setCell ⟨ab, 3, none⟩ (.string ⟨#[]⟩)) = W9 at *
    exact bodyPost_ret (v := .tuple #[.agg #[.int .i64 0, .string ⟨#[]⟩, .int .i64 0, .int .i64 0, .string ⟨#[]⟩, .string ⟨#[]⟩, .bool false], .agg #[.int .i64 0, .int .i64 0, .int .i64 0, .string ⟨#[]⟩], .bool false]) (by simp [results, Tryz.results30, go_sem, q0, q1, q2, q3, q4, q5, q6, r0, r1, r2, r3]) rfl ⟨by rw [HDC.out, HDK.out, HDB.out]; rfl, BE.out⟩
  · have e1 : decide (z < 0) = false := decide_eq_false hz0
    obtain ⟨i, hi, hzi, hac_, -, -⟩ := HLS.out (by omega); subst hzi
    have hdc0 : lstC l n k = chOf l[i] n := by rw [HLC.out, if_pos (by omega), hac_]
    have hdk0 : lstK l n k = l[i].key := by rw [HLK.out, if_pos (by omega), hac_]
    have HDB := Lib.hid (show decide (0 ≤ (i : Int)) = true from decide_eq_true (by omega)); obtain ⟨xb, xo, u1, u2, hbe, hxb, hr1, hr2, y0, y1, y2, y3, -, y5⟩ := RdAc.piece HH.out hi; subst hbe; obtain ⟨B2, d2, hu2, _⟩ := RdP.form hr2; subst hu2; have hwl := ((HOK.out).r l[i] (List.getElem_mem hi)).2.2.2.2; have HOC := Lib.hid (okAc_w ((HOK.out).o l[i] (List.getElem_mem hi))); have HCHA := Lib.hid (ch1_all (n := n) HOC.out); have hdc1 := hdc0.trans HCHA.out.symm; have HYW := Lib.hid (fun (W : World) (hW : Below w.heap.size w W) => show W.cell? ⟨xb, xo + i * 6 + 5, none⟩ = some (.slice B2 l[i].writes.length d2) from (hW.cell (p := ⟨xb, xo + i * 6 + 5, none⟩) hxb).trans y5); have HYK := Lib.hid (fun (W : World) (hW : Below w.heap.size w W) => show W.cell? ⟨xb, xo + i * 6, none⟩ = some (.int .i64 l[i].key.tick) ∧ W.cell? ⟨xb, xo + i * 6 + 1, none⟩ = some (.int .i64 l[i].key.cls) ∧ W.cell? ⟨xb, xo + i * 6 + 2, none⟩ = some (.int .i64 l[i].key.num) ∧ W.cell? ⟨xb, xo + i * 6 + 3, none⟩ = some (.string (bs l[i].key.lin)) from ⟨(hW.cell (p := ⟨xb, xo + i * 6, none⟩) hxb).trans y0, (hW.cell (p := ⟨xb, xo + i * 6 + 1, none⟩) hxb).trans y1, (hW.cell (p := ⟨xb, xo + i * 6 + 2, none⟩) hxb).trans y2, (hW.cell (p := ⟨xb, xo + i * 6 + 3, none⟩) hxb).trans y3⟩); have HW := Lib.hid hr2; obtain ⟨ke, hke⟩ : ∃ ke, l[i].key = ke := ⟨_, rfl⟩; obtain ⟨ws, hws⟩ : ∃ ws, l[i].writes = ws := ⟨_, rfl⟩; rw [hke] at HYK
    have hch : ch1 l[i].writes n l[i].writes.length = ch1 ws n ws.length := by rw [hws]
    rw [hws] at HYW HW hwl; have HDC := Lib.hid (hdc1.trans hch); have HDK := Lib.hid (hdk0.trans hke); clear hdc0 hdc1 hdk0 hch; have HWL := Lib.hid hwl; have HI := Lib.hid hi; clear hz0 hac_ hr1 hr2 y0 y1 y2 y3 y5 hke hws HCHA HOC hxb
    refine wp_region_noPanic ?_
    refine wp_region_held_drew (S := (fun (w' : World) => w'.cell? ⟨nb, 0, none⟩ = some (.int .i64 n.kind) ∧ w'.cell? ⟨nb, 1, none⟩ = some (.string (bs n.owner)) ∧ w'.cell? ⟨nb, 2, none⟩ = some (.int .i64 n.num) ∧ w'.cell? ⟨nb, 3, none⟩ = some (.int .i64 n.idx) ∧ w'.cell? ⟨nb, 4, none⟩ = some (.string (bs n.text)) ∧ w'.cell? ⟨kb, 0, none⟩ = some (.int .i64 k.tick) ∧ w'.cell? ⟨kb, 1, none⟩ = some (.int .i64 k.cls) ∧ w'.cell? ⟨kb, 2, none⟩ = some (.int .i64 k.num) ∧ w'.cell? ⟨kb, 3, none⟩ = some (.string (bs k.lin)))) (by kernel_rfl) ?_ (fun hHeld => ?_)
    · exact HSS.out w4 (Below.refl _ _)
    refine tk (v := ?_) 0 rfl (by kernel_rfl) (fun _ _ _ h => h) ?_ hHeld ?_; rotate_left
    · (intro w h; (try dsimp only at h); go_simp; try with_reducible rfl)
    try simp only [Act.put, pB, pC, pD]
    refine tk (v := ?_) 1 rfl (by kernel_rfl) (fun _ _ _ h => h) ?_ hHeld ?_; rotate_left
    · (intro w h; (try dsimp only at h); go_simp; try with_reducible rfl)
    try simp only [Act.put, pB, pC, pD]
    refine tk (v := ?_) 2 rfl (by kernel_rfl) (fun _ _ _ h => h) ?_ hHeld ?_; rotate_left
    · (intro w h; (try dsimp only at h); go_simp; try with_reducible rfl)
    try simp only [Act.put, pB, pC, pD]
    refine tk (v := ?_) 3 rfl (by kernel_rfl) (fun _ _ _ h => h) ?_ hHeld ?_; rotate_left
    · (intro w h; (try dsimp only at h); go_simp; try with_reducible rfl)
    try simp only [Act.put, pB, pC, pD]
    refine wpAnyH_ready (rs := [4]) (by kernel_rfl) (by simp) ?_; refine AllReadyH.cons rfl (fun K hK => ?_) AllReadyH.nil; go_simp; refine (HBE.out _ (HB0.out.trans ((Below.refl w4.heap.size w4).drew.mono HB0.out.size))).mono ?_; rintro e w5 ⟨rfl, hb'⟩; have B5 := Lib.hid ((Below.refl w4.heap.size w4).drew.trans hb'); have h5 := HSS.out w5 B5.out; clear hb'
    try (go_wp2_with fail)
    refine hK.out _ _ ?_ (fun hNew => ?_)
    · exact h5
    clear hK K hHeld; have hHeld := hNew; clear hNew; try simp only [Act.put, pB, pC, pD]
    refine wpAnyH_ready (rs := [5]) (by kernel_rfl) (by simp) ?_; refine AllReadyH.cons rfl (fun K hK => ?_) AllReadyH.nil; go_simp; refine (HWR.out _ (HB0.out.trans (B5.out.mono HB0.out.size))).mono ?_; rintro e w6 ⟨rfl, hb'⟩; have B6 := Lib.hid (B5.out.trans (hb'.mono B5.out.size)); have h6 := HSS.out w6 B6.out; clear hb'
    try (go_wp2_with fail)
    refine hK.out _ _ ?_ (fun hNew => ?_)
    · exact h6
    clear hK K hHeld; have hHeld := hNew; clear hNew; try simp only [Act.put, pB, pC, pD]
    refine tk (v := ?_) 6 rfl (by kernel_rfl) (fun _ _ _ h => h) ?_ hHeld ?_; rotate_left
    · (intro w h; (try dsimp only at h); go_simp; try with_reducible rfl)
    try simp only [Act.put, pB, pC, pD]
    refine wpAnyH_done (by kernel_rfl) ?_ _; clear hHeld
    try simp only [List.getElem_toArray, List.getElem_cons_zero, List.getElem_cons_succ, Act.put, pB, pC, pD]
    refine NoPanic.normal ?_
    have B6w := Lib.hid (HB0.out.trans (B6.out.mono HB0.out.size)); replace Z2 := Lib.hid (Z2.out.next B6.out Z2.out.lt); replace Z3 := Lib.hid (Z3.out.next B6.out Z3.out.lt); replace Z0 := Lib.hid (Z0.out.next B6.out Z0.out.lt); have H0 : Hid (laRel ws n w nb cb ab (.int .i64 (0 : Nat)) w6) := Lib.hid ⟨0, Nat.zero_le _, rfl, Z0.out, Z2.out, Z3.out, B6w.out⟩; clear h5 h6 Z0 Z1 Z2 Z3 HSS HBE HWR HLS HLC HLK B5 B6 B6w
    have i2 : (0 : Int) ≤ (i : Int) := by omega
    have i3 : (i : Int) < (l.length : Int) := by have := HI.out; omega
    go_wp2_with fail
    go_loopw [10] (fun i wr => laRel ws n w nb cb ab i wr) (fun i _ => ws.length - (intOf i).toNat)
    case atStart => exact H0.out
    case round =>
      clear H0; obtain ⟨j, hj, rfl, hz0, hz2, hz3, hB⟩ := hrel; have Z0 := Lib.hid hz0; have Z2 := Lib.hid hz2; have Z3 := Lib.hid hz3; have HB := Lib.hid hB; clear hz0 hz2 hz3 hB; have y5 := HYW.out wr HB.out
      by_cases hjl : j < ws.length
      · have j1 : decide ((j : Int) < (ws.length : Int)) = true := decide_eq_true (by omega)
        have j2 : (0 : Int) ≤ (j : Int) := by omega
        have j3 : (j : Int) < (ws.length : Int) := by omega
        obtain ⟨yb, yo, hbe2, hyb, v0, v1, v2, v3, v4, v5, v6⟩ := RdCh.piece HW.out hjl; subst hbe2; replace v0 := (HB.out.cell (p := ⟨yb, yo + j * 7, none⟩) hyb).trans v0; replace v1 := (HB.out.cell (p := ⟨yb, yo + j * 7 + 1, none⟩) hyb).trans v1; replace v2 := (HB.out.cell (p := ⟨yb, yo + j * 7 + 2, none⟩) hyb).trans v2; replace v3 := (HB.out.cell (p := ⟨yb, yo + j * 7 + 3, none⟩) hyb).trans v3; replace v4 := (HB.out.cell (p := ⟨yb, yo + j * 7 + 4, none⟩) hyb).trans v4; replace v5 := (HB.out.cell (p := ⟨yb, yo + j * 7 + 5, none⟩) hyb).trans v5; replace v6 := (HB.out.cell (p := ⟨yb, yo + j * 7 + 6, none⟩) hyb).trans v6; have n0 := Z0.out.cell 0; have n1 := Z0.out.cell 1; have n2 := Z0.out.cell 2; have n3 := Z0.out.cell 3; have n4 := Z0.out.cell 4; simp only [qB, qC, qD] at n0 n1 n2 n3 n4; obtain ⟨p, hp⟩ : ∃ p, ws[j] = p := ⟨_, rfl⟩; have HP := Lib.hid hp; rw [hp] at v0 v1 v2 v3 v4 v5 v6; have HJL := Lib.hid hjl; clear hp hyb
        by_cases hpn : p.name = n
        · have he := fun W => eqlNm p.name n true (by simp [hpn]) W
          unfold nmV nmA at he
          have HDE := Lib.hid (show ch1 ws n (j + 1) = p by rw [ch1_yes HJL.out (by rw [HP.out]; exact hpn), HP.out]); clear hpn
          go_wp2_with fail
          go_quiet (fail)
          have ZN := Lib.hid (Z0.out.next (below_drewN (Below.refl _ wr) nq) Z0.out.lt); have ZQ := Lib.hid (Z2.out.next (below_drewN (Below.refl _ wr) nq) Z2.out.lt); have ZA := Lib.hid (Z3.out.next (below_drewN (Below.refl _ wr) nq) Z3.out.lt); have BQ := Lib.hid (HB.out.trans ((below_drewN (Below.refl _ wr) nq).mono HB.out.size)); have y5' : (wr.drewN nq).cell? ⟨xb, xo + i * 6 + 5, none⟩ = some (.slice (some ⟨yb, yo, none⟩) ws.length d2) := y5; have v0' : (wr.drewN nq).cell? ⟨yb, yo + j * 7, none⟩ = some (.int .i64 p.name.kind) := v0; have v1' : (wr.drewN nq).cell? ⟨yb, yo + j * 7 + 1, none⟩ = some (.string (bs p.name.owner)) := v1; have v2' : (wr.drewN nq).cell? ⟨yb, yo + j * 7 + 2, none⟩ = some (.int .i64 p.name.num) := v2; have v3' : (wr.drewN nq).cell? ⟨yb, yo + j * 7 + 3, none⟩ = some (.int .i64 p.name.idx) := v3; have v4' : (wr.drewN nq).cell? ⟨yb, yo + j * 7 + 4, none⟩ = some (.string (bs p.name.text)) := v4; have v5' : (wr.drewN nq).cell? ⟨yb, yo + j * 7 + 5, none⟩ = some (.string (bs p.value)) := v5; have v6' : (wr.drewN nq).cell? ⟨yb, yo + j * 7 + 6, none⟩ = some (.bool p.absent) := v6; clear n0 n1 n2 n3 n4 he y5 v0 v1 v2 v3 v4 v5 v6; generalize wr.drewN nq = w7 at *; have ZE := Lib.hid (set7z_ (.int .i64 p.name.kind) (.string (bs p.name.owner)) (.int .i64 p.name.num) (.int .i64 p.name.idx) (.string (bs p.name.text)) (.string (bs p.value)) (.bool p.absent) ZQ.out); have ZNE := Lib.hid (kp7_ (g := cb) (.int .i64 p.name.kind) (.string (bs p.name.owner)) (.int .i64 p.name.num) (.int .i64 p.name.idx) (.string (bs p.name.text)) (.string (bs p.value)) (.bool p.absent) ZN.out HNC.out); have ZAE := Lib.hid (kp7_ (g := cb) (.int .i64 p.name.kind) (.string (bs p.name.owner)) (.int .i64 p.name.num) (.int .i64 p.name.idx) (.string (bs p.name.text)) (.string (bs p.value)) (.bool p.absent) ZA.out HAC.out); have BE := Lib.hid (low7z_ (.int .i64 p.name.kind) (.string (bs p.name.owner)) (.int .i64 p.name.num) (.int .i64 p.name.idx) (.string (bs p.name.text)) (.string (bs p.value)) (.bool p.absent) BQ.out HCB.out); have q0 := ZQ.out.cell 0; have q1 := ZQ.out.cell 1; have q2 := ZQ.out.cell 2; have q3 := ZQ.out.cell 3; have q4 := ZQ.out.cell 4; have q5 := ZQ.out.cell 5; have q6 := ZQ.out.cell 6; simp only [qB, qC, qD] at q0 q1 q2 q3 q4 q5 q6; have f0 := ZQ.out.frozen 0; have f1 := ZQ.out.frozen 1; have f2 := ZQ.out.frozen 2; have f3 := ZQ.out.frozen 3; have f4 := ZQ.out.frozen 4; have f5 := ZQ.out.frozen 5; have f6 := ZQ.out.frozen 6
          go_wp2_with fail
          clear q0 q1 q2 q3 q4 q5 q6 f0 f1 f2 f3 f4 f5 f6 y5' v0' v1' v2' v3' v4' v5' v6'; generalize (((((((w7.setCell ⟨cb, 0, none⟩ (.int .i64 p.name.kind)).setCell ⟨cb, 1, none⟩ (.string (bs p.name.owner))).setCell ⟨cb, 2, none⟩ (.int .i64 p.name.num)).setCell ⟨cb, 3, none⟩ (.int .i64 p.name.idx)).setCell ⟨cb, 4, none⟩ (.string (bs p.name.text))).setCell ⟨cb, 5, none⟩ (.string (bs p.value))).setCell ⟨cb, 6, none⟩ (.bool p.absent)) = W9 at *
          go_roundw
          case rel => exact ⟨j + 1, HJL.out, by go_num, ZNE.out, by rw [HDE.out]; exact ZE.out, ZAE.out, BE.out⟩
          case measure => have := HJL.out; simp [intOf]; omega
        · have he := fun W => eqlNm p.name n false (by simp [hpn]) W
          unfold nmV nmA at he
          have HDE := Lib.hid (show ch1 ws n (j + 1) = ch1 ws n j by exact ch1_no HJL.out (by rw [HP.out]; exact hpn)); clear hpn
          go_wp2_with fail
          go_quiet (fail)
          have ZN := Lib.hid (Z0.out.next (below_drewN (Below.refl _ wr) nq) Z0.out.lt); have ZQ := Lib.hid (Z2.out.next (below_drewN (Below.refl _ wr) nq) Z2.out.lt); have ZA := Lib.hid (Z3.out.next (below_drewN (Below.refl _ wr) nq) Z3.out.lt); have BQ := Lib.hid (HB.out.trans ((below_drewN (Below.refl _ wr) nq).mono HB.out.size)); clear n0 n1 n2 n3 n4 he y5 v0 v1 v2 v3 v4 v5 v6; generalize wr.drewN nq = w7 at *
          go_wp2_with fail
          go_roundw
          case rel => exact ⟨j + 1, HJL.out, by go_num, ZN.out, by rw [HDE.out]; exact ZQ.out, ZA.out, BQ.out⟩
          case measure => have := HJL.out; simp [intOf]; omega
      · have j1 : decide ((j : Int) < (ws.length : Int)) = false := decide_eq_false (by omega)
        obtain rfl : j = ws.length := by omega
        obtain ⟨cw, hcw⟩ : ∃ cw, ch1 ws n ws.length = cw := ⟨_, rfl⟩; rw [hcw] at HDC Z2; have HS9 := Lib.hid (fun (W : World) (hW : Below w.heap.size w W) (hZ : Blk W cb 92 #[.int .i64 cw.name.kind, .string (bs cw.name.owner), .int .i64 cw.name.num, .int .i64 cw.name.idx, .string (bs cw.name.text), .string (bs cw.value), .bool cw.absent]) => show W.cell? ⟨cb, 0, none⟩ = some (.int .i64 cw.name.kind) ∧ W.cell? ⟨cb, 1, none⟩ = some (.string (bs cw.name.owner)) ∧ W.cell? ⟨cb, 2, none⟩ = some (.int .i64 cw.name.num) ∧ W.cell? ⟨cb, 3, none⟩ = some (.int .i64 cw.name.idx) ∧ W.cell? ⟨cb, 4, none⟩ = some (.string (bs cw.name.text)) ∧ W.cell? ⟨cb, 5, none⟩ = some (.string (bs cw.value)) ∧ W.cell? ⟨cb, 6, none⟩ = some (.bool cw.absent) ∧ W.cell? ⟨xb, xo + i * 6, none⟩ = some (.int .i64 ke.tick) ∧ W.cell? ⟨xb, xo + i * 6 + 1, none⟩ = some (.int .i64 ke.cls) ∧ W.cell? ⟨xb, xo + i * 6 + 2, none⟩ = some (.int .i64 ke.num) ∧ W.cell? ⟨xb, xo + i * 6 + 3, none⟩ = some (.string (bs ke.lin)) from ⟨hZ.cell 0, hZ.cell 1, hZ.cell 2, hZ.cell 3, hZ.cell 4, hZ.cell 5, hZ.cell 6, (HYK.out W hW).1, (HYK.out W hW).2.1, (HYK.out W hW).2.2.1, (HYK.out W hW).2.2.2⟩); clear hcw hjl hj
        go_upto_region 9 with (fail)
        refine wp_region_noPanic ?_
        refine wp_region_held_drew (S := (fun (w' : World) => w'.cell? ⟨cb, 0, none⟩ = some (.int .i64 cw.name.kind) ∧ w'.cell? ⟨cb, 1, none⟩ = some (.string (bs cw.name.owner)) ∧ w'.cell? ⟨cb, 2, none⟩ = some (.int .i64 cw.name.num) ∧ w'.cell? ⟨cb, 3, none⟩ = some (.int .i64 cw.name.idx) ∧ w'.cell? ⟨cb, 4, none⟩ = some (.string (bs cw.name.text)) ∧ w'.cell? ⟨cb, 5, none⟩ = some (.string (bs cw.value)) ∧ w'.cell? ⟨cb, 6, none⟩ = some (.bool cw.absent) ∧ w'.cell? ⟨xb, xo + i * 6, none⟩ = some (.int .i64 ke.tick) ∧ w'.cell? ⟨xb, xo + i * 6 + 1, none⟩ = some (.int .i64 ke.cls) ∧ w'.cell? ⟨xb, xo + i * 6 + 2, none⟩ = some (.int .i64 ke.num) ∧ w'.cell? ⟨xb, xo + i * 6 + 3, none⟩ = some (.string (bs ke.lin)))) (by kernel_rfl) ?_ (fun hHeld => ?_)
        · exact HS9.out wr HB.out Z2.out
        refine tk (v := ?_) 0 rfl (by kernel_rfl) (fun _ _ _ h => h) ?_ hHeld ?_; rotate_left
        · (intro w h; (try dsimp only at h); go_simp; try with_reducible rfl)
        try simp only [Act.put, pB, pC, pD]
        refine tk (v := ?_) 1 rfl (by kernel_rfl) (fun _ _ _ h => h) ?_ hHeld ?_; rotate_left
        · (intro w h; (try dsimp only at h); go_simp; try with_reducible rfl)
        try simp only [Act.put, pB, pC, pD]
        refine tk (v := ?_) 2 rfl (by kernel_rfl) (fun _ _ _ h => h) ?_ hHeld ?_; rotate_left
        · (intro w h; (try dsimp only at h); go_simp; try with_reducible rfl)
        try simp only [Act.put, pB, pC, pD]
        refine tk (v := ?_) 3 rfl (by kernel_rfl) (fun _ _ _ h => h) ?_ hHeld ?_; rotate_left
        · (intro w h; (try dsimp only at h); go_simp; try with_reducible rfl)
        try simp only [Act.put, pB, pC, pD]
        refine tk (v := ?_) 4 rfl (by kernel_rfl) (fun _ _ _ h => h) ?_ hHeld ?_; rotate_left
        · (intro w h; (try dsimp only at h); go_simp; try with_reducible rfl)
        try simp only [Act.put, pB, pC, pD]
        refine tk (v := ?_) 5 rfl (by kernel_rfl) (fun _ _ _ h => h) ?_ hHeld ?_; rotate_left
        · (intro w h; (try dsimp only at h); go_simp; try with_reducible rfl)
        try simp only [Act.put, pB, pC, pD]
        have ZC1 := Lib.hid (set7z_ (.int .i64 cw.name.kind) (.string (bs cw.name.owner)) (.int .i64 cw.name.num) (.int .i64 cw.name.idx) (.string (bs cw.name.text)) (.string (bs cw.value)) (.bool cw.absent) Z2.out); have ZA1 := Lib.hid (kp7_ (g := cb) (.int .i64 cw.name.kind) (.string (bs cw.name.owner)) (.int .i64 cw.name.num) (.int .i64 cw.name.idx) (.string (bs cw.name.text)) (.string (bs cw.value)) (.bool cw.absent) Z3.out HAC.out); have BC1 := Lib.hid (low7z_ (.int .i64 cw.name.kind) (.string (bs cw.name.owner)) (.int .i64 cw.name.num) (.int .i64 cw.name.idx) (.string (bs cw.name.text)) (.string (bs cw.value)) (.bool cw.absent) HB.out HCB.out); have ZC2 := Lib.hid (kp4_ (g := ab) (.int .i64 ke.tick) (.int .i64 ke.cls) (.int .i64 ke.num) (.string (bs ke.lin)) ZC1.out HCA.out); have ZA2 := Lib.hid (set4z_ (.int .i64 ke.tick) (.int .i64 ke.cls) (.int .i64 ke.num) (.string (bs ke.lin)) ZA1.out); have BE := Lib.hid (low4z_ (.int .i64 ke.tick) (.int .i64 ke.cls) (.int .i64 ke.num) (.string (bs ke.lin)) BC1.out HAB.out); have BC1d := Lib.hid BC1.out.drew; have ZC1d := Lib.hid (ZC1.out.next (Below.refl _ _).drew ZC1.out.lt); have ZA1d := Lib.hid (ZA1.out.next (Below.refl _ _).drew ZA1.out.lt); have BEd := Lib.hid BE.out.drew; have ZC2d := Lib.hid (ZC2.out.next (Below.refl _ _).drew ZC2.out.lt); have ZA2d := Lib.hid (ZA2.out.next (Below.refl _ _).drew ZA2.out.lt); have c0 := Z2.out.cell 0; have c1 := Z2.out.cell 1; have c2 := Z2.out.cell 2; have c3 := Z2.out.cell 3; have c4 := Z2.out.cell 4; have c5 := Z2.out.cell 5; have c6 := Z2.out.cell 6; simp only [qB, qC, qD] at c0 c1 c2 c3 c4 c5 c6; have f0 := Z2.out.frozen 0; have f1 := Z2.out.frozen 1; have f2 := Z2.out.frozen 2; have f3 := Z2.out.frozen 3; have f4 := Z2.out.frozen 4; have f5 := Z2.out.frozen 5; have f6 := Z2.out.frozen 6; have r0 := Z3.out.cell 0; have r1 := Z3.out.cell 1; have r2 := Z3.out.cell 2; have r3 := Z3.out.cell 3; simp only [qB, qC, qD] at r0 r1 r2 r3; have e0 := Z3.out.frozen 0; have e1 := Z3.out.frozen 1; have e2 := Z3.out.frozen 2; have e3 := Z3.out.frozen 3; have hac := HAC.out; have hca := HCA.out; refine wpAnyH_ready (rs := [6]) (by kernel_rfl) (by simp) ?_; refine AllReadyH.cons rfl (fun K hK => ?_) AllReadyH.nil; go_simp
        refine hK.out _ _ ?_ (fun hNew => ?_)
        · exact HS9.out _ BC1d.out ZC1d.out
        clear hK K hHeld; have hHeld := hNew; clear hNew; try simp only [Act.put, pB, pC, pD]
        refine wpAnyH_ready (rs := [7]) (by kernel_rfl) (by simp) ?_; refine AllReadyH.cons rfl (fun K hK => ?_) AllReadyH.nil; go_simp
        refine hK.out _ _ ?_ (fun hNew => ?_)
        · exact HS9.out _ BEd.out ZC2d.out
        clear hK K hHeld; have hHeld := hNew; clear hNew; try simp only [Act.put, pB, pC, pD]
        refine tk (v := ?_) 8 rfl (by kernel_rfl) (fun _ _ _ h => h) ?_ hHeld ?_; rotate_left
        · (intro w h; (try dsimp only at h); go_simp; try with_reducible rfl)
        try simp only [Act.put, pB, pC, pD]
        refine wpAnyH_done (by kernel_rfl) ?_ _; clear hHeld
        try simp only [List.getElem_toArray, List.getElem_cons_zero, List.getElem_cons_succ, Act.put, pB, pC, pD]
        refine NoPanic.normal ?_
        clear r0 r1 r2 r3 e0 e1 e2 e3 c0 c1 c2 c3 c4 c5 c6 f0 f1 f2 f3 f4 f5 f6; have q0 := ZC2d.out.cell 0; have q1 := ZC2d.out.cell 1; have q2 := ZC2d.out.cell 2; have q3 := ZC2d.out.cell 3; have q4 := ZC2d.out.cell 4; have q5 := ZC2d.out.cell 5; have q6 := ZC2d.out.cell 6; simp only [qB, qC, qD] at q0 q1 q2 q3 q4 q5 q6; have r0 := ZA2d.out.cell 0; have r1 := ZA2d.out.cell 1; have r2 := ZA2d.out.cell 2; have r3 := ZA2d.out.cell 3; simp only [qB, qC, qD] at r0 r1 r2 r3; generalize ((((((((((((wr.setCell ⟨cb, 0, none⟩ (.int .i64 cw.name.kind)).setCell ⟨cb, 1, none⟩ (.string (bs cw.name.owner))).setCell ⟨cb, 2, none⟩ (.int .i64 cw.name.num)).setCell ⟨cb, 3, none⟩ (.int .i64 cw.name.idx)).setCell ⟨cb, 4, none⟩ (.string (bs cw.name.text))).setCell ⟨cb, 5, none⟩ (.string (bs cw.value))).setCell ⟨cb, 6, none⟩ (.bool cw.absent)).setCell ⟨ab, 0, none⟩ (.int .i64 ke.tick)).setCell ⟨ab, 1, none⟩ (.int .i64 ke.cls)).setCell ⟨ab, 2, none⟩ (.int .i64 ke.num)).setCell ⟨ab, 3, none⟩ (.string (bs ke.lin)))).drew = W9 at *
        go_wp2_with fail
        exact bodyPost_ret (v := .tuple #[.agg #[.int .i64 cw.name.kind, .string (bs cw.name.owner), .int .i64 cw.name.num, .int .i64 cw.name.idx, .string (bs cw.name.text), .string (bs cw.value), .bool cw.absent], .agg #[.int .i64 ke.tick, .int .i64 ke.cls, .int .i64 ke.num, .string (bs ke.lin)], .bool true]) (by simp [results, Tryz.results30, go_sem, q0, q1, q2, q3, q4, q5, q6, r0, r1, r2, r3]) rfl ⟨by rw [HDC.out, HDK.out, HDB.out]; rfl, BEd.out⟩
end Go.Proofs.YtmjkcanjfjfkfaaGreat
