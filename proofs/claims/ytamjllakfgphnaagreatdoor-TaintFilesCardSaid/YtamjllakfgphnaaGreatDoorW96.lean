/- Walks of layer 54: the law of files. -/
import Derived.Test.YtamjllakfgphnaaGreatDoorW95
namespace Go.Proofs.YtamjllakfgphnaaGreatDoor
open Go.RowKit
set_option linter.unusedSimpArgs false
set_option linter.unusedVariables false
attribute [local go_sem ↓] Go.wp_at_zero Go.wp_at_succ
theorem filR_at (t : Bs) (m a : Int) : ∃ (k0 k2 k3 k5 fe : Int) (s1 : Bs), filR (bs t) m a = (.agg #[.int .i64 k0, .string (bs s1), .int .i64 k2, .int .i64 k3, .string ⟨#[]⟩, .int .i64 k5], fe) ∧ (fe = 0 → k0 = 8 ∧ s1 = t ∧ k2 = m ∧ k3 = a / 64 ∧ k5 = a % 64 ∧ 0 ≤ a ∧ a < 4096 ∧ chkB (bs t) m = 0) ∧ (fe ≠ 0 → k0 = 0 ∧ s1 = [] ∧ k2 = 0 ∧ k3 = 0 ∧ k5 = 0) ∧ (chkB (bs t) m ≠ 0 → fe = chkB (bs t) m) ∧ (chkB (bs t) m = 0 → (0 ≤ a ∧ a < 4096) → fe = 0) ∧ (chkB (bs t) m = 0 → ¬ (0 ≤ a ∧ a < 4096) → fe = 2) := by
  unfold filR
  by_cases h0 : chkB (bs t) m = 0
  · rw [if_pos h0]
    by_cases h1 : 0 ≤ a ∧ a < 4096
    · rw [if_pos h1]
      exact ⟨8, m, a / 64, a % 64, 0, t, rfl, fun _ => ⟨rfl, rfl, rfl, rfl, rfl, h1.1, h1.2, h0⟩, fun h => absurd rfl h, fun h => absurd h0 h, fun _ _ => rfl, fun _ h => absurd h1 h⟩
    · rw [if_neg h1]
      exact ⟨0, 0, 0, 0, 2, [], rfl, fun h => by omega, fun _ => ⟨rfl, rfl, rfl, rfl, rfl⟩, fun h => absurd h0 h, fun _ h => absurd h h1, fun _ _ => rfl⟩
  · rw [if_neg h0]
    exact ⟨0, 0, 0, 0, chkB (bs t) m, [], rfl, fun h => absurd h h0, fun _ => ⟨rfl, rfl, rfl, rfl, rfl⟩, fun _ => rfl, fun h => absurd h h0, fun h => absurd h h0⟩
theorem guardPl : Tryz.prog.eqGuardType Tryz.prog.depth 28 = false := by kernel_rfl
theorem zeroPl (w : World) : (binOp .eql 28 (.agg #[.int .i64 0, .string ⟨#[]⟩, .int .i64 0, .int .i64 0, .string ⟨#[]⟩, .int .i64 0]) (.agg #[.int .i64 0, .string ⟨#[]⟩, .int .i64 0, .int .i64 0, .string ⟨#[]⟩, .int .i64 0])).run Tryz.prog w = .ok (.bool true) w := by kernel_rfl
theorem rdp_blk {α : Type} {f : α → List Value} {e : TypeId} {w : World} {b c : Nat} {cs : Array Value} {l : List α} (h : Blk w b e cs) (hx : cs.toList = l.flatMap f) (hc : l.length ≤ c) (hm : c ≤ 1000) : RdP e f w (.slice (some ⟨b, 0, none⟩) l.length c) l :=
  ⟨_, c, rfl, hc, by unfold maxLen; omega, .inr ⟨b, 0, cs, _, rfl, h, fun j u hj => by rw [Nat.zero_add, ← Array.getElem?_toList, hx]; exact hj⟩⟩
theorem rdp_in {w : World} {b : Nat} {x y : Int} (h : Blk w b 3 #[.int .i64 x, .int .i64 y]) : RdIn w (.slice (some ⟨b, 0, none⟩) 2 2) [x, y] := rdp_blk (l := [x, y]) h rfl (Nat.le_refl _) (by decide)
theorem rdp_in1 {w : World} {b : Nat} {x : Int} (h : Blk w b 3 #[.int .i64 x]) : RdIn w (.slice (some ⟨b, 0, none⟩) 1 1) [x] := rdp_blk (l := [x]) h rfl (Nat.le_refl _) (by decide)
theorem rdp_st {w : World} {b : Nat} (h : Blk w b 22 #[.string ⟨#[49]⟩]) : RdSt w (.slice (some ⟨b, 0, none⟩) 1 1) [[49]] := rdp_blk (f := fun s => [Value.string (bs s)]) (l := [[49]]) h rfl (Nat.le_refl _) (by decide)
theorem infoLn : (Tryz.prog.info? 22).map (fun i => (i.zero, i.size, i.bytes)) = some (some (.string ⟨#[]⟩), 1, 16) := by kernel_rfl
/-- The two slices of the law. -/
def SRel (cc : Int) (X Y B0 : Nat) (W wx : World) : Prop := ∃ (v1 v2 v3 u1 u2 u3 : Value) (b1 b2 : List Int) (b3 : List Bs), Blk wx X 36 #[v1, v2, v3] ∧ Blk wx Y 36 #[u1, u2, u3] ∧ RdIn wx v1 [1, 2] ∧ RdIn wx v2 [1] ∧ RdSt wx v3 [[49]] ∧ RdIn wx u1 b1 ∧ RdIn wx u2 b2 ∧ RdSt wx u3 b3 ∧
  b1.length ≤ 10 ∧ b2.length ≤ 10 ∧ b3.length ≤ 10 ∧ (decide ([1, 2] = b1) && decide ([1] = b2) && decide ([[49]] = b3)) = decide (cc = 0) ∧ (decide (b1 = [1, 2]) && decide (b2 = [1]) && decide (b3 = [[49]])) = decide (cc = 0) ∧ Below B0 W wx
set_option maxRecDepth 100000 in
set_option maxHeartbeats 4000000 in
theorem law_tfiles {w : World} (t : Bs) (m a ch : Int) (hix : (Lit.int .u8 ch).wf = true) (hu : UseAt w) : Calls Tryz.prog 3 #[.agg #[.string (bs t), .int .i64 m], .int .i64 a, .int .u8 ch] w fun e w' => e = .returned (.bool true) ∧ Below w.heap.size w w' := by
  obtain ⟨hc0, hc1⟩ : 0 ≤ ch ∧ ch < 256 := by
    simp only [Lit.wf, Bool.and_eq_true, decide_eq_true_eq] at hix
    have e1 : IntKind.min .u8 = 0 := by decide
    have e2 : IntKind.max .u8 = 255 := by decide
    rw [e1, e2] at hix
    exact ⟨hix.1, by omega⟩
  clear hix
  have ha := (Below.refl w.heap.size w).alloc (Nat.le_refl _) (.cells #[.string (bs t), .int .i64 m] 24)
  have zs := Blk.new w 24 #[.string (bs t), .int .i64 m]
  have HA := Lib.hid ha
  have ZS := Lib.hid zs
  have HU := Lib.hid (hu.below ha)
  have x0 := zs.cell 0
  have x1 := zs.cell 1
  simp only [List.getElem?_toArray, List.getElem?_cons_zero, List.getElem?_cons_succ] at x0 x1
  obtain ⟨k0, k2, k3, k5, fe, s1, hf, hf1, hf2, hf3, hf4, hf5⟩ := filR_at t m a
  have HF := Lib.hid hf
  have HF1 := Lib.hid hf1
  have HF2 := Lib.hid hf2
  have HF3 := Lib.hid hf3
  have HF4 := Lib.hid hf4
  have HF5 := Lib.hid hf5
  obtain ⟨ec, hec⟩ : ∃ q, chkB (bs t) m = q := ⟨_, rfl⟩
  have HEC := Lib.hid hec
  rw [hec] at HF1 HF3 HF4 HF5
  clear ha zs hu hf hf1 hf2 hf3 hf4 hf5 hec
  go_enter Tryz.func3, Tryz.ntmps3
  go_wp2_with fail
  go_at_call 8
  refine (file_is (bs t) m a _).mono ?_
  rintro e w2 ⟨rfl, hb2⟩
  rw [HF.out]
  have hz : w.heap.size < (w.alloc (.cells #[.string (bs t), .int .i64 m] 24)).heap.size := by simp
  have hal := (Below.refl w2.heap.size w2).alloc (Nat.le_refl _) (.cells #[.int .i64 k0, .string (bs s1), .int .i64 k2, .int .i64 k3, .string ⟨#[]⟩, .int .i64 k5] 28)
  have zp := Blk.new w2 28 #[.int .i64 k0, .string (bs s1), .int .i64 k2, .int .i64 k3, .string ⟨#[]⟩, .int .i64 k5]
  have HB2 := Lib.hid (hb2.trans (hal.mono hb2.size))
  have ZS2 := Lib.hid ((ZS.out.next hb2 hz).alloc (.cells #[.int .i64 k0, .string (bs s1), .int .i64 k2, .int .i64 k3, .string ⟨#[]⟩, .int .i64 k5] 28))
  have HU2 := Lib.hid ((HU.out.below hb2).below hal)
  have ZP := Lib.hid zp
  replace x0 := ZS2.out.cell 0
  replace x1 := ZS2.out.cell 1
  simp only [List.getElem?_toArray, List.getElem?_cons_zero, List.getElem?_cons_succ] at x0 x1
  have HB3 := Lib.hid (HA.out.trans (HB2.out.mono (Nat.le_of_lt hz)))
  clear hb2 hal zp HB2 HU HA ZS hz
  (try simp only)
  go_wp2_with fail
  generalize w2.alloc (.cells #[.int .i64 k0, .string (bs s1), .int .i64 k2, .int .i64 k3, .string ⟨#[]⟩, .int .i64 k5] 28) = W at *
  obtain ⟨pb, hpb⟩ : ∃ x, w2.heap.size = x := ⟨_, rfl⟩
  rw [hpb] at ZP ⊢
  obtain ⟨sb, hsb⟩ : ∃ x, w.heap.size = x := ⟨_, rfl⟩
  have HSB := Lib.hid hsb
  rw [hsb] at ZS2 HB3 x0 x1 ⊢
  clear hpb hsb
  go_at_call 9
  refine (bcheck_is (bs t) m _).mono ?_
  rintro e w3 ⟨rfl, hb3⟩
  rw [HEC.out]
  have HB4 := Lib.hid (HB3.out.trans (hb3.mono (Nat.le_of_lt ZS2.out.lt)))
  have ZS3 := Lib.hid (ZS2.out.next hb3 ZS2.out.lt)
  have ZP3 := Lib.hid (ZP.out.next hb3 ZP.out.lt)
  have HU3 := Lib.hid (HU2.out.below hb3)
  clear hb3 HB3 ZS2 ZP HU2 x0 x1
  obtain ⟨bq, hbq⟩ : ∃ q, decide (ec = 0 ∧ ¬ (0 ≤ a ∧ a < 4096)) = q := ⟨_, rfl⟩
  have HBQ := Lib.hid hbq
  clear hbq
  go_upto_region 3 with (fail)
  go_cut [29] (fun v wx => v = .bool bq ∧ w3 = wx)
  case first =>
    by_cases h0 : ec = 0
    · have HB0 := Lib.hid (show bq = decide (¬ (0 ≤ a ∧ a < 4096)) by rw [← HBQ.out]; simp [h0])
      subst h0
      by_cases h1 : a < 0
      · have d1 : decide (a < 0) = true := decide_eq_true h1
        have HB1 := Lib.hid (show bq = true by rw [HB0.out]; exact decide_eq_true (by omega))
        go_wp2_with fail
        go_meet
        case rel => exact ⟨by rw [HB1.out], rfl⟩
      · have d1 : decide (a < 0) = false := decide_eq_false h1
        by_cases h2 : 4096 ≤ a
        · have d2 : decide ((4096 : Int) ≤ a) = true := decide_eq_true h2
          have HB1 := Lib.hid (show bq = true by rw [HB0.out]; exact decide_eq_true (by omega))
          go_wp2_with fail
          go_meet
          case rel => exact ⟨by rw [HB1.out], rfl⟩
        · have d2 : decide ((4096 : Int) ≤ a) = false := decide_eq_false h2
          have HB1 := Lib.hid (show bq = false by rw [HB0.out]; exact decide_eq_false (by omega))
          go_wp2_with fail
          go_meet
          case rel => exact ⟨by rw [HB1.out], rfl⟩
    · have HB1 := Lib.hid (show bq = false by rw [← HBQ.out]; simp [h0])
      have d0 : (ec == 0) = false := by rw [beq_eq_false_iff_ne]; exact h0
      clear h0
      go_wp2_with fail
      go_meet
      case rel => exact ⟨by rw [HB1.out], rfl⟩
  case rest =>
    obtain ⟨rfl, hwx⟩ := hcut
    subst hwx
    go_upto_if 29 with (fail)
    go_cut [9] (fun v wx => v = .int .i64 fe ∧ w3 = wx)
    case first =>
      cases bq with
      | true =>
        have HB1 := Lib.hid (of_decide_eq_true HBQ.out)
        have HE := Lib.hid (HF5.out HB1.out.1 HB1.out.2)
        go_wp2_with fail
        go_meet
        case rel => exact ⟨by rw [HE.out], rfl⟩
      | false =>
        have HE := Lib.hid (show ec = fe by
          have h := of_decide_eq_false HBQ.out
          by_cases h0 : ec = 0
          · rw [h0]
            exact (HF4.out h0 (Classical.byContradiction fun h1 => h ⟨h0, h1⟩)).symm
          · exact (HF3.out h0).symm)
        go_wp2_with fail
        go_meet
        case rel => exact ⟨by rw [HE.out], rfl⟩
    case rest =>
      obtain ⟨rfl, hwx⟩ := hcut
      subst hwx
      clear HBQ HF3 HF4 HF5 HEC
      have HU3b := Lib.hid HU3.out
      go_upto_region 7 with (fail)
      have z0 := (((((((Blk.new w3 3 #[.int .i64 1, .int .i64 2]).alloc (.cells #[.int .i64 1] 3)).alloc (.cells #[.string ⟨#[49]⟩] 22)).alloc (.cells #[.slice (some ⟨w3.heap.size, 0, none⟩) 2 2, .slice (some ⟨w3.heap.size + 1, 0, none⟩) 1 1, .slice (some ⟨w3.heap.size + 1 + 1, 0, none⟩) 1 1] 36)).alloc (.cells #[.int .i64 1, .int .i64 2] 3)).alloc (.cells #[.int .i64 1] 3)).alloc (.cells #[.string ⟨#[49]⟩] 22)).alloc (.cells #[.slice (some ⟨w3.heap.size + 1 + 1 + 1 + 1, 0, none⟩) 2 2, .slice (some ⟨w3.heap.size + 1 + 1 + 1 + 1 + 1, 0, none⟩) 1 1, .slice (some ⟨w3.heap.size + 1 + 1 + 1 + 1 + 1 + 1, 0, none⟩) 1 1] 36)
      have z1 := ((((((Blk.new (w3.alloc (.cells #[.int .i64 1, .int .i64 2] 3)) 3 #[.int .i64 1]).alloc (.cells #[.string ⟨#[49]⟩] 22)).alloc (.cells #[.slice (some ⟨w3.heap.size, 0, none⟩) 2 2, .slice (some ⟨w3.heap.size + 1, 0, none⟩) 1 1, .slice (some ⟨w3.heap.size + 1 + 1, 0, none⟩) 1 1] 36)).alloc (.cells #[.int .i64 1, .int .i64 2] 3)).alloc (.cells #[.int .i64 1] 3)).alloc (.cells #[.string ⟨#[49]⟩] 22)).alloc (.cells #[.slice (some ⟨w3.heap.size + 1 + 1 + 1 + 1, 0, none⟩) 2 2, .slice (some ⟨w3.heap.size + 1 + 1 + 1 + 1 + 1, 0, none⟩) 1 1, .slice (some ⟨w3.heap.size + 1 + 1 + 1 + 1 + 1 + 1, 0, none⟩) 1 1] 36)
      have z2 := (((((Blk.new ((w3.alloc (.cells #[.int .i64 1, .int .i64 2] 3)).alloc (.cells #[.int .i64 1] 3)) 22 #[.string ⟨#[49]⟩]).alloc (.cells #[.slice (some ⟨w3.heap.size, 0, none⟩) 2 2, .slice (some ⟨w3.heap.size + 1, 0, none⟩) 1 1, .slice (some ⟨w3.heap.size + 1 + 1, 0, none⟩) 1 1] 36)).alloc (.cells #[.int .i64 1, .int .i64 2] 3)).alloc (.cells #[.int .i64 1] 3)).alloc (.cells #[.string ⟨#[49]⟩] 22)).alloc (.cells #[.slice (some ⟨w3.heap.size + 1 + 1 + 1 + 1, 0, none⟩) 2 2, .slice (some ⟨w3.heap.size + 1 + 1 + 1 + 1 + 1, 0, none⟩) 1 1, .slice (some ⟨w3.heap.size + 1 + 1 + 1 + 1 + 1 + 1, 0, none⟩) 1 1] 36)
      have z3 := ((((Blk.new (((w3.alloc (.cells #[.int .i64 1, .int .i64 2] 3)).alloc (.cells #[.int .i64 1] 3)).alloc (.cells #[.string ⟨#[49]⟩] 22)) 36 #[.slice (some ⟨w3.heap.size, 0, none⟩) 2 2, .slice (some ⟨w3.heap.size + 1, 0, none⟩) 1 1, .slice (some ⟨w3.heap.size + 1 + 1, 0, none⟩) 1 1]).alloc (.cells #[.int .i64 1, .int .i64 2] 3)).alloc (.cells #[.int .i64 1] 3)).alloc (.cells #[.string ⟨#[49]⟩] 22)).alloc (.cells #[.slice (some ⟨w3.heap.size + 1 + 1 + 1 + 1, 0, none⟩) 2 2, .slice (some ⟨w3.heap.size + 1 + 1 + 1 + 1 + 1, 0, none⟩) 1 1, .slice (some ⟨w3.heap.size + 1 + 1 + 1 + 1 + 1 + 1, 0, none⟩) 1 1] 36)
      have z4 := (((Blk.new ((((w3.alloc (.cells #[.int .i64 1, .int .i64 2] 3)).alloc (.cells #[.int .i64 1] 3)).alloc (.cells #[.string ⟨#[49]⟩] 22)).alloc (.cells #[.slice (some ⟨w3.heap.size, 0, none⟩) 2 2, .slice (some ⟨w3.heap.size + 1, 0, none⟩) 1 1, .slice (some ⟨w3.heap.size + 1 + 1, 0, none⟩) 1 1] 36)) 3 #[.int .i64 1, .int .i64 2]).alloc (.cells #[.int .i64 1] 3)).alloc (.cells #[.string ⟨#[49]⟩] 22)).alloc (.cells #[.slice (some ⟨w3.heap.size + 1 + 1 + 1 + 1, 0, none⟩) 2 2, .slice (some ⟨w3.heap.size + 1 + 1 + 1 + 1 + 1, 0, none⟩) 1 1, .slice (some ⟨w3.heap.size + 1 + 1 + 1 + 1 + 1 + 1, 0, none⟩) 1 1] 36)
      have z5 := ((Blk.new (((((w3.alloc (.cells #[.int .i64 1, .int .i64 2] 3)).alloc (.cells #[.int .i64 1] 3)).alloc (.cells #[.string ⟨#[49]⟩] 22)).alloc (.cells #[.slice (some ⟨w3.heap.size, 0, none⟩) 2 2, .slice (some ⟨w3.heap.size + 1, 0, none⟩) 1 1, .slice (some ⟨w3.heap.size + 1 + 1, 0, none⟩) 1 1] 36)).alloc (.cells #[.int .i64 1, .int .i64 2] 3)) 3 #[.int .i64 1]).alloc (.cells #[.string ⟨#[49]⟩] 22)).alloc (.cells #[.slice (some ⟨w3.heap.size + 1 + 1 + 1 + 1, 0, none⟩) 2 2, .slice (some ⟨w3.heap.size + 1 + 1 + 1 + 1 + 1, 0, none⟩) 1 1, .slice (some ⟨w3.heap.size + 1 + 1 + 1 + 1 + 1 + 1, 0, none⟩) 1 1] 36)
      have z6 := (Blk.new ((((((w3.alloc (.cells #[.int .i64 1, .int .i64 2] 3)).alloc (.cells #[.int .i64 1] 3)).alloc (.cells #[.string ⟨#[49]⟩] 22)).alloc (.cells #[.slice (some ⟨w3.heap.size, 0, none⟩) 2 2, .slice (some ⟨w3.heap.size + 1, 0, none⟩) 1 1, .slice (some ⟨w3.heap.size + 1 + 1, 0, none⟩) 1 1] 36)).alloc (.cells #[.int .i64 1, .int .i64 2] 3)).alloc (.cells #[.int .i64 1] 3)) 22 #[.string ⟨#[49]⟩]).alloc (.cells #[.slice (some ⟨w3.heap.size + 1 + 1 + 1 + 1, 0, none⟩) 2 2, .slice (some ⟨w3.heap.size + 1 + 1 + 1 + 1 + 1, 0, none⟩) 1 1, .slice (some ⟨w3.heap.size + 1 + 1 + 1 + 1 + 1 + 1, 0, none⟩) 1 1] 36)
      have z7 := Blk.new (((((((w3.alloc (.cells #[.int .i64 1, .int .i64 2] 3)).alloc (.cells #[.int .i64 1] 3)).alloc (.cells #[.string ⟨#[49]⟩] 22)).alloc (.cells #[.slice (some ⟨w3.heap.size, 0, none⟩) 2 2, .slice (some ⟨w3.heap.size + 1, 0, none⟩) 1 1, .slice (some ⟨w3.heap.size + 1 + 1, 0, none⟩) 1 1] 36)).alloc (.cells #[.int .i64 1, .int .i64 2] 3)).alloc (.cells #[.int .i64 1] 3)).alloc (.cells #[.string ⟨#[49]⟩] 22)) 36 #[.slice (some ⟨w3.heap.size + 1 + 1 + 1 + 1, 0, none⟩) 2 2, .slice (some ⟨w3.heap.size + 1 + 1 + 1 + 1 + 1, 0, none⟩) 1 1, .slice (some ⟨w3.heap.size + 1 + 1 + 1 + 1 + 1 + 1, 0, none⟩) 1 1]
      simp only [World.size_alloc] at z0 z1 z2 z3 z4 z5 z6 z7
      have hal := ((((((((Below.refl w3.heap.size w3).alloc (by simp; try omega) (.cells #[.int .i64 1, .int .i64 2] 3)).alloc (by simp; try omega) (.cells #[.int .i64 1] 3)).alloc (by simp; try omega) (.cells #[.string ⟨#[49]⟩] 22)).alloc (by simp; try omega) (.cells #[.slice (some ⟨w3.heap.size, 0, none⟩) 2 2, .slice (some ⟨w3.heap.size + 1, 0, none⟩) 1 1, .slice (some ⟨w3.heap.size + 1 + 1, 0, none⟩) 1 1] 36)).alloc (by simp; try omega) (.cells #[.int .i64 1, .int .i64 2] 3)).alloc (by simp; try omega) (.cells #[.int .i64 1] 3)).alloc (by simp; try omega) (.cells #[.string ⟨#[49]⟩] 22)).alloc (by simp; try omega) (.cells #[.slice (some ⟨w3.heap.size + 1 + 1 + 1 + 1, 0, none⟩) 2 2, .slice (some ⟨w3.heap.size + 1 + 1 + 1 + 1 + 1, 0, none⟩) 1 1, .slice (some ⟨w3.heap.size + 1 + 1 + 1 + 1 + 1 + 1, 0, none⟩) 1 1] 36)
      have hsz : ((((((((w3.alloc (.cells #[.int .i64 1, .int .i64 2] 3)).alloc (.cells #[.int .i64 1] 3)).alloc (.cells #[.string ⟨#[49]⟩] 22)).alloc (.cells #[.slice (some ⟨w3.heap.size, 0, none⟩) 2 2, .slice (some ⟨w3.heap.size + 1, 0, none⟩) 1 1, .slice (some ⟨w3.heap.size + 1 + 1, 0, none⟩) 1 1] 36)).alloc (.cells #[.int .i64 1, .int .i64 2] 3)).alloc (.cells #[.int .i64 1] 3)).alloc (.cells #[.string ⟨#[49]⟩] 22)).alloc (.cells #[.slice (some ⟨w3.heap.size + 1 + 1 + 1 + 1, 0, none⟩) 2 2, .slice (some ⟨w3.heap.size + 1 + 1 + 1 + 1 + 1, 0, none⟩) 1 1, .slice (some ⟨w3.heap.size + 1 + 1 + 1 + 1 + 1 + 1, 0, none⟩) 1 1] 36)).heap.size = w3.heap.size + 8 := by simp
      have HU7 := Lib.hid (HU3b.out.below hal)
      have ZS7 := Lib.hid (ZS3.out.next hal ZS3.out.lt)
      have ZP7 := Lib.hid (ZP3.out.next hal ZP3.out.lt)
      have hs3 := ZS3.out.lt
      have HB7 := Lib.hid (HB4.out.trans (hal.mono (Nat.le_of_lt hs3)))
      clear hal HU3 HU3b HB4
      generalize (((((((w3.alloc (.cells #[.int .i64 1, .int .i64 2] 3)).alloc (.cells #[.int .i64 1] 3)).alloc (.cells #[.string ⟨#[49]⟩] 22)).alloc (.cells #[.slice (some ⟨w3.heap.size, 0, none⟩) 2 2, .slice (some ⟨w3.heap.size + 1, 0, none⟩) 1 1, .slice (some ⟨w3.heap.size + 1 + 1, 0, none⟩) 1 1] 36)).alloc (.cells #[.int .i64 1, .int .i64 2] 3)).alloc (.cells #[.int .i64 1] 3)).alloc (.cells #[.string ⟨#[49]⟩] 22)).alloc (.cells #[.slice (some ⟨w3.heap.size + 1 + 1 + 1 + 1, 0, none⟩) 2 2, .slice (some ⟨w3.heap.size + 1 + 1 + 1 + 1 + 1, 0, none⟩) 1 1, .slice (some ⟨w3.heap.size + 1 + 1 + 1 + 1 + 1 + 1, 0, none⟩) 1 1] 36) = W at *
      have hp3 := ZP3.out.lt
      clear ZS3 ZP3
      obtain ⟨b0, hb0⟩ : ∃ x, w3.heap.size = x := ⟨_, rfl⟩
      rw [hb0] at z0 z1 z2 z3 z4 z5 z6 z7 hsz hs3 hp3 ⊢
      obtain ⟨b1, hb1⟩ : ∃ x, b0 + 1 = x := ⟨_, rfl⟩
      rw [hb1] at z1 z2 z3 z4 z5 z6 z7 ⊢
      obtain ⟨b2, hb2⟩ : ∃ x, b1 + 1 = x := ⟨_, rfl⟩
      rw [hb2] at z2 z3 z4 z5 z6 z7 ⊢
      obtain ⟨b3, hb3⟩ : ∃ x, b2 + 1 = x := ⟨_, rfl⟩
      rw [hb3] at z3 z4 z5 z6 z7 ⊢
      obtain ⟨b4, hb4⟩ : ∃ x, b3 + 1 = x := ⟨_, rfl⟩
      rw [hb4] at z4 z5 z6 z7 ⊢
      obtain ⟨b5, hb5⟩ : ∃ x, b4 + 1 = x := ⟨_, rfl⟩
      rw [hb5] at z5 z6 z7 ⊢
      obtain ⟨b6, hb6⟩ : ∃ x, b5 + 1 = x := ⟨_, rfl⟩
      rw [hb6] at z6 z7 ⊢
      obtain ⟨b7, hb7⟩ : ∃ x, b6 + 1 = x := ⟨_, rfl⟩
      rw [hb7] at z7 ⊢
      have Z0 := Lib.hid z0
      have Z1 := Lib.hid z1
      have Z2 := Lib.hid z2
      have Z3 := Lib.hid z3
      have Z4 := Lib.hid z4
      have Z5 := Lib.hid z5
      have Z6 := Lib.hid z6
      have Z7 := Lib.hid z7
      clear z0 z1 z2 z3 z4 z5 z6 z7
      have hle0 : b0 ≤ W.heap.size := by omega
      have HSZ := Lib.hid hsz
      clear hsz
      have hcm : Int.tmod ch 4 = ch % 4 := Int.tmod_eq_emod_of_nonneg hc0
      obtain ⟨cc, hcc⟩ : ∃ q, ch % 4 = q := ⟨_, rfl⟩
      rw [hcc] at hcm
      have HCC := Lib.hid (show cc = 0 ∨ cc = 1 ∨ cc = 2 ∨ cc = 3 by omega)
      clear hcc
      go_upto_block 0 with (fail)
      go_cut [40] (fun _ wx => SRel cc b3 b7 b0 W wx)
      case first =>
        have y0 := Z7.out.cell 0
        have y1 := Z7.out.cell 1
        have y2 := Z7.out.cell 2
        have f1 := Z7.out.frozen 1
        have f2 := Z7.out.frozen 2
        have g1 := Z4.out.cell 1
        have g1f := Z4.out.frozen 1
        simp only [List.getElem?_toArray, List.getElem?_cons_zero, List.getElem?_cons_succ] at y0 y1 y2 g1
        have X1 := Lib.hid (rdp_in Z0.out)
        have X2 := Lib.hid (rdp_in1 Z1.out)
        have X3 := Lib.hid (rdp_st Z2.out)
        rcases HCC.out with rfl | rfl | rfl | rfl
        · go_wp2_with fail
          go_meet
          case rel => exact ⟨_, _, _, _, _, _, [1, 2], [1], [[49]], Z3.out, Z7.out, X1.out, X2.out, X3.out, rdp_in Z4.out, rdp_in1 Z5.out, rdp_st Z6.out, by decide, by decide, by decide, by decide, by decide, Below.refl _ _⟩
        · go_wp2_with fail
          go_meet
          case rel => exact ⟨_, _, _, _, _, _, [1, 3], [1], [[49]], (Z3.out.far (p := ⟨b4, 1, none⟩) (show b3 ≠ b4 by omega) _), (Z7.out.far (p := ⟨b4, 1, none⟩) (show b7 ≠ b4 by omega) _), rdp_in (Z0.out.far (p := ⟨b4, 1, none⟩) (show b0 ≠ b4 by omega) _), rdp_in1 (Z1.out.far (p := ⟨b4, 1, none⟩) (show b1 ≠ b4 by omega) _), rdp_st (Z2.out.far (p := ⟨b4, 1, none⟩) (show b2 ≠ b4 by omega) _), rdp_in (Z4.out.set_ 1 (.int .i64 3)), rdp_in1 (Z5.out.far (p := ⟨b4, 1, none⟩) (show b5 ≠ b4 by omega) _), rdp_st (Z6.out.far (p := ⟨b4, 1, none⟩) (show b6 ≠ b4 by omega) _), by decide, by decide, by decide, by decide, by decide, (Below.refl _ _).setCell (p := ⟨b4, 1, none⟩) (show b0 ≤ b4 by omega) _⟩
        · go_wp2_with fail
          go_meet
          case rel => exact ⟨_, _, _, _, _, _, [1, 2], [], [[49]], (Z3.out.far (p := ⟨b7, 1, none⟩) (show b3 ≠ b7 by omega) _), Z7.out.set_ 1 (.slice none 0 0), rdp_in (Z0.out.far (p := ⟨b7, 1, none⟩) (show b0 ≠ b7 by omega) _), rdp_in1 (Z1.out.far (p := ⟨b7, 1, none⟩) (show b1 ≠ b7 by omega) _), rdp_st (Z2.out.far (p := ⟨b7, 1, none⟩) (show b2 ≠ b7 by omega) _), rdp_in (Z4.out.far (p := ⟨b7, 1, none⟩) (show b4 ≠ b7 by omega) _), RdP.nil, rdp_st (Z6.out.far (p := ⟨b7, 1, none⟩) (show b6 ≠ b7 by omega) _), by decide, by decide, by decide, by decide, by decide, (Below.refl _ _).setCell (p := ⟨b7, 1, none⟩) (show b0 ≤ b7 by omega) _⟩
        · have HOWN : Hid (W.ownsRow b0 22 1 (.slice (some ⟨b6, 0, none⟩) 1 1) 1 [.string (bs [49])]) := Lib.hid ⟨rfl, .inr ⟨b6, 1, _, rfl, by omega, Z6.out, Nat.le_refl _, by unfold maxLen; omega, rfl, rfl⟩⟩
          have HAL := Lib.hid ((Below.refl W.heap.size W).alloc (Nat.le_refl _) (.cells #[.string ⟨#[50]⟩] 22))
          have HOW2 := Lib.hid (own_next HOWN.out HAL.out)
          obtain ⟨i0, hi, hz0, hz1, hz2⟩ := info_parts infoLn
          go_wp2_with (at_builtin; refine wpList_append_w _ rfl _ _ _ rfl b0 22 i0 _ 1 16 Tryz.underlying34 hi hz0 hz1 hz2 rfl (by omega) (.slice (some ⟨b6, 0, none⟩) 1 1) 1 [.string (bs [49])] rfl HOW2.out (.slice (some ⟨W.heap.size, 0, none⟩) 1 1) 1 [.string ⟨#[50]⟩] rfl (Rd.of_own (own_new W 0 22 1 [.string ⟨#[50]⟩] rfl (Nat.zero_le _))) (by omega) rfl (by simp [Value.oneCell']) (by unfold maxLen; omega) (by omega) (by simp; omega) ?_; intro v7 w10 hown7 hg7 hat7; obtain ⟨A7, c7, rfl, hc7⟩ := own_len hown7; have HZ10 := Lib.hid ((Z7.out.alloc (.cells #[.string ⟨#[50]⟩] 22)).grown hg7 (fun e => own_blk_ne HOW2.out (Z7.out.alloc _) (by decide) e.symm)); have y2 := HZ10.out.cell 2; have f2 := HZ10.out.frozen 2; (simp only [List.getElem?_toArray, List.getElem?_cons_zero, List.getElem?_cons_succ] at y2); have HO7 := Lib.hid hown7; have HG7 := Lib.hid hg7; clear hown7 hg7 hat7)
          go_meet
          case rel => exact ⟨_, _, _, _, _, _, [1, 2], [1], [[49], [50]], (((Z3.out.alloc _).grown HG7.out (show (some b3 : Option Nat) ≠ some b6 from fun e => by injection e with e; omega)).far (p := ⟨b7, 2, none⟩) (show b3 ≠ b7 by omega) _), HZ10.out.set_ 2 _, rdp_in (((Z0.out.alloc _).grown HG7.out (show (some b0 : Option Nat) ≠ some b6 from fun e => by injection e with e; omega)).far (p := ⟨b7, 2, none⟩) (show b0 ≠ b7 by omega) _), rdp_in1 (((Z1.out.alloc _).grown HG7.out (show (some b1 : Option Nat) ≠ some b6 from fun e => by injection e with e; omega)).far (p := ⟨b7, 2, none⟩) (show b1 ≠ b7 by omega) _), rdp_st (((Z2.out.alloc _).grown HG7.out (show (some b2 : Option Nat) ≠ some b6 from fun e => by injection e with e; omega)).far (p := ⟨b7, 2, none⟩) (show b2 ≠ b7 by omega) _), rdp_in (((Z4.out.alloc _).grown HG7.out (show (some b4 : Option Nat) ≠ some b6 from fun e => by injection e with e; omega)).far (p := ⟨b7, 2, none⟩) (show b4 ≠ b7 by omega) _), rdp_in1 (((Z5.out.alloc _).grown HG7.out (show (some b5 : Option Nat) ≠ some b6 from fun e => by injection e with e; omega)).far (p := ⟨b7, 2, none⟩) (show b5 ≠ b7 by omega) _), Rd.of_own (show World.ownsRow _ b0 22 1 _ 2 [.string (bs [49]), .string (bs [50])] from own_keep HO7.out (Kept.of_blk [36] HZ10.out (only_setCell (only_of_below (Below.refl _ _) _) (.inl rfl) _) rfl) rfl), by decide, by decide, by decide, by decide, by decide, (below_own (HAL.out.mono hle0) HOW2.out HG7.out (Nat.le_refl _) (by simp; omega)).setCell (p := ⟨b7, 2, none⟩) (show b0 ≤ b7 by omega) _⟩
      case rest =>
        obtain ⟨Wc, hWc⟩ : ∃ x : World, x = wc := ⟨_, rfl⟩
        subst hWc
        obtain ⟨v1, v2, v3, u1, u2, u3, l1, l2, l3, hx, hy, h1, h2, h3, h4, h5, h6, n1, n2, n3, e1, e2, hb⟩ := hcut
        have HBC := Lib.hid hb
        have ZSc := Lib.hid (ZS7.out.next hb hs3)
        have ZPc := Lib.hid (ZP7.out.next hb hp3)
        have HUc := Lib.hid (HU7.out.next hb (by omega))
        obtain ⟨A1, c1, rfl, _⟩ := RdP.form h1
        obtain ⟨A2, c2, rfl, _⟩ := RdP.form h2
        obtain ⟨A3, c3, rfl, _⟩ := RdP.form h3
        obtain ⟨B1, d1, rfl, _⟩ := RdP.form h4
        obtain ⟨B2, d2, rfl, _⟩ := RdP.form h5
        obtain ⟨B3, d3, rfl, _⟩ := RdP.form h6
        have H1 := Lib.hid h1
        have H2 := Lib.hid h2
        have H3 := Lib.hid h3
        have H4 := Lib.hid h4
        have H5 := Lib.hid h5
        have H6 := Lib.hid h6
        have hbx := hx.lt
        have hby := hy.lt
        have x0 := hx.cell 0
        have x1 := hx.cell 1
        have x2 := hx.cell 2
        have y0 := hy.cell 0
        have y1 := hy.cell 1
        have y2 := hy.cell 2
        simp only [List.getElem?_toArray, List.getElem?_cons_zero, List.getElem?_cons_succ] at x0 x1 x2 y0 y1 y2
        have HBT := Lib.hid (HB7.out.trans (hb.mono (Nat.le_of_lt hs3)))
        have hsw : sb ≤ Wc.heap.size := Nat.le_of_lt ZSc.out.lt
        obtain ⟨q, hq⟩ : ∃ q, decide (cc = 0) = q := ⟨_, rfl⟩
        have hq2 : (cc == 0) = q := by rw [← hq]; by_cases h : cc = 0 <;> simp [h]
        rw [hq] at e1 e2
        have E1 := Lib.hid e1
        have E2 := Lib.hid e2
        have d0 : (fe != fe) = false := by simp
        clear hq e1 e2 h1 h2 h3 h4 h5 h6 hx hy hb HBC HSZ Z0 Z1 Z2 Z3 Z4 Z5 Z6 Z7 ZS7 ZP7 HU7 HB7
        clear hb1 hb2 hb3 hb4 hb5 hb6 hb7
        go_upto_region 14 with (fail)
        go_cut [79] (fun v wx => v = .bool false ∧ Below Wc.heap.size Wc wx)
        case first =>
          cases q with
          | true =>
            refine wp_region_noPanic ?_
            refine wp_region_held_drew (S := (fun (w' : World) => w'.cell? ⟨b3, 0, none⟩ = some (.slice A1 [(1 : Int), 2].length c1) ∧ w'.cell? ⟨b3, 1, none⟩ = some (.slice A2 [(1 : Int)].length c2) ∧ w'.cell? ⟨b3, 2, none⟩ = some (.slice A3 [([49] : Bs)].length c3) ∧ w'.cell? ⟨b7, 0, none⟩ = some (.slice B1 l1.length d1) ∧ w'.cell? ⟨b7, 1, none⟩ = some (.slice B2 l2.length d2) ∧ w'.cell? ⟨b7, 2, none⟩ = some (.slice B3 l3.length d3))) (by kernel_rfl) ?_ (fun hHeld => ?_)
            · exact ⟨x0, x1, x2, y0, y1, y2⟩
            refine wpAnyH_ready (rs := [0]) (by kernel_rfl) (by simp) ?_
            refine AllReadyH.cons rfl (fun K hK => ?_) AllReadyH.nil
            go_simp
            refine (known54_is (HUc.out.below (Below.refl Wc.heap.size Wc).drew)).mono ?_; rintro e wa ⟨rfl, hba'⟩; have hba := (Below.refl Wc.heap.size Wc).drew.trans hba'; have HBa := Lib.hid hba; clear hba'
            try (go_wp2_with fail)
            refine hK.out _ _ ?_ (fun hNew => ?_)
            · exact ⟨(hba.cell (p := ⟨b3, 0, none⟩) hbx).trans x0, (hba.cell (p := ⟨b3, 1, none⟩) hbx).trans x1, (hba.cell (p := ⟨b3, 2, none⟩) hbx).trans x2, (hba.cell (p := ⟨b7, 0, none⟩) hby).trans y0, (hba.cell (p := ⟨b7, 1, none⟩) hby).trans y1, (hba.cell (p := ⟨b7, 2, none⟩) hby).trans y2⟩
            clear hK K hHeld
            have hHeld := hNew
            clear hNew
            try simp only [Act.put, List.setIfInBounds_toArray, List.set_cons_zero, List.set_cons_succ]
            refine wpAnyH_take (i := 1) (v := ?_) rfl (by kernel_rfl) (by kernel_rfl) (by kernel_rfl) (fun _ _ _ h => h) (Or.inl ⟨by kernel_rfl, ?_⟩) hHeld ?_
            rotate_left
            · (intro w hSw; (try dsimp only at hSw); go_simp; try with_reducible rfl)
            try simp only [Act.put, List.setIfInBounds_toArray, List.set_cons_zero, List.set_cons_succ]
            refine wpAnyH_take (i := 2) (v := ?_) rfl (by kernel_rfl) (by kernel_rfl) (by kernel_rfl) (fun _ _ _ h => h) (Or.inl ⟨by kernel_rfl, ?_⟩) hHeld ?_
            rotate_left
            · (intro w hSw; (try dsimp only at hSw); go_simp; try with_reducible rfl)
            try simp only [Act.put, List.setIfInBounds_toArray, List.set_cons_zero, List.set_cons_succ]
            refine wpAnyH_take (i := 3) (v := ?_) rfl (by kernel_rfl) (by kernel_rfl) (by kernel_rfl) (fun _ _ _ h => h) (Or.inl ⟨by kernel_rfl, ?_⟩) hHeld ?_
            rotate_left
            · (intro w hSw; (try dsimp only at hSw); go_simp; try with_reducible rfl)
            try simp only [Act.put, List.setIfInBounds_toArray, List.set_cons_zero, List.set_cons_succ]
            refine wpAnyH_take (i := 4) (v := ?_) rfl (by kernel_rfl) (by kernel_rfl) (by kernel_rfl) (fun _ _ _ h => h) (Or.inl ⟨by kernel_rfl, ?_⟩) hHeld ?_
            rotate_left
            · (intro w hSw; (try dsimp only at hSw); go_simp; try with_reducible rfl)
            try simp only [Act.put, List.setIfInBounds_toArray, List.set_cons_zero, List.set_cons_succ]
            refine wpAnyH_take (i := 5) (v := ?_) rfl (by kernel_rfl) (by kernel_rfl) (by kernel_rfl) (fun _ _ _ h => h) (Or.inl ⟨by kernel_rfl, ?_⟩) hHeld ?_
            rotate_left
            · (intro w hSw; (try dsimp only at hSw); go_simp; try with_reducible rfl)
            try simp only [Act.put, List.setIfInBounds_toArray, List.set_cons_zero, List.set_cons_succ]
            refine wpAnyH_take (i := 6) (v := ?_) rfl (by kernel_rfl) (by kernel_rfl) (by kernel_rfl) (fun _ _ _ h => h) (Or.inl ⟨by kernel_rfl, ?_⟩) hHeld ?_
            rotate_left
            · (intro w hSw; (try dsimp only at hSw); go_simp; try with_reducible rfl)
            try simp only [Act.put, List.setIfInBounds_toArray, List.set_cons_zero, List.set_cons_succ]
            refine wpAnyH_take (i := 7) (v := ?_) rfl (by kernel_rfl) (by kernel_rfl) (by kernel_rfl) (fun _ _ _ h => h) (Or.inl ⟨by kernel_rfl, ?_⟩) hHeld ?_
            rotate_left
            · (intro w hSw; (try dsimp only at hSw); go_simp; try with_reducible rfl)
            try simp only [Act.put, List.setIfInBounds_toArray, List.set_cons_zero, List.set_cons_succ]
            refine wpAnyH_take (i := 8) (v := ?_) rfl (by kernel_rfl) (by kernel_rfl) (by kernel_rfl) (fun _ _ _ h => h) (Or.inl ⟨by kernel_rfl, ?_⟩) hHeld ?_
            rotate_left
            · (intro w hSw; (try dsimp only at hSw); go_simp; try with_reducible rfl)
            try simp only [Act.put, List.setIfInBounds_toArray, List.set_cons_zero, List.set_cons_succ]
            refine wpAnyH_take (i := 9) (v := ?_) rfl (by kernel_rfl) (by kernel_rfl) (by kernel_rfl) (fun _ _ _ h => h) (Or.inl ⟨by kernel_rfl, ?_⟩) hHeld ?_
            rotate_left
            · (intro w hSw; (try dsimp only at hSw); go_simp; try with_reducible rfl)
            try simp only [Act.put, List.setIfInBounds_toArray, List.set_cons_zero, List.set_cons_succ]
            refine wpAnyH_take (i := 11) (v := ?_) rfl (by kernel_rfl) (by kernel_rfl) (by kernel_rfl) (fun _ _ _ h => h) (Or.inl ⟨by kernel_rfl, ?_⟩) hHeld ?_
            rotate_left
            · (intro w hSw; (try dsimp only at hSw); go_simp; try with_reducible rfl)
            try simp only [Act.put, List.setIfInBounds_toArray, List.set_cons_zero, List.set_cons_succ]
            refine wpAnyH_take (i := 12) (v := ?_) rfl (by kernel_rfl) (by kernel_rfl) (by kernel_rfl) (fun _ _ _ h => h) (Or.inl ⟨by kernel_rfl, ?_⟩) hHeld ?_
            rotate_left
            · (intro w hSw; (try dsimp only at hSw); go_simp; try with_reducible rfl)
            try simp only [Act.put, List.setIfInBounds_toArray, List.set_cons_zero, List.set_cons_succ]
            refine wpAnyH_take (i := 13) (v := ?_) rfl (by kernel_rfl) (by kernel_rfl) (by kernel_rfl) (fun _ _ _ h => h) (Or.inl ⟨by kernel_rfl, ?_⟩) hHeld ?_
            rotate_left
            · (intro w hSw; (try dsimp only at hSw); go_simp; try with_reducible rfl)
            try simp only [Act.put, List.setIfInBounds_toArray, List.set_cons_zero, List.set_cons_succ]
            refine wpAnyH_ready (rs := [10]) (by kernel_rfl) (by simp) ?_
            refine AllReadyH.cons rfl (fun K hK => ?_) AllReadyH.nil
            go_simp
            refine (tequal_is (RdP.next H1.out HBa.out) (RdP.next H2.out HBa.out) (RdP.next H3.out HBa.out) (RdP.next H4.out HBa.out) (RdP.next H5.out HBa.out) (RdP.next H6.out HBa.out) (by decide) (by decide) (by decide) (by omega) (by omega) (by omega)).mono ?_; rintro e wb ⟨rfl, hbn⟩; rw [E1.out]; have HBwb := Lib.hid (HBa.out.trans (hbn.mono HBa.out.size)); clear hbn
            try (go_wp2_with fail)
            refine hK.out _ _ ?_ (fun hNew => ?_)
            · exact ⟨(HBwb.out.cell (p := ⟨b3, 0, none⟩) hbx).trans x0, (HBwb.out.cell (p := ⟨b3, 1, none⟩) hbx).trans x1, (HBwb.out.cell (p := ⟨b3, 2, none⟩) hbx).trans x2, (HBwb.out.cell (p := ⟨b7, 0, none⟩) hby).trans y0, (HBwb.out.cell (p := ⟨b7, 1, none⟩) hby).trans y1, (HBwb.out.cell (p := ⟨b7, 2, none⟩) hby).trans y2⟩
            clear hK K hHeld
            have hHeld := hNew
            clear hNew
            try simp only [Act.put, List.setIfInBounds_toArray, List.set_cons_zero, List.set_cons_succ]
            refine wpAnyH_take (i := 14) (v := ?_) rfl (by kernel_rfl) (by kernel_rfl) (by kernel_rfl) (fun _ _ _ h => h) (Or.inl ⟨by kernel_rfl, ?_⟩) hHeld ?_
            rotate_left
            · (intro w hSw; (try dsimp only at hSw); go_simp; try with_reducible rfl)
            try simp only [Act.put, List.setIfInBounds_toArray, List.set_cons_zero, List.set_cons_succ]
            refine wpAnyH_take (i := 15) (v := ?_) rfl (by kernel_rfl) (by kernel_rfl) (by kernel_rfl) (fun _ _ _ h => h) (Or.inl ⟨by kernel_rfl, ?_⟩) hHeld ?_
            rotate_left
            · (intro w hSw; (try dsimp only at hSw); go_simp; try with_reducible rfl)
            try simp only [Act.put, List.setIfInBounds_toArray, List.set_cons_zero, List.set_cons_succ]
            refine wpAnyH_take (i := 16) (v := ?_) rfl (by kernel_rfl) (by kernel_rfl) (by kernel_rfl) (fun _ _ _ h => h) (Or.inl ⟨by kernel_rfl, ?_⟩) hHeld ?_
            rotate_left
            · (intro w hSw; (try dsimp only at hSw); go_simp; try with_reducible rfl)
            try simp only [Act.put, List.setIfInBounds_toArray, List.set_cons_zero, List.set_cons_succ]
            refine wpAnyH_take (i := 17) (v := ?_) rfl (by kernel_rfl) (by kernel_rfl) (by kernel_rfl) (fun _ _ _ h => h) (Or.inl ⟨by kernel_rfl, ?_⟩) hHeld ?_
            rotate_left
            · (intro w hSw; (try dsimp only at hSw); go_simp; try with_reducible rfl)
            try simp only [Act.put, List.setIfInBounds_toArray, List.set_cons_zero, List.set_cons_succ]
            refine wpAnyH_take (i := 18) (v := ?_) rfl (by kernel_rfl) (by kernel_rfl) (by kernel_rfl) (fun _ _ _ h => h) (Or.inl ⟨by kernel_rfl, ?_⟩) hHeld ?_
            rotate_left
            · (intro w hSw; (try dsimp only at hSw); go_simp; try with_reducible rfl)
            try simp only [Act.put, List.setIfInBounds_toArray, List.set_cons_zero, List.set_cons_succ]
            refine wpAnyH_take (i := 20) (v := ?_) rfl (by kernel_rfl) (by kernel_rfl) (by kernel_rfl) (fun _ _ _ h => h) (Or.inl ⟨by kernel_rfl, ?_⟩) hHeld ?_
            rotate_left
            · (intro w hSw; (try dsimp only at hSw); go_simp; try with_reducible rfl)
            try simp only [Act.put, List.setIfInBounds_toArray, List.set_cons_zero, List.set_cons_succ]
            refine wpAnyH_take (i := 21) (v := ?_) rfl (by kernel_rfl) (by kernel_rfl) (by kernel_rfl) (fun _ _ _ h => h) (Or.inl ⟨by kernel_rfl, ?_⟩) hHeld ?_
            rotate_left
            · (intro w hSw; (try dsimp only at hSw); go_simp; try with_reducible rfl)
            try simp only [Act.put, List.setIfInBounds_toArray, List.set_cons_zero, List.set_cons_succ]
            refine wpAnyH_ready (rs := [19]) (by kernel_rfl) (by simp) ?_
            refine AllReadyH.cons rfl (fun K hK => ?_) AllReadyH.nil
            go_simp
            refine (tequal_is (RdP.next H4.out HBwb.out) (RdP.next H5.out HBwb.out) (RdP.next H6.out HBwb.out) (RdP.next H1.out HBwb.out) (RdP.next H2.out HBwb.out) (RdP.next H3.out HBwb.out) (by omega) (by omega) (by omega) (by decide) (by decide) (by decide)).mono ?_; rintro e wd ⟨rfl, hbn⟩; rw [E2.out]; have HBwd := Lib.hid (HBwb.out.trans (hbn.mono HBwb.out.size)); clear hbn
            try (go_wp2_with fail)
            refine hK.out _ _ ?_ (fun hNew => ?_)
            · exact ⟨(HBwd.out.cell (p := ⟨b3, 0, none⟩) hbx).trans x0, (HBwd.out.cell (p := ⟨b3, 1, none⟩) hbx).trans x1, (HBwd.out.cell (p := ⟨b3, 2, none⟩) hbx).trans x2, (HBwd.out.cell (p := ⟨b7, 0, none⟩) hby).trans y0, (HBwd.out.cell (p := ⟨b7, 1, none⟩) hby).trans y1, (HBwd.out.cell (p := ⟨b7, 2, none⟩) hby).trans y2⟩
            clear hK K hHeld
            have hHeld := hNew
            clear hNew
            try simp only [Act.put, List.setIfInBounds_toArray, List.set_cons_zero, List.set_cons_succ]
            refine wpAnyH_ready (rs := [22]) (by kernel_rfl) (by simp) ?_
            refine AllReadyH.cons rfl (fun K hK => ?_) AllReadyH.nil
            go_simp
            refine (tequal_is (RdP.next H1.out HBwd.out) (RdP.next H2.out HBwd.out) (RdP.next H3.out HBwd.out) (RdP.next H4.out HBwd.out) (RdP.next H5.out HBwd.out) (RdP.next H6.out HBwd.out) (by decide) (by decide) (by decide) (by omega) (by omega) (by omega)).mono ?_; rintro e wf ⟨rfl, hbn⟩; rw [E1.out]; have HBwf := Lib.hid (HBwd.out.trans (hbn.mono HBwd.out.size)); clear hbn
            try (go_wp2_with fail)
            refine hK.out _ _ ?_ (fun hNew => ?_)
            · exact ⟨(HBwf.out.cell (p := ⟨b3, 0, none⟩) hbx).trans x0, (HBwf.out.cell (p := ⟨b3, 1, none⟩) hbx).trans x1, (HBwf.out.cell (p := ⟨b3, 2, none⟩) hbx).trans x2, (HBwf.out.cell (p := ⟨b7, 0, none⟩) hby).trans y0, (HBwf.out.cell (p := ⟨b7, 1, none⟩) hby).trans y1, (HBwf.out.cell (p := ⟨b7, 2, none⟩) hby).trans y2⟩
            clear hK K hHeld
            have hHeld := hNew
            clear hNew
            try simp only [Act.put, List.setIfInBounds_toArray, List.set_cons_zero, List.set_cons_succ]
            refine wpAnyH_take (i := 23) (v := ?_) rfl (by kernel_rfl) (by kernel_rfl) (by kernel_rfl) (fun _ _ _ h => h) (Or.inl ⟨by kernel_rfl, ?_⟩) hHeld ?_
            rotate_left
            · (intro w hSw; (try dsimp only at hSw); go_simp; try with_reducible rfl)
            try simp only [Act.put, List.setIfInBounds_toArray, List.set_cons_zero, List.set_cons_succ]
            refine wpAnyH_take (i := 24) (v := ?_) rfl (by kernel_rfl) (by kernel_rfl) (by kernel_rfl) (fun _ _ _ h => h) (Or.inl ⟨by kernel_rfl, ?_⟩) hHeld ?_
            rotate_left
            · (intro w hSw; (try dsimp only at hSw); go_simp; try with_reducible rfl)
            try simp only [Act.put, List.setIfInBounds_toArray, List.set_cons_zero, List.set_cons_succ]
            refine wpAnyH_done (by kernel_rfl) ?_ _
            clear hHeld
            try simp only [List.getElem_toArray, List.getElem_cons_zero, List.getElem_cons_succ, Act.put, List.setIfInBounds_toArray, List.set_cons_zero, List.set_cons_succ]
            refine NoPanic.normal ?_
            go_wp2_with fail
            go_meet
            case rel => exact ⟨rfl, HBwf.out⟩
          | false =>
            refine wp_region_noPanic ?_
            refine wp_region_held_drew (S := (fun (w' : World) => w'.cell? ⟨b3, 0, none⟩ = some (.slice A1 [(1 : Int), 2].length c1) ∧ w'.cell? ⟨b3, 1, none⟩ = some (.slice A2 [(1 : Int)].length c2) ∧ w'.cell? ⟨b3, 2, none⟩ = some (.slice A3 [([49] : Bs)].length c3) ∧ w'.cell? ⟨b7, 0, none⟩ = some (.slice B1 l1.length d1) ∧ w'.cell? ⟨b7, 1, none⟩ = some (.slice B2 l2.length d2) ∧ w'.cell? ⟨b7, 2, none⟩ = some (.slice B3 l3.length d3))) (by kernel_rfl) ?_ (fun hHeld => ?_)
            · exact ⟨x0, x1, x2, y0, y1, y2⟩
            refine wpAnyH_ready (rs := [0]) (by kernel_rfl) (by simp) ?_
            refine AllReadyH.cons rfl (fun K hK => ?_) AllReadyH.nil
            go_simp
            refine (known54_is (HUc.out.below (Below.refl Wc.heap.size Wc).drew)).mono ?_; rintro e wa ⟨rfl, hba'⟩; have hba := (Below.refl Wc.heap.size Wc).drew.trans hba'; have HBa := Lib.hid hba; clear hba'
            try (go_wp2_with fail)
            refine hK.out _ _ ?_ (fun hNew => ?_)
            · exact ⟨(hba.cell (p := ⟨b3, 0, none⟩) hbx).trans x0, (hba.cell (p := ⟨b3, 1, none⟩) hbx).trans x1, (hba.cell (p := ⟨b3, 2, none⟩) hbx).trans x2, (hba.cell (p := ⟨b7, 0, none⟩) hby).trans y0, (hba.cell (p := ⟨b7, 1, none⟩) hby).trans y1, (hba.cell (p := ⟨b7, 2, none⟩) hby).trans y2⟩
            clear hK K hHeld
            have hHeld := hNew
            clear hNew
            try simp only [Act.put, List.setIfInBounds_toArray, List.set_cons_zero, List.set_cons_succ]
            refine wpAnyH_take (i := 1) (v := ?_) rfl (by kernel_rfl) (by kernel_rfl) (by kernel_rfl) (fun _ _ _ h => h) (Or.inl ⟨by kernel_rfl, ?_⟩) hHeld ?_
            rotate_left
            · (intro w hSw; (try dsimp only at hSw); go_simp; try with_reducible rfl)
            try simp only [Act.put, List.setIfInBounds_toArray, List.set_cons_zero, List.set_cons_succ]
            refine wpAnyH_take (i := 2) (v := ?_) rfl (by kernel_rfl) (by kernel_rfl) (by kernel_rfl) (fun _ _ _ h => h) (Or.inl ⟨by kernel_rfl, ?_⟩) hHeld ?_
            rotate_left
            · (intro w hSw; (try dsimp only at hSw); go_simp; try with_reducible rfl)
            try simp only [Act.put, List.setIfInBounds_toArray, List.set_cons_zero, List.set_cons_succ]
            refine wpAnyH_take (i := 3) (v := ?_) rfl (by kernel_rfl) (by kernel_rfl) (by kernel_rfl) (fun _ _ _ h => h) (Or.inl ⟨by kernel_rfl, ?_⟩) hHeld ?_
            rotate_left
            · (intro w hSw; (try dsimp only at hSw); go_simp; try with_reducible rfl)
            try simp only [Act.put, List.setIfInBounds_toArray, List.set_cons_zero, List.set_cons_succ]
            refine wpAnyH_take (i := 4) (v := ?_) rfl (by kernel_rfl) (by kernel_rfl) (by kernel_rfl) (fun _ _ _ h => h) (Or.inl ⟨by kernel_rfl, ?_⟩) hHeld ?_
            rotate_left
            · (intro w hSw; (try dsimp only at hSw); go_simp; try with_reducible rfl)
            try simp only [Act.put, List.setIfInBounds_toArray, List.set_cons_zero, List.set_cons_succ]
            refine wpAnyH_take (i := 5) (v := ?_) rfl (by kernel_rfl) (by kernel_rfl) (by kernel_rfl) (fun _ _ _ h => h) (Or.inl ⟨by kernel_rfl, ?_⟩) hHeld ?_
            rotate_left
            · (intro w hSw; (try dsimp only at hSw); go_simp; try with_reducible rfl)
            try simp only [Act.put, List.setIfInBounds_toArray, List.set_cons_zero, List.set_cons_succ]
            refine wpAnyH_take (i := 6) (v := ?_) rfl (by kernel_rfl) (by kernel_rfl) (by kernel_rfl) (fun _ _ _ h => h) (Or.inl ⟨by kernel_rfl, ?_⟩) hHeld ?_
            rotate_left
            · (intro w hSw; (try dsimp only at hSw); go_simp; try with_reducible rfl)
            try simp only [Act.put, List.setIfInBounds_toArray, List.set_cons_zero, List.set_cons_succ]
            refine wpAnyH_take (i := 7) (v := ?_) rfl (by kernel_rfl) (by kernel_rfl) (by kernel_rfl) (fun _ _ _ h => h) (Or.inl ⟨by kernel_rfl, ?_⟩) hHeld ?_
            rotate_left
            · (intro w hSw; (try dsimp only at hSw); go_simp; try with_reducible rfl)
            try simp only [Act.put, List.setIfInBounds_toArray, List.set_cons_zero, List.set_cons_succ]
            refine wpAnyH_take (i := 8) (v := ?_) rfl (by kernel_rfl) (by kernel_rfl) (by kernel_rfl) (fun _ _ _ h => h) (Or.inl ⟨by kernel_rfl, ?_⟩) hHeld ?_
            rotate_left
            · (intro w hSw; (try dsimp only at hSw); go_simp; try with_reducible rfl)
            try simp only [Act.put, List.setIfInBounds_toArray, List.set_cons_zero, List.set_cons_succ]
            refine wpAnyH_take (i := 9) (v := ?_) rfl (by kernel_rfl) (by kernel_rfl) (by kernel_rfl) (fun _ _ _ h => h) (Or.inl ⟨by kernel_rfl, ?_⟩) hHeld ?_
            rotate_left
            · (intro w hSw; (try dsimp only at hSw); go_simp; try with_reducible rfl)
            try simp only [Act.put, List.setIfInBounds_toArray, List.set_cons_zero, List.set_cons_succ]
            refine wpAnyH_take (i := 11) (v := ?_) rfl (by kernel_rfl) (by kernel_rfl) (by kernel_rfl) (fun _ _ _ h => h) (Or.inl ⟨by kernel_rfl, ?_⟩) hHeld ?_
            rotate_left
            · (intro w hSw; (try dsimp only at hSw); go_simp; try with_reducible rfl)
            try simp only [Act.put, List.setIfInBounds_toArray, List.set_cons_zero, List.set_cons_succ]
            refine wpAnyH_take (i := 12) (v := ?_) rfl (by kernel_rfl) (by kernel_rfl) (by kernel_rfl) (fun _ _ _ h => h) (Or.inl ⟨by kernel_rfl, ?_⟩) hHeld ?_
            rotate_left
            · (intro w hSw; (try dsimp only at hSw); go_simp; try with_reducible rfl)
            try simp only [Act.put, List.setIfInBounds_toArray, List.set_cons_zero, List.set_cons_succ]
            refine wpAnyH_take (i := 13) (v := ?_) rfl (by kernel_rfl) (by kernel_rfl) (by kernel_rfl) (fun _ _ _ h => h) (Or.inl ⟨by kernel_rfl, ?_⟩) hHeld ?_
            rotate_left
            · (intro w hSw; (try dsimp only at hSw); go_simp; try with_reducible rfl)
            try simp only [Act.put, List.setIfInBounds_toArray, List.set_cons_zero, List.set_cons_succ]
            refine wpAnyH_ready (rs := [10]) (by kernel_rfl) (by simp) ?_
            refine AllReadyH.cons rfl (fun K hK => ?_) AllReadyH.nil
            go_simp
            refine (tequal_is (RdP.next H1.out HBa.out) (RdP.next H2.out HBa.out) (RdP.next H3.out HBa.out) (RdP.next H4.out HBa.out) (RdP.next H5.out HBa.out) (RdP.next H6.out HBa.out) (by decide) (by decide) (by decide) (by omega) (by omega) (by omega)).mono ?_; rintro e wb ⟨rfl, hbn⟩; rw [E1.out]; have HBwb := Lib.hid (HBa.out.trans (hbn.mono HBa.out.size)); clear hbn
            try (go_wp2_with fail)
            refine hK.out _ _ ?_ (fun hNew => ?_)
            · exact ⟨(HBwb.out.cell (p := ⟨b3, 0, none⟩) hbx).trans x0, (HBwb.out.cell (p := ⟨b3, 1, none⟩) hbx).trans x1, (HBwb.out.cell (p := ⟨b3, 2, none⟩) hbx).trans x2, (HBwb.out.cell (p := ⟨b7, 0, none⟩) hby).trans y0, (HBwb.out.cell (p := ⟨b7, 1, none⟩) hby).trans y1, (HBwb.out.cell (p := ⟨b7, 2, none⟩) hby).trans y2⟩
            clear hK K hHeld
            have hHeld := hNew
            clear hNew
            try simp only [Act.put, List.setIfInBounds_toArray, List.set_cons_zero, List.set_cons_succ]
            refine wpAnyH_take (i := 14) (v := ?_) rfl (by kernel_rfl) (by kernel_rfl) (by kernel_rfl) (fun _ _ _ h => h) (Or.inl ⟨by kernel_rfl, ?_⟩) hHeld ?_
            rotate_left
            · (intro w hSw; (try dsimp only at hSw); go_simp; try with_reducible rfl)
            try simp only [Act.put, List.setIfInBounds_toArray, List.set_cons_zero, List.set_cons_succ]
            refine wpAnyH_take (i := 15) (v := ?_) rfl (by kernel_rfl) (by kernel_rfl) (by kernel_rfl) (fun _ _ _ h => h) (Or.inl ⟨by kernel_rfl, ?_⟩) hHeld ?_
            rotate_left
            · (intro w hSw; (try dsimp only at hSw); go_simp; try with_reducible rfl)
            try simp only [Act.put, List.setIfInBounds_toArray, List.set_cons_zero, List.set_cons_succ]
            refine wpAnyH_take (i := 16) (v := ?_) rfl (by kernel_rfl) (by kernel_rfl) (by kernel_rfl) (fun _ _ _ h => h) (Or.inl ⟨by kernel_rfl, ?_⟩) hHeld ?_
            rotate_left
            · (intro w hSw; (try dsimp only at hSw); go_simp; try with_reducible rfl)
            try simp only [Act.put, List.setIfInBounds_toArray, List.set_cons_zero, List.set_cons_succ]
            refine wpAnyH_take (i := 17) (v := ?_) rfl (by kernel_rfl) (by kernel_rfl) (by kernel_rfl) (fun _ _ _ h => h) (Or.inl ⟨by kernel_rfl, ?_⟩) hHeld ?_
            rotate_left
            · (intro w hSw; (try dsimp only at hSw); go_simp; try with_reducible rfl)
            try simp only [Act.put, List.setIfInBounds_toArray, List.set_cons_zero, List.set_cons_succ]
            refine wpAnyH_take (i := 18) (v := ?_) rfl (by kernel_rfl) (by kernel_rfl) (by kernel_rfl) (fun _ _ _ h => h) (Or.inl ⟨by kernel_rfl, ?_⟩) hHeld ?_
            rotate_left
            · (intro w hSw; (try dsimp only at hSw); go_simp; try with_reducible rfl)
            try simp only [Act.put, List.setIfInBounds_toArray, List.set_cons_zero, List.set_cons_succ]
            refine wpAnyH_take (i := 20) (v := ?_) rfl (by kernel_rfl) (by kernel_rfl) (by kernel_rfl) (fun _ _ _ h => h) (Or.inl ⟨by kernel_rfl, ?_⟩) hHeld ?_
            rotate_left
            · (intro w hSw; (try dsimp only at hSw); go_simp; try with_reducible rfl)
            try simp only [Act.put, List.setIfInBounds_toArray, List.set_cons_zero, List.set_cons_succ]
            refine wpAnyH_take (i := 21) (v := ?_) rfl (by kernel_rfl) (by kernel_rfl) (by kernel_rfl) (fun _ _ _ h => h) (Or.inl ⟨by kernel_rfl, ?_⟩) hHeld ?_
            rotate_left
            · (intro w hSw; (try dsimp only at hSw); go_simp; try with_reducible rfl)
            try simp only [Act.put, List.setIfInBounds_toArray, List.set_cons_zero, List.set_cons_succ]
            refine wpAnyH_ready (rs := [19]) (by kernel_rfl) (by simp) ?_
            refine AllReadyH.cons rfl (fun K hK => ?_) AllReadyH.nil
            go_simp
            refine (tequal_is (RdP.next H4.out HBwb.out) (RdP.next H5.out HBwb.out) (RdP.next H6.out HBwb.out) (RdP.next H1.out HBwb.out) (RdP.next H2.out HBwb.out) (RdP.next H3.out HBwb.out) (by omega) (by omega) (by omega) (by decide) (by decide) (by decide)).mono ?_; rintro e wd ⟨rfl, hbn⟩; rw [E2.out]; have HBwd := Lib.hid (HBwb.out.trans (hbn.mono HBwb.out.size)); clear hbn
            try (go_wp2_with fail)
            refine hK.out _ _ ?_ (fun hNew => ?_)
            · exact ⟨(HBwd.out.cell (p := ⟨b3, 0, none⟩) hbx).trans x0, (HBwd.out.cell (p := ⟨b3, 1, none⟩) hbx).trans x1, (HBwd.out.cell (p := ⟨b3, 2, none⟩) hbx).trans x2, (HBwd.out.cell (p := ⟨b7, 0, none⟩) hby).trans y0, (HBwd.out.cell (p := ⟨b7, 1, none⟩) hby).trans y1, (HBwd.out.cell (p := ⟨b7, 2, none⟩) hby).trans y2⟩
            clear hK K hHeld
            have hHeld := hNew
            clear hNew
            try simp only [Act.put, List.setIfInBounds_toArray, List.set_cons_zero, List.set_cons_succ]
            refine wpAnyH_ready (rs := [22]) (by kernel_rfl) (by simp) ?_
            refine AllReadyH.cons rfl (fun K hK => ?_) AllReadyH.nil
            go_simp
            refine (tequal_is (RdP.next H1.out HBwd.out) (RdP.next H2.out HBwd.out) (RdP.next H3.out HBwd.out) (RdP.next H4.out HBwd.out) (RdP.next H5.out HBwd.out) (RdP.next H6.out HBwd.out) (by decide) (by decide) (by decide) (by omega) (by omega) (by omega)).mono ?_; rintro e wf ⟨rfl, hbn⟩; rw [E1.out]; have HBwf := Lib.hid (HBwd.out.trans (hbn.mono HBwd.out.size)); clear hbn
            try (go_wp2_with fail)
            refine hK.out _ _ ?_ (fun hNew => ?_)
            · exact ⟨(HBwf.out.cell (p := ⟨b3, 0, none⟩) hbx).trans x0, (HBwf.out.cell (p := ⟨b3, 1, none⟩) hbx).trans x1, (HBwf.out.cell (p := ⟨b3, 2, none⟩) hbx).trans x2, (HBwf.out.cell (p := ⟨b7, 0, none⟩) hby).trans y0, (HBwf.out.cell (p := ⟨b7, 1, none⟩) hby).trans y1, (HBwf.out.cell (p := ⟨b7, 2, none⟩) hby).trans y2⟩
            clear hK K hHeld
            have hHeld := hNew
            clear hNew
            try simp only [Act.put, List.setIfInBounds_toArray, List.set_cons_zero, List.set_cons_succ]
            refine wpAnyH_take (i := 23) (v := ?_) rfl (by kernel_rfl) (by kernel_rfl) (by kernel_rfl) (fun _ _ _ h => h) (Or.inl ⟨by kernel_rfl, ?_⟩) hHeld ?_
            rotate_left
            · (intro w hSw; (try dsimp only at hSw); go_simp; try with_reducible rfl)
            try simp only [Act.put, List.setIfInBounds_toArray, List.set_cons_zero, List.set_cons_succ]
            refine wpAnyH_take (i := 24) (v := ?_) rfl (by kernel_rfl) (by kernel_rfl) (by kernel_rfl) (fun _ _ _ h => h) (Or.inl ⟨by kernel_rfl, ?_⟩) hHeld ?_
            rotate_left
            · (intro w hSw; (try dsimp only at hSw); go_simp; try with_reducible rfl)
            try simp only [Act.put, List.setIfInBounds_toArray, List.set_cons_zero, List.set_cons_succ]
            refine wpAnyH_done (by kernel_rfl) ?_ _
            clear hHeld
            try simp only [List.getElem_toArray, List.getElem_cons_zero, List.getElem_cons_succ, Act.put, List.setIfInBounds_toArray, List.set_cons_zero, List.set_cons_succ]
            refine NoPanic.normal ?_
            go_wp2_with fail
            go_meet
            case rel => exact ⟨rfl, HBwf.out⟩
        case rest =>
          obtain ⟨rfl, hbw⟩ := hcut
          have ZPf := Lib.hid (ZPc.out.next hbw ZPc.out.lt)
          have ZSf := Lib.hid (ZSc.out.next hbw ZSc.out.lt)
          have HBF := Lib.hid (HBT.out.trans (hbw.mono hsw))
          have p0 := ZPf.out.cell 0
          have p1 := ZPf.out.cell 1
          have p2 := ZPf.out.cell 2
          have p3 := ZPf.out.cell 3
          have p4 := ZPf.out.cell 4
          have p5 := ZPf.out.cell 5
          have s0 := ZSf.out.cell 0
          have s1' := ZSf.out.cell 1
          simp only [List.getElem?_toArray, List.getElem?_cons_zero, List.getElem?_cons_succ] at p0 p1 p2 p3 p4 p5 s0 s1'
          clear hbw x0 x1 x2 y0 y1 y2 H1 H2 H3 H4 H5 H6 d0
          by_cases h0 : fe = 0
          · obtain ⟨r0, r1, r2, r3, r5, ra, rb, _⟩ := HF1.out h0
            subst r0 r1 r2 r3 r5 h0
            have em1 : Int.tdiv a 64 = a / 64 := Int.tdiv_eq_ediv_of_nonneg ra
            have em2 : Int.tmod a 64 = a % 64 := Int.tmod_eq_emod_of_nonneg ra
            have q1 : 0 ≤ a / 64 := by omega
            have q2 : a / 64 < 64 := by omega
            have ew : IntKind.i64.wrap (a / 64) = a / 64 := IntWalk.i64_in _ (by omega)
            have he := fun W => eqlNm ⟨8, s1, k2, a / 64, []⟩ ⟨8, s1, k2, a / 64, []⟩ true (by simp) W
            have hg := guardNm
            unfold nmV nmA at he
            simp only [show bs ([] : Bs) = ⟨#[]⟩ from rfl] at he
            clear HF1 HF2
            go_upto_region 18 with (fail)
            refine wp_region_noPanic ?_
            refine wp_region_held_drew (S := (fun (w' : World) => w'.cell? ⟨pb, 0, none⟩ = some (.int .i64 8) ∧ w'.cell? ⟨pb, 1, none⟩ = some (.string (bs s1)) ∧ w'.cell? ⟨pb, 2, none⟩ = some (.int .i64 k2) ∧ w'.cell? ⟨pb, 3, none⟩ = some (.int .i64 (a / 64)) ∧ w'.cell? ⟨pb, 4, none⟩ = some (.string ⟨#[]⟩) ∧ w'.cell? ⟨pb, 5, none⟩ = some (.int .i64 (a % 64)) ∧ w'.cell? ⟨sb, 0, none⟩ = some (.string (bs s1)) ∧ w'.cell? ⟨sb, 1, none⟩ = some (.int .i64 k2))) (by kernel_rfl) ?_ (fun hHeld => ?_)
            · exact ⟨p0, p1, p2, p3, p4, p5, s0, s1'⟩
            refine wpAnyH_take (i := 0) (v := ?_) rfl (by kernel_rfl) (by kernel_rfl) (by kernel_rfl) (fun _ _ _ h => h) (Or.inl ⟨by kernel_rfl, ?_⟩) hHeld ?_
            rotate_left
            · (intro w hSw; (try dsimp only at hSw); go_simp; try with_reducible rfl)
            try simp only [Act.put, List.setIfInBounds_toArray, List.set_cons_zero, List.set_cons_succ]
            refine wpAnyH_take (i := 1) (v := ?_) rfl (by kernel_rfl) (by kernel_rfl) (by kernel_rfl) (fun _ _ _ h => h) (Or.inl ⟨by kernel_rfl, ?_⟩) hHeld ?_
            rotate_left
            · (intro w hSw; (try dsimp only at hSw); go_simp; try with_reducible rfl)
            try simp only [Act.put, List.setIfInBounds_toArray, List.set_cons_zero, List.set_cons_succ]
            refine wpAnyH_take (i := 2) (v := ?_) rfl (by kernel_rfl) (by kernel_rfl) (by kernel_rfl) (fun _ _ _ h => h) (Or.inl ⟨by kernel_rfl, ?_⟩) hHeld ?_
            rotate_left
            · (intro w hSw; (try dsimp only at hSw); go_simp; try with_reducible rfl)
            try simp only [Act.put, List.setIfInBounds_toArray, List.set_cons_zero, List.set_cons_succ]
            refine wpAnyH_take (i := 3) (v := ?_) rfl (by kernel_rfl) (by kernel_rfl) (by kernel_rfl) (fun _ _ _ h => h) (Or.inl ⟨by kernel_rfl, ?_⟩) hHeld ?_
            rotate_left
            · (intro w hSw; (try dsimp only at hSw); go_simp; try with_reducible rfl)
            try simp only [Act.put, List.setIfInBounds_toArray, List.set_cons_zero, List.set_cons_succ]
            refine wpAnyH_take (i := 4) (v := ?_) rfl (by kernel_rfl) (by kernel_rfl) (by kernel_rfl) (fun _ _ _ h => h) (Or.inl ⟨by kernel_rfl, ?_⟩) hHeld ?_
            rotate_left
            · (intro w hSw; (try dsimp only at hSw); go_simp; try with_reducible rfl)
            try simp only [Act.put, List.setIfInBounds_toArray, List.set_cons_zero, List.set_cons_succ]
            refine wpAnyH_ready (rs := [5]) (by kernel_rfl) (by simp) ?_
            refine AllReadyH.cons rfl (fun K hK => ?_) AllReadyH.nil
            go_simp
            refine (ofblock_is (bs s1) k2 (a / 64) wc.drew).mono ?_; rintro e wo ⟨rfl, hbo'⟩; have hbo := (Below.refl wc.heap.size wc).drew.trans hbo'; have HBo := Lib.hid hbo; simp only [blkV]; clear hbo'
            try (go_wp2_with fail)
            refine hK.out _ _ ?_ (fun hNew => ?_)
            · exact ⟨(hbo.cell (p := ⟨pb, 0, none⟩) ZPf.out.lt).trans p0, (hbo.cell (p := ⟨pb, 1, none⟩) ZPf.out.lt).trans p1, (hbo.cell (p := ⟨pb, 2, none⟩) ZPf.out.lt).trans p2, (hbo.cell (p := ⟨pb, 3, none⟩) ZPf.out.lt).trans p3, (hbo.cell (p := ⟨pb, 4, none⟩) ZPf.out.lt).trans p4, (hbo.cell (p := ⟨pb, 5, none⟩) ZPf.out.lt).trans p5, (hbo.cell (p := ⟨sb, 0, none⟩) ZSf.out.lt).trans s0, (hbo.cell (p := ⟨sb, 1, none⟩) ZSf.out.lt).trans s1'⟩
            clear hK K hHeld
            have hHeld := hNew
            clear hNew
            try simp only [Act.put, List.setIfInBounds_toArray, List.set_cons_zero, List.set_cons_succ]
            refine wpAnyH_take (i := 6) (v := ?_) rfl (by kernel_rfl) (by kernel_rfl) (by kernel_rfl) (fun _ _ _ h => h) (Or.inl ⟨by kernel_rfl, ?_⟩) hHeld ?_
            rotate_left
            · (intro w hSw; (try dsimp only at hSw); go_simp; try with_reducible rfl)
            try simp only [Act.put, List.setIfInBounds_toArray, List.set_cons_zero, List.set_cons_succ]
            refine wpAnyH_take (i := 7) (v := ?_) rfl (by kernel_rfl) (by kernel_rfl) (by kernel_rfl) (fun _ _ _ h => h) (Or.inl ⟨by kernel_rfl, ?_⟩) hHeld ?_
            rotate_left
            · (intro w hSw; (try dsimp only at hSw); go_simp; try with_reducible rfl)
            try simp only [Act.put, List.setIfInBounds_toArray, List.set_cons_zero, List.set_cons_succ]
            refine wpAnyH_take (i := 8) (v := ?_) rfl (by kernel_rfl) (by kernel_rfl) (by kernel_rfl) (fun _ _ _ h => h) (Or.inl ⟨by kernel_rfl, ?_⟩) hHeld ?_
            rotate_left
            · (intro w hSw; (try dsimp only at hSw); go_simp; try with_reducible rfl)
            try simp only [Act.put, List.setIfInBounds_toArray, List.set_cons_zero, List.set_cons_succ]
            refine wpAnyH_take (i := 9) (v := ?_) rfl (by kernel_rfl) (by kernel_rfl) (by kernel_rfl) (fun _ _ _ h => h) (Or.inl ⟨by kernel_rfl, ?_⟩) hHeld ?_
            rotate_left
            · (intro w hSw; (try dsimp only at hSw); go_simp; try with_reducible rfl)
            try simp only [Act.put, List.setIfInBounds_toArray, List.set_cons_zero, List.set_cons_succ]
            refine wpAnyH_take (i := 10) (v := ?_) rfl (by kernel_rfl) (by kernel_rfl) (by kernel_rfl) (fun _ _ _ h => h) (Or.inl ⟨by kernel_rfl, ?_⟩) hHeld ?_
            rotate_left
            · (intro w hSw; (try dsimp only at hSw); go_simp; try with_reducible rfl)
            try simp only [Act.put, List.setIfInBounds_toArray, List.set_cons_zero, List.set_cons_succ]
            refine wpAnyH_take (i := 11) (v := ?_) rfl (by kernel_rfl) (by kernel_rfl) (by kernel_rfl) (fun _ _ _ h => h) (Or.inl ⟨by kernel_rfl, ?_⟩) hHeld ?_
            rotate_left
            · (intro w hSw; (try dsimp only at hSw); go_simp; try with_reducible rfl)
            try simp only [Act.put, List.setIfInBounds_toArray, List.set_cons_zero, List.set_cons_succ]
            refine wpAnyH_take (i := 12) (v := ?_) rfl (by kernel_rfl) (by kernel_rfl) (by kernel_rfl) (fun _ _ _ h => h) (Or.inl ⟨by kernel_rfl, ?_⟩) hHeld ?_
            rotate_left
            · (intro w hSw; (try dsimp only at hSw); go_simp; try with_reducible rfl)
            try simp only [Act.put, List.setIfInBounds_toArray, List.set_cons_zero, List.set_cons_succ]
            refine wpAnyH_take (i := 13) (v := ?_) rfl (by kernel_rfl) (by kernel_rfl) (by kernel_rfl) (fun _ _ _ h => h) (Or.inl ⟨by kernel_rfl, ?_⟩) hHeld ?_
            rotate_left
            · (intro w hSw; (try dsimp only at hSw); go_simp; try with_reducible rfl)
            try simp only [Act.put, List.setIfInBounds_toArray, List.set_cons_zero, List.set_cons_succ]
            refine wpAnyH_take (i := 14) (v := ?_) rfl (by kernel_rfl) (by kernel_rfl) (by kernel_rfl) (fun _ _ _ h => h) (Or.inl ⟨by kernel_rfl, ?_⟩) hHeld ?_
            rotate_left
            · (intro w hSw; (try dsimp only at hSw); go_simp; try with_reducible rfl)
            try simp only [Act.put, List.setIfInBounds_toArray, List.set_cons_zero, List.set_cons_succ]
            refine wpAnyH_done (by kernel_rfl) ?_ _
            clear hHeld
            try simp only [List.getElem_toArray, List.getElem_cons_zero, List.getElem_cons_succ, Act.put, List.setIfInBounds_toArray, List.set_cons_zero, List.set_cons_succ]
            refine NoPanic.normal ?_
            go_wp2_with fail
            go_ret
            exact ⟨rfl, by rw [HSB.out]; exact HBF.out.trans (HBo.out.mono (Nat.le_of_lt ZSf.out.lt))⟩
          · obtain ⟨r0, r1, r2, r3, r5⟩ := HF2.out h0
            subst r0 r1 r2 r3 r5
            have d1 : (fe != 0) = true := by rw [bne_iff_ne]; exact h0
            have d2 : (fe == 0) = false := by rw [beq_eq_false_iff_ne]; exact h0
            rw [show bs ([] : Bs) = ⟨#[]⟩ from rfl] at p1
            have he := zeroPl
            have hg := guardPl
            clear HF1 HF2 h0
            go_wp2_with fail
            go_ret
            exact ⟨rfl, by rw [HSB.out]; exact HBF.out⟩
end Go.Proofs.YtamjllakfgphnaaGreatDoor
