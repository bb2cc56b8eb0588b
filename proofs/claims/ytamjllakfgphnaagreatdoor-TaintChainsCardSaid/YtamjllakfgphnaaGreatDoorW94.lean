/- Walks of layer 54: equal lists of numbers, of names. -/
import Derived.Test.YtamjllakfgphnaaGreatDoorW88
namespace Go.Proofs.YtamjllakfgphnaaGreatDoor
open Go.RowKit
set_option linter.unusedSimpArgs false
set_option linter.unusedVariables false
attribute [local go_sem ↓] Go.wp_at_zero Go.wp_at_succ
abbrev RdSt (w : World) (v : Value) (l : List Bs) : Prop := RdP 22 (fun s => [Value.string (bs s)]) w v l
theorem RdSt.piece {w : World} {A : Option Addr} {n c : Nat} {l : List Bs} (h : RdSt w (.slice A n c) l) {k : Nat} (hk : k < l.length) : ∃ b o, A = some ⟨b, o, none⟩ ∧ b < w.heap.size ∧ w.cell? ⟨b, o + k, none⟩ = some (.string (bs l[k])) := by
  obtain ⟨b, o, e, hb, hc⟩ := RdP.at_ (s := 1) h (fun _ => rfl) hk
  have := hc 0 _ rfl
  rw [Nat.mul_one, Nat.add_zero] at this
  exact ⟨b, o, e, hb, this⟩
theorem RdIn_piece {w : World} {A : Option Addr} {n c : Nat} {l : List Int} (h : RdIn w (.slice A n c) l) {k : Nat} (hk : k < l.length) : ∃ b o, A = some ⟨b, o, none⟩ ∧ b < w.heap.size ∧ w.cell? ⟨b, o + k, none⟩ = some (.int .i64 l[k]) := by
  obtain ⟨b, o, e, hb, hc⟩ := RdP.at_ (s := 1) h inC_len hk
  have := hc 0 _ rfl
  rw [Nat.mul_one, Nat.add_zero] at this
  exact ⟨b, o, e, hb, this⟩
def eqintRel (a b : List Int) (w : World) (i : Value) (wr : World) : Prop := ∃ k : Nat, k ≤ a.length ∧ i = .int .i64 k ∧ (∀ j (h1 : j < a.length) (h2 : j < b.length), j < k → a[j] = b[j]) ∧ Below w.heap.size w wr
set_option maxRecDepth 100000 in
set_option maxHeartbeats 1000000 in
theorem eqint_is {w : World} {v1 v2 : Value} {a b : List Int} (h1 : RdIn w v1 a) (h2 : RdIn w v2 b) (l1 : a.length ≤ 1000000) (l2 : b.length ≤ 1000000) : Calls Tryz.prog 31 #[v1, v2] w fun e w' => e = .returned (.bool (decide (a = b))) ∧ Below w.heap.size w w' := by
  obtain ⟨A1, c1, rfl, hc1⟩ := RdP.form h1
  obtain ⟨A2, c2, rfl, hc2⟩ := RdP.form h2
  have H1 := Lib.hid h1
  have H2 := Lib.hid h2
  clear h1 h2
  by_cases hl : a.length = b.length
  · have k1 : ((a.length : Int) == (b.length : Int)) = true := by rw [hl]; simp
    have HLL := Lib.hid hl
    rw [← hl] at hc2
    have H0 : Hid (eqintRel a b w (.int .i64 (0 : Nat)) w) := Lib.hid ⟨0, Nat.zero_le _, rfl, fun j _ _ h => by omega, Below.refl _ _⟩
    go_enter Tryz.func31, Tryz.ntmps31
    rw [← HLL.out]
    clear hl
    go_wp2_with fail
    go_loopw [13] (fun i wr => eqintRel a b w i wr) (fun i _ => a.length - (intOf i).toNat)
    case atStart => exact H0.out
    case round =>
      clear H0
      obtain ⟨k, hkl, rfl, hz, hbw⟩ := hrel
      have HZ := Lib.hid hz
      have HBW := Lib.hid hbw
      clear hz hbw
      by_cases hk : k < a.length
      · have j1 : (0 : Int) ≤ (k : Int) := by omega
        have j2 : (k : Int) < (a.length : Int) := by omega
        have j3 : decide ((k : Int) < (a.length : Int)) = true := decide_eq_true j2
        have hkb : k < b.length := by rw [← HLL.out]; exact hk
        obtain ⟨b1, o1, hbe, hb1, x0⟩ := RdIn_piece (RdP.next H1.out HBW.out) hk
        subst hbe
        obtain ⟨b2, o2, hbe, hb2, y0⟩ := RdIn_piece (RdP.next H2.out HBW.out) hkb
        subst hbe
        obtain ⟨x, hx⟩ : ∃ x, a[k] = x := ⟨_, rfl⟩
        obtain ⟨y, hy⟩ : ∃ y, b[k] = y := ⟨_, rfl⟩
        rw [hx] at x0
        rw [hy] at y0
        have HX := Lib.hid hx
        have HY := Lib.hid hy
        clear hx hy
        obtain ⟨bq, hbq⟩ : ∃ bq, decide (x = y) = bq := ⟨_, rfl⟩
        have HQ := Lib.hid hbq
        have e5 : (x != y) = !bq := by rw [← hbq]; by_cases h : x = y <;> simp [h]
        clear hbq
        cases bq with
        | true =>
          go_upto_region 6 with (fail)
          go_quiet (fail)
          go_wp2_with fail
          go_roundw
          case rel => exact ⟨k + 1, by omega, by go_num, fun j h1 h2 h3 => by
            rcases Nat.lt_or_ge j k with h | h
            · exact HZ.out j h1 h2 h
            · obtain rfl : j = k := by omega
              rw [HX.out, HY.out]; exact of_decide_eq_true HQ.out, HBW.out.trans (below_drewN (Below.refl _ _) nq)⟩
          case measure => simp [intOf]; omega
        | false =>
          have hne : decide (a = b) = false := decide_eq_false (fun e => by
            subst e
            exact (of_decide_eq_false HQ.out) (HX.out.symm.trans HY.out))
          have HNE := Lib.hid hne
          clear hne
          go_upto_region 6 with (fail)
          go_quiet (fail)
          go_wp2_with fail
          go_ret
          exact ⟨by rw [HNE.out]; rfl, HBW.out.trans (below_drewN (Below.refl _ _) nq)⟩
      · have j3 : decide ((k : Int) < (a.length : Int)) = false := decide_eq_false (by omega)
        have HEQ := Lib.hid (show decide (a = b) = true from decide_eq_true (List.ext_getElem HLL.out (fun j h1 h2 => HZ.out j h1 h2 (by omega))))
        go_wp2_with fail
        go_ret
        exact ⟨by rw [HEQ.out]; rfl, HBW.out⟩
  · have k1 : ((a.length : Int) != (b.length : Int)) = true := by rw [bne_iff_ne]; omega
    have HNE := Lib.hid (show decide (a = b) = false from decide_eq_false (fun e => hl (by rw [e])))
    clear hl
    go_enter Tryz.func31, Tryz.ntmps31
    go_wp2_with fail
    go_ret
    exact ⟨by rw [HNE.out]; rfl, Below.refl _ _⟩
theorem bs_eq_iff {x y : Bs} : bs x = bs y ↔ x = y := ⟨bs_inj, fun h => by rw [h]⟩
def eqnameRel (a b : List Bs) (w : World) (i : Value) (wr : World) : Prop := ∃ k : Nat, k ≤ a.length ∧ i = .int .i64 k ∧ (∀ j (h1 : j < a.length) (h2 : j < b.length), j < k → a[j] = b[j]) ∧ Below w.heap.size w wr
set_option maxRecDepth 100000 in
set_option maxHeartbeats 1000000 in
theorem eqname_is {w : World} {v1 v2 : Value} {a b : List Bs} (h1 : RdSt w v1 a) (h2 : RdSt w v2 b) (l1 : a.length ≤ 1000000) (l2 : b.length ≤ 1000000) : Calls Tryz.prog 32 #[v1, v2] w fun e w' => e = .returned (.bool (decide (a = b))) ∧ Below w.heap.size w w' := by
  obtain ⟨A1, c1, rfl, hc1⟩ := RdP.form h1
  obtain ⟨A2, c2, rfl, hc2⟩ := RdP.form h2
  have H1 := Lib.hid h1
  have H2 := Lib.hid h2
  clear h1 h2
  by_cases hl : a.length = b.length
  · have k1 : ((a.length : Int) == (b.length : Int)) = true := by rw [hl]; simp
    have HLL := Lib.hid hl
    rw [← hl] at hc2
    have H0 : Hid (eqnameRel a b w (.int .i64 (0 : Nat)) w) := Lib.hid ⟨0, Nat.zero_le _, rfl, fun j _ _ h => by omega, Below.refl _ _⟩
    go_enter Tryz.func32, Tryz.ntmps32
    rw [← HLL.out]
    clear hl
    go_wp2_with fail
    go_loopw [13] (fun i wr => eqnameRel a b w i wr) (fun i _ => a.length - (intOf i).toNat)
    case atStart => exact H0.out
    case round =>
      clear H0
      obtain ⟨k, hkl, rfl, hz, hbw⟩ := hrel
      have HZ := Lib.hid hz
      have HBW := Lib.hid hbw
      clear hz hbw
      by_cases hk : k < a.length
      · have j1 : (0 : Int) ≤ (k : Int) := by omega
        have j2 : (k : Int) < (a.length : Int) := by omega
        have j3 : decide ((k : Int) < (a.length : Int)) = true := decide_eq_true j2
        have hkb : k < b.length := by rw [← HLL.out]; exact hk
        obtain ⟨b1, o1, hbe, hb1, x0⟩ := RdSt.piece (RdP.next H1.out HBW.out) hk
        subst hbe
        obtain ⟨b2, o2, hbe, hb2, y0⟩ := RdSt.piece (RdP.next H2.out HBW.out) hkb
        subst hbe
        obtain ⟨x, hx⟩ : ∃ x, a[k] = x := ⟨_, rfl⟩
        obtain ⟨y, hy⟩ : ∃ y, b[k] = y := ⟨_, rfl⟩
        rw [hx] at x0
        rw [hy] at y0
        have HX := Lib.hid hx
        have HY := Lib.hid hy
        clear hx hy
        obtain ⟨bq, hbq⟩ : ∃ bq, decide (x = y) = bq := ⟨_, rfl⟩
        have HQ := Lib.hid hbq
        have e5 : (x == y) = bq := by rw [← hbq]; by_cases h : x = y <;> simp [h]
        have e6 : ((bs x).toList == (bs y).toList) = bq := by rw [eq_bs]; exact e5
        clear hbq
        cases bq with
        | true =>
          go_upto_region 6 with (fail)
          go_quiet (fail)
          go_wp2_with fail
          go_roundw
          case rel => exact ⟨k + 1, by omega, by go_num, fun j h1 h2 h3 => by
            rcases Nat.lt_or_ge j k with h | h
            · exact HZ.out j h1 h2 h
            · obtain rfl : j = k := by omega
              rw [HX.out, HY.out]; exact of_decide_eq_true HQ.out, HBW.out.trans (below_drewN (Below.refl _ _) nq)⟩
          case measure => simp [intOf]; omega
        | false =>
          have hne : decide (a = b) = false := decide_eq_false (fun e => by
            subst e
            exact (of_decide_eq_false HQ.out) (HX.out.symm.trans HY.out))
          have HNE := Lib.hid hne
          clear hne
          go_upto_region 6 with (fail)
          go_quiet (fail)
          go_wp2_with fail
          go_ret
          exact ⟨by rw [HNE.out]; rfl, HBW.out.trans (below_drewN (Below.refl _ _) nq)⟩
      · have j3 : decide ((k : Int) < (a.length : Int)) = false := decide_eq_false (by omega)
        have HEQ := Lib.hid (show decide (a = b) = true from decide_eq_true (List.ext_getElem HLL.out (fun j h1 h2 => HZ.out j h1 h2 (by omega))))
        go_wp2_with fail
        go_ret
        exact ⟨by rw [HEQ.out]; rfl, HBW.out⟩
  · have k1 : ((a.length : Int) != (b.length : Int)) = true := by rw [bne_iff_ne]; omega
    have HNE := Lib.hid (show decide (a = b) = false from decide_eq_false (fun e => hl (by rw [e])))
    clear hl
    go_enter Tryz.func32, Tryz.ntmps32
    go_wp2_with fail
    go_ret
    exact ⟨by rw [HNE.out]; rfl, Below.refl _ _⟩
end Go.Proofs.YtamjllakfgphnaaGreatDoor
