/- Walks of layer 54: the graph asked. -/
import Derived.Test.YtamjllakfgphnaaGreatDoorW97
import Derived.Test.YtamjllakfgphnaaGreatDoorQA
import Derived.Test.YtamjllakfgphnaaGreatDoorW94
namespace Go.Proofs.YtamjllakfgphnaaGreatDoor
open Go.RowKit
set_option linter.unusedSimpArgs false
set_option linter.unusedVariables false
attribute [local go_sem ↓] Go.wp_at_zero Go.wp_at_succ
def inR (N : Nat) (x : Int) : Bool := decide (0 ≤ x) && decide (x < (N : Int))
def chk2 (N : Nat) (xs : List Int) : Int := if xs.all (inR N) = true then 0 else 2
def gchkRel (xs : List Int) (N : Nat) (w : World) (i : Value) (wr : World) : Prop := ∃ k : Nat, k ≤ xs.length ∧ i = .int .i64 k ∧ (∀ j (h1 : j < xs.length), j < k → inR N xs[j] = true) ∧ Below w.heap.size w wr
theorem GAt.keys {w : World} {B g : Nat} {l : List Ac} (h : GAt w B g l) : ∃ A c, w.cell? ⟨g, 0, none⟩ = some (.slice A l.length c) := by
  obtain ⟨vk, vl, vu, bw, vL, vU, h⟩ := h
  obtain ⟨A, c, rfl, _⟩ := own_len h.ky
  refine ⟨A, c, ?_⟩
  rw [h.blk.cell 0, List.length_map]
  rfl
theorem GAt.lt {w : World} {B g : Nat} {l : List Ac} (h : GAt w B g l) : g < w.heap.size := by
  obtain ⟨vk, vl, vu, bw, vL, vU, h⟩ := h
  exact h.blk.lt
set_option maxRecDepth 100000 in
set_option maxHeartbeats 1000000 in
theorem gcheck_is {w : World} {B g : Nat} {l : List Ac} {v : Value} {xs : List Int} (hg : GAt w B g l) (hx : RdIn w v xs) (hl : l.length ≤ 1000000) (hxl : xs.length ≤ 1000000) : Calls Tryz.prog 43 #[.pointer (some ⟨g, 0, none⟩), v] w fun e w' => e = .returned (.int .i64 (chk2 l.length xs)) ∧ Below w.heap.size w w' := by
  obtain ⟨A1, c1, rfl, hc1⟩ := RdP.form hx
  have H1 := Lib.hid hx
  have HG := Lib.hid hg
  clear hx hg
  have H0 : Hid (gchkRel xs l.length w (.int .i64 (0 : Nat)) w) := Lib.hid ⟨0, Nat.zero_le _, rfl, fun j _ h => by omega, Below.refl _ _⟩
  go_enter Tryz.func43, Tryz.ntmps43
  go_wp2_with fail
  go_loopw [11] (fun i wr => gchkRel xs l.length w i wr) (fun i _ => xs.length - (intOf i).toNat)
  case atStart => exact H0.out
  case round =>
    clear H0
    obtain ⟨k, hkl, rfl, hz, hbw⟩ := hrel
    have HZ := Lib.hid hz
    have HBW := Lib.hid hbw
    clear hz hbw
    by_cases hk : k < xs.length
    · have j1 : (0 : Int) ≤ (k : Int) := by omega
      have j2 : (k : Int) < (xs.length : Int) := by omega
      have j3 : decide ((k : Int) < (xs.length : Int)) = true := decide_eq_true j2
      obtain ⟨b1, o1, hbe, hb1, x0⟩ := RdIn_piece (RdP.next H1.out HBW.out) hk
      subst hbe
      obtain ⟨x, hx⟩ : ∃ x, xs[k] = x := ⟨_, rfl⟩
      rw [hx] at x0
      have HX := Lib.hid hx
      clear hx
      obtain ⟨A, c, y0⟩ := GAt.keys (HG.out.next HBW.out)
      by_cases h0 : 0 ≤ x
      · have d0 : decide (x < 0) = false := decide_eq_false (by omega)
        by_cases h1 : x < (l.length : Int)
        · have d1 : decide ((l.length : Int) ≤ x) = false := decide_eq_false (by omega)
          have HIN := Lib.hid (show inR l.length x = true by unfold inR; rw [decide_eq_true h0, decide_eq_true h1]; rfl)
          clear h0 h1
          go_wp2_with fail
          go_roundw
          case rel => exact ⟨k + 1, by omega, by go_num, fun j h1 h3 => by
            rcases Nat.lt_or_ge j k with h | h
            · exact HZ.out j h1 h
            · obtain rfl : j = k := by omega
              rw [HX.out]; exact HIN.out, HBW.out⟩
          case measure => simp [intOf]; omega
        · have d1 : decide ((l.length : Int) ≤ x) = true := decide_eq_true (by omega)
          have HC := Lib.hid (show chk2 l.length xs = 2 by
            unfold chk2
            rw [if_neg]
            intro h
            have := List.all_eq_true.1 h xs[k] (List.getElem_mem hk)
            rw [HX.out] at this
            unfold inR at this
            simp at this
            omega)
          clear h0 h1
          go_wp2_with fail
          go_ret
          exact ⟨by rw [HC.out]; rfl, HBW.out⟩
      · have d0 : decide (x < 0) = true := decide_eq_true (by omega)
        have HC := Lib.hid (show chk2 l.length xs = 2 by
            unfold chk2
            rw [if_neg]
            intro h
            have := List.all_eq_true.1 h xs[k] (List.getElem_mem hk)
            rw [HX.out] at this
            unfold inR at this
            simp at this
            omega)
        clear h0
        go_wp2_with fail
        go_ret
        exact ⟨by rw [HC.out]; rfl, HBW.out⟩
    · have j3 : decide ((k : Int) < (xs.length : Int)) = false := decide_eq_false (by omega)
      have HC := Lib.hid (show chk2 l.length xs = 0 by
        unfold chk2
        rw [if_pos]
        rw [List.all_eq_true]
        intro y hy
        obtain ⟨j, hj, rfl⟩ := List.getElem_of_mem hy
        exact HZ.out j hj (by omega))
      go_wp2_with fail
      go_ret
      exact ⟨by rw [HC.out]; rfl, HBW.out⟩
theorem glen_is {w : World} {B g : Nat} {l : List Ac} (hg : GAt w B g l) : Calls Tryz.prog 81 #[.pointer (some ⟨g, 0, none⟩)] w fun e w' => e = .returned (.int .i64 l.length) ∧ w = w' := by
  obtain ⟨A, c, y0⟩ := GAt.keys hg
  clear hg
  go_enter Tryz.func81, Tryz.ntmps81
  go_wp2_with fail
  go_ret
  exact ⟨rfl, rfl⟩
/-- Versions and a graph that belong together, or not. -/
theorem tcheck_is {w : World} {F : Nat → Prop} {gx B g : Nat} {s0 : St} {l l2 : List Ac} (hv : VAt w F gx s0 l) (hg : GAt w B g l2) (hl : l.length ≤ 1000000) (hl2 : l2.length ≤ 1000000) : Calls Tryz.prog 40 #[.pointer (some ⟨gx, 0, none⟩), .pointer (some ⟨g, 0, none⟩)] w fun e w' => e = .returned (.int .i64 (if l.length = l2.length then 0 else 10)) ∧ w = w' := by
  have HV := Lib.hid hv
  have HG := Lib.hid hg
  clear hv hg
  obtain ⟨q, hq⟩ : ∃ q, ((l.length : Int) != (l2.length : Int)) = q := ⟨_, rfl⟩
  have HR := Lib.hid (show (if l.length = l2.length then (0 : Int) else 10) = if q = true then 10 else 0 by
    rw [← hq]
    by_cases h : l.length = l2.length
    · simp [h]
    · have : ¬ (l.length : Int) = (l2.length : Int) := by omega
      simp [h, this])
  obtain ⟨ec, hec⟩ : ∃ ec : Int, (if l.length = l2.length then (0 : Int) else 10) = ec := ⟨_, rfl⟩
  rw [hec] at HR ⊢
  clear hec
  go_enter Tryz.func40, Tryz.ntmps40
  go_wp2_with fail
  go_at_call 41
  refine (vlen_is HV.out).mono ?_
  rintro e w' ⟨rfl, rfl⟩
  go_wp2_with fail
  go_at_call 81
  refine (glen_is HG.out).mono ?_
  rintro e w' ⟨rfl, rfl⟩
  cases q with
  | true =>
    go_wp2_with fail
    go_ret
    exact ⟨by rw [HR.out]; rfl, rfl⟩
  | false =>
    go_wp2_with fail
    go_ret
    exact ⟨by rw [HR.out]; rfl, rfl⟩
theorem tcheck_n1 (w : World) (v : Value) : Calls Tryz.prog 40 #[.pointer none, v] w fun e w' => e = .returned (.int .i64 1) ∧ w = w' := by
  go_enter Tryz.func40, Tryz.ntmps40
  go_wp2_with fail
  go_ret
  exact ⟨rfl, rfl⟩
theorem tcheck_n2 (w : World) (p : Addr) : Calls Tryz.prog 40 #[.pointer (some p), .pointer none] w fun e w' => e = .returned (.int .i64 1) ∧ w = w' := by
  go_enter Tryz.func40, Tryz.ntmps40
  go_wp2_with fail
  go_ret
  exact ⟨rfl, rfl⟩
end Go.Proofs.YtamjllakfgphnaaGreatDoor
