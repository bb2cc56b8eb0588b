/- Walks of layer 47: the greatest of some numbers. -/
import Derived.Test.YtmjkcanjfjfkfaaP8
import Derived.Test.YtmjkcanjfjfkfaaT5
namespace Go.Proofs.Ytmjkcanjfjfkfaa
open Go.RowKit
set_option linter.unusedSimpArgs false
set_option linter.unusedVariables false
attribute [local go_sem ↓] Go.wp_at_zero Go.wp_at_succ
theorem grtS_snoc (xs : List Int) (x : Int) : grtS (xs ++ [x]) = max (grtS xs) x := by unfold grtS; rw [List.foldl_append]; rfl
def grRel (xs : List Int) (v i : Value) : Prop := ∃ m : Nat, m ≤ xs.length ∧ i = .int .i64 m ∧ v = .int .i64 (grtS (xs.take m))
set_option maxRecDepth 100000 in
theorem greatest_is {w : World} {v : Value} {xs : List Int} (hx : RdA w v xs) (hxl : xs.length ≤ 1000000) (hr : ∀ x ∈ xs, 0 ≤ x ∧ x < 1000) : Calls Try.prog 50 #[v] w fun e w' => e = .returned (.int .i64 (grtS xs)) ∧ w = w' := by
  obtain ⟨A, c, rfl, hc⟩ := RdA.form hx
  have HX := Lib.hid hx
  have HR := Lib.hid hr
  clear hx hr
  go_enter Try.func50, Try.ntmps50
  go_wp2_with fail
  go_loop [3, 8] (fun v i => grRel xs v i) (fun _ i => xs.length - (intOf i).toNat)
  case atStart => exact ⟨0, Nat.zero_le _, rfl, rfl⟩
  case round =>
    obtain ⟨m, hml, rfl, rfl⟩ := hrel
    by_cases hm : m < xs.length
    · have j4 : (0 : Int) ≤ (m : Int) := by omega
      have j5 : (m : Int) < (xs.length : Int) := by omega
      have j6 : decide ((m : Int) < (xs.length : Int)) = true := decide_eq_true j5
      obtain ⟨xb, xo, hbe, hxb, y0⟩ := RdA.piece HX.out hm
      subst hbe
      have HTK := Lib.hid (show grtS (xs.take (m + 1)) = max (grtS (xs.take m)) xs[m] by rw [List.take_succ_eq_append_getElem hm, grtS_snoc])
      have HRX := HR.out xs[m] (List.getElem_mem hm)
      obtain ⟨x, hx⟩ : ∃ x, xs[m] = x := ⟨_, rfl⟩
      rw [hx] at y0 HTK HRX
      obtain ⟨a, ha⟩ : ∃ a, grtS (xs.take m) = a := ⟨_, rfl⟩
      rw [ha] at HTK ⊢
      clear hx ha
      by_cases hax : a < x
      · have k1 : decide (a < x) = true := decide_eq_true hax
        have k2 : decide (x < a) = false := decide_eq_false (by omega)
        have k3 : ¬ x < a := by omega
        have k4 : decide (a ≤ x) = true := decide_eq_true (by omega)
        have k5 : decide (x ≤ a) = false := decide_eq_false (by omega)
        have k6 : ¬ x ≤ a := by omega
        have HM := Lib.hid (show max a x = x by omega)
        go_wp2_with fail
        go_round
        case rel => exact ⟨m + 1, by omega, by go_num, by rw [HTK.out, HM.out]⟩
        case measure => simp [intOf]; omega
      · have k1 : decide (a < x) = false := decide_eq_false hax
        have HM := Lib.hid (show max a x = a by omega)
        go_wp2_with fail
        go_round
        case rel => exact ⟨m + 1, by omega, by go_num, by rw [HTK.out, HM.out]⟩
        case measure => simp [intOf]; omega
    · have j6 : decide ((m : Int) < (xs.length : Int)) = false := decide_eq_false (by omega)
      have HE := Lib.hid (show xs.take m = xs from List.take_of_length_le (by omega))
      rw [HE.out]
      go_wp2_with fail
      go_ret
      exact ⟨rfl, rfl⟩
end Go.Proofs.Ytmjkcanjfjfkfaa
