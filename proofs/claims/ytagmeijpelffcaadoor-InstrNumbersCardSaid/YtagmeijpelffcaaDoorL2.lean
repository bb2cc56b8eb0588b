/- The laws InstrCalculates and InstrNumbers, walked. -/
import Derived.Test.YtagmeijpelffcaaDoorW10
namespace Go.Proofs.YtagmeijpelffcaaDoor
open Go.RowKit
set_option linter.unusedSimpArgs false
set_option linter.unusedVariables false
theorem refCalc_is (op x y r e : Int) (w : World) (h0 : 0 ≤ x) (h1 : x < 4294967296) (h2 : 0 ≤ y) (h3 : y < 4294967296) (h : calcR op x y = (r, e)) :
    Calls Tryd.prog 18 #[.int .i64 op, .int .u32 x, .int .u32 y] w fun en w' => en = .returned (.tuple #[.int .u32 r, .int .i64 e]) ∧ w = w' := by
  have := refCalc_any op x y w h0 h1 h2 h3
  rw [h] at this
  exact this
theorem calculates_walk (op x y : Int) (w : World) (ho : OpsAt w) (h0 : 0 ≤ x) (h1 : x < 4294967296) (h2 : 0 ≤ y) (h3 : y < 4294967296) :
    Calls Tryd.prog 4 #[.int .i64 op, .int .u32 x, .int .u32 y] w fun e w' => e = .returned (.bool true) ∧ Below w.heap.size w w' := by
  obtain ⟨r, d, hr⟩ : ∃ r d, calcR op x y = (r, d) := ⟨_, _, rfl⟩
  have HR := Lib.hid hr
  clear hr
  go_enter Tryd.func4, Tryd.ntmps4
  go_wp2_with fail
  refine (known_any _ ho).mono ?_
  rintro e w1 ⟨rfl, b1⟩
  go_wp2_with fail
  refine (calc_is _ _ _ r d _ h0 h1 h2 h3 HR.out).mono ?_
  rintro e w2 ⟨rfl, b2⟩
  go_wp2_with fail
  refine (refCalc_is _ _ _ r d _ h0 h1 h2 h3 HR.out).mono ?_
  rintro e w3 ⟨rfl, rfl⟩
  go_wp2
  go_ret
  exact ⟨rfl, b1.trans (b2.mono b1.size)⟩
theorem numbers_walk (x n : Int) (w : World) (ho : OpsAt w) (h0 : 0 ≤ x) (h1 : x < 4294967296) :
    Calls Tryd.prog 6 #[.int .u32 x, .int .i64 n] w fun e w' => e = .returned (.bool true) ∧ Below w.heap.size w w' := by
  go_enter Tryd.func6, Tryd.ntmps6
  go_wp2_with (first | (go_at_call 13; refine (known_any _ ho).mono ?_; rintro e w1 ⟨rfl, b1⟩) | (go_at_call 19; refine (signed_any _ _ h0 h1).mono ?_; rintro e w' ⟨rfl, rfl⟩) | (go_at_call 21; refine (refSigned_any _ _ h0 h1).mono ?_; rintro e w' ⟨rfl, rfl⟩) | (go_at_call 20; refine (unsigned_any _ _).mono ?_; rintro e w' ⟨rfl, rfl⟩) | (go_at_call 22; refine (refUnsigned_any _ _).mono ?_; rintro e w' ⟨rfl, rfl⟩))
  go_ret
  exact ⟨rfl, b1⟩
end Go.Proofs.YtagmeijpelffcaaDoor
