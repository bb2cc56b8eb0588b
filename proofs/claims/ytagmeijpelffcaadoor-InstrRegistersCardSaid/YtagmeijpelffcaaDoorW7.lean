/- Walks of layer 16: known. -/
import Derived.Test.YtagmeijpelffcaaDoorW4
import Derived.Test.YtagmeijpelffcaaDoorW6
namespace Go.Proofs.YtagmeijpelffcaaDoor
open Go.RowKit
set_option linter.unusedSimpArgs false
set_option linter.unusedVariables false
theorem calc_is (op x y r e : Int) (w : World) (h0 : 0 ≤ x) (h1 : x < 4294967296) (h2 : 0 ≤ y) (h3 : y < 4294967296) (h : calcR op x y = (r, e)) :
    Calls Tryd.prog 17 #[.int .i64 op, .int .u32 x, .int .u32 y] w fun en w' => en = .returned (.tuple #[.int .u32 r, .int .i64 e]) ∧ Below w.heap.size w w' := by
  have := calc_any op x y w h0 h1 h2 h3
  rw [h] at this
  exact this
theorem encode_known (w : World) (ho : OpsAt w) :
    Calls Tryd.prog 23 #[.agg #[.int .i64 16, .int .i64 2, .int .i64 1, .int .i64 (-2)]] w fun e w' => e = .returned (.tuple #[.agg #[.int .u8 16, .int .u8 33, .int .u8 254, .int .u8 255], .int .i64 0]) ∧ Below w.heap.size w w' :=
  encode_ok 16 2 1 (-2) w ho (by decide)
theorem known_any (w : World) (ho : OpsAt w) : Calls Tryd.prog 13 #[] w fun e w' => e = .returned (.bool true) ∧ Below w.heap.size w w' := by
  have heq : ∀ w, (binOp .eql 41 (.agg #[.int .u8 16, .int .u8 33, .int .u8 254, .int .u8 255]) (.agg #[.int .u8 16, .int .u8 33, .int .u8 254, .int .u8 255])).run Tryd.prog w = .ok (.bool true) w := fun _ => by kernel_rfl
  go_enter Tryd.func13, Tryd.ntmps13
  go_wp2_with fail
  refine (encode_known _ ho).mono ?_
  rintro e w1 ⟨rfl, b1⟩
  go_wp2_with (first | (go_at_call 20; refine (unsigned_any _ _).mono ?_; rintro e w' ⟨rfl, rfl⟩))
  refine (calc_is 7 4294967289 2 4294967293 0 _ (by omega) (by omega) (by omega) (by omega) (by decide)).mono ?_
  rintro e w2 ⟨rfl, b2⟩
  go_wp2_with (first | (go_at_call 20; refine (unsigned_any _ _).mono ?_; rintro e w' ⟨rfl, rfl⟩))
  refine (calc_is 8 4294967289 2 4294967295 0 _ (by omega) (by omega) (by omega) (by omega) (by decide)).mono ?_
  rintro e w3 ⟨rfl, b3⟩
  go_wp2_with (first | (go_at_call 20; refine (unsigned_any _ _).mono ?_; rintro e w' ⟨rfl, rfl⟩))
  refine (calc_is 7 2147483648 4294967295 2147483648 0 _ (by omega) (by omega) (by omega) (by omega) (by decide)).mono ?_
  rintro e w4 ⟨rfl, b4⟩
  have B := b2.trans ((b3.mono b2.size).trans (b4.mono (Nat.le_trans b2.size b3.size)))
  have C := b1.trans (below1 B |>.mono b1.size)
  obtain ⟨hc, hf⟩ := bcell B
  clear b1 b2 b3 b4 B
  go_wp2_with (first | (go_at_call 19; refine (signed_any _ _ (by omega) (by omega)).mono ?_; rintro e w' ⟨rfl, rfl⟩))
  go_ret
  exact ⟨rfl, C⟩
end Go.Proofs.YtagmeijpelffcaaDoor
