/- Walks of layer 16: Signed, Unsigned, the twelve functions of the table, Calculate: each returns what the plain function says. -/
import Derived.Test.YtagmeijpelffcaaDoorW3
namespace Go.Proofs.YtagmeijpelffcaaDoor
open Go.RowKit
set_option linter.unusedSimpArgs false
set_option linter.unusedVariables false
/-- The signed number of a word. -/
def sgn (x : Int) : Int := if x < 2147483648 then x else x - 4294967296
theorem sgn_wrap (x : Int) (h0 : 0 ≤ x) (h1 : x < 4294967296) : wrap64 (wrap32 x) = sgn x := by
  unfold wrap64 wrap32 sgn; split <;> omega
theorem sgn_bd (x : Int) (h0 : 0 ≤ x) (h1 : x < 4294967296) : -2147483648 ≤ sgn x ∧ sgn x < 2147483648 := by unfold sgn; split <;> omega
theorem sgn_zero (x : Int) (h0 : 0 ≤ x) (h1 : x < 4294967296) : sgn x = 0 ↔ x = 0 := by unfold sgn; split <;> omega
theorem tdiv_bd (a b : Int) (h0 : -2147483648 ≤ a) (h1 : a < 2147483648) : -2147483648 ≤ a.tdiv b ∧ a.tdiv b ≤ 2147483648 := by
  have h : (a.tdiv b).natAbs = a.natAbs / b.natAbs := Int.natAbs_tdiv a b
  have h' : a.natAbs / b.natAbs ≤ a.natAbs := Nat.div_le_self _ _
  generalize a.natAbs / b.natAbs = d at *
  generalize a.tdiv b = q at *
  omega
theorem wrap_tdiv (a b : Int) (h0 : -2147483648 ≤ a) (h1 : a < 2147483648) : wrap64 (a.tdiv b) = a.tdiv b := by
  have := tdiv_bd a b h0 h1
  generalize a.tdiv b = q at *
  unfold wrap64; omega
def calcV (op x y : Int) : Int :=
  if op = 4 then (x + y) % 4294967296
  else if op = 5 then (x - y) % 4294967296
  else if op = 6 then x * y % 4294967296
  else if op = 7 then (sgn x).tdiv (sgn y) % 4294967296
  else if op = 8 then (sgn x).tmod (sgn y) % 4294967296
  else if op = 9 then bits .and .u32 x y
  else if op = 10 then bits .or .u32 x y
  else if op = 11 then bits .xor .u32 x y
  else if op = 12 then x * 2 ^ (y % 32).toNat % 4294967296
  else if op = 13 then x / 2 ^ (y % 32).toNat
  else if op = 14 then (if sgn x < sgn y then 1 else 0)
  else (if x = y then 1 else 0)
theorem signed_any (x : Int) (w : World) (h0 : 0 ≤ x) (h1 : x < 4294967296) :
    Calls Tryd.prog 19 #[.int .u32 x] w fun e w' => e = .returned (.int .i64 (sgn x)) ∧ w = w' := by
  have hx := Lib.hid (sgn_wrap x h0 h1)
  go_enter Tryd.func19, Tryd.ntmps19
  go_wp2
  go_ret
  exact ⟨ret_int hx.out, rfl⟩
theorem unsigned_any (x : Int) (w : World) :
    Calls Tryd.prog 20 #[.int .i64 x] w fun e w' => e = .returned (.int .u32 (x % 4294967296)) ∧ w = w' := by
  go_enter Tryd.func20, Tryd.ntmps20
  go_wp2
  go_ret
  exact ⟨rfl, rfl⟩
theorem truth_true (w : World) : Calls Tryd.prog 70 #[.bool true] w fun e w' => e = .returned (.int .u32 1) ∧ w = w' := by
  go_enter Tryd.func70, Tryd.ntmps70
  go_wp2
  go_ret
  exact ⟨rfl, rfl⟩
theorem truth_false (w : World) : Calls Tryd.prog 70 #[.bool false] w fun e w' => e = .returned (.int .u32 0) ∧ w = w' := by
  go_enter Tryd.func70, Tryd.ntmps70
  go_wp2
  go_ret
  exact ⟨rfl, rfl⟩
theorem truth_any (b : Bool) (w : World) : Calls Tryd.prog 70 #[.bool b] w fun e w' => e = .returned (.int .u32 (if b = true then 1 else 0)) ∧ w = w' := by
  cases b
  · exact truth_false w
  · exact truth_true w
theorem fn_4 (x y : Int) (w : World) (h0 : 0 ≤ x) (h1 : x < 4294967296) (h2 : 0 ≤ y) (h3 : y < 4294967296) :
    Calls Tryd.prog 59 #[.int .u32 x, .int .u32 y] w fun e w' => e = .returned (.int .u32 (calcV 4 x y)) ∧ w = w' := by
  go_enter Tryd.func59, Tryd.ntmps59
  go_wp2_with (fail)
  all_goals
    go_ret
    exact ⟨ret_int (rfl), rfl⟩
theorem calc_4 (x y : Int) (w : World) (h0 : 0 ≤ x) (h1 : x < 4294967296) (h2 : 0 ≤ y) (h3 : y < 4294967296) :
    Calls Tryd.prog 17 #[.int .i64 4, .int .u32 x, .int .u32 y] w fun e w' => e = .returned (.tuple #[.int .u32 (calcV 4 x y), .int .i64 0]) ∧ Below w.heap.size w w' := by
  have hl := look_in 0 (by decide) w.heap.size (w.alloc (.map (ents 12) 12)) (MapKept.heap_alloc w _).1
  simp [fnumL] at hl
  go_enter Tryd.func17, Tryd.ntmps17
  go_wp2_with (first | (go_at_call 54; refine (arith_any _).mono ?_; rintro e w' ⟨rfl, rfl⟩) | (go_at_call 59; refine (fn_4 _ _ _ h0 h1 h2 h3).mono ?_; rintro e w' ⟨rfl, rfl⟩))
  go_ret2
  exact ⟨rfl, (Below.refl _ _).alloc (Nat.le_refl _) _⟩
theorem fn_5 (x y : Int) (w : World) (h0 : 0 ≤ x) (h1 : x < 4294967296) (h2 : 0 ≤ y) (h3 : y < 4294967296) :
    Calls Tryd.prog 60 #[.int .u32 x, .int .u32 y] w fun e w' => e = .returned (.int .u32 (calcV 5 x y)) ∧ w = w' := by
  go_enter Tryd.func60, Tryd.ntmps60
  go_wp2_with (fail)
  all_goals
    go_ret
    exact ⟨ret_int (rfl), rfl⟩
theorem calc_5 (x y : Int) (w : World) (h0 : 0 ≤ x) (h1 : x < 4294967296) (h2 : 0 ≤ y) (h3 : y < 4294967296) :
    Calls Tryd.prog 17 #[.int .i64 5, .int .u32 x, .int .u32 y] w fun e w' => e = .returned (.tuple #[.int .u32 (calcV 5 x y), .int .i64 0]) ∧ Below w.heap.size w w' := by
  have hl := look_in 1 (by decide) w.heap.size (w.alloc (.map (ents 12) 12)) (MapKept.heap_alloc w _).1
  simp [fnumL] at hl
  go_enter Tryd.func17, Tryd.ntmps17
  go_wp2_with (first | (go_at_call 54; refine (arith_any _).mono ?_; rintro e w' ⟨rfl, rfl⟩) | (go_at_call 60; refine (fn_5 _ _ _ h0 h1 h2 h3).mono ?_; rintro e w' ⟨rfl, rfl⟩))
  go_ret2
  exact ⟨rfl, (Below.refl _ _).alloc (Nat.le_refl _) _⟩
theorem fn_6 (x y : Int) (w : World) (h0 : 0 ≤ x) (h1 : x < 4294967296) (h2 : 0 ≤ y) (h3 : y < 4294967296) :
    Calls Tryd.prog 61 #[.int .u32 x, .int .u32 y] w fun e w' => e = .returned (.int .u32 (calcV 6 x y)) ∧ w = w' := by
  go_enter Tryd.func61, Tryd.ntmps61
  go_wp2_with (fail)
  all_goals
    go_ret
    exact ⟨ret_int (rfl), rfl⟩
theorem calc_6 (x y : Int) (w : World) (h0 : 0 ≤ x) (h1 : x < 4294967296) (h2 : 0 ≤ y) (h3 : y < 4294967296) :
    Calls Tryd.prog 17 #[.int .i64 6, .int .u32 x, .int .u32 y] w fun e w' => e = .returned (.tuple #[.int .u32 (calcV 6 x y), .int .i64 0]) ∧ Below w.heap.size w w' := by
  have hl := look_in 2 (by decide) w.heap.size (w.alloc (.map (ents 12) 12)) (MapKept.heap_alloc w _).1
  simp [fnumL] at hl
  go_enter Tryd.func17, Tryd.ntmps17
  go_wp2_with (first | (go_at_call 54; refine (arith_any _).mono ?_; rintro e w' ⟨rfl, rfl⟩) | (go_at_call 61; refine (fn_6 _ _ _ h0 h1 h2 h3).mono ?_; rintro e w' ⟨rfl, rfl⟩))
  go_ret2
  exact ⟨rfl, (Below.refl _ _).alloc (Nat.le_refl _) _⟩
theorem fn_7 (x y : Int) (w : World) (h0 : 0 ≤ x) (h1 : x < 4294967296) (h2 : 0 < y) (h3 : y < 4294967296) :
    Calls Tryd.prog 62 #[.int .u32 x, .int .u32 y] w fun e w' => e = .returned (.int .u32 (calcV 7 x y)) ∧ w = w' := by
  obtain ⟨a1, a2⟩ := sgn_bd x h0 h1
  obtain ⟨b1, b2⟩ := sgn_bd y (by omega) h3
  have hz : ¬ sgn y = 0 := by rw [sgn_zero y (by omega) h3]; omega
  have hq := Lib.hid (wrap_tdiv (sgn x) (sgn y) a1 a2)
  go_enter Tryd.func62, Tryd.ntmps62
  go_wp2_with (first | (go_at_call 19; refine (signed_any _ _ (by omega) (by omega)).mono ?_; rintro e w' ⟨rfl, rfl⟩) | (go_at_call 20; refine (unsigned_any _ _).mono ?_; rintro e w' ⟨rfl, rfl⟩))
  all_goals
    go_ret
    exact ⟨ret_int (by rw [hq.out]; rfl), rfl⟩
theorem calc_7 (x y : Int) (w : World) (h0 : 0 ≤ x) (h1 : x < 4294967296) (h2 : 0 < y) (h3 : y < 4294967296) :
    Calls Tryd.prog 17 #[.int .i64 7, .int .u32 x, .int .u32 y] w fun e w' => e = .returned (.tuple #[.int .u32 (calcV 7 x y), .int .i64 0]) ∧ Below w.heap.size w w' := by
  have hl := look_in 3 (by decide) w.heap.size (w.alloc (.map (ents 12) 12)) (MapKept.heap_alloc w _).1
  simp [fnumL] at hl
  have hy0 : (y == 0) = false := by simp; omega
  go_enter Tryd.func17, Tryd.ntmps17
  go_wp2_with (first | (go_at_call 54; refine (arith_any _).mono ?_; rintro e w' ⟨rfl, rfl⟩) | (go_at_call 62; refine (fn_7 _ _ _ h0 h1 h2 h3).mono ?_; rintro e w' ⟨rfl, rfl⟩))
  go_ret2
  exact ⟨rfl, (Below.refl _ _).alloc (Nat.le_refl _) _⟩
theorem calc_7zero (x : Int) (w : World) (h0 : 0 ≤ x) (h1 : x < 4294967296) :
    Calls Tryd.prog 17 #[.int .i64 7, .int .u32 x, .int .u32 0] w fun e w' => e = .returned (.tuple #[.int .u32 0, .int .i64 38]) ∧ Below w.heap.size w w' := by
  have hl := look_in 3 (by decide) w.heap.size (w.alloc (.map (ents 12) 12)) (MapKept.heap_alloc w _).1
  simp [fnumL] at hl
  go_enter Tryd.func17, Tryd.ntmps17
  go_wp2_with (first | (go_at_call 54; refine (arith_any _).mono ?_; rintro e w' ⟨rfl, rfl⟩))
  go_ret2
  exact ⟨rfl, (Below.refl _ _).alloc (Nat.le_refl _) _⟩
theorem fn_8 (x y : Int) (w : World) (h0 : 0 ≤ x) (h1 : x < 4294967296) (h2 : 0 < y) (h3 : y < 4294967296) :
    Calls Tryd.prog 63 #[.int .u32 x, .int .u32 y] w fun e w' => e = .returned (.int .u32 (calcV 8 x y)) ∧ w = w' := by
  obtain ⟨a1, a2⟩ := sgn_bd x h0 h1
  obtain ⟨b1, b2⟩ := sgn_bd y (by omega) h3
  have hz : ¬ sgn y = 0 := by rw [sgn_zero y (by omega) h3]; omega
  go_enter Tryd.func63, Tryd.ntmps63
  go_wp2_with (first | (go_at_call 19; refine (signed_any _ _ (by omega) (by omega)).mono ?_; rintro e w' ⟨rfl, rfl⟩) | (go_at_call 20; refine (unsigned_any _ _).mono ?_; rintro e w' ⟨rfl, rfl⟩))
  all_goals
    go_ret
    exact ⟨ret_int (rfl), rfl⟩
theorem calc_8 (x y : Int) (w : World) (h0 : 0 ≤ x) (h1 : x < 4294967296) (h2 : 0 < y) (h3 : y < 4294967296) :
    Calls Tryd.prog 17 #[.int .i64 8, .int .u32 x, .int .u32 y] w fun e w' => e = .returned (.tuple #[.int .u32 (calcV 8 x y), .int .i64 0]) ∧ Below w.heap.size w w' := by
  have hl := look_in 4 (by decide) w.heap.size (w.alloc (.map (ents 12) 12)) (MapKept.heap_alloc w _).1
  simp [fnumL] at hl
  have hy0 : (y == 0) = false := by simp; omega
  go_enter Tryd.func17, Tryd.ntmps17
  go_wp2_with (first | (go_at_call 54; refine (arith_any _).mono ?_; rintro e w' ⟨rfl, rfl⟩) | (go_at_call 63; refine (fn_8 _ _ _ h0 h1 h2 h3).mono ?_; rintro e w' ⟨rfl, rfl⟩))
  go_ret2
  exact ⟨rfl, (Below.refl _ _).alloc (Nat.le_refl _) _⟩
theorem calc_8zero (x : Int) (w : World) (h0 : 0 ≤ x) (h1 : x < 4294967296) :
    Calls Tryd.prog 17 #[.int .i64 8, .int .u32 x, .int .u32 0] w fun e w' => e = .returned (.tuple #[.int .u32 0, .int .i64 38]) ∧ Below w.heap.size w w' := by
  have hl := look_in 4 (by decide) w.heap.size (w.alloc (.map (ents 12) 12)) (MapKept.heap_alloc w _).1
  simp [fnumL] at hl
  go_enter Tryd.func17, Tryd.ntmps17
  go_wp2_with (first | (go_at_call 54; refine (arith_any _).mono ?_; rintro e w' ⟨rfl, rfl⟩))
  go_ret2
  exact ⟨rfl, (Below.refl _ _).alloc (Nat.le_refl _) _⟩
theorem fn_9 (x y : Int) (w : World) (h0 : 0 ≤ x) (h1 : x < 4294967296) (h2 : 0 ≤ y) (h3 : y < 4294967296) :
    Calls Tryd.prog 64 #[.int .u32 x, .int .u32 y] w fun e w' => e = .returned (.int .u32 (calcV 9 x y)) ∧ w = w' := by
  go_enter Tryd.func64, Tryd.ntmps64
  go_wp2_with (fail)
  all_goals
    go_ret
    exact ⟨ret_int (rfl), rfl⟩
theorem calc_9 (x y : Int) (w : World) (h0 : 0 ≤ x) (h1 : x < 4294967296) (h2 : 0 ≤ y) (h3 : y < 4294967296) :
    Calls Tryd.prog 17 #[.int .i64 9, .int .u32 x, .int .u32 y] w fun e w' => e = .returned (.tuple #[.int .u32 (calcV 9 x y), .int .i64 0]) ∧ Below w.heap.size w w' := by
  have hl := look_in 5 (by decide) w.heap.size (w.alloc (.map (ents 12) 12)) (MapKept.heap_alloc w _).1
  simp [fnumL] at hl
  go_enter Tryd.func17, Tryd.ntmps17
  go_wp2_with (first | (go_at_call 54; refine (arith_any _).mono ?_; rintro e w' ⟨rfl, rfl⟩) | (go_at_call 64; refine (fn_9 _ _ _ h0 h1 h2 h3).mono ?_; rintro e w' ⟨rfl, rfl⟩))
  go_ret2
  exact ⟨rfl, (Below.refl _ _).alloc (Nat.le_refl _) _⟩
theorem fn_10 (x y : Int) (w : World) (h0 : 0 ≤ x) (h1 : x < 4294967296) (h2 : 0 ≤ y) (h3 : y < 4294967296) :
    Calls Tryd.prog 65 #[.int .u32 x, .int .u32 y] w fun e w' => e = .returned (.int .u32 (calcV 10 x y)) ∧ w = w' := by
  go_enter Tryd.func65, Tryd.ntmps65
  go_wp2_with (fail)
  all_goals
    go_ret
    exact ⟨ret_int (rfl), rfl⟩
theorem calc_10 (x y : Int) (w : World) (h0 : 0 ≤ x) (h1 : x < 4294967296) (h2 : 0 ≤ y) (h3 : y < 4294967296) :
    Calls Tryd.prog 17 #[.int .i64 10, .int .u32 x, .int .u32 y] w fun e w' => e = .returned (.tuple #[.int .u32 (calcV 10 x y), .int .i64 0]) ∧ Below w.heap.size w w' := by
  have hl := look_in 6 (by decide) w.heap.size (w.alloc (.map (ents 12) 12)) (MapKept.heap_alloc w _).1
  simp [fnumL] at hl
  go_enter Tryd.func17, Tryd.ntmps17
  go_wp2_with (first | (go_at_call 54; refine (arith_any _).mono ?_; rintro e w' ⟨rfl, rfl⟩) | (go_at_call 65; refine (fn_10 _ _ _ h0 h1 h2 h3).mono ?_; rintro e w' ⟨rfl, rfl⟩))
  go_ret2
  exact ⟨rfl, (Below.refl _ _).alloc (Nat.le_refl _) _⟩
theorem fn_11 (x y : Int) (w : World) (h0 : 0 ≤ x) (h1 : x < 4294967296) (h2 : 0 ≤ y) (h3 : y < 4294967296) :
    Calls Tryd.prog 66 #[.int .u32 x, .int .u32 y] w fun e w' => e = .returned (.int .u32 (calcV 11 x y)) ∧ w = w' := by
  go_enter Tryd.func66, Tryd.ntmps66
  go_wp2_with (fail)
  all_goals
    go_ret
    exact ⟨ret_int (rfl), rfl⟩
theorem calc_11 (x y : Int) (w : World) (h0 : 0 ≤ x) (h1 : x < 4294967296) (h2 : 0 ≤ y) (h3 : y < 4294967296) :
    Calls Tryd.prog 17 #[.int .i64 11, .int .u32 x, .int .u32 y] w fun e w' => e = .returned (.tuple #[.int .u32 (calcV 11 x y), .int .i64 0]) ∧ Below w.heap.size w w' := by
  have hl := look_in 7 (by decide) w.heap.size (w.alloc (.map (ents 12) 12)) (MapKept.heap_alloc w _).1
  simp [fnumL] at hl
  go_enter Tryd.func17, Tryd.ntmps17
  go_wp2_with (first | (go_at_call 54; refine (arith_any _).mono ?_; rintro e w' ⟨rfl, rfl⟩) | (go_at_call 66; refine (fn_11 _ _ _ h0 h1 h2 h3).mono ?_; rintro e w' ⟨rfl, rfl⟩))
  go_ret2
  exact ⟨rfl, (Below.refl _ _).alloc (Nat.le_refl _) _⟩
theorem fn_12 (x y : Int) (w : World) (h0 : 0 ≤ x) (h1 : x < 4294967296) (h2 : 0 ≤ y) (h3 : y < 4294967296) :
    Calls Tryd.prog 67 #[.int .u32 x, .int .u32 y] w fun e w' => e = .returned (.int .u32 (calcV 12 x y)) ∧ w = w' := by
  go_enter Tryd.func67, Tryd.ntmps67
  go_wp2_with (fail)
  all_goals
    go_ret
    exact ⟨ret_int (rfl), rfl⟩
theorem calc_12 (x y : Int) (w : World) (h0 : 0 ≤ x) (h1 : x < 4294967296) (h2 : 0 ≤ y) (h3 : y < 4294967296) :
    Calls Tryd.prog 17 #[.int .i64 12, .int .u32 x, .int .u32 y] w fun e w' => e = .returned (.tuple #[.int .u32 (calcV 12 x y), .int .i64 0]) ∧ Below w.heap.size w w' := by
  have hl := look_in 8 (by decide) w.heap.size (w.alloc (.map (ents 12) 12)) (MapKept.heap_alloc w _).1
  simp [fnumL] at hl
  go_enter Tryd.func17, Tryd.ntmps17
  go_wp2_with (first | (go_at_call 54; refine (arith_any _).mono ?_; rintro e w' ⟨rfl, rfl⟩) | (go_at_call 67; refine (fn_12 _ _ _ h0 h1 h2 h3).mono ?_; rintro e w' ⟨rfl, rfl⟩))
  go_ret2
  exact ⟨rfl, (Below.refl _ _).alloc (Nat.le_refl _) _⟩
theorem fn_13 (x y : Int) (w : World) (h0 : 0 ≤ x) (h1 : x < 4294967296) (h2 : 0 ≤ y) (h3 : y < 4294967296) :
    Calls Tryd.prog 68 #[.int .u32 x, .int .u32 y] w fun e w' => e = .returned (.int .u32 (calcV 13 x y)) ∧ w = w' := by
  go_enter Tryd.func68, Tryd.ntmps68
  go_wp2_with (fail)
  all_goals
    go_ret
    exact ⟨ret_int (rfl), rfl⟩
theorem calc_13 (x y : Int) (w : World) (h0 : 0 ≤ x) (h1 : x < 4294967296) (h2 : 0 ≤ y) (h3 : y < 4294967296) :
    Calls Tryd.prog 17 #[.int .i64 13, .int .u32 x, .int .u32 y] w fun e w' => e = .returned (.tuple #[.int .u32 (calcV 13 x y), .int .i64 0]) ∧ Below w.heap.size w w' := by
  have hl := look_in 9 (by decide) w.heap.size (w.alloc (.map (ents 12) 12)) (MapKept.heap_alloc w _).1
  simp [fnumL] at hl
  go_enter Tryd.func17, Tryd.ntmps17
  go_wp2_with (first | (go_at_call 54; refine (arith_any _).mono ?_; rintro e w' ⟨rfl, rfl⟩) | (go_at_call 68; refine (fn_13 _ _ _ h0 h1 h2 h3).mono ?_; rintro e w' ⟨rfl, rfl⟩))
  go_ret2
  exact ⟨rfl, (Below.refl _ _).alloc (Nat.le_refl _) _⟩
theorem fn_14 (x y : Int) (w : World) (h0 : 0 ≤ x) (h1 : x < 4294967296) (h2 : 0 ≤ y) (h3 : y < 4294967296) :
    Calls Tryd.prog 69 #[.int .u32 x, .int .u32 y] w fun e w' => e = .returned (.int .u32 (calcV 14 x y)) ∧ w = w' := by
  obtain ⟨a1, a2⟩ := sgn_bd x h0 h1
  obtain ⟨b1, b2⟩ := sgn_bd y (by omega) h3
  go_enter Tryd.func69, Tryd.ntmps69
  go_wp2_with (first | (go_at_call 19; refine (signed_any _ _ (by omega) (by omega)).mono ?_; rintro e w' ⟨rfl, rfl⟩) | (go_at_call 70; refine (truth_any _ _).mono ?_; rintro e w' ⟨rfl, rfl⟩))
  all_goals
    go_ret
    exact ⟨ret_int (by first | (simp [calcV]; done) | (simp [calcV]; omega)), rfl⟩
theorem calc_14 (x y : Int) (w : World) (h0 : 0 ≤ x) (h1 : x < 4294967296) (h2 : 0 ≤ y) (h3 : y < 4294967296) :
    Calls Tryd.prog 17 #[.int .i64 14, .int .u32 x, .int .u32 y] w fun e w' => e = .returned (.tuple #[.int .u32 (calcV 14 x y), .int .i64 0]) ∧ Below w.heap.size w w' := by
  have hl := look_in 10 (by decide) w.heap.size (w.alloc (.map (ents 12) 12)) (MapKept.heap_alloc w _).1
  simp [fnumL] at hl
  go_enter Tryd.func17, Tryd.ntmps17
  go_wp2_with (first | (go_at_call 54; refine (arith_any _).mono ?_; rintro e w' ⟨rfl, rfl⟩) | (go_at_call 69; refine (fn_14 _ _ _ h0 h1 h2 h3).mono ?_; rintro e w' ⟨rfl, rfl⟩))
  go_ret2
  exact ⟨rfl, (Below.refl _ _).alloc (Nat.le_refl _) _⟩
theorem fn_15 (x y : Int) (w : World) (h0 : 0 ≤ x) (h1 : x < 4294967296) (h2 : 0 ≤ y) (h3 : y < 4294967296) :
    Calls Tryd.prog 71 #[.int .u32 x, .int .u32 y] w fun e w' => e = .returned (.int .u32 (calcV 15 x y)) ∧ w = w' := by
  go_enter Tryd.func71, Tryd.ntmps71
  go_wp2_with ((go_at_call 70; refine (truth_any _ _).mono ?_; rintro e w' ⟨rfl, rfl⟩))
  all_goals
    go_ret
    exact ⟨ret_int (by first | (simp [calcV]; done) | (simp [calcV]; omega)), rfl⟩
theorem calc_15 (x y : Int) (w : World) (h0 : 0 ≤ x) (h1 : x < 4294967296) (h2 : 0 ≤ y) (h3 : y < 4294967296) :
    Calls Tryd.prog 17 #[.int .i64 15, .int .u32 x, .int .u32 y] w fun e w' => e = .returned (.tuple #[.int .u32 (calcV 15 x y), .int .i64 0]) ∧ Below w.heap.size w w' := by
  have hl := look_in 11 (by decide) w.heap.size (w.alloc (.map (ents 12) 12)) (MapKept.heap_alloc w _).1
  simp [fnumL] at hl
  go_enter Tryd.func17, Tryd.ntmps17
  go_wp2_with (first | (go_at_call 54; refine (arith_any _).mono ?_; rintro e w' ⟨rfl, rfl⟩) | (go_at_call 71; refine (fn_15 _ _ _ h0 h1 h2 h3).mono ?_; rintro e w' ⟨rfl, rfl⟩))
  go_ret2
  exact ⟨rfl, (Below.refl _ _).alloc (Nat.le_refl _) _⟩
theorem calc_out (op x y : Int) (w : World) (h : op < 4 ∨ 16 ≤ op) :
    Calls Tryd.prog 17 #[.int .i64 op, .int .u32 x, .int .u32 y] w fun e w' => e = .returned (.tuple #[.int .u32 0, .int .i64 11]) ∧ Below w.heap.size w w' := by
  have hl := look_out op h w.heap.size (w.alloc (.map (ents 12) 12)) (MapKept.heap_alloc w _).1
  go_enter Tryd.func17, Tryd.ntmps17
  go_wp2_with (first | (go_at_call 54; refine (arith_any _).mono ?_; rintro e w' ⟨rfl, rfl⟩))
  go_ret2
  exact ⟨rfl, (Below.refl _ _).alloc (Nat.le_refl _) _⟩
/-- What Calculate returns: the word and the error. -/
def calcR (op x y : Int) : Int × Int :=
  if op < 4 ∨ 16 ≤ op then (0, 11) else if (op = 7 ∨ op = 8) ∧ y = 0 then (0, 38) else (calcV op x y, 0)
theorem calc_any (op x y : Int) (w : World) (h0 : 0 ≤ x) (h1 : x < 4294967296) (h2 : 0 ≤ y) (h3 : y < 4294967296) :
    Calls Tryd.prog 17 #[.int .i64 op, .int .u32 x, .int .u32 y] w fun e w' => e = .returned (.tuple #[.int .u32 (calcR op x y).1, .int .i64 (calcR op x y).2]) ∧ Below w.heap.size w w' := by
  unfold calcR
  split
  · exact calc_out op x y w (by assumption)
  split
  · rename_i h
    obtain ⟨h | h, h'⟩ := h
    · subst h; subst h'; exact calc_7zero x w h0 h1
    · subst h; subst h'; exact calc_8zero x w h0 h1
  · rename_i ha hb
    have hop : op = 4 ∨ op = 5 ∨ op = 6 ∨ op = 7 ∨ op = 8 ∨ op = 9 ∨ op = 10 ∨ op = 11 ∨ op = 12 ∨ op = 13 ∨ op = 14 ∨ op = 15 := by omega
    rcases hop with h | h | h | h | h | h | h | h | h | h | h | h
    · subst h; exact calc_4 x y w h0 h1 (by omega) h3
    · subst h; exact calc_5 x y w h0 h1 (by omega) h3
    · subst h; exact calc_6 x y w h0 h1 (by omega) h3
    · subst h; exact calc_7 x y w h0 h1 (by omega) h3
    · subst h; exact calc_8 x y w h0 h1 (by omega) h3
    · subst h; exact calc_9 x y w h0 h1 (by omega) h3
    · subst h; exact calc_10 x y w h0 h1 (by omega) h3
    · subst h; exact calc_11 x y w h0 h1 (by omega) h3
    · subst h; exact calc_12 x y w h0 h1 (by omega) h3
    · subst h; exact calc_13 x y w h0 h1 (by omega) h3
    · subst h; exact calc_14 x y w h0 h1 (by omega) h3
    · subst h; exact calc_15 x y w h0 h1 (by omega) h3
end Go.Proofs.YtagmeijpelffcaaDoor
