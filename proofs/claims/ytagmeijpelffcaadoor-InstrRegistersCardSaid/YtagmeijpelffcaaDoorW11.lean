/- Equality of instructions and of four bytes; contracts spelt for the laws. -/
import Derived.Test.YtagmeijpelffcaaDoorW7
import Derived.Laws.StructEq
namespace Go.Proofs.YtagmeijpelffcaaDoor
open Go.RowKit
set_option linter.unusedSimpArgs false
set_option linter.unusedVariables false
theorem eq23 (a b c d a' b' c' d' : Int) (w : World) : (Op.equalIn 10000 23 (.agg #[.int .i64 a, .int .i64 b, .int .i64 c, .int .i64 d]) (.agg #[.int .i64 a', .int .i64 b', .int .i64 c', .int .i64 d'])).run Tryd.prog w = .ok (a == a' && b == b' && c == c' && d == d') w := by
  have u3 := Tryd.underlying3
  have a3 := Tryd.isAgg3
  have z3 := Tryd.sizeOf3
  have hS : Tryd.prog.underlying 23 = some (.struct (Tryd.prog.fieldsOf 23)) := by kernel_rfl
  have hp : Tryd.prog.stoodInHeld 23 = false := by kernel_rfl
  rw [show (10000 : Nat) = 9999 + 1 from rfl, run_equalIn_agg w 9999 23 _ _ hS hp]
  simp only [Program.fieldsOf, Tryd.underlying23]
  go_simp
  by_cases h1 : a = a' <;> by_cases h2 : b = b' <;> by_cases h3 : c = c' <;> by_cases h4 : d = d' <;> simp [h1, h2, h3, h4]
theorem eq41 (a b c d a' b' c' d' : Int) (w : World) : (Op.equalIn 10000 41 (.agg #[.int .u8 a, .int .u8 b, .int .u8 c, .int .u8 d]) (.agg #[.int .u8 a', .int .u8 b', .int .u8 c', .int .u8 d'])).run Tryd.prog w = .ok (a == a' && b == b' && c == c' && d == d') w := by
  have u5 := Tryd.underlying5
  have a5 := Tryd.isAgg5
  have z5 := Tryd.sizeOf5
  rw [show (10000 : Nat) = 9999 + 1 from rfl, Op.equalIn]
  simp only [Sem.run_bind, run_underlying Tryd.underlying41, Result.andThen_ok]
  simp only [Std.Legacy.Range.forIn_eq_forIn_range', Std.Legacy.Range.size, Nat.sub_zero, Nat.add_sub_cancel, Nat.div_one, List.range'_succ, List.range'_zero, List.forIn_cons, List.forIn_nil]
  go_simp
  by_cases h1 : a = a' <;> by_cases h2 : b = b' <;> by_cases h3 : c = c' <;> by_cases h4 : d = d' <;> simp [h1, h2, h3, h4]
theorem eql23_same (a b c d : Int) (w : World) : (binOp .eql 23 (.agg #[.int .i64 a, .int .i64 b, .int .i64 c, .int .i64 d]) (.agg #[.int .i64 a, .int .i64 b, .int .i64 c, .int .i64 d])).run Tryd.prog w = .ok (.bool true) w := by
  rw [run_eql_struct, eq23]; simp [Result.andThen]
theorem neq23_same (a b c d : Int) (w : World) : (binOp .neq 23 (.agg #[.int .i64 a, .int .i64 b, .int .i64 c, .int .i64 d]) (.agg #[.int .i64 a, .int .i64 b, .int .i64 c, .int .i64 d])).run Tryd.prog w = .ok (.bool false) w := by
  rw [run_neq_struct, eq23]; simp [Result.andThen]
theorem eql41_same (a b c d : Int) (w : World) : (binOp .eql 41 (.agg #[.int .u8 a, .int .u8 b, .int .u8 c, .int .u8 d]) (.agg #[.int .u8 a, .int .u8 b, .int .u8 c, .int .u8 d])).run Tryd.prog w = .ok (.bool true) w := by
  rw [run_eql_struct, eq41]; simp [Result.andThen]
theorem neq41_same (a b c d : Int) (w : World) : (binOp .neq 41 (.agg #[.int .u8 a, .int .u8 b, .int .u8 c, .int .u8 d]) (.agg #[.int .u8 a, .int .u8 b, .int .u8 c, .int .u8 d])).run Tryd.prog w = .ok (.bool false) w := by
  rw [run_neq_struct, eq41]; simp [Result.andThen]
/-- Four cells of a block hold four values. -/
def At4 (w : World) (b : Nat) (v0 v1 v2 v3 : Value) : Prop := b < w.heap.size ∧ w.cell? ⟨b, 0, none⟩ = some v0 ∧ w.cell? ⟨b, 1, none⟩ = some v1 ∧ w.cell? ⟨b, 2, none⟩ = some v2 ∧ w.cell? ⟨b, 3, none⟩ = some v3
theorem At4.new (w : World) (v0 v1 v2 v3 : Value) (t : TypeId) : At4 (w.alloc (.cells #[v0, v1, v2, v3] t)) w.heap.size v0 v1 v2 v3 := by
  refine ⟨by simp, ?_, ?_, ?_, ?_⟩ <;> simp [go_sem]
theorem At4.next {w w' : World} {b : Nat} {v0 v1 v2 v3 : Value} (h : At4 w b v0 v1 v2 v3) (hb : Below w.heap.size w w') : At4 w' b v0 v1 v2 v3 := by
  obtain ⟨hc, _⟩ := bcell hb
  obtain ⟨h0, h1, h2, h3, h4⟩ := h
  exact ⟨Nat.lt_of_lt_of_le h0 hb.size, by rw [hc _ _ h0]; exact h1, by rw [hc _ _ h0]; exact h2, by rw [hc _ _ h0]; exact h3, by rw [hc _ _ h0]; exact h4⟩
theorem At4.alloc {w : World} {b : Nat} {v0 v1 v2 v3 : Value} (h : At4 w b v0 v1 v2 v3) (o : Obj) : At4 (w.alloc o) b v0 v1 v2 v3 := h.next ((Below.refl _ _).alloc (Nat.le_refl _) _)
theorem bnext {w w1 w2 : World} (h : Below w.heap.size w w1) (hb : Below w1.heap.size w1 w2) : Below w.heap.size w w2 := h.trans (hb.mono h.size)
theorem balloc {w w1 : World} (h : Below w.heap.size w w1) (o : Obj) : Below w.heap.size w (w1.alloc o) := h.alloc h.size o
end Go.Proofs.YtagmeijpelffcaaDoor
