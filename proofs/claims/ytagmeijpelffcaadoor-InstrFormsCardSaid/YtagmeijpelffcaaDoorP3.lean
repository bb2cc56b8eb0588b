/- The table as one row of cells; looking a word up. -/
import Derived.Test.YtagmeijpelffcaaDoorP2
import Derived.Laws.Rows
namespace Go.Proofs.YtagmeijpelffcaaDoor
open Go.RowKit
set_option linter.unusedSimpArgs false
set_option linter.unusedVariables false
def rowV (k : Nat) : List Value := [.string (wordB k), .int .i64 (formI k), .int .i64 (lowI k), .int .i64 (highI k), .bool (usesB k), .bool (setsB k)]
def tabA : Array Value := ((List.range 27).flatMap rowV).toArray
def wordsA : Array Value := ((List.range 27).map fun k => Value.string (wordB k)).toArray
/-- The variable's whole row. -/
def TabAt (w : World) : Prop := ∃ t fr, w.heap[0]? = some (.cells tabA t fr)
theorem TabAt.below {B : Nat} {w w' : World} (h : TabAt w) (hb : Below B w w') (hB : 0 < B) : TabAt w' := by
  obtain ⟨t, fr, h⟩ := h
  exact ⟨t, fr, by rw [hb.block 0 hB]; exact h⟩
theorem TabAt.pos {w : World} (h : TabAt w) : 0 < w.heap.size := by
  obtain ⟨t, fr, h⟩ := h
  exact (Array.getElem?_eq_some_iff.1 h).1
theorem TabAt.next {w w' : World} (h : TabAt w) (hb : Below w.heap.size w w') : TabAt w' := h.below hb h.pos
theorem idx_0 (w : World) : (Instr.index 85 (.agg tabA) (.int .i64 0)).run Tryd.prog w = .ok (.agg (rowV 0).toArray) w := by kernel_rfl
theorem idx_1 (w : World) : (Instr.index 85 (.agg tabA) (.int .i64 1)).run Tryd.prog w = .ok (.agg (rowV 1).toArray) w := by kernel_rfl
theorem idx_2 (w : World) : (Instr.index 85 (.agg tabA) (.int .i64 2)).run Tryd.prog w = .ok (.agg (rowV 2).toArray) w := by kernel_rfl
theorem idx_3 (w : World) : (Instr.index 85 (.agg tabA) (.int .i64 3)).run Tryd.prog w = .ok (.agg (rowV 3).toArray) w := by kernel_rfl
theorem idx_4 (w : World) : (Instr.index 85 (.agg tabA) (.int .i64 4)).run Tryd.prog w = .ok (.agg (rowV 4).toArray) w := by kernel_rfl
theorem idx_5 (w : World) : (Instr.index 85 (.agg tabA) (.int .i64 5)).run Tryd.prog w = .ok (.agg (rowV 5).toArray) w := by kernel_rfl
theorem idx_6 (w : World) : (Instr.index 85 (.agg tabA) (.int .i64 6)).run Tryd.prog w = .ok (.agg (rowV 6).toArray) w := by kernel_rfl
theorem idx_7 (w : World) : (Instr.index 85 (.agg tabA) (.int .i64 7)).run Tryd.prog w = .ok (.agg (rowV 7).toArray) w := by kernel_rfl
theorem idx_8 (w : World) : (Instr.index 85 (.agg tabA) (.int .i64 8)).run Tryd.prog w = .ok (.agg (rowV 8).toArray) w := by kernel_rfl
theorem idx_9 (w : World) : (Instr.index 85 (.agg tabA) (.int .i64 9)).run Tryd.prog w = .ok (.agg (rowV 9).toArray) w := by kernel_rfl
theorem idx_10 (w : World) : (Instr.index 85 (.agg tabA) (.int .i64 10)).run Tryd.prog w = .ok (.agg (rowV 10).toArray) w := by kernel_rfl
theorem idx_11 (w : World) : (Instr.index 85 (.agg tabA) (.int .i64 11)).run Tryd.prog w = .ok (.agg (rowV 11).toArray) w := by kernel_rfl
theorem idx_12 (w : World) : (Instr.index 85 (.agg tabA) (.int .i64 12)).run Tryd.prog w = .ok (.agg (rowV 12).toArray) w := by kernel_rfl
theorem idx_13 (w : World) : (Instr.index 85 (.agg tabA) (.int .i64 13)).run Tryd.prog w = .ok (.agg (rowV 13).toArray) w := by kernel_rfl
theorem idx_14 (w : World) : (Instr.index 85 (.agg tabA) (.int .i64 14)).run Tryd.prog w = .ok (.agg (rowV 14).toArray) w := by kernel_rfl
theorem idx_15 (w : World) : (Instr.index 85 (.agg tabA) (.int .i64 15)).run Tryd.prog w = .ok (.agg (rowV 15).toArray) w := by kernel_rfl
theorem idx_16 (w : World) : (Instr.index 85 (.agg tabA) (.int .i64 16)).run Tryd.prog w = .ok (.agg (rowV 16).toArray) w := by kernel_rfl
theorem idx_17 (w : World) : (Instr.index 85 (.agg tabA) (.int .i64 17)).run Tryd.prog w = .ok (.agg (rowV 17).toArray) w := by kernel_rfl
theorem idx_18 (w : World) : (Instr.index 85 (.agg tabA) (.int .i64 18)).run Tryd.prog w = .ok (.agg (rowV 18).toArray) w := by kernel_rfl
theorem idx_19 (w : World) : (Instr.index 85 (.agg tabA) (.int .i64 19)).run Tryd.prog w = .ok (.agg (rowV 19).toArray) w := by kernel_rfl
theorem idx_20 (w : World) : (Instr.index 85 (.agg tabA) (.int .i64 20)).run Tryd.prog w = .ok (.agg (rowV 20).toArray) w := by kernel_rfl
theorem idx_21 (w : World) : (Instr.index 85 (.agg tabA) (.int .i64 21)).run Tryd.prog w = .ok (.agg (rowV 21).toArray) w := by kernel_rfl
theorem idx_22 (w : World) : (Instr.index 85 (.agg tabA) (.int .i64 22)).run Tryd.prog w = .ok (.agg (rowV 22).toArray) w := by kernel_rfl
theorem idx_23 (w : World) : (Instr.index 85 (.agg tabA) (.int .i64 23)).run Tryd.prog w = .ok (.agg (rowV 23).toArray) w := by kernel_rfl
theorem idx_24 (w : World) : (Instr.index 85 (.agg tabA) (.int .i64 24)).run Tryd.prog w = .ok (.agg (rowV 24).toArray) w := by kernel_rfl
theorem idx_25 (w : World) : (Instr.index 85 (.agg tabA) (.int .i64 25)).run Tryd.prog w = .ok (.agg (rowV 25).toArray) w := by kernel_rfl
theorem idx_26 (w : World) : (Instr.index 85 (.agg tabA) (.int .i64 26)).run Tryd.prog w = .ok (.agg (rowV 26).toArray) w := by kernel_rfl
theorem idx (k : Nat) (hk : k < 27) (w : World) : (Instr.index 85 (.agg tabA) (.int .i64 (k : Int))).run Tryd.prog w = .ok (.agg #[.string (wordB k), .int .i64 (formI k), .int .i64 (lowI k), .int .i64 (highI k), .bool (usesB k), .bool (setsB k)]) w :=
  match k, hk with
  | 0, _ => idx_0 w
  | 1, _ => idx_1 w
  | 2, _ => idx_2 w
  | 3, _ => idx_3 w
  | 4, _ => idx_4 w
  | 5, _ => idx_5 w
  | 6, _ => idx_6 w
  | 7, _ => idx_7 w
  | 8, _ => idx_8 w
  | 9, _ => idx_9 w
  | 10, _ => idx_10 w
  | 11, _ => idx_11 w
  | 12, _ => idx_12 w
  | 13, _ => idx_13 w
  | 14, _ => idx_14 w
  | 15, _ => idx_15 w
  | 16, _ => idx_16 w
  | 17, _ => idx_17 w
  | 18, _ => idx_18 w
  | 19, _ => idx_19 w
  | 20, _ => idx_20 w
  | 21, _ => idx_21 w
  | 22, _ => idx_22 w
  | 23, _ => idx_23 w
  | 24, _ => idx_24 w
  | 25, _ => idx_25 w
  | 26, _ => idx_26 w
  | n + 27, h => absurd h (by omega)
theorem words_at (k : Nat) (hk : k < 27) : wordsA[k]? = some (.string (wordB k)) := by
  simp [wordsA, hk]
/-- The word number k is another one. -/
def other (s : ByteArray) (k : Nat) : Bool := !((wordB k).toList == s.toList)
def findK (s : ByteArray) : Nat := firstBad (other s) 27
end Go.Proofs.YtagmeijpelffcaaDoor
