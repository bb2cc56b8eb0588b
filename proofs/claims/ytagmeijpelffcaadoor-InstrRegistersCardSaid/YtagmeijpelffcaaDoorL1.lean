/- The law InstrChecks, walked. -/
import Derived.Test.YtagmeijpelffcaaDoorW7
import Derived.Deep.RegionHeld3
namespace Go.Proofs.YtagmeijpelffcaaDoor
open Go.RowKit
set_option linter.unusedSimpArgs false
set_option linter.unusedVariables false
def boxI (op a b c : Int) : Obj := .cells #[.int .i64 op, .int .i64 a, .int .i64 b, .int .i64 c] 23
/-- What the walk of a law keeps: the table, the boxed instruction, all that was there. -/
def Kept (w : World) (op a b c : Int) (w' : World) : Prop := OpsAt w' ∧ Below (w.alloc (.cells #[.int .i64 op, .int .i64 a, .int .i64 b, .int .i64 c] 23)).heap.size (w.alloc (.cells #[.int .i64 op, .int .i64 a, .int .i64 b, .int .i64 c] 23)) w'
theorem Kept.start {w : World} (h : OpsAt w) (op a b c : Int) : Kept w op a b c (w.alloc (.cells #[.int .i64 op, .int .i64 a, .int .i64 b, .int .i64 c] 23)) := ⟨h.alloc _, Below.refl _ _⟩
theorem Kept.next {w w1 w2 : World} {op a b c : Int} (h : Kept w op a b c w1) (hb : Below w1.heap.size w1 w2) : Kept w op a b c w2 :=
  ⟨h.1.next hb, h.2.trans (hb.mono h.2.size)⟩
theorem Kept.drew {w w1 : World} {op a b c : Int} (h : Kept w op a b c w1) : Kept w op a b c w1.drew := ⟨h.1.next (Below.refl _ _).drew, h.2.drew⟩
theorem Kept.cell {w w1 : World} {op a b c : Int} (h : Kept w op a b c w1) : w1.cell? ⟨w.heap.size, 0, none⟩ = some (.int .i64 op) ∧ w1.cell? ⟨w.heap.size, 1, none⟩ = some (.int .i64 a) ∧ w1.cell? ⟨w.heap.size, 2, none⟩ = some (.int .i64 b) ∧ w1.cell? ⟨w.heap.size, 3, none⟩ = some (.int .i64 c) := by
  obtain ⟨hc, _⟩ := bcell h.2
  rw [hc _ _ (by simp), hc _ _ (by simp), hc _ _ (by simp), hc _ _ (by simp)]
  simp [go_sem]
theorem Kept.below {w w1 : World} {op a b c : Int} (h : Kept w op a b c w1) : Below w.heap.size w w1 := below1 h.2
theorem checks_walk (op a b c : Int) (w : World) (ho : OpsAt w) :
    Calls Tryd.prog 3 #[.agg #[.int .i64 op, .int .i64 a, .int .i64 b, .int .i64 c]] w fun e w' => e = .returned (.bool true) ∧ Below w.heap.size w w' := by
  have hk0 := Kept.start ho op a b c
  go_enter Tryd.func3, Tryd.ntmps3
  go_wp2
  go_region_held3 (fun w' => Kept w op a b c w' ∧ w'.cell? ⟨w.heap.size, 0, none⟩ = some (.int .i64 op) ∧ w'.cell? ⟨w.heap.size, 1, none⟩ = some (.int .i64 a) ∧ w'.cell? ⟨w.heap.size, 2, none⟩ = some (.int .i64 b) ∧ w'.cell? ⟨w.heap.size, 3, none⟩ = some (.int .i64 c))
    (first | exact ⟨hk0, hk0.cell⟩ | exact ⟨hk0.drew, hk0.drew.cell⟩ | exact ⟨hk1, hk1.cell⟩ | exact ⟨hk2, hk2.cell⟩ | exact ⟨hk3, hk3.cell⟩ | exact ⟨hk4, hk4.cell⟩)
    (first | (go_at_call 13; refine (known_any _ hk0.drew.1).mono ?_; rintro e w1 ⟨rfl, b1⟩; have hk1 := hk0.drew.next b1) | (go_at_call 14; refine (to_any _ _ _ _ _).mono ?_; rintro e w1 ⟨rfl, b2⟩; have hk2 := hk1.next b2) | (go_at_call 15; refine (check_any _ _ _ _ _ hk2.1).mono ?_; rintro e w1 ⟨rfl, b3⟩; have hk3 := hk2.next b3) | (go_at_call 16; refine (refCheck_any _ _ _ _ _).mono ?_; rintro e w1 ⟨rfl, b4⟩; have hk4 := hk3.next b4))
  go_wp2
  go_ret
  exact ⟨rfl, hk4.below⟩
end Go.Proofs.YtagmeijpelffcaaDoor
