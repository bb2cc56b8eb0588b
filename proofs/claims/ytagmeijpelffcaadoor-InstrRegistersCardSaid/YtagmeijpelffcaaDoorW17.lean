/- Walks of layer 16: Same; Reads and Writes of the program and of the reference. -/
import Derived.Test.YtagmeijpelffcaaDoorP5
import Derived.Test.YtagmeijpelffcaaDoorW7
import Derived.Deep.QuietTactic
import Derived.BigQuiet
namespace Go.Proofs.YtagmeijpelffcaaDoor
open Go.RowKit Go.Sort
set_option linter.unusedSimpArgs false
set_option linter.unusedVariables false
theorem same_zero (a a' : Option Addr) (c c' : Nat) (w : World) :
    Calls Tryd.prog 41 #[.slice a 0 c, .slice a' 0 c'] w fun e w' => e = .returned (.bool true) ∧ Below w.heap.size w w' := by
  go_enter Tryd.func41, Tryd.ntmps41
  go_wp2
  refine wp_loop_rounds 1 ?_; rw [rounds_succ]
  go_wp2
  go_ret
  exact ⟨rfl, Below.refl _ _⟩
theorem same_some (g g' c c' n : Nat) (l : List Int) (w : World) (hn : n ≤ 8) (hg : g < w.heap.size) (hg' : g' < w.heap.size)
    (h : ∀ i, i < n → w.cell? ⟨g, i, none⟩ = some (.int .i64 (l.getD i 0))) (h' : ∀ i, i < n → w.cell? ⟨g', i, none⟩ = some (.int .i64 (l.getD i 0))) :
    Calls Tryd.prog 41 #[.slice (some ⟨g, 0, none⟩) n c, .slice (some ⟨g', 0, none⟩) n c'] w fun e w' => e = .returned (.bool true) ∧ Below w.heap.size w w' := by
  have H := Lib.hid h
  have H' := Lib.hid h'
  clear h h'
  go_enter Tryd.func41, Tryd.ntmps41
  go_wp2
  go_loopw [5] (fun i wr => ∃ k : Nat, k ≤ n ∧ i = .int .i64 k ∧ Below w.heap.size w wr) (fun i _ => n - (intOf i).toNat)
  case atStart => exact ⟨0, Nat.zero_le _, rfl, Below.refl _ _⟩
  case round =>
    obtain ⟨k, hk, rfl, hb⟩ := hrel
    by_cases hlt : k < n
    · have c0 : wr.cell? ⟨g, k, none⟩ = some (.int .i64 (l.getD k 0)) := (hb.cell (p := ⟨g, k, none⟩) hg).trans (H.out k hlt)
      have c1 : wr.cell? ⟨g', k, none⟩ = some (.int .i64 (l.getD k 0)) := (hb.cell (p := ⟨g', k, none⟩) hg').trans (H'.out k hlt)
      have P0 : (0 : Int) ≤ (k : Int) := by omega
      have P1 : (k : Int) < (n : Int) := by omega
      generalize l.getD k 0 = x at *
      go_wp2
      go_quiet (fail)
      go_wp2
      go_roundw
      case rel => exact ⟨k + 1, by omega, by go_num, below_drewN hb _⟩
      case measure => simp [intOf]; omega
    · go_wp2
      go_ret
      exact ⟨rfl, hb⟩
theorem same_any (v u : Value) (l : List Int) (b1 b2 : Nat) (w : World) (h : Reads w b1 v l) (h' : Reads w b2 u l) (hl : l.length ≤ 8) :
    Calls Tryd.prog 41 #[v, u] w fun e w' => e = .returned (.bool true) ∧ Below w.heap.size w w' := by
  rcases h with ⟨rfl, rfl⟩ | ⟨g, c, rfl, _, hg, hc⟩
  · rcases h' with ⟨rfl, _⟩ | ⟨g', c', rfl, _, hg', hc'⟩
    · exact same_zero _ _ _ _ w
    · exact same_zero _ _ _ _ w
  · rcases h' with ⟨rfl, rfl⟩ | ⟨g', c', rfl, _, hg', hc'⟩
    · exact same_zero _ _ _ _ w
    · exact same_some g g' c c' l.length l w hl hg hg' hc hc'
end Go.Proofs.YtagmeijpelffcaaDoor
