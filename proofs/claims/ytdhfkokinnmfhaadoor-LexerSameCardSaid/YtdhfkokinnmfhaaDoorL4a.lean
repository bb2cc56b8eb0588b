/- The law LexerSame, walked. -/
import Derived.Test.YtdhfkokinnmfhaaDoorS1
namespace Go.Proofs.YtdhfkokinnmfhaaDoor
open Go.RowKit
set_option linter.unusedSimpArgs false
set_option linter.unusedVariables false
theorem own_empty (w : World) : (w.alloc (.cells #[] 35)).ownsRow w.heap.size 35 6 (.slice (some ⟨w.heap.size, 0, none⟩) 0 0) 0 [] := by
  refine ⟨rfl, .inr ⟨w.heap.size, 0, #[], rfl, Nat.le_refl _, ?_, Nat.le_refl _, by decide, rfl, rfl⟩⟩
  show (w.heap.push _)[w.heap.size]? = _
  simp
theorem toks_cells {w : World} {g : Nat} {s : ByteArray} {L : List (Att × Nat)} (h : Toks w g s L) (j : Nat) (u : Value) (hj : (toksC s L)[j]? = some u) : w.cell? ⟨g, j, none⟩ = some u := by
  have hl := toksC_len s L
  have hlt : j < (toksC s L).length := (List.getElem?_eq_some_iff.1 hj).1
  have hi : j / 6 < L.length := by omega
  have ht : L[j / 6]? = some L[j / 6] := List.getElem?_eq_getElem hi
  have key := toksC_get s L (j / 6) (j % 6) _ ht (by omega)
  rw [show j / 6 * 6 + j % 6 = j by omega] at key
  rw [hj] at key
  obtain ⟨h0, h1, h2, h3, h4, h5⟩ := h.2 _ _ ht
  have h6 : j % 6 < 6 := by omega
  have e : j = j / 6 * 6 + j % 6 := by omega
  rw [e]
  generalize j % 6 = r at *
  generalize L[j / 6] = t at *
  match r, h6 with
  | 0, _ => rw [key]; exact h0
  | 1, _ => rw [key]; exact h1
  | 2, _ => rw [key]; exact h2
  | 3, _ => rw [key]; exact h3
  | 4, _ => rw [key]; exact h4
  | 5, _ => rw [key]; exact h5
theorem toksC_one (s : ByteArray) (L : List (Att × Nat)) (u : Value) (h : u ∈ toksC s L) : u.cells.size = 1 := by
  unfold toksC at h
  rw [List.mem_flatMap] at h
  obtain ⟨t, _, ht⟩ := h
  simp [tokC] at ht
  rcases ht with rfl | rfl | rfl | rfl | rfl | rfl <;> rfl
end Go.Proofs.YtdhfkokinnmfhaaDoor
