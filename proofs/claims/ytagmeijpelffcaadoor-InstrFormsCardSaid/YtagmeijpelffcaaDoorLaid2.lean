/- What the listed variable gives: its whole row. -/
import Derived.Test.YtagmeijpelffcaaDoorLaid
import Derived.Test.YtagmeijpelffcaaDoorP3
namespace Go.Proofs.YtagmeijpelffcaaDoor
open Go.ChangeShapes Go.WideShapes Go.ChangeAt Go.RowKit
set_option linter.unusedSimpArgs false
set_option linter.unusedVariables false
theorem flat_len (n : Nat) : ((List.range n).flatMap rowV).length = n * 6 := by
  induction n with
  | zero => rfl
  | succ n ih => rw [List.range_succ, List.flatMap_append, List.length_append, ih]; simp [rowV]; omega
theorem flat_get (k j : Nat) (hj : j < 6) : ∀ n, k < n → ((List.range n).flatMap rowV)[k * 6 + j]? = (rowV k)[j]?
  | 0, h => by omega
  | n + 1, h => by
    have hl := flat_len n
    rw [List.range_succ, List.flatMap_append]
    by_cases e : k = n
    · subst e
      rw [List.getElem?_append_right (by omega), hl]
      have : k * 6 + j - k * 6 = j := by omega
      rw [this]; simp
    · rw [List.getElem?_append_left (by omega)]
      exact flat_get k j hj n (by omega)
theorem tab_get (i : Nat) (hi : i < 162) : tabA[i]? = (rowV (i / 6))[i % 6]? := by
  have := flat_get (i / 6) (i % 6) (by omega) 27 (by omega)
  rw [show i / 6 * 6 + i % 6 = i by omega] at this
  unfold tabA
  rw [List.getElem?_toArray]
  exact this
theorem tab_of_laid {W : World} (h : laidMetH Tryd.prog [("replevin/instr.operations", Rows.laid_replevin_instr_operations)] W) : TabAt W := by
  have ho := ops_of_laid h
  rw [MakeChecks.laidMetH_plain _ _ _ (by kernel_rfl)] at h
  obtain ⟨ps, ⟨g0, t0, cs0, f0, p0, q0, hg0, ht0, hv0, hd0, _, _⟩, _, _⟩ := h
  obtain rfl := Option.some.inj (gTab.symm.trans hg0)
  obtain rfl := Option.some.inj (tTab.symm.trans ht0)
  have hcell : ∀ i, W.cell? ⟨0, i, none⟩ = cs0[i]? := fun i => World.var?_cell hg0 hv0 i
  obtain ⟨xs, m, _, _, hsz, _, _⟩ := DataW.trod_array Tryd.underlying85 hd0
  have hsz' : cs0.size = 162 := by rw [show Tryd.prog.cellsOf 85 = 162 by kernel_rfl] at hsz; simpa using hsz
  have hlt : tabA.size = 162 := by have := flat_len 27; simpa [tabA] using this
  have e : cs0 = tabA := by
    apply Array.ext_getElem?
    intro i
    by_cases hi : i < 162
    · rw [tab_get i hi, ← hcell i]
      obtain ⟨c0, c1, c2, c3, c4, c5⟩ := ho.2 (i / 6) (by omega)
      have h6 : i = i / 6 * 6 + i % 6 := by omega
      have hr : i % 6 = 0 ∨ i % 6 = 1 ∨ i % 6 = 2 ∨ i % 6 = 3 ∨ i % 6 = 4 ∨ i % 6 = 5 := by omega
      generalize i / 6 = k at *
      rcases hr with hr | hr | hr | hr | hr | hr
      all_goals rw [hr] at h6 ⊢
      all_goals rw [h6]
      · exact c0
      · exact c1
      · exact c2
      · exact c3
      · exact c4
      · exact c5
    · rw [Array.getElem?_eq_none (by omega), Array.getElem?_eq_none (by omega)]
  subst e
  simp only [World.var?, hg0, Option.bind_some] at hv0
  split at hv0
  · rename_i c t fr hh
    simp at hv0
    subst hv0
    exact ⟨_, _, hh⟩
  · cases hv0
end Go.Proofs.YtagmeijpelffcaaDoor
