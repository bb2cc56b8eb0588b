/- Plain facts on lists of registers. -/
import Derived.Test.YtagmeijpelffcaaDoorW16
namespace Go.Proofs.YtagmeijpelffcaaDoor
open Go.RowKit Go.Sort
set_option linter.unusedSimpArgs false
set_option linter.unusedVariables false
theorem incr_one (x : Int) (h0 : 0 ≤ x) (h1 : x ≤ 7) : incr [x] = regs (fun i => decide ((i : Int) = x)) 8 := by
  have hx : x = 0 ∨ x = 1 ∨ x = 2 ∨ x = 3 ∨ x = 4 ∨ x = 5 ∨ x = 6 ∨ x = 7 := by omega
  rcases hx with rfl | rfl | rfl | rfl | rfl | rfl | rfl | rfl <;> decide +kernel
theorem ms_two (x y : Int) : [x, y].mergeSort (fun x y => decide (x ≤ y)) = if x ≤ y then [x, y] else [y, x] := by
  rw [List.mergeSort]
  simp only [List.MergeSort.Internal.splitInTwo, List.length_cons, List.length_nil]
  simp
  by_cases h : x ≤ y
  · simp [h, List.merge]
  · simp [h, List.merge]
theorem incr_two (x y : Int) (h0 : 0 ≤ x) (h1 : x ≤ 7) (h2 : 0 ≤ y) (h3 : y ≤ 7) : incr [x, y] = regs (fun i => decide ((i : Int) = x) || decide ((i : Int) = y)) 8 := by
  unfold incr
  rw [ms_two]
  have hx : x = 0 ∨ x = 1 ∨ x = 2 ∨ x = 3 ∨ x = 4 ∨ x = 5 ∨ x = 6 ∨ x = 7 := by omega
  have hy : y = 0 ∨ y = 1 ∨ y = 2 ∨ y = 3 ∨ y = 4 ∨ y = 5 ∨ y = 6 ∨ y = 7 := by omega
  rcases hx with rfl | rfl | rfl | rfl | rfl | rfl | rfl | rfl <;> rcases hy with rfl | rfl | rfl | rfl | rfl | rfl | rfl | rfl <;> decide +kernel
theorem regs_none : regs (fun _ => false) 8 = [] := by decide
theorem regs_one (x : Int) (h0 : 0 ≤ x) (h1 : x ≤ 7) : regs (fun i => decide ((i : Int) = x)) 8 = [x] := by
  have hx : x = 0 ∨ x = 1 ∨ x = 2 ∨ x = 3 ∨ x = 4 ∨ x = 5 ∨ x = 6 ∨ x = 7 := by omega
  rcases hx with rfl | rfl | rfl | rfl | rfl | rfl | rfl | rfl <;> decide +kernel
/-- What the table says of the registers: which forms occur with 'uses'. -/
theorem uses_form (k : Nat) (h : k < 27) : (usesB k = true ∧ (formI k = 4 ∨ formI k = 5 ∨ formI k = 1)) ∨ (usesB k = false ∧ (formI k = 0 ∨ formI k = 2 ∨ formI k = 4 ∨ formI k = 3 ∨ formI k = 5 ∨ formI k = 6)) := by
  have : ∀ k : Fin 27, (usesB k = true ∧ (formI k = 4 ∨ formI k = 5 ∨ formI k = 1)) ∨ (usesB k = false ∧ (formI k = 0 ∨ formI k = 2 ∨ formI k = 4 ∨ formI k = 3 ∨ formI k = 5 ∨ formI k = 6)) := by decide
  exact this ⟨k, h⟩
theorem uses_of (op : Int) (h0 : 0 ≤ op) (h1 : op < 27) : usesB op.toNat = decide (op = 3 ∨ op = 18 ∨ op = 20 ∨ op = 22 ∨ op = 23 ∨ op = 25) := by
  obtain ⟨n, rfl⟩ := Int.eq_ofNat_of_zero_le h0
  have : ∀ k : Fin 27, usesB k.val = decide (((k.val : Nat) : Int) = 3 ∨ ((k.val : Nat) : Int) = 18 ∨ ((k.val : Nat) : Int) = 20 ∨ ((k.val : Nat) : Int) = 22 ∨ ((k.val : Nat) : Int) = 23 ∨ ((k.val : Nat) : Int) = 25) := by decide
  exact this ⟨n, by omega⟩
theorem sets_of (op : Int) (h0 : 0 ≤ op) (h1 : op < 27) : setsB op.toNat = decide ((1 ≤ op ∧ op ≤ 17) ∨ op = 19 ∨ op = 24) := by
  obtain ⟨n, rfl⟩ := Int.eq_ofNat_of_zero_le h0
  have : ∀ k : Fin 27, setsB k.val = decide ((1 ≤ ((k.val : Nat) : Int) ∧ ((k.val : Nat) : Int) ≤ 17) ∨ ((k.val : Nat) : Int) = 19 ∨ ((k.val : Nat) : Int) = 24) := by decide
  exact this ⟨n, by omega⟩
theorem chk_c {op a b c : Int} (h : chk op a b c = 0) (hf : formI op.toNat = 3) : 0 ≤ c ∧ c ≤ 7 := by
  obtain ⟨h0, h1, _⟩ := chk_zero h
  rw [chk_in a b c h0 h1, hf] at h
  unfold chkF at h
  split at h
  · omega
  split at h
  · omega
  split at h
  · omega
  omega
end Go.Proofs.YtagmeijpelffcaaDoor
