/- Plain facts on the list of instructions in bytes. -/
import Derived.Test.YtagmeijpelffcaaDoorW6
namespace Go.Proofs.YtagmeijpelffcaaDoor
open Go.RowKit
set_option linter.unusedSimpArgs false
set_option linter.unusedVariables false
/-- The least k < n with p k false, or n. -/
def firstBad (p : Nat → Bool) : Nat → Nat
  | 0 => 0
  | n + 1 => if firstBad p n < n then firstBad p n else if p n = true then n + 1 else n
theorem firstBad_spec (p : Nat → Bool) : ∀ n, firstBad p n ≤ n ∧ (∀ i, i < firstBad p n → p i = true) ∧ (firstBad p n < n → p (firstBad p n) = false)
  | 0 => ⟨Nat.le_refl _, fun i h => by simp [firstBad] at h, fun h => by simp [firstBad] at h⟩
  | n + 1 => by
    obtain ⟨h1, h2, h3⟩ := firstBad_spec p n
    unfold firstBad
    by_cases h : firstBad p n < n
    · rw [if_pos h]
      exact ⟨by omega, h2, fun _ => h3 h⟩
    · rw [if_neg h]
      have e : firstBad p n = n := by omega
      rw [e] at h2
      by_cases hp : p n = true
      · rw [if_pos hp]
        refine ⟨Nat.le_refl _, fun i hi => ?_, fun hlt => by omega⟩
        by_cases hin : i = n
        · subst hin; exact hp
        · exact h2 i (by omega)
      · rw [if_neg hp]
        exact ⟨by omega, h2, fun _ => by simpa using hp⟩
theorem firstBad_at {p : Nat → Bool} {n k : Nat} (hk : k < n) (h1 : ∀ i, i < k → p i = true) (h2 : p k = false) : firstBad p n = k := by
  obtain ⟨a, b, c⟩ := firstBad_spec p n
  rcases Nat.lt_trichotomy (firstBad p n) k with h | h | h
  · have := c (by omega); rw [h1 _ h] at this; cases this
  · exact h
  · have := b k h; rw [h2] at this; cases this
theorem firstBad_all {p : Nat → Bool} {n : Nat} (h1 : ∀ i, i < n → p i = true) : firstBad p n = n := by
  obtain ⟨a, b, c⟩ := firstBad_spec p n
  rcases Nat.lt_or_ge (firstBad p n) n with h | h
  · have := c h; rw [h1 _ h] at this; cases this
  · omega
/-- The byte number i. -/
def byteAt (zs : List Int) (i : Nat) : Int := zs.getD i 0
/-- The four bytes from 4 k on are those of an instruction. -/
def okAt (zs : List Int) (k : Nat) : Bool := decide (chk (byteAt zs (4 * k)) (byteAt zs (4 * k + 1) / 16) (byteAt zs (4 * k + 1) % 16) (decC (byteAt zs (4 * k)) (byteAt zs (4 * k + 2)) (byteAt zs (4 * k + 3))) = 0)
theorem okAt_true {zs : List Int} {k : Nat} (h : okAt zs k = true) : chk (byteAt zs (4 * k)) (byteAt zs (4 * k + 1) / 16) (byteAt zs (4 * k + 1) % 16) (decC (byteAt zs (4 * k)) (byteAt zs (4 * k + 2)) (byteAt zs (4 * k + 3))) = 0 := of_decide_eq_true h
theorem okAt_false {zs : List Int} {k : Nat} (h : okAt zs k = false) : chk (byteAt zs (4 * k)) (byteAt zs (4 * k + 1) / 16) (byteAt zs (4 * k + 1) % 16) (decC (byteAt zs (4 * k)) (byteAt zs (4 * k + 2)) (byteAt zs (4 * k + 3))) ≠ 0 := of_decide_eq_false h
/-- The four cells of the instruction number k. -/
def insAt (zs : List Int) (k : Nat) : List Value := [.int .i64 (byteAt zs (4 * k)), .int .i64 (byteAt zs (4 * k + 1) / 16), .int .i64 (byteAt zs (4 * k + 1) % 16), .int .i64 (decC (byteAt zs (4 * k)) (byteAt zs (4 * k + 2)) (byteAt zs (4 * k + 3)))]
/-- The cells of the first n instructions. -/
def insCells (zs : List Int) : Nat → List Value
  | 0 => []
  | n + 1 => insCells zs n ++ insAt zs n
theorem insCells_length (zs : List Int) : ∀ n, (insCells zs n).length = n * 4
  | 0 => rfl
  | n + 1 => by simp only [insCells, List.length_append, insCells_length zs n, insAt]; simp; omega
theorem insCells_get (zs : List Int) (k j : Nat) (hj : j < 4) : ∀ n, k < n → (insCells zs n)[k * 4 + j]? = (insAt zs k)[j]?
  | 0, h => by omega
  | n + 1, h => by
    have hl := insCells_length zs n
    unfold insCells
    by_cases e : k = n
    · subst e
      rw [List.getElem?_append_right (by omega), hl]
      congr 1
      omega
    · rw [List.getElem?_append_left (by omega)]
      exact insCells_get zs k j hj n (by omega)
/-- A slice of bytes lies in memory: the cells of zs from the address on. -/
def BytesAt (w : World) (b off : Nat) (zs : List Int) : Prop := b < w.heap.size ∧ ∀ i, i < zs.length → w.cell? ⟨b, off + i, none⟩ = some (.int .u8 (byteAt zs i)) ∧ 0 ≤ byteAt zs i ∧ byteAt zs i < 256
theorem BytesAt.next {w w' : World} {b off : Nat} {zs : List Int} (h : BytesAt w b off zs) (hb : Below w.heap.size w w') : BytesAt w' b off zs :=
  ⟨Nat.lt_of_lt_of_le h.1 hb.size, fun i hi => by
    have e : w'.cell? ⟨b, off + i, none⟩ = w.cell? ⟨b, off + i, none⟩ := hb.cell (p := ⟨b, off + i, none⟩) h.1
    rw [e]; exact h.2 i hi⟩
end Go.Proofs.YtagmeijpelffcaaDoor
