/- Plain facts on lists of instructions: their cells, their bytes. -/
import Derived.Test.YtagmeijpelffcaaDoorL4
import Derived.Test.YtagmeijpelffcaaDoorL6
namespace Go.Proofs.YtagmeijpelffcaaDoor
open Go.RowKit
set_option linter.unusedSimpArgs false
set_option linter.unusedVariables false
def okI (zs : List Int) (k : Nat) : Bool := decide (chk (byteAt zs (4 * k)) (byteAt zs (4 * k + 1)) (byteAt zs (4 * k + 2)) (byteAt zs (4 * k + 3)) = 0)
theorem okI_true {zs : List Int} {k : Nat} (h : okI zs k = true) : chk (byteAt zs (4 * k)) (byteAt zs (4 * k + 1)) (byteAt zs (4 * k + 2)) (byteAt zs (4 * k + 3)) = 0 := of_decide_eq_true h
theorem okI_false {zs : List Int} {k : Nat} (h : okI zs k = false) : chk (byteAt zs (4 * k)) (byteAt zs (4 * k + 1)) (byteAt zs (4 * k + 2)) (byteAt zs (4 * k + 3)) ≠ 0 := of_decide_eq_false h
/-- The error of the instruction number k. -/
def errI (zs : List Int) (k : Nat) : Int := chk (byteAt zs (4 * k)) (byteAt zs (4 * k + 1)) (byteAt zs (4 * k + 2)) (byteAt zs (4 * k + 3))
def inAt (zs : List Int) (k : Nat) : List Value := [.int .i64 (byteAt zs (4 * k)), .int .i64 (byteAt zs (4 * k + 1)), .int .i64 (byteAt zs (4 * k + 2)), .int .i64 (byteAt zs (4 * k + 3))]
def inCells (zs : List Int) : Nat → List Value
  | 0 => []
  | n + 1 => inCells zs n ++ inAt zs n
theorem inCells_length (zs : List Int) : ∀ n, (inCells zs n).length = n * 4
  | 0 => rfl
  | n + 1 => by simp only [inCells, List.length_append, inCells_length zs n, inAt]; simp; omega
theorem inCells_get (zs : List Int) (k j : Nat) (hj : j < 4) : ∀ n, k < n → (inCells zs n)[k * 4 + j]? = (inAt zs k)[j]?
  | 0, h => by omega
  | n + 1, h => by
    have hl := inCells_length zs n
    unfold inCells
    by_cases e : k = n
    · subst e
      rw [List.getElem?_append_right (by omega), hl]
      congr 1
      omega
    · rw [List.getElem?_append_left (by omega)]
      exact inCells_get zs k j hj n (by omega)
theorem inAt_get (zs : List Int) (k j : Nat) (hj : j < 4) : (inAt zs k)[j]? = some (.int .i64 (byteAt zs (4 * k + j))) := by
  have : j = 0 ∨ j = 1 ∨ j = 2 ∨ j = 3 := by omega
  rcases this with rfl | rfl | rfl | rfl <;> rfl
/-- The numbers of a list of instructions lie in memory. -/
def InsAt (w : World) (b off : Nat) (zs : List Int) (n : Nat) : Prop := b < w.heap.size ∧ ∀ i, i < 4 * n → w.cell? ⟨b, off + i, none⟩ = some (.int .i64 (byteAt zs i))
theorem InsAt.next {w w' : World} {b off n : Nat} {zs : List Int} (h : InsAt w b off zs n) (hb : Below w.heap.size w w') : InsAt w' b off zs n :=
  ⟨Nat.lt_of_lt_of_le h.1 hb.size, fun i hi => by
    have e : w'.cell? ⟨b, off + i, none⟩ = w.cell? ⟨b, off + i, none⟩ := hb.cell (p := ⟨b, off + i, none⟩) h.1
    rw [e]; exact h.2 i hi⟩
theorem InsAt.cells {w : World} {b off n : Nat} {zs : List Int} (h : InsAt w b off zs n) (k : Nat) (hk : k < n) : w.cell? ⟨b, off + k * 4, none⟩ = some (.int .i64 (byteAt zs (4 * k))) ∧ w.cell? ⟨b, off + k * 4 + 1, none⟩ = some (.int .i64 (byteAt zs (4 * k + 1))) ∧ w.cell? ⟨b, off + k * 4 + 2, none⟩ = some (.int .i64 (byteAt zs (4 * k + 2))) ∧ w.cell? ⟨b, off + k * 4 + 3, none⟩ = some (.int .i64 (byteAt zs (4 * k + 3))) := by
  have h0 := h.2 (4 * k) (by omega)
  have h1 := h.2 (4 * k + 1) (by omega)
  have h2 := h.2 (4 * k + 2) (by omega)
  have h3 := h.2 (4 * k + 3) (by omega)
  rw [show off + 4 * k = off + k * 4 by omega] at h0
  rw [show off + (4 * k + 1) = off + k * 4 + 1 by omega] at h1
  rw [show off + (4 * k + 2) = off + k * 4 + 2 by omega] at h2
  rw [show off + (4 * k + 3) = off + k * 4 + 3 by omega] at h3
  exact ⟨h0, h1, h2, h3⟩
theorem ins_of_own {w : World} {base : Nat} {e : TypeId} {g len cap n : Nat} {zs : List Int} (h : w.ownsRow base e 4 (.slice (some ⟨g, 0, none⟩) len cap) n (inCells zs n)) (hn : 0 < n) : InsAt w g 0 zs n := by
  have hl := inCells_length zs n
  refine ⟨(own_cell h 0 (by omega)).2.2.2, fun i hi => ?_⟩
  obtain ⟨_, _, hc, _⟩ := own_cell h i (by omega)
  rw [Nat.zero_add, hc]
  have := inCells_get zs (i / 4) (i % 4) (by omega) n (by omega)
  rw [show i / 4 * 4 + i % 4 = i by omega, inAt_get zs _ _ (by omega), show 4 * (i / 4) + i % 4 = i by omega] at this
  exact this
/-- The four bytes of the instruction number k, and those of the first n. -/
def encAt (zs : List Int) (k : Nat) : List Int := [byteAt zs (4 * k), 16 * byteAt zs (4 * k + 1) + byteAt zs (4 * k + 2), byteAt zs (4 * k + 3) % 256, byteAt zs (4 * k + 3) / 256 % 256]
def encBytes (zs : List Int) : Nat → List Int
  | 0 => []
  | n + 1 => encBytes zs n ++ encAt zs n
theorem encBytes_length (zs : List Int) : ∀ n, (encBytes zs n).length = n * 4
  | 0 => rfl
  | n + 1 => by simp only [encBytes, List.length_append, encBytes_length zs n, encAt]; simp; omega
theorem encBytes_get (zs : List Int) (k j : Nat) (hj : j < 4) : ∀ n, k < n → (encBytes zs n)[k * 4 + j]? = (encAt zs k)[j]?
  | 0, h => by omega
  | n + 1, h => by
    have hl := encBytes_length zs n
    unfold encBytes
    by_cases e : k = n
    · subst e
      rw [List.getElem?_append_right (by omega), hl]
      congr 1
      omega
    · rw [List.getElem?_append_left (by omega)]
      exact encBytes_get zs k j hj n (by omega)
theorem enc_byte (zs : List Int) (n k j : Nat) (hk : k < n) (hj : j < 4) : byteAt (encBytes zs n) (4 * k + j) = (encAt zs k).getD j 0 := by
  have := encBytes_get zs k j hj n hk
  unfold byteAt
  rw [List.getD_eq_getElem?_getD, List.getD_eq_getElem?_getD, show 4 * k + j = k * 4 + j by omega, this]
theorem enc_bytes (zs : List Int) (n k : Nat) (hk : k < n) : byteAt (encBytes zs n) (4 * k) = byteAt zs (4 * k) ∧ byteAt (encBytes zs n) (4 * k + 1) = 16 * byteAt zs (4 * k + 1) + byteAt zs (4 * k + 2) ∧ byteAt (encBytes zs n) (4 * k + 2) = byteAt zs (4 * k + 3) % 256 ∧ byteAt (encBytes zs n) (4 * k + 3) = byteAt zs (4 * k + 3) / 256 % 256 :=
  ⟨enc_byte zs n k 0 hk (by omega), enc_byte zs n k 1 hk (by omega), enc_byte zs n k 2 hk (by omega), enc_byte zs n k 3 hk (by omega)⟩
theorem enc_range (zs : List Int) (n : Nat) (hok : ∀ k, k < n → okI zs k = true) (i : Nat) (hi : i < 4 * n) : 0 ≤ byteAt (encBytes zs n) i ∧ byteAt (encBytes zs n) i < 256 := by
  obtain ⟨e0, e1, e2, e3⟩ := enc_bytes zs n (i / 4) (by omega)
  obtain ⟨h0, h1, h2, h3, h4, h5, h6, h7⟩ := chk_zero (okI_true (hok (i / 4) (by omega)))
  have hr : i = 4 * (i / 4) ∨ i = 4 * (i / 4) + 1 ∨ i = 4 * (i / 4) + 2 ∨ i = 4 * (i / 4) + 3 := by omega
  rcases hr with h | h | h | h <;> rw [h]
  · rw [e0]; omega
  · rw [e1]; omega
  · rw [e2]; omega
  · rw [e3]; omega
theorem enc_ok (zs : List Int) (n k : Nat) (hk : k < n) (hok : okI zs k = true) : okAt (encBytes zs n) k = true ∧ insAt (encBytes zs n) k = inAt zs k := by
  obtain ⟨e0, e1, e2, e3⟩ := enc_bytes zs n k hk
  have h := okI_true hok
  obtain ⟨h0, h1, h2, h3, h4, h5, h6, h7⟩ := chk_zero h
  have d := dec_enc h
  have d1 : (16 * byteAt zs (4 * k + 1) + byteAt zs (4 * k + 2)) / 16 = byteAt zs (4 * k + 1) := by omega
  have d2 : (16 * byteAt zs (4 * k + 1) + byteAt zs (4 * k + 2)) % 16 = byteAt zs (4 * k + 2) := by omega
  constructor
  · unfold okAt
    rw [e0, e1, e2, e3, d1, d2, d]
    exact decide_eq_true h
  · unfold insAt inAt
    rw [e0, e1, e2, e3, d1, d2, d]
theorem enc_cells (zs : List Int) (n : Nat) (hok : ∀ k, k < n → okI zs k = true) : ∀ m, m ≤ n → insCells (encBytes zs n) m = inCells zs m
  | 0, _ => rfl
  | m + 1, h => by
    unfold insCells inCells
    rw [enc_cells zs n hok m (by omega), (enc_ok zs n m (by omega) (hok m (by omega))).2]
/-- The cells of bytes. -/
def u8s (l : List Int) : List Value := l.map (Value.int .u8)
theorem bytes_of_own {w : World} {base : Nat} {g len cap n : Nat} {bs : List Int} (h : w.ownsRow base 5 1 (.slice (some ⟨g, 0, none⟩) len cap) n (u8s bs)) (hn : 0 < bs.length) (hr : ∀ i, i < bs.length → 0 ≤ byteAt bs i ∧ byteAt bs i < 256) : BytesAt w g 0 bs := by
  have hl : (u8s bs).length = bs.length := by simp [u8s]
  refine ⟨(own_cell h 0 (by omega)).2.2.2, fun i hi => ⟨?_, hr i hi⟩⟩
  obtain ⟨_, _, hc, _⟩ := own_cell h i (by omega)
  rw [Nat.zero_add, hc]
  simp [u8s, byteAt, hi]
end Go.Proofs.YtagmeijpelffcaaDoor
