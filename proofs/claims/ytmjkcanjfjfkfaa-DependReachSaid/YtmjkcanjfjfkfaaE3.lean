/- Rows of numbers and of truth values that a call of its own makes: made, read, written. -/
import Derived.Test.YtmjkcanjfjfkfaaE2
import Derived.Test.YtmjkcanjfjfkfaaT2
namespace Go.Proofs.Ytmjkcanjfjfkfaa
open Go.RowKit Go.MapKept Go.ChangeMaps
set_option linter.unusedSimpArgs false
set_option linter.unusedVariables false
abbrev iV (x : Int) : Value := .int .i64 x
abbrev bV (b : Bool) : Value := .bool b
/-- A row of a call's own whose elements have one cell. -/
def Row1 {α : Type} (e : TypeId) (f : α → Value) (w : World) (base g n c : Nat) (l : List α) : Prop := l.length = n ∧ w.ownsRow base e 1 (.slice (some ⟨g, 0, none⟩) n c) n (l.map f)
section
variable {α : Type} {e : TypeId} {f : α → Value} {w w' : World} {base g n c : Nat} {l : List α}
theorem Row1.len (h : Row1 e f w base g n c l) : l.length = n := h.1
theorem Row1.next (h : Row1 e f w base g n c l) (hb : Below w.heap.size w w') : Row1 e f w' base g n c l := ⟨h.1, own_next h.2 hb⟩
theorem Row1.drewN (h : Row1 e f w base g n c l) (k : Nat) : Row1 e f (w.drewN k) base g n c l := h.next (below_drewN (Below.refl _ _) k)
theorem Row1.blk (h : Row1 e f w base g n c l) (h0 : 0 < n) : base ≤ g ∧ ∃ cur, Blk w g e cur ∧ ∀ k (hk : k < l.length), cur[k]? = some (f l[k]) := by
  obtain ⟨h1, hl, ⟨_, h2⟩ | ⟨g', cap, cur, hv, hg, hh, h3, h4, h5, h6⟩⟩ := h
  · omega
  · injection hv with hv _ h7
    injection hv with hv
    injection hv with hv _ _
    subst hv
    refine ⟨hg, cur, hh, fun k hk => ?_⟩
    have h8 := congrArg (fun L => L[k]?) h6
    simp only [Nat.mul_one] at h8
    rw [List.getElem?_take_of_lt (by omega), List.getElem?_map, List.getElem?_eq_getElem hk] at h8
    rw [← Array.getElem?_toList, h8]
    rfl
theorem Row1.cell (h : Row1 e f w base g n c l) {k : Nat} (hk : k < l.length) : w.cell? ⟨g, k, none⟩ = some (f l[k]) := by
  obtain ⟨_, cur, hb, hc⟩ := h.blk (by have := h.1; omega)
  rw [hb.cell k, hc k hk]
theorem Row1.frozen (h : Row1 e f w base g n c l) (h0 : 0 < n) (k : Nat) : w.frozen? ⟨g, k, none⟩ = false := by
  obtain ⟨_, cur, hb, _⟩ := h.blk h0
  exact hb.frozen k
theorem Row1.low (h : Row1 e f w base g n c l) (h0 : 0 < n) : base ≤ g := (h.blk h0).1
theorem Row1.lt (h : Row1 e f w base g n c l) (h0 : 0 < n) : g < w.heap.size := by
  obtain ⟨_, cur, hb, _⟩ := h.blk h0
  exact hb.lt
theorem Row1.set (h : Row1 e f w base g n c l) {k : Nat} (hk : k < n) (y : α) : Row1 e f (w.setCell ⟨g, k, none⟩ (f y)) base g n c (l.set k y) := by
  refine ⟨by rw [List.length_set]; exact h.1, ?_⟩
  rw [List.map_set]
  exact own_set1 h.2 hk (f y)
theorem Row1.rd (h : Row1 e f w base g n c l) : Rd e w (.slice (some ⟨g, 0, none⟩) n c) n (l.map f) := Rd.of_own h.2
end
theorem infoBo : (Try.prog.info? 4).map (fun i => (i.zero, i.size, i.bytes)) = some (some (.bool false), 1, 1) := by kernel_rfl
theorem make_ints (w : World) (n : Nat) (hn : n ≤ 100) : (Instr.makeSlice 36 (.int .i64 n) (.int .i64 n)).run Try.prog w = .ok (.slice (some ⟨w.heap.size, 0, none⟩) n n) (w.alloc (.cells (madeCells #[.int .i64 0] n) 3)) := by
  obtain ⟨i0, hi, hz0, hz1, hz2⟩ := info_parts infoIn
  have h := run_make (P := Try.prog) w 36 3 i0 _ Try.underlying36 hi hz0 .i64 .i64 n n (by omega) (Int.le_refl _) (by rw [hz2]; omega) (by omega)
  rw [hz1] at h
  simp only [Int.toNat_natCast, Nat.mul_one] at h
  exact h
theorem made_ints (w : World) (n : Nat) (hn : n ≤ 100) : Row1 3 iV (w.alloc (.cells (madeCells #[.int .i64 0] n) 3)) w.heap.size w.heap.size n n (List.replicate n 0) := by
  refine ⟨by simp, by simp, .inr ⟨w.heap.size, n, _, rfl, Nat.le_refl _, heap_alloc_new w _, Nat.le_refl _, by unfold maxLen; omega, by rw [size_madeCells]; omega, ?_⟩⟩
  rw [toList_madeCells_one, Nat.mul_one, List.take_replicate, Nat.min_self, List.map_replicate]
theorem make_bools (w : World) (n : Nat) (hn : n ≤ 100) : (Instr.makeSlice 71 (.int .i64 n) (.int .i64 n)).run Try.prog w = .ok (.slice (some ⟨w.heap.size, 0, none⟩) n n) (w.alloc (.cells (madeCells #[.bool false] n) 4)) := by
  obtain ⟨i0, hi, hz0, hz1, hz2⟩ := info_parts infoBo
  have h := run_make (P := Try.prog) w 71 4 i0 _ Try.underlying71 hi hz0 .i64 .i64 n n (by omega) (Int.le_refl _) (by rw [hz2]; omega) (by omega)
  rw [hz1] at h
  simp only [Int.toNat_natCast, Nat.mul_one] at h
  exact h
theorem made_bools (w : World) (n : Nat) (hn : n ≤ 100) : Row1 4 bV (w.alloc (.cells (madeCells #[.bool false] n) 4)) w.heap.size w.heap.size n n (List.replicate n false) := by
  refine ⟨by simp, by simp, .inr ⟨w.heap.size, n, _, rfl, Nat.le_refl _, heap_alloc_new w _, Nat.le_refl _, by unfold maxLen; omega, by rw [size_madeCells]; omega, ?_⟩⟩
  rw [toList_madeCells_one, Nat.mul_one, List.take_replicate, Nat.min_self, List.map_replicate]
end Go.Proofs.Ytmjkcanjfjfkfaa
