/- Walks of layer 21: Keywords, Symbols. -/
import Derived.Test.YtdhfkokinnmfhaaDoorX4
import Derived.Test.YtdhfkokinnmfhaaDoorShelf
namespace Go.Proofs.YtdhfkokinnmfhaaDoor
open Go.RowKit
set_option linter.unusedSimpArgs false
set_option linter.unusedVariables false
def StrsAt (w : World) (b : Nat) (zs : List ByteArray) : Prop := b < w.heap.size ∧ ∀ j, j < zs.length → w.cell? ⟨b, j, none⟩ = some (.string (zs.getD j ByteArray.empty))
theorem StrsAt.next {w w' : World} {b : Nat} {zs : List ByteArray} (h : StrsAt w b zs) (hb : Below w.heap.size w w') : StrsAt w' b zs :=
  ⟨Nat.lt_of_lt_of_le h.1 hb.size, fun j hj => by rw [hb.cell (p := ⟨b, j, none⟩) h.1]; exact h.2 j hj⟩
theorem StrsAt.alloc {w : World} {zs : List ByteArray} {t : TypeId} : StrsAt (w.alloc (.cells (zs.map Value.string).toArray t)) w.heap.size zs := by
  refine ⟨by simp, fun j hj => ?_⟩
  rw [World.cell?_alloc_new]
  simp [hj]
set_option maxRecDepth 100000 in
theorem keywords_any (w : World) :
    Calls Tryd.prog 17 #[] w fun e w' => ∃ b : Nat, e = .returned (.slice (some ⟨b, 0, none⟩) 8 8) ∧ StrsAt w' b kws ∧ w.heap.size ≤ b ∧ Below w.heap.size w w' := by
  go_enter Tryd.func17, Tryd.ntmps17
  go_wp2
  go_ret
  exact ⟨w.heap.size, rfl, StrsAt.alloc (zs := kws), Nat.le_refl _, (Below.refl _ _).alloc (Nat.le_refl _) _⟩
set_option maxRecDepth 100000 in
theorem refWords_any (w : World) :
    Calls Tryd.prog 18 #[] w fun e w' => ∃ b : Nat, e = .returned (.slice (some ⟨b, 0, none⟩) 8 8) ∧ StrsAt w' b kws ∧ w.heap.size ≤ b ∧ Below w.heap.size w w' := by
  go_enter Tryd.func18, Tryd.ntmps18
  go_wp2
  go_ret
  exact ⟨w.heap.size, rfl, StrsAt.alloc (zs := kws), Nat.le_refl _, (Below.refl _ _).alloc (Nat.le_refl _) _⟩
set_option maxRecDepth 100000 in
theorem symbols_any (w : World) :
    Calls Tryd.prog 19 #[] w fun e w' => ∃ b : Nat, e = .returned (.slice (some ⟨b, 0, none⟩) 29 29) ∧ StrsAt w' b syms ∧ w.heap.size ≤ b ∧ Below w.heap.size w w' := by
  go_enter Tryd.func19, Tryd.ntmps19
  go_wp2
  go_ret
  exact ⟨w.heap.size, rfl, StrsAt.alloc (zs := syms), Nat.le_refl _, (Below.refl _ _).alloc (Nat.le_refl _) _⟩
set_option maxRecDepth 100000 in
theorem refMarks_any (w : World) :
    Calls Tryd.prog 20 #[] w fun e w' => ∃ b : Nat, e = .returned (.slice (some ⟨b, 0, none⟩) 29 29) ∧ StrsAt w' b syms ∧ w.heap.size ≤ b ∧ Below w.heap.size w w' := by
  go_enter Tryd.func20, Tryd.ntmps20
  go_wp2
  go_ret
  exact ⟨w.heap.size, rfl, StrsAt.alloc (zs := syms), Nat.le_refl _, (Below.refl _ _).alloc (Nat.le_refl _) _⟩
def attV (a : Att) : Value := .agg #[.int .i64 a.kind, .string a.text, .int .i64 a.value, .string a.bytes, .int .i64 0, .int .i64 0, .int .i64 a.size, .int .i64 a.off, .int .i64 a.e]
def attR (r : Option Att) : Value := .tuple #[attV (r.getD (attE 0 0)), .bool r.isSome]
end Go.Proofs.YtdhfkokinnmfhaaDoor
