/- Walks of layer 16: the table of functions (a map that the call makes), Calculate. -/
import Derived.Test.YtagmeijpelffcaaDoorW1
import Derived.Lib.Hide
import Derived.WideMake
namespace Go.Proofs.YtagmeijpelffcaaDoor
open Go.RowKit
set_option linter.unusedSimpArgs false
set_option linter.unusedVariables false
def fnumL : List Nat := [59, 60, 61, 62, 63, 64, 65, 66, 67, 68, 69, 71]
def entOf (i : Nat) : MapEntry := { key := .int .i64 ((i : Int) + 4), val := .func (.func (fnumL.getD i 0)) #[] #[], born := i }
def entsL (n : Nat) : List MapEntry := (List.range n).map entOf
def ents (n : Nat) : Array MapEntry := (entsL n).toArray
theorem ents_push (n : Nat) : (ents n).push (entOf n) = ents (n + 1) := by
  simp [ents, entsL, List.range_succ]
theorem ents_key {n : Nat} {x : MapEntry} (h : x ∈ (ents n).toList) : ∃ i, i < n ∧ x = entOf i := by
  simp [ents, entsL] at h
  obtain ⟨i, hi, rfl⟩ := h
  exact ⟨i, hi, rfl⟩
theorem set_last {α : Type} (a : Array α) (x y : α) : (a.push x).setIfInBounds a.size y = a.push y := by
  apply Array.ext_getElem?
  intro i
  rw [Array.getElem?_setIfInBounds, Array.getElem?_push, Array.getElem?_push]
  by_cases e : a.size = i
  · subst e; simp
  · have e' : ¬ i = a.size := fun h => e h.symm
    simp [e, e']
theorem ins_run (n : Nat) (w : World) :
    (Instr.mapUpdate 88 (.map (some w.heap.size)) (.int .i64 ((n : Int) + 4)) (.func (.func (fnumL.getD n 0)) #[] #[])).run Tryd.prog (w.alloc (.map (ents n) n)) = .ok () (w.alloc (.map (ents (n + 1)) (n + 1))) := by
  have hk : MapKept.IsKey (.int .i64) (.int .i64 ((n : Int) + 4)) := by simp [MapKept.IsKey]
  have hb : (w.alloc (.map (ents n) n)).heap[w.heap.size]? = some (.map (ents n) n) := (MapKept.heap_alloc w _).1
  have hks : ∀ x ∈ (ents n).toList, MapKept.IsKey (.int .i64) x.key := fun x hx => by
    obtain ⟨i, _, rfl⟩ := ents_key hx
    simp [MapKept.IsKey, entOf]
  rcases MapKept.findNow_spec hk (ents n).toList 0 hks with ⟨h1, h2⟩ | ⟨j, e, h1, h2, h3⟩
  · simp [Instr.mapUpdate, run_underlying Tryd.underlying88, MapKept.run_getObj_map hb, MapKept.run_checkKey Tryd.underlying3 hk, MapKept.run_findKey Tryd.underlying3 h1, MapKept.run_setObj_map _ hb, Result.andThen]
    rw [← ents_push]
    have e : (w.alloc (.map (ents n) n)).heap.setIfInBounds w.heap.size (.map ((ents n).push (entOf n)) (n + 1)) = w.heap.push (.map ((ents n).push (entOf n)) (n + 1)) := by
      show (w.heap.push _).setIfInBounds w.heap.size _ = _
      exact set_last _ _ _
    exact congrArg (fun h => { w with heap := h }) e
  · exfalso
    have := List.mem_of_getElem? h2
    obtain ⟨i, hi, rfl⟩ := ents_key this
    simp [entOf] at h3
    omega
theorem look_in (n : Nat) (hn : n < 12) (r : Nat) (w : World) (hb : w.heap[r]? = some (.map (ents 12) 12)) :
    (Instr.lookup 88 (.map (some r)) (.int .i64 ((n : Int) + 4)) true).run Tryd.prog w = .ok (.tuple #[.func (.func (fnumL.getD n 0)) #[] #[], .bool true]) w := by
  have hk : MapKept.IsKey (.int .i64) (.int .i64 ((n : Int) + 4)) := by simp [MapKept.IsKey]
  have hks : ∀ x ∈ (ents 12).toList, MapKept.IsKey (.int .i64) x.key := fun x hx => by
    obtain ⟨i, _, rfl⟩ := ents_key hx
    simp [MapKept.IsKey, entOf]
  rcases MapKept.findNow_spec hk (ents 12).toList 0 hks with ⟨h1, h2⟩ | ⟨j, e, h1, h2, h3⟩
  · exfalso
    exact h2 (entOf n) (by simp [ents, entsL]; exact ⟨n, hn, rfl⟩) rfl
  · have := List.mem_of_getElem? h2
    obtain ⟨i, hi, rfl⟩ := ents_key this
    simp [entOf] at h3
    obtain rfl : i = n := by omega
    simp [Instr.lookup, run_underlying Tryd.underlying88, MapKept.run_getObj_map hb, MapKept.run_checkKey Tryd.underlying3 hk, MapKept.run_findKey Tryd.underlying3 h1, Result.andThen]
    rfl
theorem look_out (op : Int) (h : op < 4 ∨ 16 ≤ op) (r : Nat) (w : World) (hb : w.heap[r]? = some (.map (ents 12) 12)) :
    (Instr.lookup 88 (.map (some r)) (.int .i64 op) true).run Tryd.prog w = .ok (.tuple #[.nilFunc, .bool false]) w := by
  have hk : MapKept.IsKey (.int .i64) (.int .i64 op) := by simp [MapKept.IsKey]
  have hks : ∀ x ∈ (ents 12).toList, MapKept.IsKey (.int .i64) x.key := fun x hx => by
    obtain ⟨i, _, rfl⟩ := ents_key hx
    simp [MapKept.IsKey, entOf]
  have hz : (zeroValue 86).run Tryd.prog w = .ok .nilFunc w := by kernel_rfl
  rcases MapKept.findNow_spec hk (ents 12).toList 0 hks with ⟨h1, h2⟩ | ⟨j, e, h1, h2, h3⟩
  · simp [Instr.lookup, run_underlying Tryd.underlying88, MapKept.run_getObj_map hb, MapKept.run_checkKey Tryd.underlying3 hk, MapKept.run_findKey Tryd.underlying3 h1, Result.andThen, hz]
  · exfalso
    have := List.mem_of_getElem? h2
    obtain ⟨i, hi, rfl⟩ := ents_key this
    simp [entOf] at h3
    omega
theorem arith_any (w : World) : Calls Tryd.prog 54 #[] w fun e w' => e = .returned (.map (some w.heap.size)) ∧ w.alloc (.map (ents 12) 12) = w' := by
  have hm : (Instr.makeMap 88 none).run Tryd.prog w = .ok (.map (some w.heap.size)) (w.alloc (.map (ents 0) 0)) := rfl
  have i0 := ins_run 0 w
  have i1 := ins_run 1 w
  have i2 := ins_run 2 w
  have i3 := ins_run 3 w
  have i4 := ins_run 4 w
  have i5 := ins_run 5 w
  have i6 := ins_run 6 w
  have i7 := ins_run 7 w
  have i8 := ins_run 8 w
  have i9 := ins_run 9 w
  have i10 := ins_run 10 w
  have i11 := ins_run 11 w
  simp [fnumL] at i0 i1 i2 i3 i4 i5 i6 i7 i8 i9 i10 i11
  go_enter Tryd.func54, Tryd.ntmps54
  go_wp2
  go_ret
  exact ⟨rfl, rfl⟩
end Go.Proofs.YtagmeijpelffcaaDoor
