/- Arguments of layer 54, opened: acts, spots. -/
import Derived.Test.YtamjllakfgphnaaGreatDoorGU
import Derived.Test.YtamjllakfgphnaaGreatDoorW85
namespace Go.Proofs.YtamjllakfgphnaaGreatDoor
open Go.RowKit Go.Deep
set_option linter.unusedSimpArgs false
set_option linter.unusedVariables false
instance : Inhabited A54 := ⟨⟨0, 0, 0, 0, [], false⟩⟩
section
variable {H : Type} {enc : TypeId × Value → H} {P : Program} {w : World} {base : Nat} {spare : Nat → Bool} {held : Bool}
theorem drop_one {α : Type} {cs : List α} {i : Nat} {u : α} (h : cs[i]? = some u) : (cs.drop i).take 1 = [u] := by
  obtain ⟨hi, rfl⟩ := List.getElem?_eq_some_iff.1 h
  rw [List.drop_eq_getElem_cons hi]; rfl
theorem field_get {t : TypeId} {fs : Array Field} {n : Nat} {cs : List Value} {y : DataW H × List MemPlace} (ht : P.underlying t = some (.struct fs)) (h : DataW.trod enc P w base spare held n t cs = some y)
    (i : Nat) (f : Field) (hf : fs[i]? = some f) (h1 : P.cellsOf f.type = 1) (ho : f.offset = i) (u : Value) (hu : cs[i]? = some u) : ∃ m x, DataW.trod enc P w base spare held m f.type [u] = some x := by
  obtain ⟨xs, m, _, _, _, hl, hall⟩ := DataW.trod_struct ht h
  have h2 := hall i f hf
  rw [h1, ho, drop_one hu] at h2
  have hi : i < xs.length := by rw [hl]; exact (Array.getElem?_eq_some_iff.1 hf).1
  rw [List.getElem?_eq_getElem hi] at h2
  exact ⟨m, _, h2⟩
end
theorem list6 {α : Type} {cs : List α} (h : cs.length = 6) : ∃ a b c d e f, cs = [a, b, c, d, e, f] := by
  match cs, h with
  | [a, b, c, d, e, f], _ => exact ⟨a, b, c, d, e, f, rfl⟩
theorem c1_str : Tryz.prog.cellsOf 9 = 1 := by kernel_rfl
theorem c1_bool : Tryz.prog.cellsOf 4 = 1 := by kernel_rfl
theorem c1_u8 : Tryz.prog.cellsOf 5 = 1 := by kernel_rfl
theorem c1_int : Tryz.prog.cellsOf 3 = 1 := by kernel_rfl
theorem c6_act : Tryz.prog.cellsOf 93 = 6 := by kernel_rfl
theorem c2_spot : Tryz.prog.cellsOf 43 = 2 := by kernel_rfl
theorem rowC_unit {α : Type} (f : α → List Value) : ∀ (l : List α) (us : List Unit), us.length = l.length → rowC (fun x _ => f x) l us = l.flatMap f
  | [], [], _ => rfl
  | x :: l, u :: us, h => by
    simp only [rowC, List.flatMap_cons]
    rw [rowC_unit f l us (by simpa using h)]
  | [], _ :: _, h => by simp at h
  | _ :: _, [], h => by simp at h
section
variable {H : Type} {enc : TypeId × Value → H} {w : World} {base : Nat} {spare : Nat → Bool} {held : Bool}
theorem open_str {n : Nat} {u : Value} {x : DataW H × List MemPlace} (h : DataW.trod enc Tryz.prog w base spare held n 9 [u] = some x) : ∃ t : Bs, u = .string (bs t) := by
  obtain ⟨s, h1, _, h2⟩ := DataW.trod_string Tryz.underlying9 h
  injection h1 with h1
  exact ⟨s.data.toList, by rw [bs_of]; exact h1⟩
theorem open_boo {n : Nat} {u : Value} {x : DataW H × List MemPlace} (h : DataW.trod enc Tryz.prog w base spare held n 4 [u] = some x) : ∃ b : Bool, u = .bool b := by
  obtain ⟨b, h1, _⟩ := DataW.trod_bool Tryz.underlying4 h
  injection h1 with h1
  exact ⟨b, h1⟩
theorem open_in {n : Nat} {u : Value} {x : DataW H × List MemPlace} (h : DataW.trod enc Tryz.prog w base spare held n 3 [u] = some x) : ∃ k : Int, u = .int .i64 k := by
  obtain ⟨k, h1, _, h2⟩ := DataW.trod_int Tryz.underlying3 h
  injection h1 with h1
  exact ⟨k, h1⟩
theorem open_u8 {n : Nat} {u : Value} {x : DataW H × List MemPlace} (h : DataW.trod enc Tryz.prog w base spare held n 5 [u] = some x) : ∃ k : Int, u = .int .u8 k ∧ 0 ≤ k ∧ k < 256 := by
  obtain ⟨k, h1, _, h2⟩ := DataW.trod_int Tryz.underlying5 h
  injection h1 with h1
  simp only [Lit.wf, Bool.and_eq_true, decide_eq_true_eq] at h2
  have e1 : IntKind.min .u8 = 0 := by decide
  have e2 : IntKind.max .u8 = 255 := by decide
  rw [e1, e2] at h2
  exact ⟨k, h1, h2.1, by omega⟩
theorem open_A54 {n : Nat} {cs : List Value} {y : DataW H × List MemPlace} (h : DataW.trod enc Tryz.prog w base spare held n 93 cs = some y) (hl : cs.length = 6) : ∃ (t : A54) (u : Unit), cs = a54C t ∧ A54R t := by
  obtain ⟨a, b, c, d, e, f, rfl⟩ := list6 hl
  obtain ⟨_, _, f0⟩ := field_get Tryz.underlying93 h 0 _ rfl c1_u8 rfl a rfl
  obtain ⟨_, _, f1⟩ := field_get Tryz.underlying93 h 1 _ rfl c1_u8 rfl b rfl
  obtain ⟨_, _, f2⟩ := field_get Tryz.underlying93 h 2 _ rfl c1_u8 rfl c rfl
  obtain ⟨_, _, f3⟩ := field_get Tryz.underlying93 h 3 _ rfl c1_u8 rfl d rfl
  obtain ⟨_, _, f4⟩ := field_get Tryz.underlying93 h 4 _ rfl c1_str rfl e rfl
  obtain ⟨_, _, f5⟩ := field_get Tryz.underlying93 h 5 _ rfl c1_bool rfl f rfl
  obtain ⟨k0, rfl, h0, h0'⟩ := open_u8 f0
  obtain ⟨k1, rfl, h1, h1'⟩ := open_u8 f1
  obtain ⟨k2, rfl, h2, h2'⟩ := open_u8 f2
  obtain ⟨k3, rfl, h3, h3'⟩ := open_u8 f3
  obtain ⟨t, rfl⟩ := open_str f4
  obtain ⟨z, rfl⟩ := open_boo f5
  exact ⟨⟨k0, k1, k2, k3, t, z⟩, (), rfl, h0, h1, h2, h3, h0', h1'⟩
theorem open_A54s {n : Nat} {v : Value} {y : DataW H × List MemPlace} (h : DataW.trod enc Tryz.prog w base spare held n 41 [v] = some y) : ∃ l : List A54, A54At w.heap.size w v l := by
  obtain ⟨l, us, h1, h2⟩ : ∃ l : List A54, RowRa (fun t (_ : Unit) => a54C t) (fun _ _ t => A54R t) w.heap.size w v l :=
    open_row (fun t _ => a54C_len t) (by omega) Tryz.underlying41 c6_act (fun n cs y h hl => open_A54 h hl) h
  rw [rowC_unit a54C l us h1.1] at h2
  refine ⟨l, h2, fun t ht => ?_⟩
  obtain ⟨i, hi, rfl⟩ := List.getElem_of_mem ht
  have hiv : i < us.length := by rw [h1.1]; exact hi
  exact h1.2 i _ _ (List.getElem?_eq_getElem hi) (List.getElem?_eq_getElem hiv)
set_option maxRecDepth 100000 in
theorem open_acts {r : Reach} {b0 : Nat} {v : Value} {d : DataW H} {p : List MemPlace} (hv : Value.okWide Tryz.prog w r b0 41 v) (h : DataW.Trod enc Tryz.prog w base spare held 41 v d p) : ∃ l : List A54, A54At w.heap.size w v l := by
  obtain ⟨a, len, cap, rfl⟩ := Go.WideShapes.okWide_slice Tryz.underlying41 hv
  obtain ⟨n, hf⟩ := h
  exact open_A54s (by simpa [Value.cells] using hf)
set_option maxRecDepth 100000 in
theorem open_Spot {r : Reach} {b0 : Nat} {v : Value} {d : DataW H} {p : List MemPlace} (hv : Value.okWide Tryz.prog w r b0 43 v) (h : DataW.Trod enc Tryz.prog w base spare held 43 v d p) : ∃ (wh a : Int), v = .agg #[.int .u8 wh, .int .i64 a] ∧ 0 ≤ wh ∧ wh < 256 := by
  obtain ⟨cs, rfl, hsz⟩ := Go.WideShapes.okWide_struct Tryz.underlying43 hv
  obtain ⟨c0, c1, rfl⟩ := Go.Joins.array2 (hsz.trans c2_spot)
  obtain ⟨n, hf⟩ := h
  have hf' : DataW.trod enc Tryz.prog w base spare held n 43 [c0, c1] = some (d, p) := by simpa [Value.cells] using hf
  obtain ⟨_, _, f0⟩ := field_get Tryz.underlying43 hf' 0 _ rfl c1_u8 rfl c0 rfl
  obtain ⟨_, _, f1⟩ := field_get Tryz.underlying43 hf' 1 _ rfl c1_int rfl c1 rfl
  obtain ⟨k, rfl, h1, h2⟩ := open_u8 f0
  obtain ⟨a, rfl⟩ := open_in f1
  exact ⟨k, a, rfl, h1, h2⟩
end
end Go.Proofs.YtamjllakfgphnaaGreatDoor
