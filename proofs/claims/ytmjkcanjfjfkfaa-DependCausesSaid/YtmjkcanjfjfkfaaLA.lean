/- Arguments of layer 47, opened: worlds, numbers, what is taken back. -/
import Derived.Test.YtmjkcanjfjfkfaaRows
import Derived.ProofKit
import Derived.LaidMore
import Derived.OpenShut
import Derived.Stop.Joined
import Derived.WideShapes
import Derived.Lib.SmallJoins
import Derived.Test.YtmjkcanjfjfkfaaE1
import Derived.Test.YtmjkcanjfjfkfaaP1
namespace Go.Proofs.Ytmjkcanjfjfkfaa
open Go.RowKit Go.Deep
set_option linter.unusedSimpArgs false
set_option linter.unusedVariables false
instance : Inhabited De := ⟨⟨0, 0, 0, 0, false⟩⟩
section
variable {H : Type} {enc : TypeId × Value → H} {P : Program} {w : World} {base : Nat} {spare : Nat → Bool} {held : Bool}
theorem drop_one {α : Type} {cs : List α} {i : Nat} {u : α} (h : cs[i]? = some u) : (cs.drop i).take 1 = [u] := by
  obtain ⟨hi, rfl⟩ := List.getElem?_eq_some_iff.1 h
  rw [List.drop_eq_getElem_cons hi]; rfl
theorem field_get {t : TypeId} {fs : Array Field} {n : Nat} {cs : List Value} {y : DataW H × List MemPlace} (ht : P.underlying t = some (.struct fs)) (h : DataW.trod enc P w base spare held n t cs = some y)
    (i : Nat) (f : Field) (hf : fs[i]? = some f) (h1 : P.cellsOf f.type = 1) (ho : f.offset = i) (u : Value) (hu : cs[i]? = some u) : ∃ m x, DataW.trod enc P w base spare held m f.type [u] = some x := by
  obtain ⟨xs, m, _, _, _, hl, hall⟩ := DataW.trod_struct ht h
  have h2 := hall i f hf
  rw [h1, ho, drop_one hu] at h2
  have hi : i < xs.length := by rw [hl]; exact (Array.getElem?_eq_some_iff.1 hf).1
  rw [List.getElem?_eq_getElem hi] at h2
  exact ⟨m, _, h2⟩
end
theorem list5 {α : Type} {cs : List α} (h : cs.length = 5) : ∃ a b c d e, cs = [a, b, c, d, e] := by
  match cs, h with
  | [a, b, c, d, e], _ => exact ⟨a, b, c, d, e, rfl⟩
theorem list1 {α : Type} {cs : List α} (h : cs.length = 1) : ∃ a, cs = [a] := by
  match cs, h with
  | [a], _ => exact ⟨a, rfl⟩
theorem c1_bool : Try.prog.cellsOf 4 = 1 := by kernel_rfl
theorem c1_u8 : Try.prog.cellsOf 5 = 1 := by kernel_rfl
theorem c1_int : Try.prog.cellsOf 3 = 1 := by kernel_rfl
theorem c5_deed : Try.prog.cellsOf 62 = 5 := by kernel_rfl
theorem c1_deeds : Try.prog.cellsOf 22 = 1 := by kernel_rfl
theorem c1_world : Try.prog.cellsOf 24 = 1 := by kernel_rfl
/-- The cells of a deed. -/
def deC (d : De) : List Value := [.int .u8 d.who, .int .u8 d.reads, .int .u8 d.writes, .int .u8 d.spawn, .bool d.same]
theorem deC_len (d : De) : (deC d).length = 5 := rfl
def DeR (d : De) : Prop := d.who < 256 ∧ d.reads < 256 ∧ d.writes < 256 ∧ d.spawn < 256
/-- Deeds that came in. -/
def DeAt (B : Nat) (w : World) (v : Value) (l : List De) : Prop := Ra B w v l.length (l.flatMap deC) ∧ ∀ d ∈ l, DeR d
theorem DeAt.below {B : Nat} {w w' : World} {v : Value} {l : List De} (h : DeAt B w v l) (hb : Below B w w') : DeAt B w' v l := ⟨h.1.below hb, h.2⟩
/-- Numbers that came in. -/
def InAt (B : Nat) (w : World) (v : Value) (l : List Int) : Prop := Ra B w v l.length (l.flatMap inC)
theorem rowC_unit {α : Type} (f : α → List Value) : ∀ (l : List α) (us : List Unit), us.length = l.length → rowC (fun x _ => f x) l us = l.flatMap f
  | [], [], _ => rfl
  | x :: l, u :: us, h => by
    simp only [rowC, List.flatMap_cons]
    rw [rowC_unit f l us (by simpa using h)]
  | [], _ :: _, h => by simp at h
  | _ :: _, [], h => by simp at h
section
variable {H : Type} {enc : TypeId × Value → H} {w : World} {base : Nat} {spare : Nat → Bool} {held : Bool}
theorem open_boo {n : Nat} {u : Value} {x : DataW H × List MemPlace} (h : DataW.trod enc Try.prog w base spare held n 4 [u] = some x) : ∃ b : Bool, u = .bool b := by
  obtain ⟨b, h1, _⟩ := DataW.trod_bool Try.underlying4 h
  injection h1 with h1
  exact ⟨b, h1⟩
theorem open_in {n : Nat} {u : Value} {x : DataW H × List MemPlace} (h : DataW.trod enc Try.prog w base spare held n 3 [u] = some x) : ∃ k : Int, u = .int .i64 k := by
  obtain ⟨k, h1, _, h2⟩ := DataW.trod_int Try.underlying3 h
  injection h1 with h1
  exact ⟨k, h1⟩
theorem open_u8 {n : Nat} {u : Value} {x : DataW H × List MemPlace} (h : DataW.trod enc Try.prog w base spare held n 5 [u] = some x) : ∃ k : Int, u = .int .u8 k ∧ 0 ≤ k ∧ k < 256 := by
  obtain ⟨k, h1, _, h2⟩ := DataW.trod_int Try.underlying5 h
  injection h1 with h1
  simp only [Lit.wf, Bool.and_eq_true, decide_eq_true_eq] at h2
  have e1 : IntKind.min .u8 = 0 := by decide
  have e2 : IntKind.max .u8 = 255 := by decide
  rw [e1, e2] at h2
  exact ⟨k, h1, h2.1, by omega⟩
theorem open_De {n : Nat} {cs : List Value} {y : DataW H × List MemPlace} (h : DataW.trod enc Try.prog w base spare held n 62 cs = some y) (hl : cs.length = 5) : ∃ (t : De) (u : Unit), cs = deC t ∧ DeR t := by
  obtain ⟨a, b, c, d, e, rfl⟩ := list5 hl
  obtain ⟨_, _, f0⟩ := field_get Try.underlying62 h 0 _ rfl c1_u8 rfl a rfl
  obtain ⟨_, _, f1⟩ := field_get Try.underlying62 h 1 _ rfl c1_u8 rfl b rfl
  obtain ⟨_, _, f2⟩ := field_get Try.underlying62 h 2 _ rfl c1_u8 rfl c rfl
  obtain ⟨_, _, f3⟩ := field_get Try.underlying62 h 3 _ rfl c1_u8 rfl d rfl
  obtain ⟨_, _, f4⟩ := field_get Try.underlying62 h 4 _ rfl c1_bool rfl e rfl
  obtain ⟨k0, rfl, h0, h0'⟩ := open_u8 f0
  obtain ⟨k1, rfl, h1, h1'⟩ := open_u8 f1
  obtain ⟨k2, rfl, h2, h2'⟩ := open_u8 f2
  obtain ⟨k3, rfl, h3, h3'⟩ := open_u8 f3
  obtain ⟨z, rfl⟩ := open_boo f4
  refine ⟨⟨k0.toNat, k1.toNat, k2.toNat, k3.toNat, z⟩, (), ?_, by show k0.toNat < 256; omega, by show k1.toNat < 256; omega, by show k2.toNat < 256; omega, by show k3.toNat < 256; omega⟩
  simp only [deC]
  rw [Int.toNat_of_nonneg h0, Int.toNat_of_nonneg h1, Int.toNat_of_nonneg h2, Int.toNat_of_nonneg h3]
theorem open_Deeds {n : Nat} {v : Value} {y : DataW H × List MemPlace} (h : DataW.trod enc Try.prog w base spare held n 22 [v] = some y) : ∃ l : List De, DeAt w.heap.size w v l := by
  obtain ⟨l, us, h1, h2⟩ : ∃ l : List De, RowRa (fun t (_ : Unit) => deC t) (fun _ _ t => DeR t) w.heap.size w v l :=
    open_row (fun t _ => deC_len t) (by omega) Try.underlying22 c5_deed (fun n cs y h hl => open_De h hl) h
  rw [rowC_unit deC l us h1.1] at h2
  refine ⟨l, h2, fun t ht => ?_⟩
  obtain ⟨i, hi, rfl⟩ := List.getElem_of_mem ht
  have hiv : i < us.length := by rw [h1.1]; exact hi
  exact h1.2 i _ _ (List.getElem?_eq_getElem hi) (List.getElem?_eq_getElem hiv)
set_option maxRecDepth 100000 in
theorem open_World {r : Reach} {b0 : Nat} {v : Value} {d : DataW H} {p : List MemPlace} (hv : Value.okWide Try.prog w r b0 24 v) (h : DataW.Trod enc Try.prog w base spare held 24 v d p) : ∃ (l : List De) (u : Value), v = .agg #[u] ∧ DeAt w.heap.size w u l := by
  obtain ⟨cs, rfl, hsz⟩ := Go.WideShapes.okWide_struct Try.underlying24 hv
  obtain ⟨c0, rfl⟩ : ∃ c0, cs = #[c0] := by
    obtain ⟨l⟩ := cs
    obtain ⟨a, rfl⟩ := list1 (show l.length = 1 from hsz.trans c1_world)
    exact ⟨a, rfl⟩
  obtain ⟨n, hf⟩ := h
  have hf' : DataW.trod enc Try.prog w base spare held n 24 [c0] = some (d, p) := by simpa [Value.cells] using hf
  obtain ⟨_, _, f0⟩ := field_get Try.underlying24 hf' 0 _ rfl c1_deeds rfl c0 rfl
  obtain ⟨l, hl⟩ := open_Deeds f0
  exact ⟨l, c0, rfl, hl⟩
set_option maxRecDepth 100000 in
theorem open_ints {r : Reach} {b0 : Nat} {v : Value} {d : DataW H} {p : List MemPlace} (hv : Value.okWide Try.prog w r b0 36 v) (h : DataW.Trod enc Try.prog w base spare held 36 v d p) : ∃ l : List Int, InAt w.heap.size w v l := by
  obtain ⟨a, len, cap, rfl⟩ := Go.WideShapes.okWide_slice Try.underlying36 hv
  obtain ⟨n, hf⟩ := h
  obtain ⟨l, us, h1, h2⟩ : ∃ l : List Int, RowRa (fun t (_ : Unit) => inC t) (fun _ _ t => True) w.heap.size w (.slice a len cap) l :=
    open_row (fun t _ => inC_len t) (by omega) Try.underlying36 c1_int (fun n cs y h hl => by
      obtain ⟨u, rfl⟩ := list1 hl
      obtain ⟨k, rfl⟩ := open_in h
      exact ⟨k, (), rfl, trivial⟩) (by simpa [Value.cells] using hf)
  rw [rowC_unit inC l us h1.1] at h2
  exact ⟨l, h2⟩
end
end Go.Proofs.Ytmjkcanjfjfkfaa
