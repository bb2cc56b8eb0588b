/- Arguments of layer 41, opened: words alone, values (for CommandExpands, beside D1 alone). -/
import Derived.Test.YtiddchpkmcncdaaD1
namespace Go.Proofs.Ytiddchpkmcncdaa
open Go.RowKit Go.Deep
set_option linter.unusedSimpArgs false
set_option linter.unusedVariables false
def boV (b : Bool) (_ : Unit) : List Value := [.bool b]
def NoN (_ : World) (_ : Unit) (_ : Bool) : Prop := True
theorem boV_len (b : Bool) (u : Unit) : (boV b u).length = 1 := rfl
def vlV (p : Bs × Bs) (_ : Unit) : List Value := [.string (bs p.1), .string (bs p.2)]
def VlN (_ : World) (_ : Unit) (p : Bs × Bs) : Prop := p.1.length ≤ 9223372036854775807 ∧ p.2.length ≤ 9223372036854775807
theorem vlV_len (p : Bs × Bs) (u : Unit) : (vlV p u).length = 2 := rfl
section
variable {H : Type} {enc : TypeId × Value → H} {w : World} {base : Nat} {spare : Nat → Bool} {held : Bool} {r : Reach} {b0 : Nat} {v : Value} {d : DataW H} {p : List MemPlace}
set_option maxRecDepth 100000 in
theorem open_Wa (hv : Value.okWide Try.prog w r b0 39 v) (h : DataW.Trod enc Try.prog w base spare held 39 v d p) : ∃ l : Wd, AW w.heap.size w v l := by
  obtain ⟨a, len, cap, rfl⟩ := Go.WideShapes.okWide_slice Try.underlying39 hv
  obtain ⟨n, hf⟩ := h
  exact open_W (by simpa [Value.cells] using hf)
set_option maxRecDepth 100000 in
theorem open_Vc {n : Nat} {cs : List Value} {y : DataW H × List MemPlace} (h : DataW.trod enc Try.prog w base spare held n 56 cs = some y) (hl : cs.length = 2) : ∃ (x : Bs × Bs) (u : Unit), cs = vlV x u ∧ VlN w u x := by
  obtain ⟨a, b, rfl⟩ := list2 hl
  obtain ⟨_, _, f0⟩ := field_get Try.underlying56 h 0 _ rfl c1_9 rfl a rfl
  obtain ⟨_, _, f1⟩ := field_get Try.underlying56 h 1 _ rfl c1_9 rfl b rfl
  obtain ⟨t, rfl, ht⟩ := open_str f0
  obtain ⟨s, rfl, hs⟩ := open_str f1
  exact ⟨(t, s), (), rfl, ht, hs⟩
set_option maxRecDepth 100000 in
theorem open_Va (hv : Value.okWide Try.prog w r b0 57 v) (h : DataW.Trod enc Try.prog w base spare held 57 v d p) : ∃ l : List (Bs × Bs), RowRa vlV VlN w.heap.size w v l := by
  obtain ⟨a, len, cap, rfl⟩ := Go.WideShapes.okWide_slice Try.underlying57 hv
  obtain ⟨n, hf⟩ := h
  exact open_row vlV_len (by omega) Try.underlying57 c2_56 (fun n cs y h hl => open_Vc h hl) (by simpa [Value.cells] using hf)
end
end Go.Proofs.Ytiddchpkmcncdaa
