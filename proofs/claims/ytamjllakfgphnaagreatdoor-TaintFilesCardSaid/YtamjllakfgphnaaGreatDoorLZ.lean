/- Arguments of layer 54, opened: births. -/
import Derived.Test.YtamjllakfgphnaaGreatDoorLA
namespace Go.Proofs.YtamjllakfgphnaaGreatDoor
open Go.RowKit Go.Deep
set_option linter.unusedSimpArgs false
set_option linter.unusedVariables false
theorem c1_lin : Tryz.prog.cellsOf 22 = 1 := by kernel_rfl
theorem c2_birth : Tryz.prog.cellsOf 24 = 2 := by kernel_rfl
section
variable {H : Type} {enc : TypeId × Value → H} {w : World} {base : Nat} {spare : Nat → Bool} {held : Bool}
theorem open_lin {n : Nat} {u : Value} {x : DataW H × List MemPlace} (h : DataW.trod enc Tryz.prog w base spare held n 22 [u] = some x) : ∃ t : Bs, u = .string (bs t) := by
  obtain ⟨s, h1, _, h2⟩ := DataW.trod_string Tryz.underlying22 h
  injection h1 with h1
  exact ⟨s.data.toList, by rw [bs_of]; exact h1⟩
set_option maxRecDepth 100000 in
theorem open_Birth {r : Reach} {b0 : Nat} {v : Value} {d : DataW H} {p : List MemPlace} (hv : Value.okWide Tryz.prog w r b0 24 v) (h : DataW.Trod enc Tryz.prog w base spare held 24 v d p) : ∃ (t : Bs) (m : Int), v = .agg #[.string (bs t), .int .i64 m] := by
  obtain ⟨cs, rfl, hsz⟩ := Go.WideShapes.okWide_struct Tryz.underlying24 hv
  obtain ⟨c0, c1, rfl⟩ := Go.Joins.array2 (hsz.trans c2_birth)
  obtain ⟨n, hf⟩ := h
  have hf' : DataW.trod enc Tryz.prog w base spare held n 24 [c0, c1] = some (d, p) := by simpa [Value.cells] using hf
  obtain ⟨_, _, f0⟩ := field_get Tryz.underlying24 hf' 0 _ rfl c1_lin rfl c0 rfl
  obtain ⟨_, _, f1⟩ := field_get Tryz.underlying24 hf' 1 _ rfl c1_int rfl c1 rfl
  obtain ⟨t, rfl⟩ := open_lin f0
  obtain ⟨m, rfl⟩ := open_in f1
  exact ⟨t, m, rfl⟩
end
end Go.Proofs.YtamjllakfgphnaaGreatDoor
