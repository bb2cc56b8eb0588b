/- Arguments of layer 46, opened: keys. -/
import Derived.Test.YtobkmkplhbaepaaDoorGL
import Derived.Test.YtobkmkplhbaepaaDoorW77
namespace Go.Proofs.YtobkmkplhbaepaaDoor
open Go.RowKit Go.Deep
set_option linter.unusedSimpArgs false
set_option linter.unusedVariables false
theorem c4_key : Tryd.prog.cellsOf 47 = 4 := by kernel_rfl
theorem c1_int : Tryd.prog.cellsOf 3 = 1 := by kernel_rfl
theorem c1_lin : Tryd.prog.cellsOf 38 = 1 := by kernel_rfl
theorem list4 {α : Type} {cs : List α} (h : cs.length = 4) : ∃ a b c d, cs = [a, b, c, d] := by
  match cs, h with
  | [a, b, c, d], _ => exact ⟨a, b, c, d, rfl⟩
section
variable {H : Type} {enc : TypeId × Value → H} {w : World} {base : Nat} {spare : Nat → Bool} {held : Bool}
theorem open_i64 {n : Nat} {u : Value} {x : DataW H × List MemPlace} (h : DataW.trod enc Tryd.prog w base spare held n 3 [u] = some x) : ∃ k : Int, u = .int .i64 k := by
  obtain ⟨k, h1, _, h2⟩ := DataW.trod_int Tryd.underlying3 h
  injection h1 with h1
  exact ⟨k, h1⟩
theorem open_lin {n : Nat} {u : Value} {x : DataW H × List MemPlace} (h : DataW.trod enc Tryd.prog w base spare held n 38 [u] = some x) : ∃ t : Bs, u = .string (bs t) := by
  obtain ⟨s, h1, _, h2⟩ := DataW.trod_string Tryd.underlying38 h
  injection h1 with h1
  exact ⟨s.data.toList, by rw [bs_of]; exact h1⟩
set_option maxRecDepth 100000 in
theorem open_Key {r : Reach} {b0 : Nat} {v : Value} {d : DataW H} {p : List MemPlace} (hv : Value.okWide Tryd.prog w r b0 47 v) (h : DataW.Trod enc Tryd.prog w base spare held 47 v d p) : ∃ k : Ky, v = kyV k := by
  obtain ⟨cs, rfl, hsz⟩ := Go.WideShapes.okWide_struct Tryd.underlying47 hv
  obtain ⟨a0, a1, a2, a3, hl⟩ := list4 (show cs.toList.length = 4 from by rw [Array.length_toList]; exact hsz.trans c4_key)
  obtain rfl : cs = #[a0, a1, a2, a3] := by cases cs; simp_all
  obtain ⟨n, hf⟩ := h
  have hf' : DataW.trod enc Tryd.prog w base spare held n 47 [a0, a1, a2, a3] = some (d, p) := by simpa [Value.cells] using hf
  obtain ⟨_, _, f0⟩ := field_get Tryd.underlying47 hf' 0 _ rfl c1_int rfl a0 rfl
  obtain ⟨_, _, f1⟩ := field_get Tryd.underlying47 hf' 1 _ rfl c1_int rfl a1 rfl
  obtain ⟨_, _, f2⟩ := field_get Tryd.underlying47 hf' 2 _ rfl c1_int rfl a2 rfl
  obtain ⟨_, _, f3⟩ := field_get Tryd.underlying47 hf' 3 _ rfl c1_lin rfl a3 rfl
  obtain ⟨k0, rfl⟩ := open_i64 f0
  obtain ⟨k1, rfl⟩ := open_i64 f1
  obtain ⟨k2, rfl⟩ := open_i64 f2
  obtain ⟨k3, rfl⟩ := open_lin f3
  exact ⟨⟨k0, k1, k2, k3⟩, rfl⟩
end
end Go.Proofs.YtobkmkplhbaepaaDoor
