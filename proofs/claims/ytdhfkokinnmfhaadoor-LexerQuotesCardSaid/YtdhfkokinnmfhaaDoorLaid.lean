/- What the listed variable gives: the table of escapes lies in block 0. -/
import Derived.Test.YtdhfkokinnmfhaaDoorRows
import Derived.Test.YtdhfkokinnmfhaaDoorX3
import Derived.ProofKit
import Derived.LaidMore
import Derived.OpenShut
import Derived.Stop.Joined
namespace Go.Proofs.YtdhfkokinnmfhaaDoor
open Go.ChangeShapes Go.WideShapes Go.ChangeAt Go.RowKit
set_option linter.unusedSimpArgs false
set_option linter.unusedVariables false
theorem own : ownKnob Tryd.prog.godebug = none := by kernel_rfl
theorem gTab : Tryd.prog.globalNamed "replevin/lexer.escapes" = some 0 := by kernel_rfl
theorem tTab : (Tryd.prog.globals[0]?).map (·.type) = some 95 := by kernel_rfl
theorem cells5 : Tryd.prog.cellsOf 5 = 1 := by kernel_rfl
theorem laid_eq {H : Type} : (Rows.laid_replevin_lexer_escapes : DataW H) = .agg ((List.range 128).map fun (k : Nat) => .lit (.int .u8 (escT (k : Int)))) := by kernel_rfl
theorem at_of_take {α : Type} (l : List α) (a : Nat) (v : α) (h : (l.drop a).take 1 = [v]) : l[a]? = some v := by
  have h0 : ((l.drop a).take 1)[0]? = some v := by rw [h]; rfl
  rw [List.getElem?_take, if_pos (by omega), List.getElem?_drop] at h0
  simpa using h0
theorem esc_of_laid {W : World} (h : laidMetH Tryd.prog [("replevin/lexer.escapes", Rows.laid_replevin_lexer_escapes)] W) : EscAt W := by
  rw [MakeChecks.laidMetH_plain _ _ _ (by kernel_rfl)] at h
  obtain ⟨ps, ⟨g0, t0, cs0, f0, p0, q0, hg0, ht0, hv0, hd0, _, _⟩, _, _⟩ := h
  obtain rfl := Option.some.inj (gTab.symm.trans hg0)
  obtain rfl := Option.some.inj (tTab.symm.trans ht0)
  have hcell : ∀ i, W.cell? ⟨0, i, none⟩ = cs0[i]? := fun i => World.var?_cell hg0 hv0 i
  obtain ⟨xs, m, _, hx, _, hlen, hel⟩ := DataW.trod_array Tryd.underlying95 hd0
  simp only [Prod.mk.injEq] at hx
  rw [laid_eq] at hx
  have hxs : xs.map (·.1) = (List.range 128).map fun (k : Nat) => DataW.lit (.int .u8 (escT (k : Int))) := by simpa using hx.1.symm
  have key : ∀ k, k < 128 → cs0[k]? = some (.int .u8 (escT k)) := by
    intro k hk
    have h1 := hel k hk
    have hxk : xs[k]? = some (xs[k]'(by omega)) := List.getElem?_eq_getElem (by omega)
    rw [hxk, cells5] at h1
    have hd : (xs[k]'(by omega)).1 = DataW.lit (.int .u8 (escT k)) := by
      have := congrArg (fun l => l[k]?) hxs
      simpa [hxk, hk] using this
    obtain ⟨n1, e1, z1, _⟩ := DataW.trod_int Tryd.underlying5 h1
    rw [z1] at hd
    simp only [DataW.lit.injEq, Lit.int.injEq, true_and] at hd
    subst hd
    have := at_of_take _ _ _ (by simpa using e1)
    simpa using this
  refine ⟨?_, fun k hk => ?_⟩
  · have := key 0 (by omega)
    rw [← hcell] at this
    apply Nat.lt_of_not_le
    intro hle
    have h0 : W.heap[0]? = .none := by simp; exact Array.size_eq_zero_iff.1 (by omega)
    simp [World.cell?, h0] at this
  · rw [hcell]
    exact key k hk
end Go.Proofs.YtdhfkokinnmfhaaDoor
