/- What the listed variable gives: the table of usages lies in block 0. -/
import Derived.Test.YtamjllakfgphnaaGreatDoorRows
import Derived.Test.YtamjllakfgphnaaGreatDoorGS
import Derived.ProofKit
import Derived.LaidMore
import Derived.OpenShut
import Derived.Stop.Joined
import Derived.Test.YtamjllakfgphnaaGreatDoorGV
import Derived.WideShapes
import Derived.Lib.SmallJoins
namespace Go.Proofs.YtamjllakfgphnaaGreatDoor
open Go.ChangeShapes Go.WideShapes Go.ChangeAt Go.RowKit
set_option linter.unusedSimpArgs false
set_option linter.unusedVariables false
theorem own : ownKnob Tryz.prog.godebug = none := by kernel_rfl
theorem gTab : Tryz.prog.globalNamed "replevin/object.usages" = some 0 := by kernel_rfl
theorem tTab : (Tryz.prog.globals[0]?).map (·.type) = some 216 := by kernel_rfl
theorem cellsU : Tryz.prog.cellsOf 215 = 6 := by kernel_rfl
theorem cellsS : Tryz.prog.cellsOf 9 = 1 := by kernel_rfl
theorem cellsI : Tryz.prog.cellsOf 3 = 1 := by kernel_rfl
theorem cellsB : Tryz.prog.cellsOf 4 = 1 := by kernel_rfl
def useD {H : Type} (k : Nat) : DataW H := .agg [.lit (.string (useT k).word), .lit (.bool (useT k).owner), .lit (.bool (useT k).number), .lit (.bool (useT k).index), .lit (.bool (useT k).text), .lit (.int .i64 (useT k).most)]
def dataL {H : Type} : DataW H → List (DataW H)
  | .agg l => l
  | _ => []
theorem laid_at {H : Type} {k : Nat} (hk : k = 13 ∨ k = 15 ∨ k = 16 ∨ k = 17 ∨ k = 20) : (dataL (Rows.laid_replevin_object_usages : DataW H))[k]? = some (useD k) := by
  rcases hk with rfl | rfl | rfl | rfl | rfl <;> kernel_rfl
theorem at_of_take {α : Type} (l : List α) (a j : Nat) (v : α) (hj : j < 6) (h : (((l.drop a).take 6).drop j).take 1 = [v]) : l[a + j]? = some v := by
  have h0 : ((((l.drop a).take 6).drop j).take 1)[0]? = some v := by rw [h]; rfl
  rw [List.getElem?_take, if_pos (by omega), List.getElem?_drop, List.getElem?_take, if_pos (by omega), List.getElem?_drop] at h0
  simpa using h0
theorem use_of_laid {W : World} (h : laidMetH Tryz.prog [("replevin/object.usages", Rows.laid_replevin_object_usages)] W) : UseAt W := by
  rw [MakeChecks.laidMetH_plain _ _ _ (by kernel_rfl)] at h
  obtain ⟨ps, ⟨g0, t0, cs0, f0, p0, q0, hg0, ht0, hv0, hd0, _, _⟩, _, _⟩ := h
  obtain rfl := Option.some.inj (gTab.symm.trans hg0)
  obtain rfl := Option.some.inj (tTab.symm.trans ht0)
  have hcell : ∀ i, W.cell? ⟨0, i, none⟩ = cs0[i]? := fun i => World.var?_cell hg0 hv0 i
  obtain ⟨xs, m, _, hx, _, hlen, hel⟩ := DataW.trod_array Tryz.underlying216 hd0
  simp only [Prod.mk.injEq] at hx
  have hxs : ∀ k, (k = 13 ∨ k = 15 ∨ k = 16 ∨ k = 17 ∨ k = 20) → (xs.map (·.1))[k]? = some (useD k) := by
    intro k hk
    have h1 := laid_at (H := Unit) hk
    rw [hx.1] at h1
    exact h1
  have key : ∀ k, (k = 13 ∨ k = 15 ∨ k = 16 ∨ k = 17 ∨ k = 20) → cs0[k * 6]? = some (.string (bs (useT k).word)) ∧ cs0[k * 6 + 1]? = some (.bool (useT k).owner) ∧ cs0[k * 6 + 2]? = some (.bool (useT k).number) ∧ cs0[k * 6 + 3]? = some (.bool (useT k).index) ∧ cs0[k * 6 + 4]? = some (.bool (useT k).text) ∧ cs0[k * 6 + 5]? = some (.int .i64 (useT k).most) := by
    intro k hkk
    have hk : k < 21 := by omega
    have h1 := hel k hk
    have hxk : xs[k]? = some (xs[k]'(by omega)) := List.getElem?_eq_getElem (by omega)
    rw [hxk, cellsU] at h1
    have hd : (xs[k]'(by omega)).1 = useD k := by
      have := hxs k hkk
      simpa [hxk] using this
    obtain ⟨ys, n, _, hy, _, hyl, hf⟩ := DataW.trod_struct Tryz.underlying215 h1
    rw [hy] at hd
    simp only [useD, DataW.agg.injEq] at hd
    match ys, hyl, hd, hf with
    | [y0, y1, y2, y3, y4, y5], _, hd, hf =>
      simp only [List.map_cons, List.map_nil, List.cons.injEq, and_true] at hd
      obtain ⟨d0, d1, d2, d3, d4, d5⟩ := hd
      have g0 := hf 0 _ rfl
      have g1 := hf 1 _ rfl
      have g2 := hf 2 _ rfl
      have g3 := hf 3 _ rfl
      have g4 := hf 4 _ rfl
      have g5 := hf 5 _ rfl
      obtain ⟨s, e0, z0, _⟩ := DataW.trod_string Tryz.underlying9 g0
      obtain ⟨n1, e1, z1⟩ := DataW.trod_bool Tryz.underlying4 g1
      obtain ⟨n2, e2, z2⟩ := DataW.trod_bool Tryz.underlying4 g2
      obtain ⟨n3, e3, z3⟩ := DataW.trod_bool Tryz.underlying4 g3
      obtain ⟨n4, e4, z4⟩ := DataW.trod_bool Tryz.underlying4 g4
      obtain ⟨n5, e5, z5, _⟩ := DataW.trod_int Tryz.underlying3 g5
      rw [z0] at d0; rw [z1] at d1; rw [z2] at d2; rw [z3] at d3; rw [z4] at d4; rw [z5] at d5
      simp only [DataW.lit.injEq, Lit.string.injEq, Lit.int.injEq, Lit.bool.injEq, true_and] at d0 d1 d2 d3 d4 d5
      replace e0 : (((cs0.toList.drop (k * 6)).take 6).drop 0).take (Tryz.prog.cellsOf 9) = [.string s] := e0
      replace e1 : (((cs0.toList.drop (k * 6)).take 6).drop 1).take (Tryz.prog.cellsOf 4) = [.bool n1] := e1
      replace e2 : (((cs0.toList.drop (k * 6)).take 6).drop 2).take (Tryz.prog.cellsOf 4) = [.bool n2] := e2
      replace e3 : (((cs0.toList.drop (k * 6)).take 6).drop 3).take (Tryz.prog.cellsOf 4) = [.bool n3] := e3
      replace e4 : (((cs0.toList.drop (k * 6)).take 6).drop 4).take (Tryz.prog.cellsOf 4) = [.bool n4] := e4
      replace e5 : (((cs0.toList.drop (k * 6)).take 6).drop 5).take (Tryz.prog.cellsOf 3) = [.int .i64 n5] := e5
      rw [cellsS] at e0
      rw [cellsB] at e1 e2 e3 e4
      rw [cellsI] at e5
      have q0 := at_of_take _ _ 0 _ (by omega) e0
      have q1 := at_of_take _ _ 1 _ (by omega) e1
      have q2 := at_of_take _ _ 2 _ (by omega) e2
      have q3 := at_of_take _ _ 3 _ (by omega) e3
      have q4 := at_of_take _ _ 4 _ (by omega) e4
      have q5 := at_of_take _ _ 5 _ (by omega) e5
      have hs : s = bs (useT k).word := by
        rw [← d0]
        exact (bs_of s).symm
      rw [hs] at q0
      rw [d1] at q1; rw [d2] at q2; rw [d3] at q3; rw [d4] at q4; rw [d5] at q5
      simp only [Array.getElem?_toList, Nat.add_zero] at q0 q1 q2 q3 q4 q5
      exact ⟨q0, q1, q2, q3, q4, q5⟩
  refine ⟨?_, fun k hk => ?_⟩
  · have := (key 13 (.inl rfl)).1
    rw [← hcell] at this
    apply Nat.lt_of_not_le
    intro hle
    have h0 : W.heap[0]? = .none := by simp; exact Array.size_eq_zero_iff.1 (by omega)
    simp [World.cell?, h0] at this
  · simp only [hcell]
    exact key k hk
end Go.Proofs.YtamjllakfgphnaaGreatDoor
