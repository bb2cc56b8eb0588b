/- InstrDecodes: whatever the input, the law returns true and each argument reads as it did; the row's listed variable (the table of operations) tied to the program's text. No condition. -/
import Derived.Test.YtagmeijpelffcaaDoorCards
import Derived.Test.YtagmeijpelffcaaDoorTie
import Derived.Test.YtagmeijpelffcaaDoorLaid
import Derived.Test.YtagmeijpelffcaaDoorL5
import Derived.WalkKit
import Derived.ProofKit
import Derived.OpenShut
import Derived.ShutString
import Derived.ChangeOld
import Derived.Below
import Derived.Lib.SmallJoins
namespace Go.Proofs.YtagmeijpelffcaaDoor.instrDecodes
open Go.ChangeShapes Go.WideShapes Go.ChangeAt Go.RowKit Go.Joins
open Go.ChangeMaps (open_string shut_string)
set_option linter.unusedVariables false
set_option linter.unusedSimpArgs false
theorem laidOut : laidOutB Tryd.prog = true := by kernel_rfl
theorem door_met (os : Os) (args : Array Value) : laidMetH Tryd.prog [("replevin/instr.operations", Rows.laid_replevin_instr_operations)] ((World.doorLaid Tryd.prog 41 os).forCall (fun _ _ => 0) ⟨#[], args, []⟩).memory :=
  laidMetH_of_parts3 (fuel := 8) (laidMet_of_run' 8 (by kernel_rfl) (by kernel_rfl)) (by kernel_rfl) (by kernel_rfl)
theorem four {α : Type} (l : List α) (h : l.length = 4) : ∃ a b c d, l = [a, b, c, d] := by
  match l, h with
  | [a, b, c, d], _ => exact ⟨a, b, c, d, rfl⟩
set_option maxRecDepth 100000 in
theorem open_b4 {H : Type} {enc : TypeId × Value → H} {W : World} {r : Reach} {base b0 : Nat} {sp : Nat → Bool} {held : Bool} {v : Value} {d : DataW H} {p : List MemPlace} (hv : Value.okWide Tryd.prog W r b0 41 v) (h : DataW.Trod enc Tryd.prog W base sp held 41 v d p) :
    ∃ n0 n1 n2 n3 : Int, v = .agg #[.int .u8 n0, .int .u8 n1, .int .u8 n2, .int .u8 n3] ∧ (Lit.int .u8 n0).wf = true ∧ (Lit.int .u8 n1).wf = true ∧ (Lit.int .u8 n2).wf = true ∧ (Lit.int .u8 n3).wf = true := by
  simp only [Value.okWide, Tryd.underlying41] at hv
  obtain ⟨⟨l⟩, rfl, hsz, _⟩ := hv
  obtain ⟨fu, hf⟩ := h
  obtain ⟨xs, m, _, _, _, hxl, hel⟩ := DataW.trod_array Tryd.underlying41 hf
  rw [show Tryd.prog.cellsOf 41 = 4 by kernel_rfl] at hsz
  have c5 : Tryd.prog.cellsOf 5 = 1 := by kernel_rfl
  obtain ⟨c0, c1, c2, c3, rfl⟩ := four l (by simpa using hsz)
  have g0 := hel 0 (by omega)
  have g1 := hel 1 (by omega)
  have g2 := hel 2 (by omega)
  have g3 := hel 3 (by omega)
  have x0 : xs[0]? = some (xs[0]'(by omega)) := List.getElem?_eq_getElem _
  have x1 : xs[1]? = some (xs[1]'(by omega)) := List.getElem?_eq_getElem _
  have x2 : xs[2]? = some (xs[2]'(by omega)) := List.getElem?_eq_getElem _
  have x3 : xs[3]? = some (xs[3]'(by omega)) := List.getElem?_eq_getElem _
  rw [x0] at g0
  simp only [c5] at g0
  rw [x1] at g1
  simp only [c5] at g1
  rw [x2] at g2
  simp only [c5] at g2
  rw [x3] at g3
  simp only [c5] at g3
  obtain ⟨n0, e0, _, w0⟩ := DataW.trod_int Tryd.underlying5 g0
  obtain ⟨n1, e1, _, w1⟩ := DataW.trod_int Tryd.underlying5 g1
  obtain ⟨n2, e2, _, w2⟩ := DataW.trod_int Tryd.underlying5 g2
  obtain ⟨n3, e3, _, w3⟩ := DataW.trod_int Tryd.underlying5 g3
  simp [Value.cells] at e0 e1 e2 e3
  subst e0 e1 e2 e3
  exact ⟨n0, n1, n2, n3, rfl, w0, w1, w2, w3⟩
set_option maxRecDepth 100000 in
theorem lifted (os : Os) (started : os.Started) (H : Type) (enc : TypeId × Value → H) :
    ReturnsInHanded {} Tryd.checked os 8 .any (fun w args => (Rows.instrDecodesSpec.pre enc Tryd.prog Tryd.f8 [] false w args ∧ laidMetH Tryd.prog [("replevin/instr.operations", Rows.laid_replevin_instr_operations)] w) ∧ sizedMet enc Tryd.prog Tryd.f8 (OpenSpec.ofChange Rows.instrDecodesSpec) false w args)
      (Rows.instrDecodesSpec.post enc Tryd.prog Tryd.f8 false true false false) := by
  refine returnsInHanded_of_change_and (C := Tryd.checked) (X := fun w _ => laidMetH Tryd.prog [("replevin/instr.operations", Rows.laid_replevin_instr_operations)] w) (fun _ _ _ hh h => h.of_heap hh) own started (by kernel_rfl) Tryd.func8
    (ChangeSpec.witness_shaped (enc := enc) (C := Tryd.checked) (os := os) (X := fun w _ => laidMetH Tryd.prog [("replevin/instr.operations", Rows.laid_replevin_instr_operations)] w) false (World.doorLaid Tryd.prog 41 os) #[.agg #[.int .u8 0, .int .u8 0, .int .u8 0, .int .u8 0]] 8 rfl (World.shaped_of_RefB (by kernel_rfl) (by kernel_rfl)) (by kernel_rfl) (by kernel_rfl) (by kernel_rfl) (door_met os _)) ?_
  intro W base args ds gs before hval0 hW _ _ hL _
  have hval : ∀ (j : Nat) t v, Tryd.f8.params[j]? = some t → args[j]? = some v → Value.okWide Tryd.prog W .any base t v := hval0
  have hW' := hW
  obtain ⟨p, q, hA0, hV, rfl, hfz, hnd⟩ := hW
  have hA : DataW.TrodAll enc Tryd.prog W 0 (fun _ => true) true Tryd.f8.params.toList args.toList ds p := hA0
  rw [Tryd.params8] at hA hval
  obtain ⟨v0, vs0, d0, ds0, p0, q0, hargs, rfl, rfl, h0, r0⟩ := trodAll_cons hA
  obtain ⟨rfl, rfl, rfl⟩ := trodAll_nil r0
  obtain rfl : args = #[v0] := by cases args; simp_all
  obtain ⟨rfl, rfl⟩ := trodVars_none hV
  have k0 := h0
  have lt0 : ∀ x ∈ p0, x.block < W.heap.size := by obtain ⟨m, hm⟩ := k0; exact DataW.trod_lt m _ _ _ hm
  obtain ⟨n0, n1, n2, n3, rfl, w0, w1, w2, w3⟩ := open_b4 (hval 0 41 v0 rfl rfl) h0
  have ho := ops_of_laid hL
  clear hA0 hval0
  refine (decodes_walk n0 n1 n2 n3 W ho (bounds_u8 w0).1 (by have := (bounds_u8 w0).2; omega) (bounds_u8 w1).1 (by have := (bounds_u8 w1).2; omega) (bounds_u8 w2).1 (by have := (bounds_u8 w2).2; omega) (bounds_u8 w3).1 (by have := (bounds_u8 w3).2; omega)).mono fun e W' ⟨he, bel⟩ => ?_
  subst he
  exact ⟨_, rfl, _, _, _, [], _, [], hW', trodAll_mk1 (shut_bool Tryd.underlying4 _), (trodAll_cons_mk (Below.trod laidOut (by kernel_rfl) (of_decide_eq_true (by kernel_rfl)) k0 bel lt0) trodAll_mk0), rfl, bel.frame _, fun h => by cases h⟩
theorem over : Rows.InstrDecodesSaid :=
  OpenClaim.holds_of_wide 8 Tryd.f8 rfl rfl rfl rfl rfl rfl rfl ⟨rfl, rfl, rfl, rfl, rfl⟩ rfl rfl rfl rfl rfl (by kernel_rfl) Tryd.func8 (by kernel_rfl)
    (of_decide_eq_true (by kernel_rfl)) (by unfold Func.isWrapper; first | (rw [if_pos (by decide +kernel)]; kernel_rfl) | (rw [if_neg (by decide +kernel)]; exact ⟨rfl, rfl⟩))
    (fun os started H enc _ => lifted os started H enc)
/-- THE STATEMENT. -/
theorem card : Rows.InstrDecodesCardSaid :=
  Claim7.holds_tied_plain_at .later [] _ _ _ _ over (fun _ h => by cases h) (by kernel_rfl) (fun _ h => by cases h) instrDecodes_row_tie rfl ⟨rfl, rfl⟩ (by kernel_rfl) rfl
    (fun f fn hf hfn => by
      obtain rfl : f = 8 := Option.some.inj ((show Tryd.prog.funcNamed "replevin/replevinlaw16.InstrDecodes" = some 8 by kernel_rfl).symm.trans hf) |>.symm
      obtain rfl : fn = Tryd.f8 := (Option.some.inj (Tryd.func8.symm.trans hfn)).symm
      exact ⟨by kernel_rfl, fun j t ht => by
        rw [Tryd.params8] at ht
        have hm : t ∈ [41] := by simpa using Array.mem_of_getElem? ht
        have hall : ([41].all fun u => !Tryd.prog.wantsStandIn u) = true := by kernel_rfl
        exact (show Tryd.prog.wantsStandIn t = false by simpa using List.all_eq_true.1 hall t hm)⟩)
    (by kernel_rfl)
#print axioms card
end Go.Proofs.YtagmeijpelffcaaDoor.instrDecodes
