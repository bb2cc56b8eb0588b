/- Words for the laws of layer 46. -/
import Derived.Test.YtobkmkplhbaepaaGreatDoorGFZ
import Derived.Test.YtobkmkplhbaepaaGreatDoorGK
import Derived.Test.YtobkmkplhbaepaaGreatDoorGC
namespace Go.Proofs.YtobkmkplhbaepaaGreatDoor
open Go.RowKit
set_option linter.unusedSimpArgs false
set_option linter.unusedVariables false
attribute [local go_sem ↓] Go.wp_at_zero Go.wp_at_succ
theorem RaAct.ok {B : Nat} {w : World} {v : Value} {l : List Act} (h : RaAct B w v l) : ∀ a ∈ l, ActOk a := by
  obtain ⟨vs, h1, _⟩ := h
  intro a ha
  obtain ⟨i, hi, rfl⟩ := List.getElem_of_mem ha
  have hiv : i < vs.length := by rw [h1.1]; exact hi
  have := h1.2 i _ _ (List.getElem?_eq_getElem hi) (List.getElem?_eq_getElem hiv)
  exact ⟨this.2.2.1, this.2.2.2.2.1, this.2.2.2.2.2.1⟩
theorem RaIt.len {B : Nat} {w : World} {v : Value} {l : List It} (h : RaIt B w v l) : l.length ≤ 9223372036854775807 := by
  obtain ⟨A, c, _, h1, h2⟩ := h.form
  unfold maxLen at h2
  omega
theorem RaAct.next_ {B B' : Nat} {w : World} {v : Value} {l : List Act} (h : RaAct B w v l) (hb : B ≤ B') : RaAct B' w v l := by
  obtain ⟨vs, h1, ⟨A, c, hv, hc, hm, h0⟩⟩ := h
  refine ⟨vs, ⟨h1.1, fun i x v e1 e2 => by have h := h1.2 i x v e1 e2; exact ⟨h.1.next_ hb, h.2.1.next_ hb, h.2.2⟩⟩, ⟨A, c, hv, hc, hm, ?_⟩⟩
  rcases h0 with h0 | ⟨b, o, hA, hlt, hx⟩
  · exact .inl h0
  · exact .inr ⟨b, o, hA, Nat.lt_of_lt_of_le hlt hb, hx⟩
def LwRel (w : World) (i : Value) (wr : World) : Prop := ∃ k : Nat, k ≤ 6 ∧ i = .int .i64 k ∧ Below w.heap.size w wr
def LwIn (n : Nat) (w : World) (i : Value) (wr : World) : Prop := ∃ k : Nat, k ≤ n ∧ i = .int .i64 k ∧ Below w.heap.size w wr
theorem objs_len : objs.length = 6 := rfl
theorem rdrA_len (l : List Ac) (n : Nm) (t : Int) : (rdrA l n t).2.length ≤ (rdrs n 0 l).length := by
  unfold rdrA
  split
  · simp
  · split
    · exact List.length_filter_le _ _
    · split
      · split
        · exact List.length_filter_le _ _
        · simp
      · simp
end Go.Proofs.YtobkmkplhbaepaaGreatDoor
