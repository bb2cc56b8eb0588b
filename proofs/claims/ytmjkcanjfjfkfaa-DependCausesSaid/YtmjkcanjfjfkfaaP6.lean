/- Plain facts of layer 47: the links to an action are its row; its sources are the row's links that have an action. -/
import Derived.Test.YtmjkcanjfjfkfaaB11
namespace Go.Proofs.Ytmjkcanjfjfkfaa
set_option linter.unusedSimpArgs false
set_option linter.unusedVariables false
theorem lnkA_to {d : List Ac} {a : Ac} {x : Lk} (h : x ∈ lnkA d a) : x.to_ = (d.length : Int) := by
  unfold lnkA at h
  obtain ⟨c, _, rfl⟩ := List.mem_map.1 h
  rfl
theorem lnkF_lo : ∀ (r d : List Ac) {x : Lk}, x ∈ (lnkF d r).flatten → (d.length : Int) ≤ x.to_
  | [], _, x, h => by simp [lnkF] at h
  | a :: r, d, x, h => by
    rw [lnkF, List.flatten_cons, List.mem_append] at h
    rcases h with h | h
    · rw [lnkA_to h]; exact Int.le_refl _
    · have := lnkF_lo r (d ++ [a]) h
      simp only [List.length_append, List.length_singleton] at this
      omega
theorem filt_none {l : List Lk} {p : Lk → Bool} (h : ∀ x ∈ l, p x = false) : l.filter p = [] := List.filter_eq_nil_iff.2 fun x hx => by rw [h x hx]; simp
theorem filt_all {l : List Lk} {p : Lk → Bool} (h : ∀ x ∈ l, p x = true) : l.filter p = l := List.filter_eq_self.2 h
theorem lnkF_row : ∀ (r d : List Ac) (i : Nat) (hi : i < (lnkF d r).length), (lnkF d r).flatten.filter (fun x => decide (x.to_ = ((d.length + i : Nat) : Int))) = (lnkF d r)[i]
  | [], _, i, hi => by simp [lnkF] at hi
  | a :: r, d, 0, _ => by
    simp only [lnkF, List.flatten_cons, List.filter_append, List.getElem_cons_zero]
    rw [filt_all (fun x hx => decide_eq_true (by rw [lnkA_to hx]; rfl)), filt_none (fun x hx => decide_eq_false (by
      have := lnkF_lo r (d ++ [a]) hx
      simp only [List.length_append, List.length_singleton] at this
      omega)), List.append_nil]
  | a :: r, d, i + 1, hi => by
    have hi2 : i < (lnkF (d ++ [a]) r).length := by simpa [lnkF] using hi
    have ih := lnkF_row r (d ++ [a]) i hi2
    simp only [lnkF, List.flatten_cons, List.filter_append, List.getElem_cons_succ]
    rw [filt_none (fun x hx => decide_eq_false (by rw [lnkA_to hx]; omega)), List.nil_append, ← ih]
    congr 1
    funext x
    simp only [List.length_append, List.length_singleton]
    rw [show d.length + (i + 1) = d.length + 1 + i by omega]
/-- The links to an action. -/
theorem lnkD_row (l : List Ac) (i : Nat) (hi : i < (lnkD l).length) : (lnkD l).flatten.filter (fun x => decide (x.to_ = (i : Int))) = (lnkD l)[i] := by
  have := lnkF_row l [] i hi
  simp only [List.length_nil, Nat.zero_add] at this
  exact this
/-- The sources of an action, as the law picks them. -/
theorem srcs_pick (l : List Ac) (i : Nat) (hi : i < (lnkD l).length) : (lnkD l).flatten.filter (fun x => decide (x.to_ = (i : Int)) && decide (0 ≤ x.frm)) = srcs (lnkD l)[i] := by
  rw [← lnkD_row l i hi]
  unfold srcs
  rw [List.filter_filter]
  congr 1
  funext x
  exact Bool.and_comm _ _
end Go.Proofs.Ytmjkcanjfjfkfaa
