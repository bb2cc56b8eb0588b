/- Plain functions of layer 41: the parts of a value between blanks. -/
import Derived.Test.YtiddchpkmcncdaaX32
namespace Go.Proofs.Ytiddchpkmcncdaa
open Go.RowKit
set_option linter.unusedSimpArgs false
set_option linter.unusedVariables false
def nsep (b : UInt8) : Bool := !sepB b
def ExOk (t : Ex) (f : Bs) : Prop := (∀ x ∈ t.out, x ≠ [] ∧ x.all nsep = true) ∧ (t.bg = true → t.tx ≠ []) ∧ (t.bg = false → t.tx = []) ∧ t.tx.all nsep = true ∧ t.out.flatten ++ t.tx = f
theorem exOk_end {t : Ex} {f : Bs} (h : ExOk t f) : ExOk (endE t) f := by
  obtain ⟨h1, h2, h3, h4, h5⟩ := h
  cases hb : t.bg with
  | false =>
    have e : endE t = ⟨t.out, [], false⟩ := by unfold endE; rw [hb]; rfl
    rw [e]
    refine ⟨h1, (fun h => by cases h), fun _ => rfl, rfl, ?_⟩
    rw [h3 hb] at h5; exact h5
  | true =>
    have e : endE t = ⟨t.out ++ [t.tx], [], false⟩ := by unfold endE; rw [hb]; rfl
    rw [e]
    refine ⟨fun x hx => ?_, (fun h => by cases h), fun _ => rfl, rfl, by simp [h5]⟩
    rcases List.mem_append.1 hx with hx | hx
    · exact h1 x hx
    · simp at hx
      subst hx
      exact ⟨h2 hb, h4⟩
theorem exOk_C {t : Ex} {f : Bs} (b : UInt8) (h : ExOk t f) : ExOk (expC t b) (f ++ if nsep b then [b] else []) := by
  unfold expC
  cases hs : sepB b with
  | true =>
    rw [if_pos rfl, if_neg (by unfold nsep; rw [hs]; decide), List.append_nil]
    exact exOk_end h
  | false =>
    rw [if_neg (by decide), if_pos (by unfold nsep; rw [hs]; rfl)]
    obtain ⟨h1, h2, h3, h4, h5⟩ := h
    refine ⟨h1, fun _ => by simp [addE], (fun h => by cases h), ?_, ?_⟩
    · simp only [addE, List.all_append, h4, Bool.true_and]
      simp [nsep, hs]
    · simp only [addE, ← h5, List.append_assoc]
theorem exOk_fold : ∀ (l : Bs) (t : Ex) (f : Bs), ExOk t f → ExOk (l.foldl expC t) (f ++ l.filter nsep)
  | [], t, f, h => by simpa using h
  | b :: l, t, f, h => by
    have := exOk_fold l (expC t b) _ (exOk_C b h)
    rw [List.foldl_cons]
    have e : f ++ (b :: l).filter nsep = (f ++ if nsep b then [b] else []) ++ l.filter nsep := by
      rw [List.filter_cons]
      split <;> simp
    rw [e]; exact this
theorem fields_ok (l : Bs) (O : List Bs) (h : expS (valOf [([120], l)]) [⟨[120], true, false⟩] = O) : (∀ x ∈ O, x ≠ [] ∧ x.all nsep = true) ∧ O.flatten = l.filter nsep := by
  have h0 : ExOk ⟨[], [], false⟩ [] := ⟨fun x hx => by simp at hx, (fun h => by cases h), fun _ => rfl, rfl, rfl⟩
  have h1 := exOk_end (exOk_fold l _ _ h0)
  have e : O = (endE (l.foldl expC ⟨[], [], false⟩)).out := by
    rw [← h]
    simp [expS, expP, valOf]
  rw [e]
  refine ⟨h1.1, ?_⟩
  have h2 := h1.2.2.2.2
  have h3 := h1.2.2.1 rfl
  rw [h3, List.append_nil] at h2
  simpa using h2
theorem quoted_ok (l : Bs) : expS (valOf [([120], l)]) [⟨[120], true, true⟩] = [l] := by
  simp [expS, expP, valOf, addE, endE]
theorem fields_len (l : Bs) (O : List Bs) (h : expS (valOf [([120], l)]) [⟨[120], true, false⟩] = O) : O.length ≤ l.length + 1 := by
  have e : O = (endE (l.foldl expC ⟨[], [], false⟩)).out := by
    rw [← h]
    simp [expS, expP, valOf]
  have h1 := exM_fold l ⟨[], [], false⟩
  have h2 := exM_end (l.foldl expC ⟨[], [], false⟩)
  have h3 : exM ⟨[], [], false⟩ = 0 := rfl
  rw [e]
  unfold exM at h2
  unfold exM at h1
  simp at h1
  omega
theorem flat_next (O : List Bs) (k : Nat) (hk : k < O.length) : (O.take (k + 1)).flatten = (O.take k).flatten ++ O[k] := by
  rw [List.take_succ_eq_append_getElem hk, List.flatten_append, List.flatten_singleton]
theorem flat_le (O : List Bs) (k : Nat) : (O.take k).flatten.length ≤ O.flatten.length := by
  have e : O.flatten = (O.take k).flatten ++ (O.drop k).flatten := by rw [← List.flatten_append, List.take_append_drop]
  rw [e, List.length_append]
  exact Nat.le_add_right _ _
theorem mem_le (O : List Bs) (k : Nat) (hk : k < O.length) : O[k].length ≤ O.flatten.length := by
  have h := flat_le O (k + 1)
  rw [flat_next O k hk, List.length_append] at h
  omega
theorem filt_next (l : Bs) (k : Nat) (hk : k < l.length) : (l.take (k + 1)).filter nsep = (l.take k).filter nsep ++ if nsep (l.getD k 0) then [l.getD k 0] else [] := by
  rw [List.take_succ_eq_append_getElem hk, List.filter_append, List.getD_eq_getElem?_getD, List.getElem?_eq_getElem hk]
  simp [List.filter_cons]
end Go.Proofs.Ytiddchpkmcncdaa
