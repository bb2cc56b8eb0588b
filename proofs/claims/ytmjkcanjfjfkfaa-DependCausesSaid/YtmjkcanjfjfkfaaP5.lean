/- Plain facts of layer 47: the graph's writer is the reference writer. -/
import Derived.Test.YtmjkcanjfjfkfaaT12
import Derived.Test.YtmjkcanjfjfkfaaB7
namespace Go.Proofs.Ytmjkcanjfjfkfaa
set_option linter.unusedSimpArgs false
set_option linter.unusedVariables false
theorem cntL_cons (x : Int) (l : List Int) (t : Int) : cntL (x :: l) t = if x < t then cntL l t + 1 else 0 := by
  unfold cntL
  rw [List.takeWhile_cons]
  by_cases h : x < t <;> simp [h]
theorem cntL_lo : ∀ (l : List Int) (t : Int) (i : Nat) (h : i < l.length), i < cntL l t → l[i] < t
  | [], t, i, h, _ => by simp at h
  | x :: l, t, i, h, hi => by
    rw [cntL_cons] at hi
    split at hi
    · rename_i hx
      cases i with
      | zero => exact hx
      | succ i => exact cntL_lo l t i (by simpa using h) (by omega)
    · omega
theorem cntL_hi : ∀ (l : List Int) (t : Int) (i : Nat) (h : i < l.length), i = cntL l t → t ≤ l[i]
  | [], t, i, h, _ => by simp at h
  | x :: l, t, i, h, hi => by
    rw [cntL_cons] at hi
    split at hi
    · cases i with
      | zero => omega
      | succ i => exact cntL_hi l t i (by simpa using h) (by omega)
    · rename_i hx
      subst hi
      exact Int.not_lt.1 hx
theorem wrI_spec {xs : List Int} (hs : Asc xs) (t : Int) : (wrI xs t = -1 ∧ ∀ x ∈ xs, t ≤ x) ∨ (wrI xs t ∈ xs ∧ wrI xs t < t ∧ ∀ x ∈ xs, x < t → x ≤ wrI xs t) := by
  have h1 := cntL_le xs t
  have hhi : ∀ i (h : i < xs.length), cntL xs t ≤ i → t ≤ xs[i] := fun i h hi => by
    have h2 := cntL_hi xs t (cntL xs t) (by omega) rfl
    have h3 := hs (cntL xs t) i (by omega) h hi
    omega
  unfold wrI
  split
  · rename_i h
    refine .inl ⟨rfl, fun x hx => ?_⟩
    obtain ⟨i, hi, rfl⟩ := List.getElem_of_mem hx
    exact hhi i hi (by omega)
  · rename_i h
    have hg : xs.getD (cntL xs t - 1) 0 = xs[cntL xs t - 1]'(by omega) := by rw [List.getD_eq_getElem?_getD, List.getElem?_eq_getElem (by omega)]; rfl
    rw [hg]
    refine .inr ⟨List.getElem_mem _, cntL_lo xs t _ (by omega) (by omega), fun x hx hxt => ?_⟩
    obtain ⟨i, hi, rfl⟩ := List.getElem_of_mem hx
    refine hs _ _ _ _ ?_
    rcases Nat.lt_or_ge i (cntL xs t) with h2 | h2
    · omega
    · have := hhi i hi h2; omega
theorem wrB_spec (l : List Ac) (n : Nm) : ∀ m, (wrB l n m = -1 ∧ ∀ i, i < m → hasW l n i = false) ∨ ∃ i : Nat, i < m ∧ wrB l n m = (i : Int) ∧ hasW l n i = true ∧ ∀ j, j < m → i < j → hasW l n j = false
  | 0 => .inl ⟨rfl, fun i h => absurd h (Nat.not_lt_zero _)⟩
  | m + 1 => by
    unfold wrB
    cases hh : hasW l n m with
    | true => exact .inr ⟨m, by omega, by simp, hh, fun j h1 h2 => by omega⟩
    | false =>
      rw [if_neg (by simp)]
      rcases wrB_spec l n m with ⟨h1, h2⟩ | ⟨i, h1, h2, h3, h4⟩
      · refine .inl ⟨h1, fun i hi => ?_⟩
        rcases Nat.lt_succ_iff_lt_or_eq.1 hi with h | h
        · exact h2 i h
        · rw [h]; exact hh
      · refine .inr ⟨i, by omega, h2, h3, fun j hj hij => ?_⟩
        rcases Nat.lt_succ_iff_lt_or_eq.1 hj with h | h
        · exact h4 j h hij
        · rw [h]; exact hh
theorem hasW_lt {l : List Ac} {n : Nm} {i : Nat} (h : hasW l n i = true) : i < l.length := by
  unfold hasW at h
  cases hg : l[i]? with
  | none => rw [hg] at h; simp at h
  | some a => exact (List.getElem?_eq_some_iff.1 hg).1
theorem vers_mem (n : Nm) : ∀ (l : List Ac) (s : Nat) (x : Int), x ∈ (vers n s l).map Ver.idx ↔ ∃ i : Nat, x = ((s + i : Nat) : Int) ∧ hasW l n i = true
  | [], s, x => by simp [vers, hasW]
  | a :: l, s, x => by
    have ih := vers_mem n l (s + 1) x
    rw [vers, List.map_append, List.mem_append, ih]
    constructor
    · rintro (h | ⟨i, hi, hh⟩)
      · obtain ⟨v, hv, rfl⟩ := List.mem_map.1 h
        obtain ⟨c, hc, rfl⟩ := List.mem_map.1 hv
        obtain ⟨hc1, hc2⟩ := List.mem_filter.1 hc
        exact ⟨0, rfl, List.any_eq_true.2 ⟨c, hc1, by simpa using hc2⟩⟩
      · exact ⟨i + 1, by rw [hi]; congr 1; omega, hh⟩
    · rintro ⟨i, hi, hh⟩
      cases i with
      | zero =>
        obtain ⟨c, hc, he⟩ := List.any_eq_true.1 (show (a.writes.any fun c => decide (c.name = n)) = true from hh)
        exact .inl (List.mem_map.2 ⟨_, List.mem_map.2 ⟨c, List.mem_filter.2 ⟨hc, by simpa using he⟩, rfl⟩, hi.symm⟩)
      | succ i => exact .inr ⟨i, by rw [hi]; congr 1; omega, hh⟩
theorem wls_mem {l : List Ac} {n : Nm} {x : Int} : x ∈ wls l n ↔ ∃ i : Nat, x = (i : Int) ∧ hasW l n i = true := by
  have := vers_mem n l 0 x
  simpa [wls] using this
/-- The graph's writer is the reference writer. -/
theorem wrI_wrB {l : List Ac} (h : ∀ a ∈ l, ordCh a.writes = true) (n : Nm) (t : Int) : wrI (wls l n) t = wrB l n (min t (l.length : Int)).toNat := by
  obtain ⟨M, hM⟩ : ∃ M, (min t (l.length : Int)).toNat = M := ⟨_, rfl⟩
  rw [hM]
  rcases wrB_spec l n M with ⟨h1, h2⟩ | ⟨i, h1, h2, h3, h4⟩
  · rcases wrI_spec (wls_asc h n) t with ⟨g1, _⟩ | ⟨g1, g2, _⟩
    · rw [g1, h1]
    · obtain ⟨j, hj, hh⟩ := wls_mem.1 g1
      have := hasW_lt hh
      have := h2 j (by omega)
      rw [hh] at this
      cases this
  · have hil := hasW_lt h3
    have him := wls_mem.2 ⟨i, rfl, h3⟩
    rcases wrI_spec (wls_asc h n) t with ⟨_, g2⟩ | ⟨g1, g2, g3⟩
    · have := g2 _ him
      omega
    · have g4 := g3 _ him (by omega)
      obtain ⟨j, hj, hh⟩ := wls_mem.1 g1
      have hjl := hasW_lt hh
      rw [h2, hj]
      rcases Nat.lt_or_ge i j with h5 | h5
      · have := h4 j (by omega) h5
        rw [hh] at this
        cases this
      · omega
end Go.Proofs.Ytmjkcanjfjfkfaa
