/- Plain facts of layer 54: shortest chains of dependences. -/
import Derived.Test.YtamjllakfgphnaaGreatDoorM19
import Derived.Test.YtamjllakfgphnaaGreatDoorW84
import Derived.ChangeBookTie2
namespace Go.Proofs.YtamjllakfgphnaaGreatDoor
open Go.RowKit Go.MapKept Go.ChangeMaps
set_option linter.unusedSimpArgs false
set_option linter.unusedVariables false
abbrev DM := List (Int × Int)
theorem putM_new {κ ν : Type} [DecidableEq κ] (n : κ) (x : ν) : ∀ l : List (κ × ν), (lookM n l).isSome = false → putM n x l = l ++ [(n, x)]
  | [], _ => rfl
  | (a, v) :: l, h => by
    simp only [lookM] at h
    simp only [putM]
    split
    · rename_i e; rw [if_pos e] at h; cases h
    · rename_i e; rw [if_neg e] at h
      rw [putM_new n x l h]; rfl
theorem lookM_none {κ ν : Type} [DecidableEq κ] {n : κ} : ∀ {l : List (κ × ν)}, (lookM n l).isSome = false → ∀ p ∈ l, p.1 ≠ n
  | [], _, p, hp => by cases hp
  | (a, v) :: l, h, p, hp => by
    simp only [lookM] at h
    split at h
    · cases h
    · rename_i e
      rcases List.mem_cons.1 hp with rfl | hp
      · exact e
      · exact lookM_none h p hp
theorem lookM_app {κ ν : Type} [DecidableEq κ] (n : κ) (q : List (κ × ν)) : ∀ l : List (κ × ν), (lookM n l).isSome = true → lookM n (l ++ q) = lookM n l
  | [], h => by cases h
  | (a, v) :: l, h => by
    simp only [lookM] at h
    simp only [List.cons_append, lookM]
    split
    · rfl
    · rename_i e; rw [if_neg e] at h; exact lookM_app n q l h
theorem lookM_self {κ ν : Type} [DecidableEq κ] {p : κ × ν} : ∀ {l : List (κ × ν)}, p ∈ l → (lookM p.1 l).isSome = true
  | [], h => by cases h
  | (a, v) :: l, h => by
    simp only [lookM]
    split
    · rfl
    · rename_i e
      rcases List.mem_cons.1 h with rfl | h
      · exact absurd rfl e
      · exact lookM_self h
/-- The distances so far: different nodes, each distance smaller than their number. -/
structure BOk (N : Nat) (D : DM) : Prop where
  nd : (D.map Prod.fst).Nodup
  rng : ∀ p ∈ D, 0 ≤ p.1 ∧ p.1 < (N : Int) ∧ 0 ≤ p.2 ∧ p.2 < (D.length : Int)
  pos : 0 < D.length
theorem BOk.le {N : Nat} {D : DM} (h : BOk N D) : D.length ≤ N := by
  have h1 : ((D.map Prod.fst).map Int.toNat).Nodup := by
    rw [List.Nodup, List.pairwise_map]
    refine List.Pairwise.imp_of_mem ?_ h.nd
    intro a b ha hb hab e
    obtain ⟨p, hp, rfl⟩ := List.mem_map.1 ha
    obtain ⟨q, hq, rfl⟩ := List.mem_map.1 hb
    have := h.rng p hp
    have := h.rng q hq
    omega
  have := nodup_lt_length N _ h1 (fun x hx => by
    obtain ⟨y, hy, rfl⟩ := List.mem_map.1 hx
    obtain ⟨p, hp, rfl⟩ := List.mem_map.1 hy
    have := h.rng p hp
    omega)
  simpa using this
theorem BOk.dist {N : Nat} {D : DM} (h : BOk N D) (i : Int) : 0 ≤ (lookM i D).getD 0 ∧ (lookM i D).getD 0 < (D.length : Int) := by
  cases hl : lookM i D with
  | none => have := h.pos; simp; omega
  | some x =>
    have := h.rng _ (look_mem hl)
    simp
    omega
theorem BOk.node {N : Nat} {D : DM} (h : BOk N D) {i : Int} (hi : (lookM i D).isSome = true) : 0 ≤ i ∧ i < (N : Int) := by
  obtain ⟨x, hx⟩ := Option.isSome_iff_exists.1 hi
  have := h.rng _ (look_mem hx)
  exact ⟨this.1, this.2.1⟩
theorem BOk.add {N : Nat} {D : DM} (h : BOk N D) {n d : Int} (hn : (lookM n D).isSome = false) (h0 : 0 ≤ n) (h1 : n < (N : Int)) (d0 : 0 ≤ d) (d1 : d < (D.length : Int) + 1) : BOk N (D ++ [(n, d)]) := by
  refine ⟨?_, fun p hp => ?_, by simp⟩
  · rw [List.map_append, List.nodup_append]
    refine ⟨h.nd, by simp, fun a ha b hb => ?_⟩
    obtain ⟨p, hp, rfl⟩ := List.mem_map.1 ha
    simp only [List.map_cons, List.map_nil, List.mem_singleton] at hb
    subst hb
    exact lookM_none hn p hp
  · simp only [List.length_append, List.length_singleton]
    rcases List.mem_append.1 hp with hp | hp
    · have := h.rng p hp; omega
    · simp only [List.mem_singleton] at hp; subst hp; simp only; omega
def bfsIn (i : Int) : List Lk → DM × List Int → DM × List Int
  | [], s => s
  | x :: l, s => bfsIn i l (if (lookM x.to_ s.1).isSome = true then s else (s.1 ++ [(x.to_, (lookM i s.1).getD 0 + 1)], s.2 ++ [x.to_]))
def bfs (U : List (List Lk)) : Nat → DM → List Int → DM
  | 0, D, _ => D
  | _ + 1, D, [] => D
  | k + 1, D, i :: Q => bfs U k (bfsIn i (U.getD i.toNat []) (D, i :: Q)).1 (bfsIn i (U.getD i.toNat []) (D, i :: Q)).2.tail
theorem bfs_nil (U : List (List Lk)) (D : DM) : ∀ k, bfs U k D [] = D
  | 0 => rfl
  | _ + 1 => rfl
def lessB (x : Lk) : Option Lk → Bool
  | none => true
  | some y => decide (x.frm < y.frm)
def better (D : DM) (i : Int) (x : Lk) (b : Option Lk) : Bool := (lookM x.frm D).isSome && ((lookM x.frm D).getD 0 == (lookM i D).getD 0 - 1) && lessB x b
def stepF (D : DM) (i : Int) : List Lk → Option Lk → Option Lk
  | [], b => b
  | x :: l, b => stepF D i l (if better D i x b = true then some x else b)
def stepS (L : List (List Lk)) (D : DM) (i : Int) : Option Lk := stepF D i (L.getD i.toNat []) none
theorem stepF_of {D : DM} {i : Int} : ∀ {l : List Lk} {b : Option Lk} {x : Lk}, (∀ y, b = some y → (lookM y.frm D).isSome = true ∧ (lookM y.frm D).getD 0 = (lookM i D).getD 0 - 1) → stepF D i l b = some x → (lookM x.frm D).isSome = true ∧ (lookM x.frm D).getD 0 = (lookM i D).getD 0 - 1
  | [], b, x, hb, h => hb x h
  | y :: l, b, x, hb, h => by
    simp only [stepF] at h
    refine stepF_of (l := l) ?_ h
    intro z hz
    split at hz
    · rename_i e
      injection hz with hz
      subst hz
      simp only [better, Bool.and_eq_true, beq_iff_eq] at e
      exact ⟨e.1.1, e.1.2⟩
    · exact hb z hz
theorem stepS_of {L : List (List Lk)} {D : DM} {i : Int} {x : Lk} (h : stepS L D i = some x) : (lookM x.frm D).isSome = true ∧ (lookM x.frm D).getD 0 = (lookM i D).getD 0 - 1 :=
  stepF_of (fun y hy => by cases hy) h
def backS (L : List (List Lk)) (D : DM) (frm : Int) : Nat → Int → List Lk → Option (List Lk)
  | 0, _, _ => none
  | k + 1, i, l => if i = frm then some l else match stepS L D i with
    | none => none
    | some x => backS L D frm k x.frm (l ++ [x])
def bfsD (l : List Ac) (frm : Int) : DM := bfs (UT l.length (lnkD l).flatten) l.length [(frm, 0)] [frm]
/-- What the graph's Chain answers. -/
def chainS (l : List Ac) (frm to_ : Int) : Option (List Lk) :=
  if 0 ≤ frm ∧ frm < (l.length : Int) ∧ 0 ≤ to_ ∧ to_ < (l.length : Int) then
    (if (lookM to_ (bfsD l frm)).isSome = true then (backS (lnkD l) (bfsD l frm) frm (((lookM to_ (bfsD l frm)).getD 0).toNat + 1) to_ []).map List.reverse else none)
  else none
theorem lnkF_to : ∀ (d r : List Ac), ∀ x ∈ (lnkF d r).flatten, (d.length : Int) ≤ x.to_ ∧ x.to_ < (d.length : Int) + r.length
  | d, [], x, h => by simp [lnkF] at h
  | d, a :: r, x, h => by
    simp only [lnkF, List.flatten_cons, List.mem_append] at h
    simp only [List.length_cons]
    rcases h with h | h
    · obtain ⟨c, _, rfl⟩ := List.mem_map.1 h
      simp only
      omega
    · have := lnkF_to (d ++ [a]) r x h
      simp only [List.length_append, List.length_singleton] at this
      omega
theorem lnkD_to {l : List Ac} {x : Lk} (h : x ∈ (lnkD l).flatten) : 0 ≤ x.to_ ∧ x.to_ < (l.length : Int) := by
  have := lnkF_to [] l x h
  simpa using this
theorem lnkF_frm : ∀ (d r : List Ac), ∀ x ∈ (lnkF d r).flatten, -1 ≤ x.frm ∧ x.frm < (d.length : Int) + r.length
  | d, [], x, h => by simp [lnkF] at h
  | d, a :: r, x, h => by
    simp only [lnkF, List.flatten_cons, List.mem_append] at h
    simp only [List.length_cons]
    rcases h with h | h
    · have := lnkA_frm h
      omega
    · have := lnkF_frm (d ++ [a]) r x h
      simp only [List.length_append, List.length_singleton] at this
      omega
theorem lnkD_frm {l : List Ac} {x : Lk} (h : x ∈ (lnkD l).flatten) : -1 ≤ x.frm ∧ x.frm < (l.length : Int) := by
  have := lnkF_frm [] l x h
  simpa using this
theorem UT_row_to {l : List Ac} {k : Nat} (hk : k < (UT l.length (lnkD l).flatten).length) : ∀ x ∈ (UT l.length (lnkD l).flatten)[k], 0 ≤ x.to_ ∧ x.to_ < (l.length : Int) := fun x hx => by
  rw [UT_get] at hx
  exact lnkD_to (List.mem_filter.1 hx).1
theorem UT_row_len {l : List Ac} (hr : ∀ a ∈ l, a.reads.length ≤ 10) {k : Nat} (hk : k < (UT l.length (lnkD l).flatten).length) : (UT l.length (lnkD l).flatten)[k].length ≤ l.length * 10 := by
  rw [UT_get]
  exact Nat.le_trans (List.length_filter_le _ _) (lnkF_flat [] l hr)
end Go.Proofs.YtamjllakfgphnaaGreatDoor
