/- Plain facts of layer 54: the origin of a byte. -/
import Derived.Test.YtamjllakfgphnaaGreatDoorGB
namespace Go.Proofs.YtamjllakfgphnaaGreatDoor
set_option linter.unusedVariables false
/-- A version has a byte at a place. -/
def hasAt (a : Nat) (v : Ver) : Bool := !v.absent && decide (a < v.value.length)
/-- Going back over versions: the origin so far and its byte. -/
def orgF (a : Nat) : Option (Int × UInt8) → List Ver → Option (Int × UInt8)
  | s, [] => s
  | none, v :: r => if hasAt a v = true then orgF a (some (v.idx, v.value.getD a 0)) r else none
  | some (o, b), v :: r => if hasAt a v = true ∧ v.value.getD a 0 = b then orgF a (some (v.idx, b)) r else some (o, b)
/-- The versions before an index, the last one first. -/
def backL (i : Int) (l : List Ver) : List Ver := l.reverse.filter fun v => decide (v.idx < i)
/-- The origin, or an error. -/
def orgR (N : Nat) (l : List Ver) (a i : Int) : Int × Int :=
  if i < 0 ∨ (N : Int) < i ∨ a < 0 then (0, 2) else
    match orgF a.toNat none (backL i l) with
    | none => (0, 8)
    | some (o, _) => (o, 0)
theorem orgF_nil (a : Nat) (s : Option (Int × UInt8)) : orgF a s [] = s := by cases s <;> rfl
theorem orgF_no (a : Nat) (s : Option (Int × UInt8)) {v : Ver} (h : hasAt a v = false) (r : List Ver) : orgF a s (v :: r) = s := by
  rcases s with _ | ⟨o, b⟩ <;> unfold orgF <;> simp [h]
theorem orgF_ne (a : Nat) {o : Int} {b : UInt8} {v : Ver} (h : v.value.getD a 0 ≠ b) (r : List Ver) : orgF a (some (o, b)) (v :: r) = some (o, b) := by
  unfold orgF
  rw [if_neg (fun e => h e.2)]
theorem orgF_first (a : Nat) {v : Ver} (h : hasAt a v = true) (r : List Ver) : orgF a none (v :: r) = orgF a (some (v.idx, v.value.getD a 0)) r := by
  rw [orgF, if_pos h]
theorem orgF_eq (a : Nat) {o : Int} {b : UInt8} {v : Ver} (h : hasAt a v = true) (hb : v.value.getD a 0 = b) (r : List Ver) : orgF a (some (o, b)) (v :: r) = orgF a (some (v.idx, b)) r := by
  rw [orgF, if_pos ⟨h, hb⟩]
/-- How far the loop over the versions goes. -/
theorem backL_take {i : Int} {l : List Ver} (h : l.Pairwise fun a b => a.idx < b.idx) {k : Nat} (hk : k < l.length) (h1 : l[k].idx < i) (h2 : ∀ (j : Nat) (hj : j < l.length), k < j → ¬ l[j].idx < i) : backL i l = l[k] :: (l.take k).reverse := by
  have e : l = l.take k ++ l[k] :: l.drop (k + 1) := by rw [List.getElem_cons_drop, List.take_append_drop]
  have h3 : ∀ u ∈ l.take k, u.idx < i := fun u hu => by
    obtain ⟨j, hj, rfl⟩ := List.getElem_of_mem hu
    rw [List.length_take] at hj
    rw [List.getElem_take]
    have := List.pairwise_iff_getElem.1 h j k (by omega) hk (by omega)
    omega
  have h4 : ∀ u ∈ l.drop (k + 1), ¬ u.idx < i := fun u hu => by
    obtain ⟨j, hj, rfl⟩ := List.getElem_of_mem hu
    rw [List.length_drop] at hj
    rw [List.getElem_drop]
    exact h2 _ (by omega) (by omega)
  unfold backL
  conv => lhs; rw [e]
  rw [List.reverse_append, List.reverse_cons, List.filter_append, List.filter_append]
  have f1 : ((l.drop (k + 1)).reverse.filter fun v => decide (v.idx < i)) = [] := by
    rw [List.filter_eq_nil_iff]
    intro u hu
    simpa using h4 u (List.mem_reverse.1 hu)
  have f2 : ((l.take k).reverse.filter fun v => decide (v.idx < i)) = (l.take k).reverse := by
    rw [List.filter_eq_self]
    intro u hu
    simpa using h3 u (List.mem_reverse.1 hu)
  rw [f1, f2]
  simp [h1]
theorem backL_mem {i : Int} {l : List Ver} {v : Ver} (h : v ∈ backL i l) : v ∈ l ∧ v.idx < i := by
  unfold backL at h
  rw [List.mem_filter] at h
  exact ⟨List.mem_reverse.1 h.1, of_decide_eq_true h.2⟩
/-- An origin is one of the versions gone over. -/
theorem orgF_idx (a : Nat) : ∀ (l : List Ver) (s : Option (Int × UInt8)) (o : Int) (b : UInt8), orgF a s l = some (o, b) → (∃ v ∈ l, v.idx = o) ∨ s = some (o, b)
  | [], s, o, b, h => .inr h
  | v :: r, none, o, b, h => by
    unfold orgF at h
    split at h
    · rcases orgF_idx a r _ o b h with ⟨u, hu, e⟩ | e
      · exact .inl ⟨u, by simp [hu], e⟩
      · injection e with e
        injection e with e1 e2
        exact .inl ⟨v, by simp, e1⟩
    · cases h
  | v :: r, some (o', b'), o, b, h => by
    unfold orgF at h
    split at h
    · rcases orgF_idx a r _ o b h with ⟨u, hu, e⟩ | e
      · exact .inl ⟨u, by simp [hu], e⟩
      · injection e with e
        injection e with e1 e2
        exact .inl ⟨v, by simp, e1⟩
    · exact .inr h
end Go.Proofs.YtamjllakfgphnaaGreatDoor
