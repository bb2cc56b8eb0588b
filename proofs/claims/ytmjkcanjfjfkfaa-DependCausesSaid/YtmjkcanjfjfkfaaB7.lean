/- Walks and plain facts of the earlier laws, packed: W83. -/
import Derived.Test.YtmjkcanjfjfkfaaB6
namespace Go.Proofs.Ytmjkcanjfjfkfaa
open Go.RowKit
set_option linter.unusedSimpArgs false
set_option linter.unusedVariables false
def wls (l : List Ac) (n : Nm) : List Int := (vers n 0 l).map Ver.idx
def wlsT (d : List Ac) (ws : List Ch) (n : Nm) : List Int := wls d n ++ (ws.filter fun c => c.name == n).map fun _ => (d.length : Int)
theorem wls_snoc (d : List Ac) (a : Ac) (n : Nm) : wls (d ++ [a]) n = wlsT d a.writes n := by
  unfold wls wlsT wls
  rw [vers_snoc, List.map_append, List.map_map]
  simp only [Nat.zero_add]
  rfl
theorem wlsT_nil (d : List Ac) (n : Nm) : wlsT d [] n = wls d n := by unfold wlsT; simp
theorem wlsT_snoc (d : List Ac) (ws : List Ch) (c : Ch) (n : Nm) : wlsT d (ws ++ [c]) n = if n = c.name then wlsT d ws c.name ++ [(d.length : Int)] else wlsT d ws n := by
  unfold wlsT
  rw [List.filter_append, List.map_append]
  by_cases h : n = c.name
  · subst h
    rw [if_pos rfl]
    simp
  · rw [if_neg h]
    have : (c.name == n) = false := by rw [beq_eq_false_iff_ne]; exact fun e => h e.symm
    simp [this]
theorem wls_bd {l : List Ac} {n : Nm} {x : Int} (h : x ∈ wls l n) : 0 ≤ x ∧ x < l.length := by
  obtain ⟨v, hv, rfl⟩ := List.mem_map.1 h
  have := vers_idx n 0 l v hv
  omega
theorem wls_asc {l : List Ac} (h : ∀ a ∈ l, ordCh a.writes = true) (n : Nm) : Asc (wls l n) := by
  have h1 := vers_inc n 0 l h
  intro i j hi hj hij
  unfold wls at hi hj ⊢
  rw [List.length_map] at hi hj
  simp only [List.getElem_map]
  rcases Nat.lt_or_ge i j with h2 | h2
  · have := List.pairwise_iff_getElem.1 h1 i j hi hj h2
    omega
  · obtain rfl : i = j := by omega
    exact Int.le_refl _
theorem wls_len {l : List Ac} (h : ∀ a ∈ l, a.writes.length ≤ 10) (hl : l.length ≤ 100) (n : Nm) : (wls l n).length ≤ 1000 := by
  have := vers_len n 0 l h
  unfold wls
  rw [List.length_map]
  omega
theorem wrI_mem (xs : List Int) (t : Int) : wrI xs t = -1 ∨ wrI xs t ∈ xs := by
  unfold wrI
  split
  · exact .inl rfl
  · rename_i h
    have h1 := cntL_le xs t
    rw [List.getD_eq_getElem?_getD, List.getElem?_eq_getElem (by omega)]
    exact .inr (List.getElem_mem _)
def lnkA (d : List Ac) (a : Ac) : List Lk := a.reads.map fun c => ⟨wrI (wls d c.name) d.length, d.length, c.name⟩
def lnkF (d : List Ac) : List Ac → List (List Lk)
  | [] => []
  | a :: r => lnkA d a :: lnkF (d ++ [a]) r
def lnkD (l : List Ac) : List (List Lk) := lnkF [] l
theorem lnkF_snoc (a : Ac) : ∀ (d r : List Ac), lnkF d (r ++ [a]) = lnkF d r ++ [lnkA (d ++ r) a]
  | d, [] => by rw [List.append_nil]; rfl
  | d, b :: r => by
    simp only [List.cons_append, lnkF, lnkF_snoc a (d ++ [b]) r, List.append_assoc, List.singleton_append, List.cons_append, List.nil_append]
theorem lnkF_len : ∀ (d r : List Ac), (lnkF d r).length = r.length
  | d, [] => rfl
  | d, b :: r => by simp only [lnkF, List.length_cons, lnkF_len (d ++ [b]) r]
theorem lnkD_take (l : List Ac) (k : Nat) (hk : k < l.length) : lnkD (l.take (k + 1)) = lnkD (l.take k) ++ [lnkA (l.take k) l[k]] := by
  unfold lnkD
  rw [List.take_succ_eq_append_getElem hk, lnkF_snoc, List.nil_append]
theorem lnkD_len (l : List Ac) : (lnkD l).length = l.length := lnkF_len [] l
def UT (N : Nat) (fl : List Lk) : List (List Lk) := (List.range N).map fun (j : Nat) => fl.filter fun x => decide (x.frm = (j : Int))
theorem UT_len (N : Nat) (fl : List Lk) : (UT N fl).length = N := by simp [UT]
theorem UT_nil (N : Nat) : UT N [] = List.replicate N [] := by
  apply List.ext_getElem
  · simp [UT]
  · intro i h1 h2; simp [UT]
theorem UT_get (N : Nat) (fl : List Lk) (j : Nat) (hj : j < (UT N fl).length) : (UT N fl)[j] = fl.filter fun x => decide (x.frm = (j : Int)) := by simp [UT]
theorem UT_neg (N : Nat) (fl : List Lk) (x : Lk) (h : x.frm < 0) : UT N (fl ++ [x]) = UT N fl := by
  unfold UT
  apply List.map_congr_left
  intro j _
  rw [List.filter_append]
  have : decide (x.frm = (j : Int)) = false := decide_eq_false (by omega)
  simp [this]
theorem UT_add (N : Nat) (fl : List Lk) (x : Lk) (j : Nat) (hj : j < (UT N fl).length) (h : x.frm = (j : Int)) : UT N (fl ++ [x]) = (UT N fl).set j ((UT N fl)[j] ++ [x]) := by
  apply List.ext_getElem
  · simp [UT]
  · intro i h1 h2
    rw [UT_get, List.getElem_set, List.filter_append]
    by_cases e : j = i
    · subst e
      rw [if_pos rfl, UT_get]
      have : decide (x.frm = (j : Int)) = true := decide_eq_true h
      simp [this]
    · rw [if_neg e, UT_get]
      have : decide (x.frm = (i : Int)) = false := decide_eq_false (by omega)
      simp [this]
def GAt (w : World) (B g : Nat) (l : List Ac) : Prop := ∃ vk vl vu bw vL vU, GIn w B g vk vl vu bw (l.map Ac.key) vL vU (lnkD l) (UT l.length (lnkD l).flatten) (wls l)
theorem GAt.next {w w' : World} {B g : Nat} {l : List Ac} (h : GAt w B g l) (hb : Below w.heap.size w w') : GAt w' B g l := by
  obtain ⟨vk, vl, vu, bw, vL, vU, h⟩ := h
  exact ⟨vk, vl, vu, bw, vL, vU, h.next hb⟩
theorem GIn.data {w : World} {B g : Nat} {vk vl vu : Value} {bw : Nat} {ks : List Ky} {vL vU : List Value} {L U : List (List Lk)} {D : Nm → List Int} (h : GIn w B g vk vl vu bw ks vL vU L U D) {D' : Nm → List Int} (hd : ∀ n, D n = D' n) : GIn w B g vk vl vu bw ks vL vU L U D' := by
  have : D = D' := funext hd
  rw [← this]; exact h
theorem reads_names {a : Ac} (h : ordCh a.reads = true) : (a.reads.map Ch.name).Nodup ∧ (∀ n ∈ a.reads.map Ch.name, OwnE n) ∧ sortU cmpN (a.reads.map Ch.name) = a.reads.map Ch.name := by
  obtain ⟨h1, h2⟩ := ord_nodup h
  have ho : ∀ n ∈ a.reads.map Ch.name, IsOb n := fun n hn => by
    obtain ⟨c, hc, rfl⟩ := List.mem_map.1 hn
    exact okCh_ob (h2 c hc)
  have hE : ∀ n ∈ a.reads.map Ch.name, OwnE n := fun n hn => (ho n hn).own
  have hs : Strict cmpN (a.reads.map Ch.name) := by
    unfold Strict
    rw [List.pairwise_map]
    exact h1
  refine ⟨?_, hE, sortU_strict ordN hE hs⟩
  refine List.Pairwise.imp_of_mem ?_ hs
  intro x y hx hy hxy e
  subst e
  rw [ordN.refl (hE x hx)] at hxy
  omega
end Go.Proofs.Ytmjkcanjfjfkfaa
