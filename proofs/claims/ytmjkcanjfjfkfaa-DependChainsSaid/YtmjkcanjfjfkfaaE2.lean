/- What the new texts of law47 need of the earlier laws besides: keys in a row, entries taken away. -/
import Derived.Test.YtmjkcanjfjfkfaaE1
namespace Go.Proofs.Ytmjkcanjfjfkfaa
open Go.RowKit Go.MapKept Go.ChangeMaps
set_option linter.unusedSimpArgs false
set_option linter.unusedVariables false
abbrev RdKy (w : World) (v : Value) (l : List Ky) : Prop := RdP 56 kyC w v l
theorem RdKy.piece {w : World} {A : Option Addr} {n c : Nat} {l : List Ky} (h : RdKy w (.slice A n c) l) {k : Nat} (hk : k < l.length) : ∃ b o, A = some ⟨b, o, none⟩ ∧ b < w.heap.size ∧
    w.cell? ⟨b, o + k * 4, none⟩ = some (.int .i64 l[k].tick) ∧ w.cell? ⟨b, o + k * 4 + 1, none⟩ = some (.int .i64 l[k].cls) ∧ w.cell? ⟨b, o + k * 4 + 2, none⟩ = some (.int .i64 l[k].num) ∧ w.cell? ⟨b, o + k * 4 + 3, none⟩ = some (.string (bs l[k].lin)) := by
  obtain ⟨b, o, e, hb, hc⟩ := RdP.at_ h kyC_len hk
  exact ⟨b, o, e, hb, hc 0 _ rfl, hc 1 _ rfl, hc 2 _ rfl, hc 3 _ rfl⟩
theorem delM_mem {κ ν : Type} [DecidableEq κ] {n : κ} : ∀ {l : List (κ × ν)} {p : κ × ν}, p ∈ delM n l → p ∈ l
  | [], _, h => h
  | (a, v) :: l, p, h => by
    simp only [delM] at h
    split at h
    · exact List.mem_cons_of_mem _ h
    · rcases List.mem_cons.1 h with rfl | h
      · exact List.mem_cons_self ..
      · exact List.mem_cons_of_mem _ (delM_mem h)
theorem delM_ne {κ ν : Type} [DecidableEq κ] {n : κ} : ∀ {l : List (κ × ν)} {p : κ × ν}, (l.Pairwise fun p q => p.1 ≠ q.1) → p ∈ delM n l → p.1 ≠ n
  | [], _, _, h => by cases h
  | (a, v) :: l, p, hp, h => by
    obtain ⟨h1, h2⟩ := List.pairwise_cons.1 hp
    simp only [delM] at h
    split at h
    · rename_i e
      exact fun e2 => h1 p h (e.trans e2.symm)
    · rename_i e
      rcases List.mem_cons.1 h with rfl | h
      · exact e
      · exact delM_ne h2 h
theorem delM_sub {κ ν : Type} [DecidableEq κ] {n : κ} : ∀ {l : List (κ × ν)}, (delM n l).Sublist l
  | [] => List.Sublist.slnil
  | (a, v) :: l => by
    simp only [delM]
    split
    · exact List.sublist_cons_self _ _
    · exact (delM_sub (l := l)).cons_cons _
theorem MapRowsS.del {α : Type} {f : α → List Value} {s : Nat} {e : TypeId} {w w2 : World} {F : Nat → Prop} {b : Nat} {D : Bs → List α} {ents : List (Bs × Value)} (h : F b ∧ MapAtS w b ents ∧ (ents.Pairwise fun p q => p.1 ≠ q.1 ∧ p.2.ownBlock ≠ q.2.ownBlock) ∧
    (∀ p ∈ ents, OwnF F e s w p.2 (D p.1).length ((D p.1).flatMap f) ∧ D p.1 ≠ []) ∧ ∀ n, D n ≠ [] → (lookM n ents).isSome = true) (n : Bs) (h2 : MapAtS w2 b (delM n ents)) (hg : w.grownBy w2 (some b)) :
    MapRowsS e s f w2 F b (fun m => if m = n then [] else D m) := by
  obtain ⟨h1, h3, h4, h5, h6⟩ := h
  have hpn : ents.Pairwise fun p q => p.1 ≠ q.1 := h4.imp fun h => h.1
  obtain ⟨es, c, hb, _⟩ := h3
  refine ⟨h1, _, h2, h4.sublist delM_sub, fun p hp => ?_, fun m hm => ?_⟩
  · have hpe := delM_ne hpn hp
    obtain ⟨k1, k2⟩ := h5 p (delM_mem hp)
    simp only [if_neg hpe]
    exact ⟨⟨k1.1.kept hg (.inr (own_not_map k1.1 hb)), k1.2⟩, k2⟩
  · by_cases hmn : m = n
    · simp [hmn] at hm
    · simp only [if_neg hmn] at hm
      rw [delM_look hmn]
      exact h6 m hm
theorem MapRowsS.keepB {α : Type} {f : α → List Value} {s : Nat} {e : TypeId} {w w' : World} {F : Nat → Prop} {b B : Nat} {D : Bs → List α} (h : MapRowsS e s f w F b D) (hF : ∀ i, F i → i < B) (hb : Below B w w') : MapRowsS e s f w' F b D :=
  h.keep (fun es c h1 _ => hb.block _ (hF _ h1)) (fun g cs h1 _ => hb.block _ (hF _ h1)) fun _ _ h => h
theorem GAt.keyrow {w : World} {B g : Nat} {l : List Ac} (h : GAt w B g l) : ∃ A c, w.cell? ⟨g, 0, none⟩ = some (.slice A l.length c) ∧ RdKy w (.slice A l.length c) (l.map Ac.key) := by
  obtain ⟨vk, vl, vu, bw, vL, vU, h⟩ := h
  obtain ⟨A, c, hv, _⟩ := own_len h.ky
  have h1 := h.blk.cell 0
  simp only [List.getElem?_toArray, List.getElem?_cons_zero] at h1
  rw [List.length_map] at hv
  exact ⟨A, c, by rw [h1, hv], by rw [← hv]; exact Rd.of_own h.ky⟩
theorem prK_at {l : List Ac} {k : Nat} (hk : k < l.length) : prK (l.map Ac.key) (k : Int) = if l[k].key.cls = 0 then none else some l[k].key.lin := by
  unfold prK
  rw [Int.toNat_natCast, List.getElem?_map, List.getElem?_eq_getElem hk]
  rfl
end Go.Proofs.Ytmjkcanjfjfkfaa
