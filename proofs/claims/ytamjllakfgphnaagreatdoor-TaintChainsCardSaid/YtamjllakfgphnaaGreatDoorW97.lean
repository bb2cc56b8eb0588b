/- Walks of layer 54: links reversed in place. -/
import Derived.Shelf.SlicesQ.Reverse
import Derived.Ground.SlgnProg
import Derived.Shelf.SlGeneric
import Derived.Test.YtamjllakfgphnaaGreatDoorQ4
namespace Go.Proofs.YtamjllakfgphnaaGreatDoor
open Go.RowKit Go.Sort Go.Shelf
set_option linter.unusedSimpArgs false
set_option linter.unusedVariables false
instance : Inhabited Lk := ⟨⟨0, 0, ⟨0, [], 0, 0, []⟩⟩⟩
end Go.Proofs.YtamjllakfgphnaaGreatDoor
namespace Go.Proofs
open Go.Shelf Go.Lib
shelf_lay_g SlLaysE0.n35 Slgn 35 at Tryz 45 as YtamjllakfgphnaaGreatDoor.revLaid
end Go.Proofs
namespace Go.Proofs.YtamjllakfgphnaaGreatDoor
open Go.RowKit Go.Sort Go.Shelf
theorem holds_links {w : World} {B g c : Nat} {l : List Lk} (h : w.ownsRow B 61 7 (.slice (some ⟨g, 0, none⟩) l.length c) l.length (l.flatMap lkC)) : HoldsK lkC 7 w g 0 l.toArray := by
  intro t ht
  rw [size_flatK] at ht
  have hk : t / 7 < l.length := by simp only [List.size_toArray] at ht; omega
  have hj : t % 7 < 7 := Nat.mod_lt _ (by decide)
  have h1 := own_cells lkC_len h hk rfl (t % 7) ((lkC l[t / 7])[t % 7]'(by rw [lkC_len]; exact hj)) (List.getElem?_eq_getElem _)
  have h2 : t / 7 * 7 + t % 7 = t := by omega
  rw [h2] at h1
  refine ⟨?_, by rw [Nat.zero_add]; exact own_frozen h t⟩
  rw [Nat.zero_add, h1, get_flatK _ _ _ _ ht]
  simp only [id]
  have e1 : l.toArray[t / 7]! = l[t / 7] := by simp [hk]
  rw [e1, getElem!_pos (lkC l[t / 7]) (t % 7) (by rw [lkC_len]; exact hj)]
theorem heap_rev {w : World} {g n : Nat} {cur : Array Value} {e : TypeId} {fr : Nat × Nat} (d : Array Lk) (hb : w.heap[g]? = some (.cells cur e fr)) :
    (putRowK lkC 7 (Sort.ahead w n) g 0 d).heap[g]? = some (.cells (putCells id 0 (flatK lkC 7 d) cur) e fr) := by
  simp [putRowK, putRow, mapBlock, Sort.ahead, Array.getElem?_modify, hb, onCells]
theorem grownBy_rev {w : World} {g n : Nat} (d : Array Lk) : w.grownBy (putRowK lkC 7 (Sort.ahead w n) g 0 d) (some g) := by
  refine ⟨rfl, rfl, rfl, by simp [putRowK], fun k hk hne => ?_⟩
  have : g ≠ k := fun e => hne (by rw [e])
  simp [putRowK, putRow, mapBlock, Sort.ahead, Array.getElem?_modify, this]
/-- A row of links of the call's own is turned round. -/
theorem revlk_is {w : World} {B : Nat} {v : Value} {l : List Lk} (h : w.ownsRow B 61 7 v l.length (l.flatMap lkC)) (hl : l.length ≤ 1000000) (hB : B ≤ w.heap.size) : Calls Tryz.prog 45 #[v] w fun e w' => e = .returned (.tuple #[]) ∧ RdLk w' v l.reverse ∧ Below B w w' := by
  obtain ⟨A, c, rfl, hc⟩ := own_len h
  by_cases h0 : l.length = 0
  · have hnil : l = [] := List.eq_nil_of_length_eq_zero h0
    subst hnil
    refine (AnyQ.slices_Reverse_empty revLaid A c w).mono ?_
    rintro e w' ⟨rfl, rfl⟩
    exact ⟨rfl, Rd.of_own h, Below.refl _ _⟩
  · obtain ⟨hlen, ⟨_, h1⟩ | ⟨g, cap, cur, hv, hg, hh, h1, h2, h3, h4⟩⟩ := id h
    · exact absurd h1 h0
    injection hv with hA _ hcc
    subst hA hcc
    have hh2 := holds_links h
    have hsz : l.toArray.size = l.length := by simp
    have := AnyQ.slices_Reverse revLaid 7 Tryz.isAgg61 Tryz.sizeOf61 lkC lkC_len (fun x v hv => by simp only [lkC, List.mem_cons, List.not_mem_nil, or_false] at hv; rcases hv with rfl | rfl | rfl | rfl | rfl | rfl | rfl <;> rfl) g 0 c l.toArray w hh2 (by rw [hsz]; omega)
    rw [hsz] at this
    refine this.mono ?_
    rintro e w' ⟨rfl, n, rfl⟩
    have hrv : l.toArray.reverse = l.reverse.toArray := by simp
    rw [hrv]
    have hH := holdsK_putRowK (enc := lkC) (k := 7) (Sort.ahead w n) g 0 l.toArray l.reverse.toArray (holdsK_ahead lkC 7 w n g 0 _ hh2) (by simp)
    refine ⟨rfl, ⟨some ⟨g, 0, none⟩, c, by simp, by simpa using hc, h2, .inr ⟨g, 0, _, _, rfl, heap_rev _ hh, fun j u hj => ?_⟩⟩, (Below.refl B w).grown (grownBy_rev _) hB (fun k hk => by injection hk with hk; omega)⟩
    have hjl : j < l.length * 7 := by
      have := (List.getElem?_eq_some_iff.1 hj).1
      rw [fm_len lkC_len] at this
      simpa using this
    have h6 := (hH j (by rw [size_flatK]; simpa using hjl)).1
    rw [get_flatK _ _ _ _ (by simpa using hjl), cell_of_row _ g (0 + j) _ _ _ (heap_rev _ hh)] at h6
    rw [h6, ← hj]
    have hk : j / 7 < l.reverse.length := by rw [List.length_reverse]; omega
    have hjm : j % 7 < 7 := Nat.mod_lt _ (by decide)
    have h7 := fm_get lkC_len l.reverse (j / 7) hk (j % 7) hjm
    rw [show j / 7 * 7 + j % 7 = j by omega] at h7
    rw [h7]
    simp only [id]
    have e1 : l.reverse.toArray[j / 7]! = l.reverse[j / 7] := by simp [List.length_reverse] at hk ⊢; simp [hk]
    rw [e1, List.getElem?_eq_getElem (by rw [lkC_len]; exact hjm), getElem!_pos (lkC l.reverse[j / 7]) (j % 7) (by rw [lkC_len]; exact hjm)]
end Go.Proofs.YtamjllakfgphnaaGreatDoor
