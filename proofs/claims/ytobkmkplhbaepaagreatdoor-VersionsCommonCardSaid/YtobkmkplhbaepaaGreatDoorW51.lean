/- Words for memory: ranging over a map from names. -/
import Derived.Test.YtobkmkplhbaepaaGreatDoorGV
import Derived.Maps.RangeWalk
namespace Go.Proofs.YtobkmkplhbaepaaGreatDoor
open Go.RowKit Go.MapKept Go.ChangeMaps
set_option linter.unusedSimpArgs false
set_option linter.unusedVariables false
def kvE (e : MapEntry) : Value × Value := (e.key, e.val)
def kvN (p : Nm × Value) : Value × Value := (nmV p.1, p.2)
theorem kvN_inj {p q : Nm × Value} (h : kvN p = kvN q) : p = q := by
  obtain ⟨a, u⟩ := p
  obtain ⟨b, v⟩ := q
  simp only [kvN, Prod.mk.injEq] at h
  rw [nm_inj h.1, h.2]
/-- Ranging over the map in block b, by the iterator in block r: left: what is still to come. -/
def MapIt (w : World) (b r : Nat) (ents left : List (Nm × Value)) : Prop :=
  ∃ es c since seen c0, w.heap[b]? = some (.map es c) ∧ es.toList.map kvE = ents.map kvN ∧ Stamped es c ∧ w.heap[r]? = some (.mapIter (some b) since seen c0) ∧
    (∀ x ∈ es.toList, x.born < since) ∧ since ≤ c0 ∧ since ≤ c ∧ ((leftOf es seen).toList.map kvE).Perm (left.map kvN)
theorem MapIt.ne {w : World} {b r : Nat} {ents left : List (Nm × Value)} (h : MapIt w b r ents left) : r ≠ b := by
  obtain ⟨es, c, since, seen, c0, hb, _, _, hr, _⟩ := h
  intro e
  rw [e, hb] at hr
  cases hr
theorem MapIt.at_ {w : World} {b r : Nat} {ents left : List (Nm × Value)} (h : MapIt w b r ents left) : MapAt w b ents := by
  obtain ⟨es, c, since, seen, c0, hb, he, hs, _⟩ := h
  exact ⟨es, c, hb, he, hs⟩
theorem MapIt.lt {w : World} {b r : Nat} {ents left : List (Nm × Value)} (h : MapIt w b r ents left) : r < w.heap.size := by
  obtain ⟨es, c, since, seen, c0, hb, he, hs, hr, _⟩ := h
  exact (Array.getElem?_eq_some_iff.1 hr).1
theorem MapIt.same {w w' : World} {b r : Nat} {ents left : List (Nm × Value)} (h : MapIt w b r ents left) (e1 : w'.heap[b]? = w.heap[b]?) (e2 : w'.heap[r]? = w.heap[r]?) : MapIt w' b r ents left := by
  obtain ⟨es, c, since, seen, c0, hb, he, hs, hr, rest⟩ := h
  exact ⟨es, c, since, seen, c0, e1.trans hb, he, hs, e2.trans hr, rest⟩
theorem MapIt.next {w w' : World} {b r : Nat} {ents left : List (Nm × Value)} (h : MapIt w b r ents left) (hb : Below w.heap.size w w') : MapIt w' b r ents left :=
  h.same (hb.block b h.at_.lt) (hb.block r h.lt)
theorem MapIt.grown {w w' : World} {b r : Nat} {ents left : List (Nm × Value)} {row : Option Nat} (h : MapIt w b r ents left) (hg : w.grownBy w' row) (h1 : some b ≠ row) (h2 : some r ≠ row) : MapIt w' b r ents left :=
  h.same (hg.block b h.at_.lt h1) (hg.block r h.lt h2)
theorem MapIt.size {w : World} {b r : Nat} {ents left : List (Nm × Value)} (h : MapIt w b r ents left) : w.rangeLeft b r = left.length := by
  obtain ⟨es, c, since, seen, c0, hb, he, hs, hr, h1, h2, h3, hp⟩ := h
  simp only [World.rangeLeft, hb, hr]
  have := hp.length_eq
  simpa using this
/-- A row of the call's own lies in no map and in no iterator. -/
theorem own_not_it {w : World} {base e s n : Nat} {v : Value} {xs : List Value} {b r : Nat} {ents left : List (Nm × Value)} (h : w.ownsRow base e s v n xs) (hi : MapIt w b r ents left) : some b ≠ v.ownBlock ∧ some r ≠ v.ownBlock := by
  obtain ⟨es, c, since, seen, c0, hb, he, hs, hr, _⟩ := hi
  refine ⟨fun e1 => own_not_map h hb e1.symm, fun e1 => ?_⟩
  obtain ⟨_, ⟨hv0, _⟩ | ⟨g, cap, cur, hv, _, hh, _⟩⟩ := h
  · rw [hv0] at e1; cases e1
  · rw [hv] at e1
    injection e1 with e1
    simp only at e1
    subst e1
    rw [hr] at hh
    cases hh
theorem perm_born : ∀ {L : List MapEntry} {e : MapEntry}, (L.map (·.born)).Nodup → e ∈ L → L.Perm (e :: L.filter fun x => !(x.born == e.born))
  | [], _, _, h => by cases h
  | a :: L, e, hn, h => by
    rw [List.map_cons, List.nodup_cons] at hn
    rcases List.mem_cons.1 h with rfl | h
    · have h1 : (e :: L).filter (fun x => !(x.born == e.born)) = L := by
        rw [List.filter_cons_of_neg (by simp)]
        refine List.filter_eq_self.2 fun x hx => ?_
        have : x.born ≠ e.born := fun e1 => hn.1 (by rw [← e1]; exact List.mem_map.2 ⟨x, hx, rfl⟩)
        simpa using this
      rw [h1]
    · have hne : a.born ≠ e.born := fun e1 => hn.1 (by rw [e1]; exact List.mem_map.2 ⟨e, h, rfl⟩)
      rw [List.filter_cons_of_pos (by simpa using hne)]
      exact ((perm_born hn.2 h).cons a).trans (List.Perm.swap e a _)
theorem left_push {es : Array MapEntry} {seen : Array Nat} {e : MapEntry} : (leftOf es (seen.push e.born)).toList = (leftOf es seen).toList.filter fun x => !(x.born == e.born) := by
  unfold leftOf
  rw [Array.toList_filter, Array.toList_filter, List.filter_filter]
  refine List.filter_congr fun x _ => ?_
  rw [contains_push]
  cases seen.contains x.born <;> cases (x.born == e.born) <;> rfl
theorem MapIt.step {w : World} {b r : Nat} {ents left : List (Nm × Value)} (h : MapIt w b r ents left) (ty : TypeId) :
    (left = [] ∧ (Instr.next (.pointer (some ⟨r, 0, none⟩)) false ty).run Tryz.prog w = .ok (.tuple #[.bool false]) w) ∨
    ∃ p left' w', left.Perm (p :: left') ∧ p ∈ ents ∧ MapIt w' b r ents left' ∧ w.grownBy w' (some r) ∧ w'.heap.size = w.heap.size ∧ (Instr.next (.pointer (some ⟨r, 0, none⟩)) false ty).run Tryz.prog w = .ok (.tuple #[.bool true, nmV p.1, p.2]) w' ∧
      (Instr.entry (.pointer (some ⟨r, 0, none⟩))).run Tryz.prog w' = .ok (.tuple #[nmV p.1, p.2]) w' := by
  have hne := h.ne
  obtain ⟨es, c, since, seen, c0, hb, he, hs, hr, hold, hsc, hsk, hp⟩ := h
  have hst := (stamped_iff es c).1 hs
  rcases run_next_at (P := Tryz.prog) w ty r b since c0 seen es c hr hb hold hsc with ⟨h0, hrun⟩ | ⟨e, hel, w1, hal, hrun⟩
  · refine .inl ⟨?_, hrun⟩
    have := hp.length_eq
    rw [List.length_map, List.length_map, Array.length_toList, h0] at this
    exact List.length_eq_zero_iff.1 this.symm
  · obtain ⟨hem, hes⟩ := mem_left hel
    have hm : kvE e ∈ left.map kvN := hp.mem_iff.1 (List.mem_map.2 ⟨e, hel, rfl⟩)
    obtain ⟨p, hpl, hpe⟩ := List.mem_map.1 hm
    obtain ⟨s, t, hst2⟩ := List.append_of_mem hpl
    have hperm : left.Perm (p :: (s ++ t)) := by rw [hst2]; exact List.perm_middle
    have hpents : p ∈ ents := by
      have : kvE e ∈ ents.map kvN := by rw [← he]; exact List.mem_map.2 ⟨e, hem, rfl⟩
      obtain ⟨q, hq, hqe⟩ := List.mem_map.1 this
      rw [← kvN_inj (hqe.trans hpe.symm)]
      exact hq
    have hnd : ((leftOf es seen).toList.map (·.born)).Nodup := by
      unfold leftOf
      rw [Array.toList_filter]
      exact (List.filter_sublist.map _).nodup hst.2.1
    have hp2 : ((leftOf es (seen.push e.born)).toList.map kvE).Perm ((s ++ t).map kvN) := by
      rw [left_push]
      have h1 := ((perm_born hnd hel).map kvE).symm.trans (hp.trans (hperm.map kvN))
      rw [List.map_cons, List.map_cons, hpe] at h1
      exact (List.perm_cons _).1 h1
    have hr1 : w1.heap[r]? = some (.mapIter (some b) since seen c0) := by rcases hal with rfl | rfl <;> exact hr
    have hb1 : w1.heap[b]? = some (.map es c) := by rcases hal with rfl | rfl <;> exact hb
    have hset := heap_set (o' := .mapIter (some b) since (seen.push e.born) c) hr1
    have hb' : (setBlock w1 r (.mapIter (some b) since (seen.push e.born) c)).heap[b]? = some (.map es c) := (hset.2 b (fun e1 => hne e1.symm)).trans hb1
    injection hpe with hk hv
    refine .inr ⟨p, s ++ t, _, hperm, hpents, ⟨es, c, since, seen.push e.born, c, hb', he, hs, hset.1, hold, hsk, hsk, hp2⟩, ?_, ?_, ?_, ?_⟩
    · rcases hal with rfl | rfl <;> exact ⟨rfl, rfl, rfl, by simp [setBlock], fun i _ hi => hset.2 i (fun e1 => hi (by rw [e1]))⟩
    · rcases hal with rfl | rfl <;> simp [setBlock]
    · rw [hk, hv]; exact hrun
    · rw [hk, hv]; exact run_entry_at _ r b since seen es c e hset.1 hb' hem hst.2.1
section
variable (w : World) {ops : Array Oper} {rest : List Oper} {o : Oper} {a : Go.Act} {Q : Exit → Go.Act → World → Prop}
theorem wpList_range_nm (hg : o.guard = none) (m : Operand) (t : TypeId) (hop : o.op = Op.range t m) {E : TypeId} (ht : Tryz.prog.underlying t = some (.map 40 E)) (b : Nat) (ents : List (Nm × Value))
    (hm : a.eval m = .map (some b)) (h : MapAt w b ents)
    (hK : ∀ w', MapIt w' b w.heap.size ents ents → Below w.heap.size w w' → w'.heap.size = w.heap.size + 1 → wpList Tryz.prog ops Q rest (a.put o.dst (.pointer (some ⟨w.heap.size, 0, none⟩))) w') :
    wpList Tryz.prog ops Q (o :: rest) a w := by
  refine wpList_plain hg fun K' hK' => ?_
  have hlt := h.lt
  obtain ⟨es, c, hb, he, hs⟩ := h
  have hrun := run_range_map (P := Tryz.prog) w t 40 E b es c ht hb
  unfold Oper.wp
  simp [execOp, hop, hm, hrun, Result.andThen]
  refine hK' _ _ (hK _ ⟨es, c, c, #[], c, ((MapKept.heap_alloc w _).2 b hlt).trans hb, he, hs, (MapKept.heap_alloc w _).1, ((stamped_iff es c).1 hs).1, Nat.le_refl _, Nat.le_refl _, ?_⟩ ((Below.refl _ _).alloc (Nat.le_refl _) _) (by simp))
  have h1 : (leftOf es #[]).toList = es.toList := by
    unfold leftOf
    rw [Array.toList_filter]
    exact List.filter_eq_self.2 fun x _ => by simp
  rw [h1, show es.toList.map kvE = ents.map kvN from he]
theorem wpList_next_nm (hg : o.guard = none) (it : Operand) (hop : o.op = Op.next it false) (b r : Nat) (ents left : List (Nm × Value)) (hit : a.eval it = .pointer (some ⟨r, 0, none⟩)) (h : MapIt w b r ents left)
    (hDone : left = [] → wpList Tryz.prog ops Q rest (a.put o.dst (.tuple #[.bool false])) w)
    (hMore : ∀ (p : Nm × Value) (left' : List (Nm × Value)) (w' : World), left.Perm (p :: left') → p ∈ ents → MapIt w' b r ents left' → w.grownBy w' (some r) → w'.heap.size = w.heap.size → (Instr.entry (.pointer (some ⟨r, 0, none⟩))).run Tryz.prog w' = .ok (.tuple #[nmV p.1, p.2]) w' → wpList Tryz.prog ops Q rest (a.put o.dst (.tuple #[.bool true, nmV p.1, p.2])) w') :
    wpList Tryz.prog ops Q (o :: rest) a w := by
  refine wpList_plain hg fun K' hK' => ?_
  unfold Oper.wp
  rcases h.step o.type with ⟨h0, hrun⟩ | ⟨p, left', w', h1, h2, h3, h4, h5, hrun, hen⟩
  · simp [execOp, hop, hit, hrun, Result.andThen]
    exact hK' _ _ (hDone h0)
  · simp [execOp, hop, hit, hrun, Result.andThen]
    exact hK' _ _ (hMore p left' w' h1 h2 h3 h4 h5 hen)
end
end Go.Proofs.YtobkmkplhbaepaaGreatDoor
