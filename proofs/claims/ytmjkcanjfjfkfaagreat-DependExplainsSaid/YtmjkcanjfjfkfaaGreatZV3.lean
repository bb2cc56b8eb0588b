/- Walks and plain facts, packed: B11, E1, P1, T9, T1, LA, P2, B12, T10, T12, P5, P3, P4, P10, Z1. -/
import Derived.Maps.RangeWalk
import Derived.Test.YtmjkcanjfjfkfaaGreatRows
import Derived.ProofKit
import Derived.LaidMore
import Derived.OpenShut
import Derived.Stop.Joined
import Derived.WideShapes
import Derived.Laws.IdiomCopy
import Derived.Lib.SliceRun
import Derived.Control
import Derived.Calls
import Derived.Shelf.GgSortFunc.Insertion
import Derived.Shelf.SortG.Plain
import Derived.Shelf.SortG.SortNone
import Derived.Lib.QuietBelow
import Derived.Lib.MinMax
import Derived.Test.YtmjkcanjfjfkfaaGreatZV2
namespace Go.Proofs.YtmjkcanjfjfkfaaGreat
open Go.RowKit
set_option linter.unusedSimpArgs false
set_option linter.unusedVariables false
attribute [local go_sem ↓] Go.wp_at_zero Go.wp_at_succ
open Go.MapKept Go.ChangeMaps
def srcs (row : List Lk) : List Lk := row.filter fun x => decide (0 ≤ x.frm)
theorem rd_new1 (w : World) (x : Int) : RdIn (w.alloc (.cells #[.int .i64 x] 3)) (.slice (some ⟨w.heap.size, 0, none⟩) 1 1) [x] :=
  ⟨_, 1, rfl, Nat.le_refl _, by unfold maxLen; omega, .inr ⟨_, 0, _, _, rfl, heap_alloc_new w _, fun j u hj => by rw [Nat.zero_add, ← Array.getElem?_toList]; exact hj⟩⟩
def SetAt (w : World) (b : Nat) (D : List Int) : Prop := MapAtI w b (D.map fun n => (n, Value.bool true))
theorem SetAt.next {w w' : World} {b : Nat} {D : List Int} (h : SetAt w b D) (hb : Below w.heap.size w w') : SetAt w' b D := MapAtI.next h hb
end Go.Proofs.YtmjkcanjfjfkfaaGreat
namespace Go.Proofs.YtmjkcanjfjfkfaaGreat
open Go.RowKit Go.MapKept Go.ChangeMaps
set_option linter.unusedSimpArgs false
set_option linter.unusedVariables false
def kvE (e : MapEntry) : Value × Value := (e.key, e.val)
theorem perm_born : ∀ {L : List MapEntry} {e : MapEntry}, (L.map (·.born)).Nodup → e ∈ L → L.Perm (e :: L.filter fun x => !(x.born == e.born))
  | [], _, _, h => by cases h
  | a :: L, e, hn, h => by
    rw [List.map_cons, List.nodup_cons] at hn
    rcases List.mem_cons.1 h with rfl | h
    · have h1 : (e :: L).filter (fun x => !(x.born == e.born)) = L := by
        rw [List.filter_cons_of_neg (by simp)]
        refine List.filter_eq_self.2 fun x hx => ?_
        have : x.born ≠ e.born := fun e1 => hn.1 (by rw [← e1]; exact List.mem_map.2 ⟨x, hx, rfl⟩)
        simpa using this
      rw [h1]
    · have hne : a.born ≠ e.born := fun e1 => hn.1 (by rw [e1]; exact List.mem_map.2 ⟨e, h, rfl⟩)
      rw [List.filter_cons_of_pos (by simpa using hne)]
      exact ((perm_born hn.2 h).cons a).trans (List.Perm.swap e a _)
theorem left_push {es : Array MapEntry} {seen : Array Nat} {e : MapEntry} : (leftOf es (seen.push e.born)).toList = (leftOf es seen).toList.filter fun x => !(x.born == e.born) := by
  unfold leftOf
  rw [Array.toList_filter, Array.toList_filter, List.filter_filter]
  refine List.filter_congr fun x _ => ?_
  rw [contains_push]
  cases seen.contains x.born <;> cases (x.born == e.born) <;> rfl
section
variable (w : World) {ops : Array Oper} {rest : List Oper} {o : Oper} {a : Go.Act} {Q : Exit → Go.Act → World → Prop}
end
section
variable {α : Type} {f : α → List Value} {s : Nat} {e : TypeId}
end
end Go.Proofs.YtmjkcanjfjfkfaaGreat
namespace Go.Proofs.YtmjkcanjfjfkfaaGreat
open Go.RowKit Go.MapKept Go.ChangeMaps
set_option linter.unusedSimpArgs false
set_option linter.unusedVariables false
def kvN (p : Nm × Value) : Value × Value := (nmV p.1, p.2)
theorem kvN_inj {p q : Nm × Value} (h : kvN p = kvN q) : p = q := by
  obtain ⟨a, u⟩ := p; obtain ⟨b, v⟩ := q
  simp only [kvN, Prod.mk.injEq] at h
  rw [nm_inj h.1, h.2]
def MapIt (w : World) (b r : Nat) (ents left : List (Nm × Value)) : Prop :=
  ∃ es c since seen c0, w.heap[b]? = some (.map es c) ∧ es.toList.map kvE = ents.map kvN ∧ Stamped es c ∧ w.heap[r]? = some (.mapIter (some b) since seen c0) ∧
    (∀ x ∈ es.toList, x.born < since) ∧ since ≤ c0 ∧ since ≤ c ∧ ((leftOf es seen).toList.map kvE).Perm (left.map kvN)
theorem MapIt.ne {w : World} {b r : Nat} {ents left : List (Nm × Value)} (h : MapIt w b r ents left) : r ≠ b := by
  obtain ⟨es, c, since, seen, c0, hb, _, _, hr, _⟩ := h
  intro e
  rw [e, hb] at hr
  cases hr
theorem MapIt.at_ {w : World} {b r : Nat} {ents left : List (Nm × Value)} (h : MapIt w b r ents left) : MapAt w b ents := by
  obtain ⟨es, c, since, seen, c0, hb, he, hs, _⟩ := h
  exact ⟨es, c, hb, he, hs⟩
theorem MapIt.lt {w : World} {b r : Nat} {ents left : List (Nm × Value)} (h : MapIt w b r ents left) : r < w.heap.size := by
  obtain ⟨es, c, since, seen, c0, hb, he, hs, hr, _⟩ := h
  exact (Array.getElem?_eq_some_iff.1 hr).1
theorem MapIt.same {w w' : World} {b r : Nat} {ents left : List (Nm × Value)} (h : MapIt w b r ents left) (e1 : w'.heap[b]? = w.heap[b]?) (e2 : w'.heap[r]? = w.heap[r]?) : MapIt w' b r ents left := by
  obtain ⟨es, c, since, seen, c0, hb, he, hs, hr, rest⟩ := h
  exact ⟨es, c, since, seen, c0, e1.trans hb, he, hs, e2.trans hr, rest⟩
theorem MapIt.next {w w' : World} {b r : Nat} {ents left : List (Nm × Value)} (h : MapIt w b r ents left) (hb : Below w.heap.size w w') : MapIt w' b r ents left :=
  h.same (hb.block b h.at_.lt) (hb.block r h.lt)
theorem MapIt.grown {w w' : World} {b r : Nat} {ents left : List (Nm × Value)} {row : Option Nat} (h : MapIt w b r ents left) (hg : w.grownBy w' row) (h1 : some b ≠ row) (h2 : some r ≠ row) : MapIt w' b r ents left :=
  h.same (hg.block b h.at_.lt h1) (hg.block r h.lt h2)
theorem MapIt.size {w : World} {b r : Nat} {ents left : List (Nm × Value)} (h : MapIt w b r ents left) : w.rangeLeft b r = left.length := by
  obtain ⟨es, c, since, seen, c0, hb, he, hs, hr, h1, h2, h3, hp⟩ := h
  simp only [World.rangeLeft, hb, hr]
  have := hp.length_eq
  simpa using this
theorem own_not_it {w : World} {base e s n : Nat} {v : Value} {xs : List Value} {b r : Nat} {ents left : List (Nm × Value)} (h : w.ownsRow base e s v n xs) (hi : MapIt w b r ents left) : some b ≠ v.ownBlock ∧ some r ≠ v.ownBlock := by
  obtain ⟨es, c, since, seen, c0, hb, he, hs, hr, _⟩ := hi
  refine ⟨fun e1 => own_not_map h hb e1.symm, fun e1 => ?_⟩
  obtain ⟨_, ⟨hv0, _⟩ | ⟨g, cap, cur, hv, _, hh, _⟩⟩ := h
  · rw [hv0] at e1; cases e1
  · rw [hv] at e1
    injection e1 with e1
    simp only at e1
    subst e1; rw [hr] at hh
    cases hh
theorem MapIt.step {w : World} {b r : Nat} {ents left : List (Nm × Value)} (h : MapIt w b r ents left) (ty : TypeId) :
    (left = [] ∧ (Instr.next (.pointer (some ⟨r, 0, none⟩)) false ty).run Tryz.prog w = .ok (.tuple #[.bool false]) w) ∨
    ∃ p left' w', left.Perm (p :: left') ∧ p ∈ ents ∧ MapIt w' b r ents left' ∧ w.grownBy w' (some r) ∧ w'.heap.size = w.heap.size ∧ (Instr.next (.pointer (some ⟨r, 0, none⟩)) false ty).run Tryz.prog w = .ok (.tuple #[.bool true, nmV p.1, p.2]) w' ∧
      (Instr.entry (.pointer (some ⟨r, 0, none⟩))).run Tryz.prog w' = .ok (.tuple #[nmV p.1, p.2]) w' := by
  have hne := h.ne; obtain ⟨es, c, since, seen, c0, hb, he, hs, hr, hold, hsc, hsk, hp⟩ := h; have hst := (stamped_iff es c).1 hs
  rcases run_next_at (P := Tryz.prog) w ty r b since c0 seen es c hr hb hold hsc with ⟨h0, hrun⟩ | ⟨e, hel, w1, hal, hrun⟩
  · refine .inl ⟨?_, hrun⟩
    have := hp.length_eq; rw [List.length_map, List.length_map, Array.length_toList, h0] at this
    exact List.length_eq_zero_iff.1 this.symm
  · obtain ⟨hem, hes⟩ := mem_left hel
    have hm : kvE e ∈ left.map kvN := hp.mem_iff.1 (List.mem_map.2 ⟨e, hel, rfl⟩); obtain ⟨p, hpl, hpe⟩ := List.mem_map.1 hm; obtain ⟨s, t, hst2⟩ := List.append_of_mem hpl
    have hperm : left.Perm (p :: (s ++ t)) := by rw [hst2]; exact List.perm_middle
    have hpents : p ∈ ents := by
      have : kvE e ∈ ents.map kvN := by rw [← he]; exact List.mem_map.2 ⟨e, hem, rfl⟩
      obtain ⟨q, hq, hqe⟩ := List.mem_map.1 this; rw [← kvN_inj (hqe.trans hpe.symm)]
      exact hq
    have hnd : ((leftOf es seen).toList.map (·.born)).Nodup := by
      unfold leftOf
      rw [Array.toList_filter]
      exact (List.filter_sublist.map _).nodup hst.2.1
    have hp2 : ((leftOf es (seen.push e.born)).toList.map kvE).Perm ((s ++ t).map kvN) := by
      rw [left_push]; have h1 := ((perm_born hnd hel).map kvE).symm.trans (hp.trans (hperm.map kvN)); rw [List.map_cons, List.map_cons, hpe] at h1
      exact (List.perm_cons _).1 h1
    have hr1 : w1.heap[r]? = some (.mapIter (some b) since seen c0) := by rcases hal with rfl | rfl <;> exact hr
    have hb1 : w1.heap[b]? = some (.map es c) := by rcases hal with rfl | rfl <;> exact hb
    have hset := heap_set (o' := .mapIter (some b) since (seen.push e.born) c) hr1; have hb' : (setBlock w1 r (.mapIter (some b) since (seen.push e.born) c)).heap[b]? = some (.map es c) := (hset.2 b (fun e1 => hne e1.symm)).trans hb1
    injection hpe with hk hv
    refine .inr ⟨p, s ++ t, _, hperm, hpents, ⟨es, c, since, seen.push e.born, c, hb', he, hs, hset.1, hold, hsk, hsk, hp2⟩, ?_, ?_, ?_, ?_⟩
    · rcases hal with rfl | rfl <;> exact ⟨rfl, rfl, rfl, by simp [setBlock], fun i _ hi => hset.2 i (fun e1 => hi (by rw [e1]))⟩
    · rcases hal with rfl | rfl <;> simp [setBlock]
    · rw [hk, hv]; exact hrun
    · rw [hk, hv]; exact run_entry_at _ r b since seen es c e hset.1 hb' hem hst.2.1
section
variable (w : World) {ops : Array Oper} {rest : List Oper} {o : Oper} {a : Go.Act} {Q : Exit → Go.Act → World → Prop}
theorem wpList_range_nm (hg : o.guard = none) (m : Operand) (t : TypeId) (hop : o.op = Op.range t m) {E : TypeId} (ht : Tryz.prog.underlying t = some (.map 45 E)) (b : Nat) (ents : List (Nm × Value))
    (hm : a.eval m = .map (some b)) (h : MapAt w b ents)
    (hK : ∀ w', MapIt w' b w.heap.size ents ents → Below w.heap.size w w' → w'.heap.size = w.heap.size + 1 → wpList Tryz.prog ops Q rest (a.put o.dst (.pointer (some ⟨w.heap.size, 0, none⟩))) w') :
    wpList Tryz.prog ops Q (o :: rest) a w := by
  refine wpList_plain hg fun K' hK' => ?_
  have hlt := h.lt; obtain ⟨es, c, hb, he, hs⟩ := h; have hrun := run_range_map (P := Tryz.prog) w t 45 E b es c ht hb
  unfold Oper.wp
  simp [execOp, hop, hm, hrun, Result.andThen]
  refine hK' _ _ (hK _ ⟨es, c, c, #[], c, ((MapKept.heap_alloc w _).2 b hlt).trans hb, he, hs, (MapKept.heap_alloc w _).1, ((stamped_iff es c).1 hs).1, Nat.le_refl _, Nat.le_refl _, ?_⟩ ((Below.refl _ _).alloc (Nat.le_refl _) _) (by simp))
  have h1 : (leftOf es #[]).toList = es.toList := by
    unfold leftOf
    rw [Array.toList_filter]
    exact List.filter_eq_self.2 fun x _ => by simp
  rw [h1, show es.toList.map kvE = ents.map kvN from he]
theorem wpList_next_nm (hg : o.guard = none) (it : Operand) (hop : o.op = Op.next it false) (b r : Nat) (ents left : List (Nm × Value)) (hit : a.eval it = .pointer (some ⟨r, 0, none⟩)) (h : MapIt w b r ents left)
    (hDone : left = [] → wpList Tryz.prog ops Q rest (a.put o.dst (.tuple #[.bool false])) w)
    (hMore : ∀ (p : Nm × Value) (left' : List (Nm × Value)) (w' : World), left.Perm (p :: left') → p ∈ ents → MapIt w' b r ents left' → w.grownBy w' (some r) → w'.heap.size = w.heap.size → (Instr.entry (.pointer (some ⟨r, 0, none⟩))).run Tryz.prog w' = .ok (.tuple #[nmV p.1, p.2]) w' → wpList Tryz.prog ops Q rest (a.put o.dst (.tuple #[.bool true, nmV p.1, p.2])) w') :
    wpList Tryz.prog ops Q (o :: rest) a w := by
  refine wpList_plain hg fun K' hK' => ?_
  unfold Oper.wp
  rcases h.step o.type with ⟨h0, hrun⟩ | ⟨p, left', w', h1, h2, h3, h4, h5, hrun, hen⟩
  · simp [execOp, hop, hit, hrun, Result.andThen]
    exact hK' _ _ (hDone h0)
  · simp [execOp, hop, hit, hrun, Result.andThen]
    exact hK' _ _ (hMore p left' w' h1 h2 h3 h4 h5 hen)
end
end Go.Proofs.YtmjkcanjfjfkfaaGreat
namespace Go.Proofs.YtmjkcanjfjfkfaaGreat
set_option linter.unusedSimpArgs false
set_option linter.unusedVariables false
def srtI (l : List Int) : List Int := l.mergeSort fun x y => decide (x ≤ y)
theorem srtI_len (l : List Int) : (srtI l).length = l.length := (List.mergeSort_perm l _).length_eq
end Go.Proofs.YtmjkcanjfjfkfaaGreat
namespace Go.Proofs.YtmjkcanjfjfkfaaGreat
open Go.RowKit Go.MapKept Go.ChangeMaps
set_option linter.unusedSimpArgs false
set_option linter.unusedVariables false
theorem look_setS (n : Int) : ∀ D : List Int, (lookM n (D.map fun n => (n, Value.bool true))).isSome = decide (n ∈ D)
  | [] => by simp [lookM]
  | a :: D => by
    simp only [List.map_cons, lookM]
    by_cases h : a = n
    · rw [if_pos h]; simp [h]
    · rw [if_neg h, look_setS n D]
      have : ¬ n = a := fun e => h e.symm
      simp [this]
theorem SetAt.put {w : World} {b : Nat} {D : List Int} (h : SetAt w b D) {n : Int} (hn : n ∉ D) : ∃ w', (Instr.mapUpdate 138 (.map (some b)) (.int .i64 n) (.bool true)).run Tryz.prog w = .ok () w' ∧ SetAt w' b (D ++ [n]) ∧ w.grownBy w' (some b) := by
  obtain ⟨w', h1, h2, h3⟩ := map_putI h n (.bool true) Tryz.underlying138
  refine ⟨w', h1, ?_, h3⟩
  rw [putM_new _ _ _ (by rw [look_setS]; simpa using hn)] at h2
  unfold SetAt
  rw [List.map_append]
  exact h2
theorem SetAt.lt {w : World} {b : Nat} {D : List Int} (h : SetAt w b D) : b < w.heap.size := MapAtI.lt h
theorem SetAt.same {w w' : World} {b : Nat} {D : List Int} (h : SetAt w b D) (e : w'.heap[b]? = w.heap[b]?) : SetAt w' b D := MapAtI.same h e
theorem SetAt.noInt {w : World} {b : Nat} {D : List Int} (h : SetAt w b D) {t : TypeId} : ∀ cs fr, w.heap[b]? ≠ some (.cells cs t fr) := by
  obtain ⟨es, c, hb, _⟩ := h
  intro cs fr e
  rw [hb] at e
  cases e
theorem QOwn.lt {w : World} {B : Nat} {v : Value} {Q : List Int} (h : QOwn w B v Q) : ∀ g, v.ownBlock = some g → g < w.heap.size := by
  obtain ⟨g, o, c, cur, rfl, h2, h3, h4⟩ := h
  intro g' e
  injection e with e
  subst e
  exact h3.lt
end Go.Proofs.YtmjkcanjfjfkfaaGreat
namespace Go.Proofs.YtmjkcanjfjfkfaaGreat
open Go.RowKit Go.MapKept Go.ChangeMaps
set_option linter.unusedSimpArgs false
set_option linter.unusedVariables false
end Go.Proofs.YtmjkcanjfjfkfaaGreat
namespace Go.Proofs.YtmjkcanjfjfkfaaGreat
section
variable {P : Program} {ops : Array Oper} {Q : Exit → Go.Act → World → Prop} {md : Region.Mode} {st : Nat}
end
end Go.Proofs.YtmjkcanjfjfkfaaGreat
namespace Go.Proofs.YtmjkcanjfjfkfaaGreat
set_option linter.unusedVariables false
theorem wpAnyH_more {P : Program} {md : Region.Mode} {ops : Array Oper} {Q : Exit → Go.Act → World → Prop} {S S' : World → Prop} (hi : ∀ w, S' w → S w) : ∀ {fuel : Nat} {listed : Array Bool} {a : Go.Act} {w : World}, wpAnyH P md ops Q S' fuel listed a w → wpAnyH P md ops Q S fuel listed a w
  | 0, _, _, _, h => h
  | fuel + 1, _, _, _, h => ⟨h.1, fun i hr => wpOp_mono (fun a' w' h' => ⟨hi _ h'.1, wpAnyH_more hi h'.2⟩) (h.2 i hr)⟩
end Go.Proofs.YtmjkcanjfjfkfaaGreat
namespace Go.Proofs.YtmjkcanjfjfkfaaGreat
open Go.RowKit
set_option linter.unusedSimpArgs false
set_option linter.unusedVariables false
theorem bs_size (l : Bs) : (bs l).size = l.length := by simp [bs, ByteArray.size]
section
variable {w w' : World} {g : Nat} {t : TypeId} {cs : Array Value}
end
theorem bcell {W w1 : World} {B : Nat} (hb : Below B W w1) : (∀ b o, b < B → w1.cell? ⟨b, o, none⟩ = W.cell? ⟨b, o, none⟩) ∧ (∀ b o, b < B → w1.frozen? ⟨b, o, none⟩ = W.frozen? ⟨b, o, none⟩) :=
  ⟨fun b o h => hb.cell (p := ⟨b, o, none⟩) h, fun b o h => hb.frozen (p := ⟨b, o, none⟩) h⟩
section
variable {α β : Type}
theorem rowC_snoc (f : α → β → List Value) : ∀ (l : List α) (vs : List β) (x : α) (v : β), vs.length = l.length → rowC f (l ++ [x]) (vs ++ [v]) = rowC f l vs ++ f x v
  | [], [], x, v, _ => by simp [rowC]
  | a :: l, b :: vs, x, v, h => by
    have := rowC_snoc f l vs x v (by simpa using h)
    simp [rowC, this]
  | [], b :: vs, _, _, h => by simp at h
  | a :: l, [], _, _, h => by simp at h
variable {e : TypeId} {size base : Nat} {f : α → β → List Value} {N : World → β → α → Prop} {w w' : World} {v : Value} {l : List α} {L : List TypeId}
end
end Go.Proofs.YtmjkcanjfjfkfaaGreat
namespace Go.Proofs.YtmjkcanjfjfkfaaGreat
open Go.RowKit Go.Deep
set_option linter.unusedSimpArgs false
set_option linter.unusedVariables false
def Ra (B : Nat) (w : World) (v : Value) (n : Nat) (xs : List Value) : Prop :=
  ∃ A c, v = .slice A n c ∧ n ≤ c ∧ c ≤ maxLen ∧ ((n = 0 ∧ xs = []) ∨ ∃ b o, A = some ⟨b, o, none⟩ ∧ b < B ∧ ∀ j u, xs[j]? = some u → w.cell? ⟨b, o + j, none⟩ = some u)
theorem Ra.below {B : Nat} {w w' : World} {v : Value} {n : Nat} {xs : List Value} (h : Ra B w v n xs) (hb : Below B w w') : Ra B w' v n xs := by
  obtain ⟨A, c, hv, hc, hm, h0 | ⟨b, o, hA, hlt, hx⟩⟩ := h
  · exact ⟨A, c, hv, hc, hm, .inl h0⟩
  · exact ⟨A, c, hv, hc, hm, .inr ⟨b, o, hA, hlt, fun j u hu => (hb.cell (p := ⟨b, o + j, none⟩) hlt).trans (hx j u hu)⟩⟩
theorem Ra.at_ {B : Nat} {w : World} {v : Value} {n : Nat} {xs : List Value} (h : Ra B w v n xs) (hn : 0 < n) : ∃ b o c, v = .slice (some ⟨b, o, none⟩) n c ∧ n ≤ c ∧ c ≤ maxLen ∧ b < B ∧ ∀ j u, xs[j]? = some u → w.cell? ⟨b, o + j, none⟩ = some u := by
  obtain ⟨A, c, hv, hc, hm, h0 | ⟨b, o, hA, hlt, hx⟩⟩ := h
  · omega
  · subst hA
    exact ⟨b, o, c, hv, hc, hm, hlt, hx⟩
theorem Ra.form {B : Nat} {w : World} {v : Value} {n : Nat} {xs : List Value} (h : Ra B w v n xs) : ∃ A c, v = .slice A n c ∧ n ≤ c ∧ c ≤ maxLen := by
  obtain ⟨A, c, hv, hc, hm, _⟩ := h
  exact ⟨A, c, hv, hc, hm⟩
section
variable {α β : Type}
def RowRa (f : α → β → List Value) (N : World → β → α → Prop) (B : Nat) (w : World) (v : Value) (l : List α) : Prop := ∃ vs, RowW N w l vs ∧ Ra B w v l.length (rowC f l vs)
variable {f : α → β → List Value} {N : World → β → α → Prop} {B : Nat} {w w' : World} {v : Value} {l : List α}
theorem RowRa.below (h : RowRa f N B w v l) (hb : Below B w w') (hN : ∀ v x, N w v x → N w' v x) : RowRa f N B w' v l := by
  obtain ⟨vs, h1, h2⟩ := h
  exact ⟨vs, h1.imp hN, h2.below hb⟩
theorem RowRa.form (h : RowRa f N B w v l) : ∃ A c, v = .slice A l.length c ∧ l.length ≤ c ∧ c ≤ maxLen := by
  obtain ⟨vs, h1, h2⟩ := h
  exact h2.form
theorem RowRa.at_ {size : Nat} (h : RowRa f N B w v l) (hf : ∀ x u, (f x u).length = size) (h0 : 0 < l.length) : ∃ b o c, v = .slice (some ⟨b, o, none⟩) l.length c ∧ l.length ≤ c ∧ c ≤ maxLen ∧ b < B ∧ ∀ i (hi : i < l.length), ∃ u, N w u l[i] ∧ ∀ j y, (f l[i] u)[j]? = some y → w.cell? ⟨b, o + (i * size + j), none⟩ = some y := by
  obtain ⟨vs, h1, h2⟩ := h; obtain ⟨b, o, c, hv, hc, hm, hb, hcell⟩ := h2.at_ h0
  refine ⟨b, o, c, hv, hc, hm, hb, fun i hi => ?_⟩
  have hiv : i < vs.length := by rw [h1.1]; exact hi
  refine ⟨vs[i], h1.2 i _ _ (List.getElem?_eq_getElem hi) (List.getElem?_eq_getElem hiv), fun j y hy => ?_⟩
  have hj : j < size := by
    rcases Nat.lt_or_ge j size with h | h
    · exact h
    · rw [List.getElem?_eq_none (by rw [hf]; exact h)] at hy; cases hy
  exact hcell _ _ ((rowC_get f size hf l vs h1.1 i _ _ j (List.getElem?_eq_getElem hi) (List.getElem?_eq_getElem hiv) hj).trans hy)
end
section
variable {α β H : Type} [Inhabited α] [Inhabited β] {enc : TypeId × Value → H} {P : Program} {w : World} {base : Nat} {spare : Nat → Bool} {held : Bool}
theorem open_row {f : α → β → List Value} {N : World → β → α → Prop} {size : Nat} (hf : ∀ x u, (f x u).length = size) (hs : 0 < size) {t e : TypeId} (ht : P.underlying t = some (.slice e)) (ce : P.cellsOf e = size)
    (hE : ∀ n cs y, DataW.trod enc P w base spare held n e cs = some y → cs.length = size → ∃ x u, cs = f x u ∧ N w u x)
    {fuel : Nat} {v : Value} {x : DataW H × List MemPlace} (h : DataW.trod enc P w base spare held fuel t [v] = some x) : ∃ l : List α, RowRa f N w.heap.size w v l := by
  rcases open_slice ht h with ⟨h0, _⟩ | ⟨a, len, cap, m, n, D, Pl, h0, hb, hl, hm, hmm, _, hx⟩
  · injection h0 with h0
    subst h0
    exact ⟨[], [], RowW.nil N w, none, 0, rfl, Nat.le_refl _, Nat.zero_le _, .inl ⟨rfl, rfl⟩⟩
  injection h0 with h0
  subst h0
  have hlm : len ≤ m := by rw [hmm]; split <;> omega
  have each : ∀ i, i < len → ∃ q : α × β, N w q.2 q.1 ∧ ∀ j y, (f q.1 q.2)[j]? = some y → w.cell? ((a.add (i * size)).add j) = some y := by
    intro i hi
    obtain ⟨cs', h1, h2⟩ := hx i (by omega); rw [ce] at h1; obtain ⟨_, hlen, hcell⟩ := World.cells?_some h1; obtain ⟨x, u, hcs, hN⟩ := hE _ _ _ h2 hlen
    refine ⟨(x, u), hN, fun j y hy => ?_⟩
    have hj : j < size := by
      rcases Nat.lt_or_ge j size with h | h
      · exact h
      · rw [List.getElem?_eq_none (by rw [hf]; exact h)] at hy; cases hy
    have := hcell j hj; rw [this, hcs]
    exact hy
  obtain ⟨q, hq⟩ := choose_lt each
  let xs : List α := (List.range len).map fun i => (q i).1
  let us : List β := (List.range len).map fun i => (q i).2
  have lx : xs.length = len := by simp [xs]
  have lu : us.length = xs.length := by simp [xs, us]
  have gx : ∀ i, i < len → xs[i]? = some (q i).1 := fun i hi => by simp [xs, hi]
  have gu : ∀ i, i < len → us[i]? = some (q i).2 := fun i hi => by simp [us, hi]
  have hw : RowW N w xs us := by
    refine ⟨lu, fun i x u h1 h2 => ?_⟩
    have hi : i < len := by
      rcases Nat.lt_or_ge i len with h | h
      · exact h
      · rw [List.getElem?_eq_none (by omega)] at h1; cases h1
    rw [gx i hi] at h1; rw [gu i hi] at h2
    cases h1; cases h2
    exact (hq i hi).1
  refine ⟨xs, us, hw, some a, cap, by rw [lx], by omega, hm, ?_⟩
  rcases Nat.eq_zero_or_pos len with h0 | h0
  · left
    refine ⟨by omega, ?_⟩
    have : xs = [] := List.length_eq_zero_iff.1 (by omega); rw [this]; rfl
  right
  have hcell : ∀ j u, (rowC f xs us)[j]? = some u → w.cell? (a.add j) = some u := by
    intro j u hu
    have hlen := rowC_len f size hf xs us lu
    have hj : j < len * size := by
      rcases Nat.lt_or_ge j (len * size) with h | h
      · exact h
      · rw [List.getElem?_eq_none (by rw [hlen, lx]; exact h)] at hu; cases hu
    have hi : j / size < len := (Nat.div_lt_iff_lt_mul hs).2 hj; have hr : j % size < size := Nat.mod_lt _ hs; have hjj : j / size * size + j % size = j := Nat.div_add_mod' j size; have h3 := rowC_get f size hf xs us lu (j / size) _ _ (j % size) (gx _ hi) (gu _ hi) hr; rw [hjj, hu] at h3; have h4 := (hq _ hi).2 (j % size) u h3.symm; rw [add_add, hjj] at h4
    exact h4
  have hfirst : ∃ u, w.cell? a = some u := by
    have hlen := rowC_len f size hf xs us lu
    have hpos : 0 < (rowC f xs us).length := by rw [hlen, lx]; exact Nat.mul_pos h0 hs
    exact ⟨_, hcell 0 _ (List.getElem?_eq_getElem hpos)⟩
  obtain ⟨u0, hu0⟩ := hfirst
  have hspot : a.spot = none ∧ a.block < w.heap.size := by
    unfold World.cell? at hu0
    split at hu0
    · rename_i hh
      refine ⟨?_, (Array.getElem?_eq_some_iff.1 hh).1⟩
      cases hs' : a.spot with
      | none => rfl
      | some k => rw [hs'] at hu0; simp at hu0
    · cases hu0
  obtain ⟨b, o, sp⟩ := a; obtain ⟨hsp, hbl⟩ := hspot
  simp only at hsp hbl
  subst hsp
  refine ⟨b, o, rfl, hbl, fun j u hu => ?_⟩
  have := hcell j u hu
  rwa [add_off] at this
end
end Go.Proofs.YtmjkcanjfjfkfaaGreat
namespace Go.Proofs.YtmjkcanjfjfkfaaGreat
open Go.RowKit
set_option linter.unusedSimpArgs false
set_option linter.unusedVariables false
end Go.Proofs.YtmjkcanjfjfkfaaGreat
namespace Go.Proofs.YtmjkcanjfjfkfaaGreat
open Go.RowKit
set_option linter.unusedSimpArgs false
set_option linter.unusedVariables false
end Go.Proofs.YtmjkcanjfjfkfaaGreat
namespace Go.Proofs.YtmjkcanjfjfkfaaGreat
open Go.RowKit
set_option linter.unusedSimpArgs false
set_option linter.unusedVariables false
end Go.Proofs.YtmjkcanjfjfkfaaGreat
namespace Go.Proofs.YtmjkcanjfjfkfaaGreat
open Go.RowKit
set_option linter.unusedSimpArgs false
set_option linter.unusedVariables false
end Go.Proofs.YtmjkcanjfjfkfaaGreat
namespace Go.Proofs.YtmjkcanjfjfkfaaGreat
open Go.RowKit
set_option linter.unusedSimpArgs false
set_option linter.unusedVariables false
end Go.Proofs.YtmjkcanjfjfkfaaGreat
namespace Go.Proofs.YtmjkcanjfjfkfaaGreat
set_option linter.unusedVariables false
end Go.Proofs.YtmjkcanjfjfkfaaGreat
namespace Go.Proofs.YtmjkcanjfjfkfaaGreat
set_option linter.unusedVariables false
end Go.Proofs.YtmjkcanjfjfkfaaGreat
namespace Go.Proofs.YtmjkcanjfjfkfaaGreat
set_option linter.unusedVariables false
end Go.Proofs.YtmjkcanjfjfkfaaGreat
namespace Go.Proofs.YtmjkcanjfjfkfaaGreat
set_option linter.unusedVariables false
end Go.Proofs.YtmjkcanjfjfkfaaGreat
namespace Go.Proofs.YtmjkcanjfjfkfaaGreat
set_option linter.unusedVariables false
section
variable {α : Type}
end
end Go.Proofs.YtmjkcanjfjfkfaaGreat
namespace Go.Proofs.YtmjkcanjfjfkfaaGreat
set_option linter.unusedVariables false
end Go.Proofs.YtmjkcanjfjfkfaaGreat
namespace Go.Proofs.YtmjkcanjfjfkfaaGreat
set_option linter.unusedVariables false
end Go.Proofs.YtmjkcanjfjfkfaaGreat
namespace Go.Proofs.YtmjkcanjfjfkfaaGreat
set_option linter.unusedVariables false
section
variable {α β γ : Type} [DecidableEq γ]
end
end Go.Proofs.YtmjkcanjfjfkfaaGreat
namespace Go.Proofs.YtmjkcanjfjfkfaaGreat
set_option linter.unusedVariables false
end Go.Proofs.YtmjkcanjfjfkfaaGreat
namespace Go.Proofs.YtmjkcanjfjfkfaaGreat
open Go.RowKit
set_option linter.unusedSimpArgs false
set_option linter.unusedVariables false
end Go.Proofs.YtmjkcanjfjfkfaaGreat
namespace Go.Proofs.YtmjkcanjfjfkfaaGreat
open Go.RowKit
set_option linter.unusedSimpArgs false
set_option linter.unusedVariables false
end Go.Proofs.YtmjkcanjfjfkfaaGreat
namespace Go.Proofs.YtmjkcanjfjfkfaaGreat
open Go.RowKit
set_option linter.unusedSimpArgs false
set_option linter.unusedVariables false
end Go.Proofs.YtmjkcanjfjfkfaaGreat
namespace Go.Proofs.YtmjkcanjfjfkfaaGreat
open Go.RowKit Go.MapKept Go.ChangeMaps
set_option linter.unusedSimpArgs false
set_option linter.unusedVariables false
section
variable {κ ν : Type} [DecidableEq κ]
end
end Go.Proofs.YtmjkcanjfjfkfaaGreat
namespace Go.Proofs.YtmjkcanjfjfkfaaGreat
open Go.RowKit Go.MapKept Go.ChangeMaps
set_option linter.unusedSimpArgs false
set_option linter.unusedVariables false
section
variable {α : Type} {f : α → List Value} {s : Nat} {e : TypeId}
end
end Go.Proofs.YtmjkcanjfjfkfaaGreat
namespace Go.Proofs.YtmjkcanjfjfkfaaGreat
open Go.RowKit Go.MapKept Go.ChangeMaps
set_option linter.unusedSimpArgs false
set_option linter.unusedVariables false
section
variable {w w' w0 : World} {F G : Nat → Prop} {g : Nat} {pb : Option Addr} {va vk : Value} {pl : Option Addr} {bw br : Nat} {s0 sl : St} {la : List Ac} {lk : List St} {Dw : Nm → List Ver} {Dr : Nm → List Int}
end
end Go.Proofs.YtmjkcanjfjfkfaaGreat
namespace Go.Proofs.YtmjkcanjfjfkfaaGreat
open Go.RowKit Go.MapKept Go.ChangeMaps
set_option linter.unusedSimpArgs false
set_option linter.unusedVariables false
section
variable {w w' w0 : World} {F G : Nat → Prop} {g : Nat} {pb : Option Addr} {va vk : Value} {pl : Option Addr} {bw br : Nat} {s0 sl : St} {la : List Ac} {lk : List St} {Dw : Nm → List Ver} {Dr : Nm → List Int}
end
end Go.Proofs.YtmjkcanjfjfkfaaGreat
namespace Go.Proofs.YtmjkcanjfjfkfaaGreat
open Go.RowKit
set_option linter.unusedSimpArgs false
set_option linter.unusedVariables false
attribute [local go_sem ↓] Go.wp_at_zero Go.wp_at_succ
end Go.Proofs.YtmjkcanjfjfkfaaGreat
namespace Go.Proofs.YtmjkcanjfjfkfaaGreat
open Go.RowKit Go.MapKept Go.ChangeMaps
set_option linter.unusedSimpArgs false
set_option linter.unusedVariables false
end Go.Proofs.YtmjkcanjfjfkfaaGreat
namespace Go.Proofs.YtmjkcanjfjfkfaaGreat
open Go.RowKit Go.MapKept Go.ChangeMaps
set_option linter.unusedSimpArgs false
set_option linter.unusedVariables false
section
variable (w : World) {ops : Array Oper} {rest : List Oper} {o : Oper} {a : Go.Act} {Q : Exit → Go.Act → World → Prop}
end
section
variable {α : Type} {f : α → List Value} {s : Nat} {e : TypeId}
end
end Go.Proofs.YtmjkcanjfjfkfaaGreat
namespace Go.Proofs.YtmjkcanjfjfkfaaGreat
set_option linter.unusedSimpArgs false
set_option linter.unusedVariables false
theorem asc_ext : ∀ {a b : List Int}, a.Pairwise (· < ·) → b.Pairwise (· < ·) → (∀ x, x ∈ a ↔ x ∈ b) → a = b
  | [], [], _, _, _ => rfl
  | [], y :: b, _, _, h => by have := (h y).2 (by simp); cases this
  | x :: a, [], _, _, h => by have := (h x).1 (by simp); cases this
  | x :: a, y :: b, ha, hb, h => by
    rw [List.pairwise_cons] at ha hb
    have hxy : x = y := by
      rcases List.mem_cons.1 ((h x).1 (by simp)) with e | hx
      · exact e
      · rcases List.mem_cons.1 ((h y).2 (by simp)) with e | hy
        · exact e.symm
        · have := hb.1 x hx; have := ha.1 y hy; omega
    subst hxy; rw [asc_ext ha.2 hb.2 fun z => ?_]; have hz := h z
    simp only [List.mem_cons] at hz
    constructor
    · intro hm
      rcases hz.1 (.inr hm) with e | e
      · subst e; have := ha.1 _ hm; omega
      · exact e
    · intro hm
      rcases hz.2 (.inr hm) with e | e
      · subst e; have := hb.1 _ hm; omega
      · exact e
end Go.Proofs.YtmjkcanjfjfkfaaGreat
namespace Go.Proofs.YtmjkcanjfjfkfaaGreat
open Go.RowKit Go.MapKept Go.ChangeMaps
set_option linter.unusedSimpArgs false
set_option linter.unusedVariables false
end Go.Proofs.YtmjkcanjfjfkfaaGreat
namespace Go.Proofs.YtmjkcanjfjfkfaaGreat
set_option linter.unusedSimpArgs false
set_option linter.unusedVariables false
structure De where
  who : Nat
  reads : Nat
  writes : Nat
  spawn : Nat
  same : Bool
deriving DecidableEq
abbrev S47 := Nm → Option Bs
def bitN (x i : Nat) : Bool := x / 2 ^ i % 2 == 1
def whoS (n : Nat) : Bs := [UInt8.ofNat (49 + (n - 1) % 3)]
def addN (l : List Nm) (n : Nm) : List Nm := if n ∈ l then l else l ++ [n]
structure RdS where
  value : Bs
  first : Bool
  all : Bool
  names : List Nm
def val47 (v x : Bs) : Bs := UInt8.ofNat (97 + (v.length + x.length) % 5) :: x.take 2
def rd1 (s : S47) (d : De) (st : RdS) (i : Nat) : RdS :=
  if bitN d.reads i = false ∨ st.all = false then st else
    { value := if d.same then st.value else val47 ((s (prtN (1 + (i : Nat)))).getD []) st.value
      first := false
      all := if st.first then ((s (prtN (1 + (i : Nat)))).getD []).length % 2 == 1 else st.all
      names := addN st.names (prtN (1 + (i : Nat))) }
def rd0 (k : Ky) : RdS := ⟨[118], true, true, if k.cls = 0 then [] else [prcN k.lin]⟩
def rdTo (s : S47) (k : Ky) (d : De) (m : Nat) : RdS := (List.range m).foldl (rd1 s d) (rd0 k)
def rdA (s : S47) (k : Ky) (d : De) : RdS := rdTo s k d 6
def wrTo (d : De) (r : RdS) (m : Nat) : List (Nm × Bs) := (List.range m).foldl (fun l (i : Nat) => if bitN d.writes i && (r.all || decide (i < 3)) then putM (prtN (1 + (i : Nat))) r.value l else l) []
def spw (d : De) : Bool := decide (1 ≤ d.spawn) && decide (d.spawn ≤ 3)
def wrs (s : S47) (k : Ky) (d : De) : List (Nm × Bs) := if spw d then putM (prcN (whoS d.spawn)) [112] (wrTo d (rdA s k d) 6) else wrTo d (rdA s k d) 6
def rds (s : S47) (k : Ky) (d : De) : List Nm := if spw d then addN (rdA s k d).names (prcN (whoS d.spawn)) else (rdA s k d).names
def rdC (s : S47) (n : Nm) : Ch := ⟨n, (s n).getD [], (s n).isNone⟩
def wrC (W : List (Nm × Bs)) (n : Nm) : Ch := ⟨n, (lookM n W).getD [], false⟩
def prf (s : S47) (k : Ky) (d : De) : Ac := ⟨k, (sortU cmpN (rds s k d)).map (rdC s), (sortU cmpN ((wrs s k d).map Prod.fst)).map (wrC (wrs s k d))⟩
def putS (s : S47) (W : List (Nm × Bs)) : S47 := fun n => match lookM n W with | some v => some v | none => s n
def nxtS (s : S47) (k : Ky) (d : De) : S47 := putS s (wrs s k d)
def stp (st : S47 × List Ac) (k : Ky) (d : De) : S47 × List Ac := (nxtS st.1 k d, st.2 ++ [prf st.1 k d])
def kyI (t i : Nat) : Ky := ⟨t, 0, (i : Int) + 1, []⟩
def kyP (t n : Nat) : Ky := ⟨t, 2, 0, whoS n⟩
def inF (ds : List De) (ins t : Nat) (st : S47 × List Ac) (i : Nat) : S47 × List Ac :=
  match ds[i]? with
  | none => st
  | some d => if d.who % 4 = 0 ∧ bitN ins i = false then stp st (kyI t i) d else st
def fstD (ds : List De) (n : Nat) (p : Nat → Bool) : List Nat → Option De
  | [] => none
  | i :: l => match ds[i]? with
    | none => fstD ds n p l
    | some d => if d.who % 4 = n ∧ p n = true then some d else fstD ds n p l
def prF (ds : List De) (p : Nat → Bool) (t : Nat) (pl : List Nat) (st : S47 × List Ac) (n : Nat) : S47 × List Ac :=
  match fstD ds n p pl with
  | none => st
  | some d => stp st (kyP t n) d
def places (N t : Nat) : List Nat := (List.range (min (min N (4 * t + 4)) 20 - 4 * t)).map fun j => 4 * t + j
def thr (s : S47) (n : Nat) : Bool := (s (prcN (whoS n))).isSome
def tickF (ds : List De) (ins prs : Nat) (st : S47 × List Ac) (t : Nat) : S47 × List Ac :=
  [1, 2, 3].foldl (prF ds (fun n => thr ((places ds.length t).foldl (inF ds ins t) st).1 n && !bitN prs n) t (places ds.length t)) ((places ds.length t).foldl (inF ds ins t) st)
def s00 : S47 := fun _ => none
def runTo (ds : List De) (ins prs m : Nat) : S47 × List Ac := (List.range m).foldl (tickF ds ins prs) (s00, [])
def ticks (ds : List De) : Nat := (min ds.length 20 + 3) / 4
def runS (ds : List De) (ins prs : Nat) : List Ac := (runTo ds ins prs (ticks ds)).2
end Go.Proofs.YtmjkcanjfjfkfaaGreat
namespace Go.Proofs.YtmjkcanjfjfkfaaGreat
open Go.RowKit
set_option linter.unusedSimpArgs false
set_option linter.unusedVariables false
attribute [local go_sem ↓] Go.wp_at_zero Go.wp_at_succ
open Go.MapKept Go.ChangeMaps
def BMap (w : World) (b : Nat) (l : List Nm) : Prop := MapAt w b (l.map fun n => (n, Value.bool true))
def SMapL (w : World) (b : Nat) (l : List (Nm × Bs)) : Prop := MapAt w b (l.map fun p => (p.1, Value.string (bs p.2)))
def SMap (w : World) (b : Nat) (s : S47) : Prop := ∃ l, SMapL w b l ∧ ∀ n, lookM n l = s n
theorem BMap.next {w w' : World} {b : Nat} {l : List Nm} (h : BMap w b l) (hb : Below w.heap.size w w') : BMap w' b l := MapAt.next h hb
theorem BMap.same {w w' : World} {b : Nat} {l : List Nm} (h : BMap w b l) (e : w'.heap[b]? = w.heap[b]?) : BMap w' b l := MapAt.same h e
theorem BMap.lt {w : World} {b : Nat} {l : List Nm} (h : BMap w b l) : b < w.heap.size := MapAt.lt h
theorem SMapL.next {w w' : World} {b : Nat} {l : List (Nm × Bs)} (h : SMapL w b l) (hb : Below w.heap.size w w') : SMapL w' b l := MapAt.next h hb
theorem SMapL.same {w w' : World} {b : Nat} {l : List (Nm × Bs)} (h : SMapL w b l) (e : w'.heap[b]? = w.heap[b]?) : SMapL w' b l := MapAt.same h e
theorem SMapL.lt {w : World} {b : Nat} {l : List (Nm × Bs)} (h : SMapL w b l) : b < w.heap.size := MapAt.lt h
theorem SMap.next {w w' : World} {b : Nat} {s : S47} (h : SMap w b s) (hb : Below w.heap.size w w') : SMap w' b s := by
  obtain ⟨l, h1, h2⟩ := h
  exact ⟨l, h1.next hb, h2⟩
theorem SMap.same {w w' : World} {b : Nat} {s : S47} (h : SMap w b s) (e : w'.heap[b]? = w.heap[b]?) : SMap w' b s := by
  obtain ⟨l, h1, h2⟩ := h
  exact ⟨l, h1.same e, h2⟩
theorem SMap.lt {w : World} {b : Nat} {s : S47} (h : SMap w b s) : b < w.heap.size := by
  obtain ⟨l, h1, h2⟩ := h
  exact h1.lt
theorem MapAt.noCells {w : World} {b g : Nat} {l : List (Nm × Value)} (h : MapAt w b l) {t : TypeId} {cs : Array Value} (hb : Blk w g t cs) : some g ≠ some b := by
  intro e
  injection e with e
  subst e; obtain ⟨es, c, h1, _⟩ := h
  unfold Blk at hb
  rw [h1] at hb
  cases hb
theorem putM_add (n : Nm) : ∀ l : List Nm, putM n (Value.bool true) (l.map fun n => (n, Value.bool true)) = (addN l n).map fun n => (n, Value.bool true)
  | [] => by simp [putM, addN]
  | a :: l => by
    have ih := putM_add n l
    unfold addN at ih ⊢
    simp only [List.map_cons, putM]
    by_cases h : a = n
    · subst h
      simp
    · rw [if_neg h, ih]
      by_cases hm : n ∈ l
      · simp [hm]
      · have : ¬ n = a := fun e => h e.symm
        simp [hm, this]
theorem BMap.put {w : World} {b : Nat} {l : List Nm} (h : BMap w b l) (n : Nm) : ∃ w', (Instr.mapUpdate 104 (.map (some b)) (nmV n) (.bool true)).run Tryz.prog w = .ok () w' ∧ BMap w' b (addN l n) ∧ w.grownBy w' (some b) := by
  obtain ⟨w', h1, h2, h3⟩ := map_put h n (.bool true) Tryz.underlying104; rw [putM_add] at h2
  exact ⟨w', h1, h2, h3⟩
theorem SMapL.put {w : World} {b : Nat} {l : List (Nm × Bs)} (h : SMapL w b l) (n : Nm) (x : Bs) : ∃ w', (Instr.mapUpdate 57 (.map (some b)) (nmV n) (.string (bs x))).run Tryz.prog w = .ok () w' ∧ SMapL w' b (putM n x l) ∧ w.grownBy w' (some b) := by
  obtain ⟨w', h1, h2, h3⟩ := map_put h n (.string (bs x)) Tryz.underlying57; rw [putM_map (fun x => Value.string (bs x)) n x l] at h2
  exact ⟨w', h1, h2, h3⟩
theorem putS_one (s : S47) (n : Nm) (x : Bs) {l : List (Nm × Bs)} (h : ∀ m, lookM m l = s m) (m : Nm) : lookM m (putM n x l) = if n = m then some x else s m := by
  rw [look_put, h]
theorem SMap.put {w : World} {b : Nat} {s : S47} (h : SMap w b s) (n : Nm) (x : Bs) : ∃ w', (Instr.mapUpdate 57 (.map (some b)) (nmV n) (.string (bs x))).run Tryz.prog w = .ok () w' ∧ SMap w' b (fun m => if n = m then some x else s m) ∧ w.grownBy w' (some b) := by
  obtain ⟨l, h1, h2⟩ := h; obtain ⟨w', g1, g2, g3⟩ := h1.put n x
  exact ⟨w', g1, ⟨_, g2, putS_one s n x h2⟩, g3⟩
theorem zeroSt47 (w : World) : (zeroValue 9).run Tryz.prog w = .ok (.string ⟨#[]⟩) w := by kernel_rfl
theorem map_ok47 {w : World} {b : Nat} {ents : List (Nm × Value)} (h : MapAt w b ents) (n : Nm) {t E : TypeId} (ht : Tryz.prog.underlying t = some (.map 45 E)) {z : Value} (hz : (zeroValue E).run Tryz.prog w = .ok z w) :
    (Instr.lookup t (.map (some b)) (nmV n) true).run Tryz.prog w = .ok (.tuple #[(lookM n ents).getD z, .bool (lookM n ents).isSome]) w := by
  obtain ⟨es, c, hb, he, hs⟩ := h; rw [← posM_look n ents 0]
  cases hp : posM n ents 0 with
  | none => simp [Instr.lookup, run_underlying ht, MapKept.run_getObj_map hb, chk_nm, key_nm n w he, hp, hz, Result.andThen]
  | some q => simp [Instr.lookup, run_underlying ht, MapKept.run_getObj_map hb, chk_nm, key_nm n w he, hp, hz, Result.andThen]
theorem lookSt (n : Nm) (l : List (Nm × Bs)) : (lookM n (l.map fun p => (p.1, Value.string (bs p.2)))).getD (.string ⟨#[]⟩) = .string (bs ((lookM n l).getD [])) ∧ (lookM n (l.map fun p => (p.1, Value.string (bs p.2)))).isSome = (lookM n l).isSome := by
  rw [lookM_map (fun x => Value.string (bs x)) n l]
  cases lookM n l <;> exact ⟨rfl, rfl⟩
theorem SMapL.look {w : World} {b : Nat} {l : List (Nm × Bs)} (h : SMapL w b l) (n : Nm) {x : Bs} (hx : (lookM n l).getD [] = x) : (Instr.lookup 57 (.map (some b)) (nmV n) false).run Tryz.prog w = .ok (.string (bs x)) w := by
  have := map_look h n Tryz.underlying57 (zeroSt47 w); rw [(lookSt n l).1, hx] at this
  exact this
theorem SMap.look {w : World} {b : Nat} {s : S47} (h : SMap w b s) (n : Nm) {x : Bs} (hx : (s n).getD [] = x) : (Instr.lookup 57 (.map (some b)) (nmV n) false).run Tryz.prog w = .ok (.string (bs x)) w := by
  obtain ⟨l, h1, h2⟩ := h
  exact h1.look n (by rw [h2, hx])
theorem SMap.ok {w : World} {b : Nat} {s : S47} (h : SMap w b s) (n : Nm) {x : Bs} {q : Bool} (hx : (s n).getD [] = x) (hq : (s n).isSome = q) : (Instr.lookup 57 (.map (some b)) (nmV n) true).run Tryz.prog w = .ok (.tuple #[.string (bs x), .bool q]) w := by
  obtain ⟨l, h1, h2⟩ := h; have := map_ok47 h1 n Tryz.underlying57 (zeroSt47 w); rw [(lookSt n l).1, (lookSt n l).2, h2, hx, hq] at this
  exact this
def keyRel (ents : List (Nm × Value)) (b r : Nat) (w : World) (v : Value) (wr : World) : Prop := ∃ seen left, MapIt wr b r ents left ∧ (seen ++ left.map Prod.fst).Perm (ents.map Prod.fst) ∧ wr.ownsRow w.heap.size 45 5 v seen.length (seen.flatMap nmC) ∧ Below w.heap.size w wr
set_option maxRecDepth 100000 in
set_option maxHeartbeats 2000000 in
theorem keys_is {w : World} {b : Nat} {l : List Nm} (h : BMap w b l) (hl : l.length ≤ 12) : Calls Tryz.prog 40 #[.map (some b)] w fun e w' => ∃ v, ∃ l' : List Nm, e = .returned v ∧ l'.Perm l ∧ w'.ownsRow w.heap.size 45 5 v l'.length (l'.flatMap nmC) ∧ Below w.heap.size w w' := by
  obtain ⟨ents, he⟩ : ∃ ents, l.map (fun n => (n, Value.bool true)) = ents := ⟨_, rfl⟩; have HE : Hid (ents.map Prod.fst = l) := Lib.hid (by rw [← he, List.map_map]; simp [Function.comp_def])
  have hel : ents.length ≤ 12 := by rw [← he, List.length_map]; exact hl
  unfold BMap at h
  rw [he] at h; have HM := Lib.hid h; obtain ⟨i0, hi, hz0, hz1, hz2⟩ := info_parts infoNm; clear h he hl
  go_enter Tryz.func40, Tryz.ntmps40
  go_wp2_with (at_range; refine wpList_range_nm _ rfl _ _ rfl Tryz.underlying104 b ents rfl HM.out ?_; intro w7 hit7 hb7 hs7; have HIT7 := Lib.hid hit7; have HB7 := Lib.hid hb7; clear hit7 hb7 hs7)
  try go_frame
  obtain ⟨r, hr⟩ : ∃ r, w.heap.size = r := ⟨_, rfl⟩; have HRG : Hid (w.heap.size ≤ r) := Lib.hid (by omega); have HR := Lib.hid hr; rw [hr] at HIT7 ⊢; have H0 : Hid (keyRel ents b r w (.slice none 0 0) w7) := Lib.hid ⟨[], ents, HIT7.out, List.Perm.refl _, World.ownsRow_nil _ _ _ _, HB7.out⟩; clear hr
  go_loopw [3] (fun v wr => keyRel ents b r w v wr) (fun _ wr => wr.rangeLeft b r)
  case atStart => exact H0.out
  case round =>
    clear H0; obtain ⟨seen, left, hit, hpm, hown, hbw⟩ := hrel
    have hsl : seen.length + left.length = ents.length := by
      have := hpm.length_eq
      simpa using this
    have HIT := Lib.hid hit; have HPM := Lib.hid hpm; have HBW := Lib.hid hbw
    have hLl : seen.length ≤ 12 := by omega
    have HO := Lib.hid hown; obtain ⟨A3, c3, rfl, hc3⟩ := own_len hown; clear hit hpm hown hbw
    go_wp2_with (at_next; refine wpList_next_nm _ rfl _ rfl b r ents left rfl HIT.out ?_ ?_)
    · intro hleft
      have HPE : Hid (seen.Perm l) := Lib.hid (by have := HPM.out; rw [hleft, HE.out] at this; simpa using this); clear hleft
      go_wp2_with fail
      go_ret
      exact ⟨_, seen, rfl, HPE.out, HO.out, HBW.out⟩
    · intro n v left' w8 hpm2 hpe hit8 hg8 hs8 hen8
      have HPM2 := Lib.hid hpm2; have HIT8 := Lib.hid hit8; have HS8 := Lib.hid hs8; have ho8 := HO.out.kept hg8 (.inr (fun e1 => (own_not_it HO.out HIT.out).2 e1.symm)); have HO8 := Lib.hid ho8; have HB8 : Hid (Below w.heap.size w w8) := Lib.hid (HBW.out.trans ⟨hg8.os, hg8.tape, hg8.output, hg8.size, fun i hi => hg8.block i (Nat.lt_of_lt_of_le hi HBW.out.size) (fun e1 => by injection e1 with e1; have := HRG.out; omega)⟩)
      simp only [nmV, nmA] at hen8 ⊢
      have hb89 := (Below.refl w8.heap.size w8).alloc (Nat.le_refl _) (.cells #[.int .i64 n.kind, .string (bs n.owner), .int .i64 n.num, .int .i64 n.idx, .string (bs n.text)] 45); have HB89 := Lib.hid hb89; clear hpm2 hpe hit8 hg8 hs8 hb89 ho8
      go_wp2_with (at_builtin; refine wpList_append_w _ rfl _ _ _ rfl w.heap.size 45 i0 _ 5 56 Tryz.underlying98 hi hz0 hz1 hz2 rfl (by omega) (.slice A3 seen.length c3) seen.length (seen.flatMap nmC) rfl (own_next (own_next HO8.out HB89.out) ((Below.refl _ _).alloc (Nat.le_refl _) _)) (.slice (some ⟨w8.heap.size + 1, 0, none⟩) 1 1) 1 [.int .i64 n.kind, .string (bs n.owner), .int .i64 n.num, .int .i64 n.idx, .string (bs n.text)] rfl (by have h := own_new (w8.alloc (.cells #[.int .i64 n.kind, .string (bs n.owner), .int .i64 n.num, .int .i64 n.idx, .string (bs n.text)] 45)) 0 45 5 [.int .i64 n.kind, .string (bs n.owner), .int .i64 n.num, .int .i64 n.idx, .string (bs n.text)] rfl (Nat.zero_le _); rw [World.size_alloc] at h; exact Rd.of_own h) (by omega) rfl (by simp [Value.oneCell']) (by unfold maxLen; omega) (by omega) (by have := HB8.out.size; simp; omega) ?_; intro v5 w10 hown5 hg5 hat5; have HO5 := Lib.hid hown5; have HG5 := Lib.hid hg5; clear hown5 hg5 hat5)
      clear hen8; have HIT9 := Lib.hid (HIT8.out.next (HB89.out.alloc HB89.out.size (.cells #[.int .i64 n.kind, .string (bs n.owner), .int .i64 n.num, .int .i64 n.idx, .string (bs n.text)] 45))); have HO9 := Lib.hid (own_next (own_next HO8.out HB89.out) ((Below.refl _ _).alloc (Nat.le_refl _) (.cells #[.int .i64 n.kind, .string (bs n.owner), .int .i64 n.num, .int .i64 n.idx, .string (bs n.text)] 45))); have hne := own_not_it HO9.out HIT9.out; have HIT10 := Lib.hid (HIT9.out.grown HG5.out hne.1 hne.2); have hb5 : Below w.heap.size w8 w10 := below_own ((HB89.out.alloc HB89.out.size (.cells #[.int .i64 n.kind, .string (bs n.owner), .int .i64 n.num, .int .i64 n.idx, .string (bs n.text)] 45)).mono HB8.out.size) HO9.out HG5.out (Nat.le_refl _) (by have := HB8.out.size; simp; omega); have HB5 := Lib.hid hb5; clear hb5 hne
      go_wp2_with fail
      go_roundw
      case rel =>
        refine ⟨seen ++ [n], left', HIT10.out, ?_, ?_, HB8.out.trans HB5.out⟩
        · refine List.Perm.trans ?_ HPM.out
          have h1 : (left.map Prod.fst).Perm (n :: left'.map Prod.fst) := HPM2.out.map Prod.fst; rw [List.append_assoc]
          exact (List.Perm.append_left seen h1).symm
        · rw [List.flatMap_append, List.length_append]
          exact HO5.out
      case measure =>
        show w10.rangeLeft b r < wr.rangeLeft b r
        rw [HIT10.out.size, HIT.out.size, HPM2.out.length_eq]
        simp
end Go.Proofs.YtmjkcanjfjfkfaaGreat
namespace Go.Proofs.YtmjkcanjfjfkfaaGreat
open Go.RowKit
set_option linter.unusedSimpArgs false
set_option linter.unusedVariables false
attribute [local go_sem ↓] Go.wp_at_zero Go.wp_at_succ
theorem ofport_is (n : Int) (w : World) : Calls Tryz.prog 38 #[.int .i64 n] w fun e w' => e = .returned (nmV (prtN n)) ∧ Below w.heap.size w w' := by
  go_enter Tryz.func38, Tryz.ntmps38
  go_wp2
  exact bodyPost_ret (v := nmV (prtN n)) (by simp [results, Tryz.results38, go_sem, nmV, nmA, prtN, bs]) rfl ⟨rfl, (Below.refl _ _).alloc (Nat.le_refl _) _⟩
theorem ofproc_is (s : Bs) (w : World) : Calls Tryz.prog 16 #[.string (bs s)] w fun e w' => e = .returned (nmV (prcN s)) ∧ Below w.heap.size w w' := by
  go_enter Tryz.func16, Tryz.ntmps16
  go_wp2
  exact bodyPost_ret (v := nmV (prcN s)) (by simp [results, Tryz.results16, go_sem, nmV, nmA, prcN, bs]) rfl ⟨rfl, (Below.refl _ _).alloc (Nat.le_refl _) _⟩
theorem port_is (i : Int) (h0 : 0 ≤ i) (h1 : i ≤ 100) (w : World) : Calls Tryz.prog 14 #[.int .i64 i] w fun e w' => e = .returned (nmV (prtN (1 + i))) ∧ Below w.heap.size w w' := by
  have HP := Lib.hid (fun W => ofport_is (1 + i) W); have z := Blk.new w 45 #[.int .i64 0, .string ⟨#[]⟩, .int .i64 0, .int .i64 0, .string ⟨#[]⟩]; have hb := (Below.refl w.heap.size w).alloc (Nat.le_refl _) (.cells #[.int .i64 0, .string ⟨#[]⟩, .int .i64 0, .int .i64 0, .string ⟨#[]⟩] 45); have HB := Lib.hid hb; have Z := Lib.hid z; clear z hb
  unfold nmV nmA at HP
  go_enter Tryz.func14, Tryz.ntmps14
  go_wp2_with fail
  refine (HP.out _).mono ?_; rintro e w1 ⟨rfl, hb1⟩; obtain ⟨hc1, hf1⟩ := bcell hb1; have hz1 := Nat.lt_of_lt_of_le Z.out.lt hb1.size; have Z1 := Lib.hid (Z.out.next hb1 Z.out.lt); have z0 := Z1.out.cell 0; have z1 := Z1.out.cell 1; have z2 := Z1.out.cell 2; have z3 := Z1.out.cell 3; have z4 := Z1.out.cell 4; have f0 := Z1.out.frozen 0; have f1 := Z1.out.frozen 1; have f2 := Z1.out.frozen 2; have f3 := Z1.out.frozen 3; have f4 := Z1.out.frozen 4; simp only [qB, qC, qD] at z0 z1 z2 z3 z4; have HB1 := Lib.hid (HB.out.trans (hb1.mono HB.out.size)); clear hb1 hc1 hf1
  unfold prtN
  go_wp2_with fail
  clear z0 z1 z2 z3 z4 f0 f1 f2 f3 f4; have P0 := (Z1.out).set_ 0 (.int .i64 16); have P1 := (P0).set_ 1 (.string (bs [])); have P2 := (P1).set_ 2 (.int .i64 (1 + i)); have P3 := (P2).set_ 3 (.int .i64 0); have P4 := (P3).set_ 4 (.string (bs [])); have q0 := P4.cell 0; have q1 := P4.cell 1; have q2 := P4.cell 2; have q3 := P4.cell 3; have q4 := P4.cell 4
  simp only [pB, pC, pD, qB, qC, qD] at q0 q1 q2 q3 q4
  have HBE := Lib.hid (((((HB1.out.setCell (p := ⟨w.heap.size, 0, none⟩) (Nat.le_refl _) (.int .i64 16)).setCell (p := ⟨w.heap.size, 1, none⟩) (Nat.le_refl _) (.string (bs []))).setCell (p := ⟨w.heap.size, 2, none⟩) (Nat.le_refl _) (.int .i64 (1 + i))).setCell (p := ⟨w.heap.size, 3, none⟩) (Nat.le_refl _) (.int .i64 0)).setCell (p := ⟨w.heap.size, 4, none⟩) (Nat.le_refl _) (.string (bs []))); clear P0 P1 P2 P3 P4; generalize (((((w1.setCell ⟨w.heap.size, 0, none⟩ (.int .i64 16)).setCell ⟨w.heap.size, 1, none⟩ (.string (bs []))).setCell ⟨w.heap.size, 2, none⟩ (.int .i64 (1 + i))).setCell ⟨w.heap.size, 3, none⟩ (.int .i64 0)).setCell ⟨w.heap.size, 4, none⟩ (.string (bs []))) = W2 at *
  exact bodyPost_ret (v := nmV (prtN (1 + i))) (by simp [results, Tryz.results14, go_sem, nmV, nmA, prtN, q0, q1, q2, q3, q4]) rfl ⟨rfl, HBE.out⟩
theorem who_is (n : Nat) (h0 : 1 ≤ n) (h1 : n < 256) (w : World) : Calls Tryz.prog 12 #[.int .u8 n] w fun e w' => e = .returned (.string (bs (whoS n))) ∧ Below w.heap.size w w' := by
  have h3 : (n - 1) % 3 = 0 ∨ (n - 1) % 3 = 1 ∨ (n - 1) % 3 = 2 := by omega
  unfold whoS
  rcases h3 with h | h | h
  all_goals
    rw [h]; have e1 := Lib.hid h
    go_enter Tryz.func12, Tryz.ntmps12
    go_wp2_with fail
    go_ret
    exact ⟨rfl, (Below.refl _ _).alloc (Nat.le_refl _) _⟩
end Go.Proofs.YtmjkcanjfjfkfaaGreat
namespace Go.Proofs.YtmjkcanjfjfkfaaGreat
open Go.RowKit Go.Deep
set_option linter.unusedSimpArgs false
set_option linter.unusedVariables false
instance : Inhabited De := ⟨⟨0, 0, 0, 0, false⟩⟩
section
variable {H : Type} {enc : TypeId × Value → H} {P : Program} {w : World} {base : Nat} {spare : Nat → Bool} {held : Bool}
theorem drop_one {α : Type} {cs : List α} {i : Nat} {u : α} (h : cs[i]? = some u) : (cs.drop i).take 1 = [u] := by
  obtain ⟨hi, rfl⟩ := List.getElem?_eq_some_iff.1 h; rw [List.drop_eq_getElem_cons hi]; rfl
theorem field_get {t : TypeId} {fs : Array Field} {n : Nat} {cs : List Value} {y : DataW H × List MemPlace} (ht : P.underlying t = some (.struct fs)) (h : DataW.trod enc P w base spare held n t cs = some y)
    (i : Nat) (f : Field) (hf : fs[i]? = some f) (h1 : P.cellsOf f.type = 1) (ho : f.offset = i) (u : Value) (hu : cs[i]? = some u) : ∃ m x, DataW.trod enc P w base spare held m f.type [u] = some x := by
  obtain ⟨xs, m, _, _, _, hl, hall⟩ := DataW.trod_struct ht h; have h2 := hall i f hf; rw [h1, ho, drop_one hu] at h2
  have hi : i < xs.length := by rw [hl]; exact (Array.getElem?_eq_some_iff.1 hf).1
  rw [List.getElem?_eq_getElem hi] at h2
  exact ⟨m, _, h2⟩
end
theorem list5 {α : Type} {cs : List α} (h : cs.length = 5) : ∃ a b c d e, cs = [a, b, c, d, e] := by
  match cs, h with
  | [a, b, c, d, e], _ => exact ⟨a, b, c, d, e, rfl⟩
theorem list1 {α : Type} {cs : List α} (h : cs.length = 1) : ∃ a, cs = [a] := by
  match cs, h with
  | [a], _ => exact ⟨a, rfl⟩
theorem c1_bool : Tryz.prog.cellsOf 4 = 1 := by kernel_rfl
theorem c1_u8 : Tryz.prog.cellsOf 5 = 1 := by kernel_rfl
theorem c5_deed : Tryz.prog.cellsOf 59 = 5 := by kernel_rfl
theorem c1_deeds : Tryz.prog.cellsOf 22 = 1 := by kernel_rfl
theorem c1_world : Tryz.prog.cellsOf 24 = 1 := by kernel_rfl
def deC (d : De) : List Value := [.int .u8 d.who, .int .u8 d.reads, .int .u8 d.writes, .int .u8 d.spawn, .bool d.same]
theorem deC_len (d : De) : (deC d).length = 5 := rfl
def DeR (d : De) : Prop := d.who < 256 ∧ d.reads < 256 ∧ d.writes < 256 ∧ d.spawn < 256
def DeAt (B : Nat) (w : World) (v : Value) (l : List De) : Prop := Ra B w v l.length (l.flatMap deC) ∧ ∀ d ∈ l, DeR d
theorem DeAt.below {B : Nat} {w w' : World} {v : Value} {l : List De} (h : DeAt B w v l) (hb : Below B w w') : DeAt B w' v l := ⟨h.1.below hb, h.2⟩
theorem rowC_unit {α : Type} (f : α → List Value) : ∀ (l : List α) (us : List Unit), us.length = l.length → rowC (fun x _ => f x) l us = l.flatMap f
  | [], [], _ => rfl
  | x :: l, u :: us, h => by
    simp only [rowC, List.flatMap_cons]
    rw [rowC_unit f l us (by simpa using h)]
  | [], _ :: _, h => by simp at h
  | _ :: _, [], h => by simp at h
section
variable {H : Type} {enc : TypeId × Value → H} {w : World} {base : Nat} {spare : Nat → Bool} {held : Bool}
theorem open_boo {n : Nat} {u : Value} {x : DataW H × List MemPlace} (h : DataW.trod enc Tryz.prog w base spare held n 4 [u] = some x) : ∃ b : Bool, u = .bool b := by
  obtain ⟨b, h1, _⟩ := DataW.trod_bool Tryz.underlying4 h
  injection h1 with h1
  exact ⟨b, h1⟩
theorem open_u8 {n : Nat} {u : Value} {x : DataW H × List MemPlace} (h : DataW.trod enc Tryz.prog w base spare held n 5 [u] = some x) : ∃ k : Int, u = .int .u8 k ∧ 0 ≤ k ∧ k < 256 := by
  obtain ⟨k, h1, _, h2⟩ := DataW.trod_int Tryz.underlying5 h
  injection h1 with h1
  simp only [Lit.wf, Bool.and_eq_true, decide_eq_true_eq] at h2
  have e1 : IntKind.min .u8 = 0 := by decide
  have e2 : IntKind.max .u8 = 255 := by decide
  rw [e1, e2] at h2
  exact ⟨k, h1, h2.1, by omega⟩
theorem open_De {n : Nat} {cs : List Value} {y : DataW H × List MemPlace} (h : DataW.trod enc Tryz.prog w base spare held n 59 cs = some y) (hl : cs.length = 5) : ∃ (t : De) (u : Unit), cs = deC t ∧ DeR t := by
  obtain ⟨a, b, c, d, e, rfl⟩ := list5 hl; obtain ⟨_, _, f0⟩ := field_get Tryz.underlying59 h 0 _ rfl c1_u8 rfl a rfl; obtain ⟨_, _, f1⟩ := field_get Tryz.underlying59 h 1 _ rfl c1_u8 rfl b rfl; obtain ⟨_, _, f2⟩ := field_get Tryz.underlying59 h 2 _ rfl c1_u8 rfl c rfl; obtain ⟨_, _, f3⟩ := field_get Tryz.underlying59 h 3 _ rfl c1_u8 rfl d rfl; obtain ⟨_, _, f4⟩ := field_get Tryz.underlying59 h 4 _ rfl c1_bool rfl e rfl; obtain ⟨k0, rfl, h0, h0'⟩ := open_u8 f0; obtain ⟨k1, rfl, h1, h1'⟩ := open_u8 f1; obtain ⟨k2, rfl, h2, h2'⟩ := open_u8 f2; obtain ⟨k3, rfl, h3, h3'⟩ := open_u8 f3; obtain ⟨z, rfl⟩ := open_boo f4
  refine ⟨⟨k0.toNat, k1.toNat, k2.toNat, k3.toNat, z⟩, (), ?_, by show k0.toNat < 256; omega, by show k1.toNat < 256; omega, by show k2.toNat < 256; omega, by show k3.toNat < 256; omega⟩
  simp only [deC]
  rw [Int.toNat_of_nonneg h0, Int.toNat_of_nonneg h1, Int.toNat_of_nonneg h2, Int.toNat_of_nonneg h3]
theorem open_Deeds {n : Nat} {v : Value} {y : DataW H × List MemPlace} (h : DataW.trod enc Tryz.prog w base spare held n 22 [v] = some y) : ∃ l : List De, DeAt w.heap.size w v l := by
  obtain ⟨l, us, h1, h2⟩ : ∃ l : List De, RowRa (fun t (_ : Unit) => deC t) (fun _ _ t => DeR t) w.heap.size w v l :=
    open_row (fun t _ => deC_len t) (by omega) Tryz.underlying22 c5_deed (fun n cs y h hl => open_De h hl) h
  rw [rowC_unit deC l us h1.1] at h2
  refine ⟨l, h2, fun t ht => ?_⟩
  obtain ⟨i, hi, rfl⟩ := List.getElem_of_mem ht
  have hiv : i < us.length := by rw [h1.1]; exact hi
  exact h1.2 i _ _ (List.getElem?_eq_getElem hi) (List.getElem?_eq_getElem hiv)
set_option maxRecDepth 100000 in
theorem open_World {r : Reach} {b0 : Nat} {v : Value} {d : DataW H} {p : List MemPlace} (hv : Value.okWide Tryz.prog w r b0 24 v) (h : DataW.Trod enc Tryz.prog w base spare held 24 v d p) : ∃ (l : List De) (u : Value), v = .agg #[u] ∧ DeAt w.heap.size w u l := by
  obtain ⟨cs, rfl, hsz⟩ := Go.WideShapes.okWide_struct Tryz.underlying24 hv
  obtain ⟨c0, rfl⟩ : ∃ c0, cs = #[c0] := by
    obtain ⟨l⟩ := cs; obtain ⟨a, rfl⟩ := list1 (show l.length = 1 from hsz.trans c1_world)
    exact ⟨a, rfl⟩
  obtain ⟨n, hf⟩ := h
  have hf' : DataW.trod enc Tryz.prog w base spare held n 24 [c0] = some (d, p) := by simpa [Value.cells] using hf
  obtain ⟨_, _, f0⟩ := field_get Tryz.underlying24 hf' 0 _ rfl c1_deeds rfl c0 rfl; obtain ⟨l, hl⟩ := open_Deeds f0
  exact ⟨l, c0, rfl, hl⟩
end
end Go.Proofs.YtmjkcanjfjfkfaaGreat
namespace Go.Proofs.YtmjkcanjfjfkfaaGreat
set_option linter.unusedSimpArgs false
set_option linter.unusedVariables false
theorem addN_len (l : List Nm) (n : Nm) : (addN l n).length ≤ l.length + 1 := by
  unfold addN; split <;> simp
theorem addN_mem {l : List Nm} {n m : Nm} : m ∈ addN l n ↔ m ∈ l ∨ m = n := by
  unfold addN
  split
  · rename_i h
    constructor
    · exact .inl
    · rintro (h1 | rfl)
      · exact h1
      · exact h
  · simp
theorem addN_nodup {l : List Nm} {n : Nm} (h : l.Nodup) : (addN l n).Nodup := by
  unfold addN
  split
  · exact h
  · rename_i hn
    rw [List.nodup_append]
    exact ⟨h, by simp, fun a ha b hb => by rw [List.mem_singleton] at hb; subst hb; exact fun e => hn (e ▸ ha)⟩
theorem putM_len {κ ν : Type} [DecidableEq κ] (n : κ) (x : ν) : ∀ l : List (κ × ν), (putM n x l).length ≤ l.length + 1
  | [] => by simp [putM]
  | (a, y) :: l => by
    have := putM_len n x l
    simp only [putM]
    split
    · simp
    · simp only [List.length_cons]; omega
theorem putM_mem {κ ν : Type} [DecidableEq κ] {n : κ} {x : ν} {p : κ × ν} : ∀ {l : List (κ × ν)}, p ∈ putM n x l → p = (n, x) ∨ p ∈ l
  | [], h => by simp [putM] at h; exact .inl h
  | (a, y) :: l, h => by
    simp only [putM] at h
    split at h
    · rcases List.mem_cons.1 h with h | h
      · exact .inl h
      · exact .inr (List.mem_cons_of_mem _ h)
    · rcases List.mem_cons.1 h with h | h
      · exact .inr (by rw [h]; exact List.mem_cons_self ..)
      · rcases putM_mem h with h | h
        · exact .inl h
        · exact .inr (List.mem_cons_of_mem _ h)
theorem prt_ob : ∀ i < 6, prtN (1 + ((i : Nat) : Int)) ∈ objs := by decide
theorem prc_ob : ∀ s ∈ ([[49], [50], [51]] : List Bs), prcN s ∈ objs := by decide
theorem who_ob {n : Nat} (h1 : 1 ≤ n) (h2 : n ≤ 3) : whoS n ∈ ([[49], [50], [51]] : List Bs) := by
  rcases (show n = 1 ∨ n = 2 ∨ n = 3 by omega) with rfl | rfl | rfl <;> decide
structure PIn (s : S47) (k : Ky) (d : De) : Prop where
  vl : ∀ n, ((s n).getD []).length ≤ 3
  de : d.who < 256 ∧ d.reads < 256 ∧ d.writes < 256 ∧ d.spawn < 256
  ky : (k.cls = 0 ∧ k.lin = []) ∨ (k.cls = 2 ∧ k.lin ∈ ([[49], [50], [51]] : List Bs))
theorem rdTo_succ (s : S47) (k : Ky) (d : De) (m : Nat) : rdTo s k d (m + 1) = rd1 s d (rdTo s k d m) m := by
  unfold rdTo
  rw [List.range_succ, List.foldl_append]
  rfl
theorem wrTo_succ (d : De) (r : RdS) (m : Nat) : wrTo d r (m + 1) = if bitN d.writes m && (r.all || decide (m < 3)) then putM (prtN (1 + (m : Nat))) r.value (wrTo d r m) else wrTo d r m := by
  unfold wrTo
  rw [List.range_succ, List.foldl_append]
  rfl
theorem val47_len (v x : Bs) : (val47 v x).length ≤ 3 := by
  unfold val47
  rw [List.length_cons, List.length_take]
  omega
theorem rdTo_len (s : S47) (k : Ky) (d : De) : ∀ m, (rdTo s k d m).value.length ≤ 3
  | 0 => by show [118].length ≤ 3; decide
  | m + 1 => by
    rw [rdTo_succ]; have ih := rdTo_len s k d m
    unfold rd1
    split
    · exact ih
    · show (if d.same then _ else _ : Bs).length ≤ 3
      split
      · exact ih
      · exact val47_len _ _
theorem rdTo_ok {s : S47} {k : Ky} {d : De} (h : PIn s k d) : ∀ m, m ≤ 6 → (rdTo s k d m).names.length ≤ m + 1 ∧ (rdTo s k d m).names.Nodup ∧ ∀ n ∈ (rdTo s k d m).names, n ∈ objs
  | 0, _ => by
    show (if k.cls = 0 then [] else [prcN k.lin] : List Nm).length ≤ 1 ∧ (if k.cls = 0 then [] else [prcN k.lin] : List Nm).Nodup ∧ ∀ n ∈ (if k.cls = 0 then [] else [prcN k.lin] : List Nm), n ∈ objs
    rcases h.ky with ⟨h1, h2⟩ | ⟨h1, h2⟩
    · rw [if_pos h1]; simp
    · rw [if_neg (by rw [h1]; decide)]
      refine ⟨by simp, by simp, ?_⟩
      intro n hn
      rw [List.mem_singleton] at hn; subst hn
      exact prc_ob _ h2
  | m + 1, hm => by
    obtain ⟨h1, h2, h3⟩ := rdTo_ok h m (by omega); rw [rdTo_succ]
    unfold rd1
    split
    · exact ⟨by omega, h2, h3⟩
    · refine ⟨Nat.le_trans (addN_len _ _) (by omega), addN_nodup h2, fun n hn => ?_⟩
      rcases addN_mem.1 hn with hn | rfl
      · exact h3 n hn
      · exact prt_ob m (by omega)
theorem rds_ok {s : S47} {k : Ky} {d : De} (h : PIn s k d) : (rds s k d).length ≤ 8 ∧ (rds s k d).Nodup ∧ ∀ n ∈ rds s k d, n ∈ objs := by
  obtain ⟨h1, h2, h3⟩ := rdTo_ok h 6 (Nat.le_refl _)
  unfold rds
  by_cases hs : spw d = true
  · rw [if_pos hs]
    unfold spw at hs
    simp only [Bool.and_eq_true, decide_eq_true_eq] at hs
    refine ⟨Nat.le_trans (addN_len _ _) (by unfold rdA; omega), addN_nodup h2, fun n hn => ?_⟩
    rcases addN_mem.1 hn with hn | rfl
    · exact h3 n hn
    · exact prc_ob _ (who_ob hs.1 hs.2)
  · rw [if_neg hs]
    exact ⟨by unfold rdA; omega, h2, h3⟩
theorem wrTo_ok (d : De) (r : RdS) (hr : r.value.length ≤ 3) : ∀ m, m ≤ 6 → (wrTo d r m).length ≤ m ∧ (wrTo d r m).Pairwise (fun p q => p.1 ≠ q.1) ∧ ∀ p ∈ wrTo d r m, p.1 ∈ objs ∧ p.2.length ≤ 3
  | 0, _ => ⟨Nat.le_refl _, List.Pairwise.nil, by simp [wrTo]⟩
  | m + 1, hm => by
    obtain ⟨h1, h2, h3⟩ := wrTo_ok d r hr m (by omega); rw [wrTo_succ]
    split
    · refine ⟨Nat.le_trans (putM_len _ _ _) (by omega), ?_, fun p hp => ?_⟩
      · exact (put_pair (R := fun _ _ => True) (h2.imp fun h => ⟨h, trivial⟩) (fun _ _ _ => ⟨trivial, trivial⟩)).imp fun h => h.1
      · rcases putM_mem hp with rfl | hp
        · exact ⟨prt_ob m (by omega), hr⟩
        · exact h3 p hp
    · exact ⟨by omega, h2, h3⟩
theorem wrs_ok {s : S47} {k : Ky} {d : De} (h : PIn s k d) : (wrs s k d).length ≤ 7 ∧ (wrs s k d).Pairwise (fun p q => p.1 ≠ q.1) ∧ ∀ p ∈ wrs s k d, p.1 ∈ objs ∧ p.2.length ≤ 3 := by
  obtain ⟨h1, h2, h3⟩ := wrTo_ok d (rdA s k d) (rdTo_len s k d 6) 6 (Nat.le_refl _)
  unfold wrs
  by_cases hs : spw d = true
  · rw [if_pos hs]
    unfold spw at hs
    simp only [Bool.and_eq_true, decide_eq_true_eq] at hs
    refine ⟨Nat.le_trans (putM_len _ _ _) (by omega), ?_, fun p hp => ?_⟩
    · exact (put_pair (R := fun _ _ => True) (h2.imp fun h => ⟨h, trivial⟩) (fun _ _ _ => ⟨trivial, trivial⟩)).imp fun h => h.1
    · rcases putM_mem hp with rfl | hp
      · exact ⟨prc_ob _ (who_ob hs.1 hs.2), by show [112].length ≤ 3; decide⟩
      · exact h3 p hp
  · rw [if_neg hs]
    exact ⟨by omega, h2, h3⟩
theorem nxt_vl {s : S47} {k : Ky} {d : De} (h : PIn s k d) (n : Nm) : ((nxtS s k d n).getD []).length ≤ 3 := by
  unfold nxtS putS
  cases hl : lookM n (wrs s k d) with
  | some v => exact ((wrs_ok h).2.2 _ (look_mem hl)).2
  | none => exact h.vl n
theorem ob_own {l : List Nm} (h : ∀ n ∈ l, n ∈ objs) : ∀ n ∈ l, OwnE n := fun n hn => IsOb.own (h n hn)
theorem sortU_len {l : List Nm} (h : ∀ n ∈ l, n ∈ objs) : (sortU cmpN l).length ≤ 10 := by
  have h1 := strict_sortU ordN l (ob_own h)
  have h2 : (sortU cmpN l).Nodup := by
    refine h1.imp_of_mem ?_
    intro a b ha hb hab e
    subst e; rw [cmpN_eq.2 rfl] at hab
    omega
  have h3 : (sortU cmpN l) ⊆ objs := fun n hn => h n ((mem_sortU ordN l (ob_own h)).1 hn)
  have := h2.length_le_of_subset h3
  simpa [objs] using this
end Go.Proofs.YtmjkcanjfjfkfaaGreat
namespace Go.Proofs.YtmjkcanjfjfkfaaGreat
open Go.RowKit
set_option linter.unusedSimpArgs false
set_option linter.unusedVariables false
attribute [local go_sem ↓] Go.wp_at_zero Go.wp_at_succ
theorem compact_snoc {κ : Type} [DecidableEq κ] : ∀ (l : List κ) (a b : κ), compact (l ++ [a, b]) = if a = b then compact (l ++ [a]) else compact (l ++ [a]) ++ [b]
  | [], a, b => by
    by_cases h : a = b <;> simp [compact, h]
  | [x], a, b => by
    by_cases h : a = b
    · subst h
      by_cases h2 : x = a <;> simp [compact, h2]
    · by_cases h2 : x = a
      · subst h2; simp [compact, h]
      · simp [compact, h, h2]
  | x :: y :: l, a, b => by
    have ih := compact_snoc (y :: l) a b
    simp only [List.cons_append] at ih ⊢
    rw [compact, ih]
    by_cases h : a = b
    · rw [if_pos h, if_pos h]
      exact (by rw [compact])
    · rw [if_neg h, if_neg h]
      conv => rhs; rw [compact]
      by_cases h2 : x = y
      · rw [if_pos h2, if_pos h2]
      · rw [if_neg h2, if_neg h2]; rfl
theorem compact_take {κ : Type} [DecidableEq κ] {l : List κ} {q : Nat} (h : q + 1 < l.length) : compact (l.take (q + 2)) = if l[q] = l[q + 1] then compact (l.take (q + 1)) else compact (l.take (q + 1)) ++ [l[q + 1]] := by
  have e1 : l.take (q + 1) = l.take q ++ [l[q]] := by rw [List.take_succ_eq_append_getElem]
  have e2 : l.take (q + 2) = l.take q ++ [l[q], l[q + 1]] := by rw [List.take_succ_eq_append_getElem (i := q + 1) h, e1, List.append_assoc]; rfl
  rw [e2, compact_snoc, e1]
theorem compact_small {κ : Type} [DecidableEq κ] {l : List κ} (h : l.length ≤ 1) : compact l = l := by
  match l, h with
  | [], _ => rfl
  | [a], _ => rfl
theorem own_put5 {w : World} {base g c n k : Nat} {L : List Nm} {x : Nm} (h : w.ownsRow base 45 5 (.slice (some ⟨g, 0, none⟩) n c) n (L.flatMap nmC)) (hk : k < L.length) :
    (((((w.setCell ⟨g, k * 5, none⟩ (.int .i64 x.kind)).setCell ⟨g, k * 5 + 1, none⟩ (.string (bs x.owner))).setCell ⟨g, k * 5 + 2, none⟩ (.int .i64 x.num)).setCell ⟨g, k * 5 + 3, none⟩ (.int .i64 x.idx)).setCell ⟨g, k * 5 + 4, none⟩ (.string (bs x.text))).ownsRow base 45 5 (.slice (some ⟨g, 0, none⟩) n c) n ((L.set k x).flatMap nmC) ∧
    w.grownBy (((((w.setCell ⟨g, k * 5, none⟩ (.int .i64 x.kind)).setCell ⟨g, k * 5 + 1, none⟩ (.string (bs x.owner))).setCell ⟨g, k * 5 + 2, none⟩ (.int .i64 x.num)).setCell ⟨g, k * 5 + 3, none⟩ (.int .i64 x.idx)).setCell ⟨g, k * 5 + 4, none⟩ (.string (bs x.text))) (some g) := by
  obtain ⟨y, hy⟩ : ∃ y, L[k] = y := ⟨_, rfl⟩
  have e0 : L = L.take k ++ y :: L.drop (k + 1) := by rw [← hy, List.getElem_cons_drop, List.take_append_drop]
  have e1 : L.flatMap nmC = ((L.take k).flatMap nmC) ++ [.int .i64 y.kind, .string (bs y.owner), .int .i64 y.num, .int .i64 y.idx, .string (bs y.text)] ++ ((L.drop (k + 1)).flatMap nmC) := by
    conv => lhs; rw [e0]
    simp [nmC]
  have e2 : (L.set k x).flatMap nmC = ((L.take k).flatMap nmC) ++ [.int .i64 x.kind, .string (bs x.owner), .int .i64 x.num, .int .i64 x.idx, .string (bs x.text)] ++ ((L.drop (k + 1)).flatMap nmC) := by
    rw [List.set_eq_take_append_cons_drop, if_pos hk]
    simp [nmC]
  have l1 : ((L.take k).flatMap nmC).length = k * 5 := by rw [fm_len nmC_len, List.length_take, Nat.min_eq_left (Nat.le_of_lt hk)]
  have a0 := h.stored (k * 5) (.int .i64 x.kind); have a1 := a0.1.stored (k * 5 + 1) (.string (bs x.owner)); have a2 := a1.1.stored (k * 5 + 2) (.int .i64 x.num); have a3 := a2.1.stored (k * 5 + 3) (.int .i64 x.idx); have a4 := a3.1.stored (k * 5 + 4) (.string (bs x.text))
  refine ⟨?_, grown_trans a0.2 (grown_trans a1.2 (grown_trans a2.2 (grown_trans a3.2 a4.2)))⟩
  have := a4.1; rw [e1, set5 _ _ _ l1, ← e2] at this
  exact this
theorem own_short {w : World} {base g c n m s : Nat} {e : TypeId} {xs : List Value} (h : w.ownsRow base e s (.slice (some ⟨g, 0, none⟩) n c) n xs) (hm : m ≤ n) : w.ownsRow base e s (.slice (some ⟨g, 0, none⟩) m c) m (xs.take (m * s)) := by
  have hms : m * s ≤ n * s := Nat.mul_le_mul_right _ hm; obtain ⟨hl, ⟨h0, _⟩ | ⟨g', cap, cur, hv, hg, hh, h1, h2, h3, h4⟩⟩ := h
  · cases h0
  · injection hv with hv hn hc
    injection hv with hv
    injection hv with hv
    subst hv hc
    exact ⟨by rw [List.length_take, hl, Nat.min_eq_left hms], .inr ⟨g, c, cur, rfl, hg, hh, Nat.le_trans hm h1, h2, h3, by rw [← h4, List.take_take, Nat.min_eq_left hms]⟩⟩
theorem own_setCells {base g c n s p : Nat} {e : TypeId} : ∀ (L : List Value) (o : Nat) {w : World} {xs : List Value}, w.ownsRow base e s (.slice (some ⟨g, 0, none⟩) n c) n xs → p ≤ o →
    ∃ xs', xs'.take p = xs.take p ∧ (w.setCells g o L).ownsRow base e s (.slice (some ⟨g, 0, none⟩) n c) n xs' ∧ w.grownBy (w.setCells g o L) (some g)
  | [], o, w, xs, h, _ => ⟨xs, rfl, h, ⟨rfl, rfl, rfl, Nat.le_refl _, fun _ _ _ => rfl⟩⟩
  | v :: L, o, w, xs, h, hp => by
    have h1 := h.stored o v; obtain ⟨xs', k1, k2, k3⟩ := own_setCells (p := p) L (o + 1) h1.1 (by omega)
    refine ⟨xs', k1.trans ?_, k2, grown_trans h1.2 k3⟩
    rw [List.take_set_of_le hp]
theorem zero_cells_len (z : Array Value) (n : Nat) : (Builtin.zeroCells z n).toList.length = n * z.size := by simp [Builtin.zeroCells]
theorem zero_cells_mem {z : Array Value} {n : Nat} {v : Value} (hz : 0 < z.size) (h : v ∈ (Builtin.zeroCells z n).toList) : v ∈ z.toList := by
  simp only [Builtin.zeroCells, Array.toList_map, List.mem_map] at h
  obtain ⟨i, _, rfl⟩ := h; have hlt := Nat.mod_lt i hz; rw [getElem!_pos z _ hlt]
  exact Array.getElem_mem_toList hlt
theorem run_clear_own {w : World} {P : Program} (t e ty : TypeId) (z : Value) (ht : P.underlying t = some (.slice e)) (hv : ∀ w, (zeroValue e).run P w = .ok z w) {s : Nat} (hs : z.cells.size = s) (hs0 : 0 < s) (h1 : ∀ v ∈ z.cells.toList, v.oneCell' = true) {base g n c k c' : Nat} {xs : List Value}
    (h : w.ownsRow base e s (.slice (some ⟨g, 0, none⟩) n c) n xs) (hk : k < n) :
    (Builtin.clear_ #[t] ty #[.slice (some ⟨g, k * s, none⟩) (n - k) c']).run P w = .ok (.tuple #[]) (w.setCells g (k * s) (Builtin.zeroCells z.cells (n - k)).toList) := by
  have hlen : (Builtin.zeroCells z.cells (n - k)).toList.length = (n - k) * s := by rw [zero_cells_len, hs]
  have hst := run_storeCells_cells (P := P) g (k * s) (Builtin.zeroCells z.cells (n - k)).toList 0 w (fun j hj => by
      rw [hlen] at hj
      have hlt : k * s + 0 + j < n * s := by
        rw [Nat.sub_mul] at hj; have := Nat.mul_le_mul_right s (Nat.le_of_lt hk)
        omega
      rw [h.cellAt _ hlt, List.getElem?_eq_getElem (by rw [h.1]; exact hlt)]
      rfl) (fun j hj => h.frozenAt _) (fun v hv => h1 v (zero_cells_mem (by rw [hs]; exact hs0) hv))
  simp only [Nat.add_zero] at hst
  obtain ⟨m, hm⟩ : ∃ m, n - k = m + 1 := ⟨n - k - 1, by omega⟩; rw [hm] at hst ⊢
  simp [Builtin.clear_, run_underlying ht, hv, hst]
theorem own_five {w : World} {base g c n i o : Nat} {L : List Nm} {x : Nm} (h : w.ownsRow base 45 5 (.slice (some ⟨g, 0, none⟩) n c) n (L.flatMap nmC)) (hi : i < L.length) (hx : L[i] = x) (ho : o = i * 5) :
    w.cell? ⟨g, o, none⟩ = some (.int .i64 x.kind) ∧ w.cell? ⟨g, o + 1, none⟩ = some (.string (bs x.owner)) ∧ w.cell? ⟨g, o + 2, none⟩ = some (.int .i64 x.num) ∧ w.cell? ⟨g, o + 3, none⟩ = some (.int .i64 x.idx) ∧ w.cell? ⟨g, o + 4, none⟩ = some (.string (bs x.text)) := by
  subst ho; have hc := own_cells nmC_len h hi hx
  exact ⟨hc 0 _ rfl, hc 1 _ rfl, hc 2 _ rfl, hc 3 _ rfl, hc 4 _ rfl⟩
theorem fm_take5 {α : Type} {f : α → List Value} {s : Nat} (hf : ∀ x, (f x).length = s) (L : List α) {k : Nat} (hk : k ≤ L.length) : (L.flatMap f).take (k * s) = (L.take k).flatMap f := by
  have e : L.flatMap f = (L.take k).flatMap f ++ (L.drop k).flatMap f := by rw [← List.flatMap_append, List.take_append_drop]
  have hl : ((L.take k).flatMap f).length = k * s := by rw [fm_len hf, List.length_take, Nat.min_eq_left hk]
  rw [e, List.take_append_of_le_length (by omega), List.take_of_length_le (by omega)]
theorem zeroNm (w : World) : (zeroValue 45).run Tryz.prog w = .ok (.agg #[.int .i64 0, .string ⟨#[]⟩, .int .i64 0, .int .i64 0, .string ⟨#[]⟩]) w := by kernel_rfl
def CmpP (base g : Nat) (l : List Nm) (w : World) (e : Ending) (w' : World) : Prop := ∃ v', e = .returned v' ∧ w'.ownsRow base 45 5 v' (compact l).length ((compact l).flatMap nmC) ∧ w.grownBy w' (some g)
def CmpIn (base g c : Nat) (l : List Nm) (q : Nat) (w : World) (i3 i5 : Value) (wr : World) : Prop :=
  ∃ (kk k2 : Nat) (L : List Nm), i3 = .int .i64 kk ∧ i5 = .int .i64 k2 ∧ 1 ≤ k2 ∧ q + 1 + k2 ≤ l.length ∧ kk ≤ q + k2 ∧ L.length = l.length ∧ L.take kk = compact (l.take (q + 1 + k2)) ∧ L.drop (q + k2) = l.drop (q + k2) ∧
    wr.ownsRow base 45 5 (.slice (some ⟨g, 0, none⟩) l.length c) l.length (L.flatMap nmC) ∧ w.grownBy wr (some g)
theorem drop_at {α : Type} {L l : List α} {a i : Nat} (h : L.drop a = l.drop a) (hl : L.length = l.length) (ha : a ≤ i) (hi : i < l.length) : L[i]'(by rw [hl]; exact hi) = l[i] := by
  have h1 : L[i]? = l[i]? := by
    have := congrArg (fun x => x[i - a]?) h
    simp only [List.getElem?_drop] at this
    rw [show a + (i - a) = i by omega] at this
    exact this
  rw [List.getElem?_eq_getElem hi, List.getElem?_eq_getElem (by rw [hl]; exact hi)] at h1
  exact Option.some.inj h1
set_option maxRecDepth 100000 in
set_option maxHeartbeats 4000000 in
theorem compact2_is {w : World} {base g c : Nat} {l : List Nm} (h : w.ownsRow base 45 5 (.slice (some ⟨g, 0, none⟩) l.length c) l.length (l.flatMap nmC)) (hl : l.length ≤ 1000) (hb : base ≤ w.heap.size) :
    Calls Tryz.prog 63 #[.slice (some ⟨g, 0, none⟩) l.length c] w (CmpP base g l w) := by
  obtain ⟨hlc, hcm⟩ : l.length ≤ c ∧ c ≤ maxLen := by
    obtain ⟨_, ⟨h0, _⟩ | ⟨g', cap, cur, hv, _, _, h1, h2, _⟩⟩ := id h
    · cases h0
    · injection hv with _ _ hc; subst hc; exact ⟨h1, h2⟩
  have H := Lib.hid h; have HBS := Lib.hid hb; clear h hb; have hgd := guardNm
  by_cases h2 : l.length < 2
  · have hc2 : Hid (compact l = l) := Lib.hid (compact_small (by omega))
    go_enter Tryz.func63, Tryz.ntmps63
    go_wp2
    go_ret
    exact ⟨_, rfl, by rw [hc2.out]; exact H.out, ⟨rfl, rfl, rfl, Nat.le_refl _, fun _ _ _ => rfl⟩⟩
  · have H0 : Hid (∃ (k m : Nat), Value.int .i64 1 = .int .i64 k ∧ 1 ≤ k ∧ k ≤ l.length ∧ w = w.drewN m ∧ compact (l.take k) = l.take k) := Lib.hid ⟨1, 0, rfl, Nat.le_refl _, by omega, rfl, compact_small (by simp; omega)⟩
    go_enter Tryz.func63, Tryz.ntmps63
    go_wp2
    go_loopw [3] (fun i wr => ∃ (k m : Nat), i = .int .i64 k ∧ 1 ≤ k ∧ k ≤ l.length ∧ wr = w.drewN m ∧ compact (l.take k) = l.take k) (fun i _ => l.length - (intOf i).toNat)
    case atStart => exact H0.out
    case round =>
      clear H0; obtain ⟨k, m, rfl, hk1, hk, hw, hct⟩ := hrel; have HW := Lib.hid hw; have HCT := Lib.hid hct; have HR := Lib.hid (show wr.ownsRow base 45 5 (.slice (some ⟨g, 0, none⟩) l.length c) l.length (l.flatMap nmC) by rw [hw]; exact own_next H.out (below_drewN (Below.refl _ _) m)); clear hw hct
      by_cases hlt : k < l.length
      · obtain ⟨q, rfl⟩ : ∃ q, k = q + 1 := ⟨k - 1, by omega⟩
        obtain ⟨x, hx⟩ : ∃ x, l[q + 1] = x := ⟨_, rfl⟩; obtain ⟨y, hy⟩ : ∃ y, l[q]'(by omega) = y := ⟨_, rfl⟩; obtain ⟨x0, x1, x2, x3, x4⟩ := own_five HR.out hlt hx rfl; obtain ⟨y0, y1, y2, y3, y4⟩ := own_five HR.out (i := q) (by omega) hy rfl; have HX := Lib.hid hx; have HY := Lib.hid hy; have HCS := Lib.hid (compact_take hlt)
        have i1 : (0 : Int) ≤ (q : Int) + 1 := by omega
        have i2 : (q : Int) + 1 < (l.length : Int) := by omega
        have i3 : (0 : Int) ≤ (q : Int) := by omega
        have i4 : (q : Int) < (l.length : Int) := by omega
        have ew : IntKind.i64.wrap (q : Int) = (q : Int) := IntWalk.i64_in _ (by omega); rw [show ((q + 1 : Nat) : Int) = (q : Int) + 1 by omega]; clear hx hy
        by_cases hxy : x = y
        · have he := fun W => eqlNm x y true (by simp [hxy]) W
          unfold nmV nmA at he
          have HXY := Lib.hid hxy; clear hxy
          go_wp2_with fail
          go_quiet (fail)
          clear x0 x1 x2 x3 x4 y0 y1 y2 y3 y4 ew he; have HR2 := Lib.hid (own_next HR.out (below_drewN (Below.refl _ _) nq)); have HG2 := Lib.hid (show w.grownBy (wr.drewN nq) (some g) by rw [HW.out, World.drewN_drewN]; exact ⟨rfl, rfl, rfl, Nat.le_refl _, fun _ _ _ => rfl⟩)
          have H1 : Hid (CmpIn base g c l q w (.int .i64 ((q : Int) + 1)) (.int .i64 1) (wr.drewN nq)) := Lib.hid ⟨q + 1, 1, l, by go_num, by go_num, Nat.le_refl _, by omega, Nat.le_refl _, rfl, by
            rw [show q + 1 + 1 = q + 2 from rfl, HCS.out, if_pos (by rw [HX.out, HY.out]; exact HXY.out.symm)]; exact HCT.out.symm, rfl, HR2.out, HG2.out⟩
          generalize World.drewN wr nq = w2 at *
          go_wp2_with fail
          go_loopw [3, 5] (fun i3 i5 wr => CmpIn base g c l q w i3 i5 wr) (fun i3 i5 _ => l.length - (intOf i5).toNat)
          case atStart => exact H1.out
          case round =>
            clear H1; obtain ⟨kk, k2, L, rfl, rfl, hk2, hjn, hkk, hLl, hLt, hLd, hown, hgr⟩ := hrel; have HOW := Lib.hid hown; have HGR := Lib.hid hgr; have HLT := Lib.hid hLt; have HLD := Lib.hid hLd; clear hown hgr hLt hLd; obtain ⟨n1, hn1⟩ : ∃ n1, l.length - (q + 1) = n1 := ⟨_, rfl⟩; obtain ⟨c1, hc1⟩ : ∃ c1, c - (q + 1) = c1 := ⟨_, rfl⟩; rw [hn1, hc1]
            by_cases hj : q + 1 + k2 < l.length
            · obtain ⟨m2, rfl⟩ : ∃ m, k2 = m + 1 := ⟨k2 - 1, by omega⟩
              obtain ⟨a, ha⟩ : ∃ a, l[q + 1 + m2 + 1]'(by omega) = a := ⟨_, rfl⟩; obtain ⟨b, hb⟩ : ∃ b, l[q + 1 + m2]'(by omega) = b := ⟨_, rfl⟩; obtain ⟨z0, z1, z2, z3, z4⟩ := own_five HOW.out (i := q + 1 + m2 + 1) (o := (q + 1) * 5 + (m2 + 1) * 5) (by omega) ((drop_at HLD.out hLl (by omega) (by omega)).trans ha) (by omega); obtain ⟨v0, v1, v2, v3, v4⟩ := own_five HOW.out (i := q + 1 + m2) (o := (q + 1) * 5 + m2 * 5) (by omega) ((drop_at HLD.out hLl (by omega) (by omega)).trans hb) (by omega); have HA := Lib.hid ha; have HB := Lib.hid hb; have HCN := Lib.hid (compact_take (l := l) (q := q + 1 + m2) (by omega))
              have j1 : (0 : Int) ≤ (m2 : Int) + 1 := by omega
              have j2 : (m2 : Int) + 1 < (n1 : Int) := by omega
              have j3 : (0 : Int) ≤ (m2 : Int) := by omega
              have j4 : (m2 : Int) < (n1 : Int) := by omega
              have j5 : decide ((m2 : Int) + 1 < (n1 : Int)) = true := decide_eq_true j2; have jw : IntKind.i64.wrap (m2 : Int) = (m2 : Int) := IntWalk.i64_in _ (by omega); have HN1 := Lib.hid hn1; have HJ := Lib.hid hj; have HJN := Lib.hid hjn
              have HLD2 : Hid (L.drop (q + (m2 + 1 + 1)) = l.drop (q + (m2 + 1 + 1))) := Lib.hid (by
                have := congrArg (List.drop 1) HLD.out; rw [List.drop_drop, List.drop_drop] at this
                exact this)
              rw [show ((m2 + 1 : Nat) : Int) = (m2 : Int) + 1 by omega]; clear ha hb hn1 hc1
              by_cases hab : a = b
              · have he := fun W => neqNm a b true (by simp [hab]) W
                unfold nmV nmA at he
                have HAB := Lib.hid hab; clear hab
                go_wp2_with fail
                go_quiet (fail)
                clear z0 z1 z2 z3 z4 v0 v1 v2 v3 v4 jw he; have HO3 := Lib.hid (own_next HOW.out (below_drewN (Below.refl _ _) nq)); have HG3 := Lib.hid (grown_trans HGR.out (show wr.grownBy (wr.drewN nq) (some g) from ⟨rfl, rfl, rfl, Nat.le_refl _, fun _ _ _ => rfl⟩)); generalize World.drewN wr nq = w3 at *
                go_wp2_with fail
                go_roundw
                case rel =>
                  have := HJ.out
                  exact ⟨kk, m2 + 1 + 1, L, rfl, by go_num, by omega, by omega, by omega, hLl, by
                    rw [HLT.out, show q + 1 + (m2 + 1 + 1) = q + 1 + m2 + 2 by omega, HCN.out, if_pos (by rw [HA.out, HB.out]; exact HAB.out.symm)]; rfl, HLD2.out, HO3.out, HG3.out⟩
                case measure => have := HJ.out; simp [intOf]; omega
              · have he := fun W => neqNm a b false (by simp [hab]) W
                unfold nmV nmA at he
                have HAB := Lib.hid hab; clear hab
                have hkl : kk < L.length := by omega
                have HKL := Lib.hid hkl
                go_wp2_with fail
                go_quiet (fail)
                have HO3 := Lib.hid (own_next HOW.out (below_drewN (Below.refl _ _) nq)); have HG3 := Lib.hid (grown_trans HGR.out (show wr.grownBy (wr.drewN nq) (some g) from ⟨rfl, rfl, rfl, Nat.le_refl _, fun _ _ _ => rfl⟩)); generalize World.drewN wr nq = w3 at *; obtain ⟨t0, t1, t2, t3, t4⟩ := own_five HO3.out hkl rfl rfl; have f0 := own_frozen HO3.out (kk * 5); have f1 := own_frozen HO3.out (kk * 5 + 1); have f2 := own_frozen HO3.out (kk * 5 + 2); have f3 := own_frozen HO3.out (kk * 5 + 3); have f4 := own_frozen HO3.out (kk * 5 + 4); clear z0 z1 z2 z3 z4 v0 v1 v2 v3 v4 jw he; obtain ⟨z0, z1, z2, z3, z4⟩ := own_five HO3.out (i := q + 1 + m2 + 1) (o := (q + 1) * 5 + (m2 + 1) * 5) (by omega) ((drop_at HLD.out hLl (by omega) (by omega)).trans HA.out) (by omega)
                have k1 : (0 : Int) ≤ (kk : Int) := by omega
                have k2' : (kk : Int) < (l.length : Int) := by omega
                skip
                go_upto_region 13 with (fail)
                obtain ⟨ho4, hg4⟩ := own_put5 (x := a) HO3.out HKL.out; have HO4 := Lib.hid ho4; have HG4 := Lib.hid (grown_trans HG3.out hg4); clear ho4 hg4 t0 t1 t2 t3 t4 f0 f1 f2 f3 f4 z0 z1 z2 z3 z4; generalize (((((w3.setCell ⟨g, kk * 5, none⟩ (.int .i64 a.kind)).setCell ⟨g, kk * 5 + 1, none⟩ (.string (bs a.owner))).setCell ⟨g, kk * 5 + 2, none⟩ (.int .i64 a.num)).setCell ⟨g, kk * 5 + 3, none⟩ (.int .i64 a.idx)).setCell ⟨g, kk * 5 + 4, none⟩ (.string (bs a.text))) = w4 at *
                go_wp2_with fail
                go_roundw
                case rel =>
                  have hj := HJ.out; have hjn := HJN.out; have hkl := HKL.out
                  exact ⟨kk + 1, m2 + 1 + 1, L.set kk a, by go_num, by go_num, by omega, by omega, by omega, by simpa using hLl, by
                    rw [show q + 1 + (m2 + 1 + 1) = q + 1 + m2 + 2 by omega, HCN.out, if_neg (by rw [HA.out, HB.out]; exact fun e => HAB.out e.symm), HA.out, List.take_succ_eq_append_getElem (by simpa using hkl), List.take_set_of_le (Nat.le_refl _), List.getElem_set_self, HLT.out]; rfl, by
                    rw [List.drop_set_of_lt (by omega)]; exact HLD2.out, HO4.out, HG4.out⟩
                case measure => have := HJ.out; simp [intOf]; omega
            · have HTK : Hid (L.take kk = compact l) := Lib.hid (by rw [HLT.out, List.take_of_length_le (by omega)])
              have HKK : Hid (kk = (compact l).length) := Lib.hid (by rw [← HTK.out, List.length_take, Nat.min_eq_left (by omega)])
              have hkn : kk < l.length := by omega
              have HKN := Lib.hid hkn; have j5 : decide ((k2 : Int) < (n1 : Int)) = false := decide_eq_false (by omega)
              have k1 : (0 : Int) ≤ (kk : Int) := by omega
              have k2' : (kk : Int) ≤ (l.length : Int) := by omega
              have k3 : (kk : Int) ≤ (c : Int) := by omega
              have hcl := fun ty c' => run_clear_own (P := Tryz.prog) 98 45 ty (c' := c') _ Tryz.underlying98 zeroNm (s := 5) rfl (by omega) (by simp [Value.cells, Value.oneCell']) HOW.out hkn
              go_wp2_with fail
              obtain ⟨xs', h1, h2', h3⟩ := own_setCells (p := kk * 5) (Builtin.zeroCells (Value.agg #[.int .i64 0, .string ⟨#[]⟩, .int .i64 0, .int .i64 0, .string ⟨#[]⟩]).cells (l.length - kk)).toList (kk * 5) HOW.out (Nat.le_refl _); have HS := Lib.hid (own_short h2' (Nat.le_of_lt hkn)); rw [h1, fm_take5 nmC_len L (by omega), HTK.out] at HS; have HG4 := Lib.hid (grown_trans HGR.out h3)
              go_ret
              exact ⟨_, rfl, by rw [← HKK.out]; exact HS.out, HG4.out⟩
        · have he := fun W => eqlNm x y false (by simp [hxy]) W
          unfold nmV nmA at he
          have HXY := Lib.hid hxy; clear hxy
          go_wp2_with fail
          go_quiet (fail)
          clear x0 x1 x2 x3 x4 y0 y1 y2 y3 y4 ew he; have HW2 := Lib.hid (show World.drewN wr nq = w.drewN (m + nq) by rw [HW.out, World.drewN_drewN]); generalize World.drewN wr nq = w2 at *
          go_wp2
          go_roundw
          case rel => exact ⟨q + 1 + 1, m + nq, by go_num, by omega, by omega, HW2.out, by
            rw [show q + 1 + 1 = q + 2 from rfl, HCS.out, if_neg (by rw [HX.out, HY.out]; exact fun e => HXY.out e.symm), HCT.out, List.take_succ_eq_append_getElem (i := q + 1) hlt]⟩
          case measure => simp [intOf]; omega
      · obtain rfl : k = l.length := by omega
        have hcl : Hid (compact l = l) := Lib.hid (by have := HCT.out; rw [List.take_length] at this; exact this)
        go_wp2
        go_ret
        exact ⟨_, rfl, by rw [hcl.out]; exact HR.out, by rw [HW.out]; exact ⟨rfl, rfl, rfl, Nat.le_refl _, fun _ _ _ => rfl⟩⟩
set_option maxRecDepth 100000 in
set_option maxHeartbeats 2000000 in
theorem sort2_is {w : World} {v : Value} {l : List Nm} (h : RdNm w v l) (hl : l.length ≤ 12) (ho : ∀ a ∈ l, OwnE a) : Calls Tryz.prog 39 #[v] w (SortP l w) := by
  have HC := Lib.hid (cloneNm h (fm_len nmC_len l) (nm_one l) (by omega)); have HO := Lib.hid ho; clear h ho
  go_enter Tryz.func39, Tryz.ntmps39
  go_wp2_with fail
  refine HC.out.mono ?_
  rintro e w2 ⟨v2, rfl, hown, hb⟩; have HB := Lib.hid hb; have hbs := hb.size; clear hb
  go_wp2_with fail
  refine (sortfunc_is hown rfl hl HO.out hbs).mono ?_; rintro e w3 ⟨rfl, l', hp, hw, hown3, hg⟩; have HL' := Lib.hid hp.length_eq; have HS := Lib.hid (compact_sortU ordN HO.out hp hw); have HB3 := Lib.hid (below_own HB.out hown hg (Nat.le_refl _) hbs); have hbs3 : w.heap.size ≤ w3.heap.size := HB3.out.size; rw [← HL'.out] at hown3; have HR := Lib.hid hown3; obtain ⟨hlen, ⟨rfl, h1⟩ | ⟨g, cap, cur, rfl, _⟩⟩ := id hown3
  · have hn : l' = [] := List.eq_nil_of_length_eq_zero h1
    have HN := Lib.hid hn; clear hown hown3 hg hp hw
    go_wp2_with fail
    refine (compact_is (l := l') (Rd.of_own HR.out) (by rw [HN.out]; exact Nat.zero_le _) (by rw [HN.out]; exact List.nodup_nil)).mono ?_; rintro e w4 ⟨rfl, m, rfl⟩
    go_wp2
    go_ret
    have e : sortU cmpN l = l' := by rw [← HS.out, HN.out]; rfl
    exact ⟨_, rfl, by rw [e]; exact own_next HR.out (below_drewN (Below.refl _ _) m), below_drewN HB3.out m⟩
  · have hl3 : l'.length ≤ 1000 := by rw [HL'.out]; omega
    have HC2 := Lib.hid (compact2_is (l := l') hown3 hl3 hbs3); clear hown hown3 hg hp hw
    go_wp2_with fail
    refine HC2.out.mono ?_
    rintro e w4 ⟨v4, rfl, hown4, hg4⟩; rw [HS.out] at hown4; have HR4 := Lib.hid hown4; have HB4 := Lib.hid (below_own HB3.out HR.out hg4 (Nat.le_refl _) hbs3); clear hown4 hg4
    go_wp2
    go_ret
    exact ⟨_, rfl, HR4.out, HB4.out⟩
end Go.Proofs.YtmjkcanjfjfkfaaGreat
namespace Go.Proofs.YtmjkcanjfjfkfaaGreat
open Go
def Result.w {α : Type} : Result α → World
  | .ok _ w => w
  | .halt _ w => w
def sw : Stepped → World
  | .next m => m.world
  | .ended _ w => w
def mw : Move → World
  | .goroutine m _ => m.world
  | .machine s _ => sw s
end Go.Proofs.YtmjkcanjfjfkfaaGreat
namespace Go.Proofs
open Go.Shelf Go.Lib
shelf_lay_g SlLaysN.n53 Slgn 53 at Tryz 67 as YtmjkcanjfjfkfaaGreat.laidSortI
end Go.Proofs
namespace Go.Proofs.YtmjkcanjfjfkfaaGreat
open Go.RowKit Go.Sort Go.Shelf
set_option linter.unusedSimpArgs false
set_option linter.unusedVariables false
attribute [local go_sem ↓] Go.wp_at_zero Go.wp_at_succ
theorem heap_put {α : Type} [Inhabited α] (enc : α → Value) {w : World} {g n off : Nat} {cur : Array Value} {e : TypeId} {fr : Nat × Nat} (d : Array α) (os : Array Obj) (hb : w.heap[g]? = some (.cells cur e fr)) :
    (sortWorld enc w g off n d os).heap[g]? = some (.cells (putCells enc off d cur) e fr) := by
  have hg : g < w.heap.size := (Array.getElem?_eq_some_iff.1 hb).1
  unfold sortWorld grow
  simp only
  rw [Array.getElem?_append_left (by simpa [putRow, mapBlock, Sort.ahead] using hg)]
  simp [putRow, mapBlock, Sort.ahead, Array.getElem?_modify, hb, onCells]
theorem grownBy_put {α : Type} [Inhabited α] (enc : α → Value) {w : World} {g n off : Nat} (d : Array α) (os : Array Obj) : w.grownBy (sortWorld enc w g off n d os) (some g) := by
  refine ⟨rfl, rfl, rfl, by simp [sortWorld, grow, putRow, mapBlock, Sort.ahead], fun k hk hne => ?_⟩
  have : g ≠ k := fun e => hne (by rw [e])
  unfold sortWorld grow
  simp only
  rw [Array.getElem?_append_left (by simpa [putRow, mapBlock, Sort.ahead] using hk)]
  simp [putRow, mapBlock, Sort.ahead, Array.getElem?_modify, this]
end Go.Proofs.YtmjkcanjfjfkfaaGreat
namespace Go.Proofs.YtmjkcanjfjfkfaaGreat
open Go.RowKit Go.Sort Go.Shelf
set_option linter.unusedSimpArgs false
set_option linter.unusedVariables false
attribute [local go_sem ↓] Go.wp_at_zero Go.wp_at_succ
theorem fm_in (l : List Int) : l.flatMap inC = l.map (Value.int .i64) := by
  induction l with
  | nil => rfl
  | cons a l ih => rw [List.flatMap_cons, ih]; rfl
theorem isort_is {w : World} {B : Nat} {v : Value} {l : List Int} (h : w.ownsRow B 3 1 v l.length (l.flatMap inC)) (hm : l.length ≤ 1000000) (hB : B ≤ w.heap.size) :
    Calls Tryz.prog 67 #[v] w fun e w' => e = .returned (.tuple #[]) ∧ w'.ownsRow B 3 1 v (srtI l).length ((srtI l).flatMap inC) ∧ w.grownBy w' v.ownBlock ∧ Go.RowKit.Below B w w' := by
  rw [fm_in] at h; rw [fm_in, srtI_len]
  by_cases h0 : l.length = 0
  · obtain ⟨A, c, rfl, hc⟩ := own_len h
    have hnil : l = [] := List.eq_nil_of_length_eq_zero h0; subst hnil; refine (AnyG.slices_Sort_int_none laidSortI A c w).mono ?_; rintro e w' ⟨rfl, rfl⟩; rw [show srtI [] = [] by simp [srtI]]
    exact ⟨rfl, h, World.grownBy.refl _ _, Below.refl _ _⟩
  · obtain ⟨hlen, ⟨_, h1⟩ | ⟨g, c, cur, hv, hg, hh, h1, h2, h3, h4⟩⟩ := h
    · exact absurd h1 h0
    subst hv
    have hcs : ∀ j (hj : j < l.length), cur[j]? = some (.int .i64 l[j]) := fun j hj => by
      have h6 := congrArg (fun x => x[j]?) h4
      (try simp only at h6)
      rw [List.getElem?_take_of_lt (by omega), List.getElem?_map, List.getElem?_eq_getElem hj] at h6; rw [← Array.getElem?_toList, h6]
      rfl
    have hH : Holds (Value.int .i64) w g 0 l.toArray := by
      intro j hj
      have hjl : j < l.length := by simpa using hj
      refine ⟨?_, (show Blk w g _ _ from hh).frozen _⟩
      rw [Nat.zero_add, cell_of_row _ g j _ _ _ hh, hcs j hjl]
      simp [hjl]
    refine (AnyG.slices_Sort_int laidSortI g 0 c l w hH (Array.getElem?_eq_some_iff.1 hh).1 (by omega)).mono ?_; rintro e w' ⟨rfl, n, os, rfl⟩
    have hcur : l.length ≤ cur.size := by
      have := congrArg List.length h4
      simp at this
      omega
    have hsz : (srtI l).toArray.size = l.length := by simp [srtI_len]
    show _ ∧ (sortWorld (Value.int .i64) w g 0 n (srtI l).toArray os).ownsRow _ _ _ _ _ _ ∧ w.grownBy (sortWorld (Value.int .i64) w g 0 n (srtI l).toArray os) _ ∧ Go.RowKit.Below B w (sortWorld (Value.int .i64) w g 0 n (srtI l).toArray os)
    refine ⟨rfl, ⟨by simp [srtI_len], .inr ⟨g, c, _, rfl, hg, heap_put (Value.int .i64) (off := 0) (srtI l).toArray os hh, h1, h2, ?_, ?_⟩⟩, grownBy_put _ _ _, ?_⟩
    · simpa [putCells] using h3
    · apply List.ext_getElem?
      intro j
      by_cases hj : j < l.length
      · rw [List.getElem?_take_of_lt (by omega), Array.getElem?_toList]
        unfold putCells
        rw [Array.getElem?_mapIdx, Array.getElem?_eq_getElem (by omega)]
        simp only [Option.map_some]
        rw [if_pos ⟨by omega, by omega⟩, List.getElem?_map, List.getElem?_eq_getElem (by rw [srtI_len]; omega)]
        simp [srtI_len, hj]
      · rw [List.getElem?_eq_none (by rw [List.length_take]; omega), List.getElem?_eq_none (by simp [srtI_len]; omega)]
    · exact (Below.refl B w).grown (grownBy_put _ _ _) hB (fun k hk => by injection hk with hk; omega)
end Go.Proofs.YtmjkcanjfjfkfaaGreat
namespace Go.Proofs.YtmjkcanjfjfkfaaGreat
open Go.RowKit
set_option linter.unusedSimpArgs false
set_option linter.unusedVariables false
attribute [local go_sem ↓] Go.wp_at_zero Go.wp_at_succ
open Go.MapKept Go.ChangeMaps
theorem bits_and1 (y : Nat) : bits BinOp.and IntKind.u8 (y : Int) 1 = ((y % 2 : Nat) : Int) := by
  show IntKind.u8.wrap ((BitVec.ofInt 8 (y : Int) &&& BitVec.ofInt 8 1).toNat : Nat) = _
  have h1 : (BitVec.ofInt 8 (y : Int) &&& BitVec.ofInt 8 1).toNat = y % 2 := by
    rw [BitVec.toNat_and, BitVec.ofInt_natCast, BitVec.toNat_ofNat]
    show y % 2 ^ 8 &&& 1 = y % 2
    rw [Nat.and_one_is_mod]
    omega
  rw [h1]; have h2 : y % 2 < 2 := Nat.mod_lt _ (by omega)
  rcases (show y % 2 = 0 ∨ y % 2 = 1 by omega) with h | h <;> rw [h] <;> rfl
theorem bits_bit (x m : Nat) : bits BinOp.and IntKind.u8 ((x : Int) / 2 ^ m) 1 = if bitN x m then 1 else 0 := by
  have h1 : ((x : Int) / 2 ^ m) = ((x / 2 ^ m : Nat) : Int) := by push_cast; rfl
  rw [h1, bits_and1]
  unfold bitN
  have h2 : x / 2 ^ m % 2 < 2 := Nat.mod_lt _ (by omega)
  rcases (show x / 2 ^ m % 2 = 0 ∨ x / 2 ^ m % 2 = 1 by omega) with h | h <;> rw [h] <;> rfl
theorem par_is (n : Nat) : ((n : Int) % 2 == 1) = (n % 2 == 1) := by
  rw [Bool.eq_iff_iff]
  simp only [beq_iff_eq]
  omega
theorem val_byte (a b : Nat) (ha : a ≤ 3) (hb : b ≤ 3) : IntKind.u8.wrap (97 + IntKind.u8.wrap ((IntKind.i64.wrap ((a : Int) + (b : Int))).tmod 5)) = ((97 + (a + b) % 5 : Nat) : Int) := by
  have key : ∀ a < 4, ∀ b < 4, IntKind.u8.wrap (97 + IntKind.u8.wrap ((IntKind.i64.wrap (((a : Nat) : Int) + ((b : Nat) : Int))).tmod 5)) = ((97 + (a + b) % 5 : Nat) : Int) := by decide +kernel
  exact key a (by omega) b (by omega)
theorem conv1 {w : World} {g : Nat} {n : Nat} (h : w.cell? ⟨g, 0, none⟩ = some (.int .u8 (n : Int))) : (convert 105 9 (.slice (some ⟨g, 0, none⟩) 1 1)).run Tryz.prog w = .ok (.string (bs [UInt8.ofNat n])) w := by
  have h2 := run_convert_bytes_arg (P := Tryz.prog) (w := w) 105 5 Tryz.underlying105 Tryz.underlying5 g 0 1 1 [(n : Int)] rfl (fun i hi => by
    obtain rfl : i = 0 := by omega
    simpa using h) 9 Tryz.underlying9
  rw [h2]
  rfl
theorem bs_append (a b : Bs) : bs a ++ bs b = bs (a ++ b) := by
  unfold bs
  apply ByteArray.ext
  simp
theorem bs_take (v : Bs) (k : Nat) : (bs v).extract 0 k = bs (v.take k) := by
  unfold bs
  apply ByteArray.ext
  simp
theorem val_eq (x v : Bs) {c : UInt8} (hc : UInt8.ofNat (97 + (x.length + v.length) % 5) = c) : bs [c] ++ (bs v).extract 0 (min (v.length : Int) 2).toNat = bs (val47 x v) := by
  subst hc; rw [bs_take, bs_append]
  unfold val47
  have h : v.take (min (v.length : Int) 2).toNat = v.take 2 := by
    rw [show (min (v.length : Int) 2).toNat = min 2 v.length by omega, ← List.take_eq_take_min]
  rw [h]
  rfl
theorem own_apart_blk47 {w : World} {base e s n g : Nat} {t : TypeId} {v : Value} {xs : List Value} {cs : Array Value} (h : w.ownsRow base e s v n xs) (hb : Blk w g t cs) (hne : e ≠ t) : some g ≠ v.ownBlock := by
  intro he
  exact own_blk_ne h hb hne he.symm
theorem own_not_mapAt {w : World} {base e s n : Nat} {v : Value} {xs : List Value} {b : Nat} {l : List (Nm × Value)} (h : w.ownsRow base e s v n xs) (hb : MapAt w b l) : v.ownBlock ≠ some b := by
  obtain ⟨es, c, h1, _⟩ := hb
  exact own_not_map h h1
theorem infoCh : (Tryz.prog.info? 92).map (fun i => (i.zero, i.size, i.bytes)) = some (some (.agg #[.int .i64 0, .string ⟨#[]⟩, .int .i64 0, .int .i64 0, .string ⟨#[]⟩, .string ⟨#[]⟩, .bool false]), 7, 80) := by kernel_rfl
theorem Blk.out_ {w w' : World} {F : Nat → Prop} {g : Nat} {t : TypeId} {cs : Array Value} (h : Blk w g t cs) (ho : Outer F w w') (hF : ¬ F g) : Blk w' g t cs := (ho.block g h.lt hF).trans h
theorem rd_out_ {w w' : World} {F : Nat → Prop} {e n : Nat} {v : Value} {xs : List Value} (h : Rd e w v n xs) (ho : Outer F w w') (hF : ∀ i cs fr, i < w.heap.size → F i → w.heap[i]? ≠ some (.cells cs e fr)) : Rd e w' v n xs := by
  obtain ⟨A, c, rfl, h1, h2, h3⟩ := h
  refine ⟨A, c, rfl, h1, h2, ?_⟩
  rcases h3 with h3 | ⟨b, o, cs, fr, rfl, hb, hx⟩
  · exact .inl h3
  · exact .inr ⟨b, o, cs, fr, rfl, (ho.block b (Array.getElem?_eq_some_iff.1 hb).1 (fun hf => hF b cs fr (Array.getElem?_eq_some_iff.1 hb).1 hf hb)).trans hb, hx⟩
structure PB (w : World) (k : Ky) (d : De) (wr : World) (ra wa : Value) : Prop where
  fr : Below w.heap.size w wr
  kb : Blk wr w.heap.size 35 #[.int .i64 k.tick, .int .i64 k.cls, .int .i64 k.num, .string (bs k.lin)]
  db : Blk wr (w.heap.size + 1) 59 #[.int .u8 d.who, .int .u8 d.reads, .int .u8 d.writes, .int .u8 d.spawn, .bool d.same]
  rb : Blk wr (w.heap.size + 1 + 1) 38 #[.int .i64 0, .int .i64 0, .int .i64 0, .string ⟨#[]⟩, .slice none 0 0, .slice none 0 0]
  ab : Blk wr (w.heap.size + 1 + 1 + 1) 38 #[.int .i64 k.tick, .int .i64 k.cls, .int .i64 k.num, .string (bs k.lin), ra, wa]
theorem PB.next {w wr w' : World} {k : Ky} {d : De} {ra wa : Value} (h : PB w k d wr ra wa) (hb : Below wr.heap.size wr w') : PB w k d w' ra wa :=
  ⟨h.fr.trans (hb.mono h.fr.size), h.kb.next hb h.kb.lt, h.db.next hb h.db.lt, h.rb.next hb h.rb.lt, h.ab.next hb h.ab.lt⟩
theorem PB.map {w wr w' : World} {k : Ky} {d : De} {ra wa : Value} {b : Nat} {l : List (Nm × Value)} (h : PB w k d wr ra wa) (hm : MapAt wr b l) (hb : wr.grownBy w' (some b)) (hB : w.heap.size ≤ b) : PB w k d w' ra wa :=
  ⟨h.fr.grown hb h.fr.size (fun k hk => by injection hk with hk; omega), h.kb.grown hb (hm.noCells h.kb), h.db.grown hb (hm.noCells h.db), h.rb.grown hb (hm.noCells h.rb), h.ab.grown hb (hm.noCells h.ab)⟩
theorem Blk.newE (w : World) (t : TypeId) (cs : Array Value) (b : Nat) (h : w.heap.size = b) : Blk (w.alloc (.cells cs t)) b t cs := by subst h; exact Blk.new w t cs
theorem perf_start (w : World) (k : Ky) (d : De) : PB w k d (((((w.alloc (.cells #[.int .i64 k.tick, .int .i64 k.cls, .int .i64 k.num, .string (bs k.lin)] 35)).alloc (.cells #[.int .u8 d.who, .int .u8 d.reads, .int .u8 d.writes, .int .u8 d.spawn, .bool d.same] 59)).alloc (.cells #[.int .i64 0, .int .i64 0, .int .i64 0, .string ⟨#[]⟩, .slice none 0 0, .slice none 0 0] 38)).alloc (.cells #[.int .i64 k.tick, .int .i64 k.cls, .int .i64 k.num, .string (bs k.lin), .slice none 0 0, .slice none 0 0] 38)).alloc (.map #[] 0)) (.slice none 0 0) (.slice none 0 0) ∧ BMap (((((w.alloc (.cells #[.int .i64 k.tick, .int .i64 k.cls, .int .i64 k.num, .string (bs k.lin)] 35)).alloc (.cells #[.int .u8 d.who, .int .u8 d.reads, .int .u8 d.writes, .int .u8 d.spawn, .bool d.same] 59)).alloc (.cells #[.int .i64 0, .int .i64 0, .int .i64 0, .string ⟨#[]⟩, .slice none 0 0, .slice none 0 0] 38)).alloc (.cells #[.int .i64 k.tick, .int .i64 k.cls, .int .i64 k.num, .string (bs k.lin), .slice none 0 0, .slice none 0 0] 38)).alloc (.map #[] 0)) (w.heap.size + 1 + 1 + 1 + 1) [] := by
  have b0 := ((((((Below.refl w.heap.size w).alloc (Nat.le_refl _) (.cells #[.int .i64 k.tick, .int .i64 k.cls, .int .i64 k.num, .string (bs k.lin)] 35)).alloc (by try simp only [World.size_alloc] <;> omega) (.cells #[.int .u8 d.who, .int .u8 d.reads, .int .u8 d.writes, .int .u8 d.spawn, .bool d.same] 59)).alloc (by try simp only [World.size_alloc] <;> omega) (.cells #[.int .i64 0, .int .i64 0, .int .i64 0, .string ⟨#[]⟩, .slice none 0 0, .slice none 0 0] 38)).alloc (by try simp only [World.size_alloc] <;> omega) (.cells #[.int .i64 k.tick, .int .i64 k.cls, .int .i64 k.num, .string (bs k.lin), .slice none 0 0, .slice none 0 0] 38)).alloc (by try simp only [World.size_alloc] <;> omega) (.map #[] 0))
  refine ⟨⟨b0, (Blk.newE w 35 #[.int .i64 k.tick, .int .i64 k.cls, .int .i64 k.num, .string (bs k.lin)] (w.heap.size) (by try simp only [World.size_alloc])).next (((((Below.refl (w.alloc (.cells #[.int .i64 k.tick, .int .i64 k.cls, .int .i64 k.num, .string (bs k.lin)] 35)).heap.size (w.alloc (.cells #[.int .i64 k.tick, .int .i64 k.cls, .int .i64 k.num, .string (bs k.lin)] 35))).alloc (Nat.le_refl _) (.cells #[.int .u8 d.who, .int .u8 d.reads, .int .u8 d.writes, .int .u8 d.spawn, .bool d.same] 59)).alloc (by try simp only [World.size_alloc] <;> omega) (.cells #[.int .i64 0, .int .i64 0, .int .i64 0, .string ⟨#[]⟩, .slice none 0 0, .slice none 0 0] 38)).alloc (by try simp only [World.size_alloc] <;> omega) (.cells #[.int .i64 k.tick, .int .i64 k.cls, .int .i64 k.num, .string (bs k.lin), .slice none 0 0, .slice none 0 0] 38)).alloc (by try simp only [World.size_alloc] <;> omega) (.map #[] 0)) (Blk.newE w 35 #[.int .i64 k.tick, .int .i64 k.cls, .int .i64 k.num, .string (bs k.lin)] (w.heap.size) (by try simp only [World.size_alloc])).lt, (Blk.newE (w.alloc (.cells #[.int .i64 k.tick, .int .i64 k.cls, .int .i64 k.num, .string (bs k.lin)] 35)) 59 #[.int .u8 d.who, .int .u8 d.reads, .int .u8 d.writes, .int .u8 d.spawn, .bool d.same] (w.heap.size + 1) (by try simp only [World.size_alloc])).next ((((Below.refl ((w.alloc (.cells #[.int .i64 k.tick, .int .i64 k.cls, .int .i64 k.num, .string (bs k.lin)] 35)).alloc (.cells #[.int .u8 d.who, .int .u8 d.reads, .int .u8 d.writes, .int .u8 d.spawn, .bool d.same] 59)).heap.size ((w.alloc (.cells #[.int .i64 k.tick, .int .i64 k.cls, .int .i64 k.num, .string (bs k.lin)] 35)).alloc (.cells #[.int .u8 d.who, .int .u8 d.reads, .int .u8 d.writes, .int .u8 d.spawn, .bool d.same] 59))).alloc (Nat.le_refl _) (.cells #[.int .i64 0, .int .i64 0, .int .i64 0, .string ⟨#[]⟩, .slice none 0 0, .slice none 0 0] 38)).alloc (by try simp only [World.size_alloc] <;> omega) (.cells #[.int .i64 k.tick, .int .i64 k.cls, .int .i64 k.num, .string (bs k.lin), .slice none 0 0, .slice none 0 0] 38)).alloc (by try simp only [World.size_alloc] <;> omega) (.map #[] 0)) (Blk.newE (w.alloc (.cells #[.int .i64 k.tick, .int .i64 k.cls, .int .i64 k.num, .string (bs k.lin)] 35)) 59 #[.int .u8 d.who, .int .u8 d.reads, .int .u8 d.writes, .int .u8 d.spawn, .bool d.same] (w.heap.size + 1) (by try simp only [World.size_alloc])).lt, (Blk.newE ((w.alloc (.cells #[.int .i64 k.tick, .int .i64 k.cls, .int .i64 k.num, .string (bs k.lin)] 35)).alloc (.cells #[.int .u8 d.who, .int .u8 d.reads, .int .u8 d.writes, .int .u8 d.spawn, .bool d.same] 59)) 38 #[.int .i64 0, .int .i64 0, .int .i64 0, .string ⟨#[]⟩, .slice none 0 0, .slice none 0 0] (w.heap.size + 1 + 1) (by try simp only [World.size_alloc])).next (((Below.refl (((w.alloc (.cells #[.int .i64 k.tick, .int .i64 k.cls, .int .i64 k.num, .string (bs k.lin)] 35)).alloc (.cells #[.int .u8 d.who, .int .u8 d.reads, .int .u8 d.writes, .int .u8 d.spawn, .bool d.same] 59)).alloc (.cells #[.int .i64 0, .int .i64 0, .int .i64 0, .string ⟨#[]⟩, .slice none 0 0, .slice none 0 0] 38)).heap.size (((w.alloc (.cells #[.int .i64 k.tick, .int .i64 k.cls, .int .i64 k.num, .string (bs k.lin)] 35)).alloc (.cells #[.int .u8 d.who, .int .u8 d.reads, .int .u8 d.writes, .int .u8 d.spawn, .bool d.same] 59)).alloc (.cells #[.int .i64 0, .int .i64 0, .int .i64 0, .string ⟨#[]⟩, .slice none 0 0, .slice none 0 0] 38))).alloc (Nat.le_refl _) (.cells #[.int .i64 k.tick, .int .i64 k.cls, .int .i64 k.num, .string (bs k.lin), .slice none 0 0, .slice none 0 0] 38)).alloc (by try simp only [World.size_alloc] <;> omega) (.map #[] 0)) (Blk.newE ((w.alloc (.cells #[.int .i64 k.tick, .int .i64 k.cls, .int .i64 k.num, .string (bs k.lin)] 35)).alloc (.cells #[.int .u8 d.who, .int .u8 d.reads, .int .u8 d.writes, .int .u8 d.spawn, .bool d.same] 59)) 38 #[.int .i64 0, .int .i64 0, .int .i64 0, .string ⟨#[]⟩, .slice none 0 0, .slice none 0 0] (w.heap.size + 1 + 1) (by try simp only [World.size_alloc])).lt, (Blk.newE (((w.alloc (.cells #[.int .i64 k.tick, .int .i64 k.cls, .int .i64 k.num, .string (bs k.lin)] 35)).alloc (.cells #[.int .u8 d.who, .int .u8 d.reads, .int .u8 d.writes, .int .u8 d.spawn, .bool d.same] 59)).alloc (.cells #[.int .i64 0, .int .i64 0, .int .i64 0, .string ⟨#[]⟩, .slice none 0 0, .slice none 0 0] 38)) 38 #[.int .i64 k.tick, .int .i64 k.cls, .int .i64 k.num, .string (bs k.lin), .slice none 0 0, .slice none 0 0] (w.heap.size + 1 + 1 + 1) (by try simp only [World.size_alloc])).next ((Below.refl ((((w.alloc (.cells #[.int .i64 k.tick, .int .i64 k.cls, .int .i64 k.num, .string (bs k.lin)] 35)).alloc (.cells #[.int .u8 d.who, .int .u8 d.reads, .int .u8 d.writes, .int .u8 d.spawn, .bool d.same] 59)).alloc (.cells #[.int .i64 0, .int .i64 0, .int .i64 0, .string ⟨#[]⟩, .slice none 0 0, .slice none 0 0] 38)).alloc (.cells #[.int .i64 k.tick, .int .i64 k.cls, .int .i64 k.num, .string (bs k.lin), .slice none 0 0, .slice none 0 0] 38)).heap.size ((((w.alloc (.cells #[.int .i64 k.tick, .int .i64 k.cls, .int .i64 k.num, .string (bs k.lin)] 35)).alloc (.cells #[.int .u8 d.who, .int .u8 d.reads, .int .u8 d.writes, .int .u8 d.spawn, .bool d.same] 59)).alloc (.cells #[.int .i64 0, .int .i64 0, .int .i64 0, .string ⟨#[]⟩, .slice none 0 0, .slice none 0 0] 38)).alloc (.cells #[.int .i64 k.tick, .int .i64 k.cls, .int .i64 k.num, .string (bs k.lin), .slice none 0 0, .slice none 0 0] 38))).alloc (Nat.le_refl _) (.map #[] 0)) (Blk.newE (((w.alloc (.cells #[.int .i64 k.tick, .int .i64 k.cls, .int .i64 k.num, .string (bs k.lin)] 35)).alloc (.cells #[.int .u8 d.who, .int .u8 d.reads, .int .u8 d.writes, .int .u8 d.spawn, .bool d.same] 59)).alloc (.cells #[.int .i64 0, .int .i64 0, .int .i64 0, .string ⟨#[]⟩, .slice none 0 0, .slice none 0 0] 38)) 38 #[.int .i64 k.tick, .int .i64 k.cls, .int .i64 k.num, .string (bs k.lin), .slice none 0 0, .slice none 0 0] (w.heap.size + 1 + 1 + 1) (by try simp only [World.size_alloc])).lt⟩, ?_⟩
  have h := MapAt.new ((((w.alloc (.cells #[.int .i64 k.tick, .int .i64 k.cls, .int .i64 k.num, .string (bs k.lin)] 35)).alloc (.cells #[.int .u8 d.who, .int .u8 d.reads, .int .u8 d.writes, .int .u8 d.spawn, .bool d.same] 59)).alloc (.cells #[.int .i64 0, .int .i64 0, .int .i64 0, .string ⟨#[]⟩, .slice none 0 0, .slice none 0 0] 38)).alloc (.cells #[.int .i64 k.tick, .int .i64 k.cls, .int .i64 k.num, .string (bs k.lin), .slice none 0 0, .slice none 0 0] 38)); rw [show ((((w.alloc (.cells #[.int .i64 k.tick, .int .i64 k.cls, .int .i64 k.num, .string (bs k.lin)] 35)).alloc (.cells #[.int .u8 d.who, .int .u8 d.reads, .int .u8 d.writes, .int .u8 d.spawn, .bool d.same] 59)).alloc (.cells #[.int .i64 0, .int .i64 0, .int .i64 0, .string ⟨#[]⟩, .slice none 0 0, .slice none 0 0] 38)).alloc (.cells #[.int .i64 k.tick, .int .i64 k.cls, .int .i64 k.num, .string (bs k.lin), .slice none 0 0, .slice none 0 0] 38)).heap.size = w.heap.size + 1 + 1 + 1 + 1 by simp only [World.size_alloc]] at h
  exact h
def p1Rel (w : World) (s : S47) (k : Ky) (d : De) (t8 t9 t10 i : Value) (wr : World) : Prop := ∃ m : Nat, m ≤ 6 ∧ i = .int .i64 m ∧ t8 = .string (bs (rdTo s k d m).value) ∧ t9 = .bool (rdTo s k d m).first ∧ t10 = .bool (rdTo s k d m).all ∧ PB w k d wr (.slice none 0 0) (.slice none 0 0) ∧ BMap wr (w.heap.size + 1 + 1 + 1 + 1) (rdTo s k d m).names
def p2Rel (w : World) (s : S47) (k : Ky) (d : De) (mb : Nat) (i : Value) (wr : World) : Prop := ∃ m : Nat, m ≤ 6 ∧ i = .int .i64 m ∧ PB w k d wr (.slice none 0 0) (.slice none 0 0) ∧ BMap wr (w.heap.size + 1 + 1 + 1 + 1) (rdA s k d).names ∧ SMapL wr mb (wrTo d (rdA s k d) m)
theorem set6_ {w : World} {g : Nat} {t : TypeId} {z0 z1 z2 z3 z4 z5 : Value} (v0 v1 v2 v3 v4 v5 : Value) (h : Blk w g t #[z0, z1, z2, z3, z4, z5]) : Blk ((((((w.setCell ⟨g, 0, none⟩ v0).setCell ⟨g, 1, none⟩ v1).setCell ⟨g, 2, none⟩ v2).setCell ⟨g, 3, none⟩ v3).setCell ⟨g, 4, none⟩ v4).setCell ⟨g, 5, none⟩ v5) g t #[v0, v1, v2, v3, v4, v5] ∧ w.grownBy ((((((w.setCell ⟨g, 0, none⟩ v0).setCell ⟨g, 1, none⟩ v1).setCell ⟨g, 2, none⟩ v2).setCell ⟨g, 3, none⟩ v3).setCell ⟨g, 4, none⟩ v4).setCell ⟨g, 5, none⟩ v5) (some g) := by
  refine ⟨?_, ?_⟩
  · have := (((((h.set_ 0 v0).set_ 1 v1).set_ 2 v2).set_ 3 v3).set_ 4 v4).set_ 5 v5
    simpa using this
  · have g0 := only_setCell (g := g) (p := ⟨g, 0, none⟩) (only_of_below (Below.refl w.heap.size w) (some g)) (.inl rfl) v0
    have g1 := only_setCell (g := g) (p := ⟨g, 1, none⟩) g0 (.inl rfl) v1; have g2 := only_setCell (g := g) (p := ⟨g, 2, none⟩) g1 (.inl rfl) v2; have g3 := only_setCell (g := g) (p := ⟨g, 3, none⟩) g2 (.inl rfl) v3; have g4 := only_setCell (g := g) (p := ⟨g, 4, none⟩) g3 (.inl rfl) v4
    exact only_setCell (g := g) (p := ⟨g, 5, none⟩) g4 (.inl rfl) v5
def F47 (b B : Nat) : Nat → Prop := fun i => i = b ∨ B ≤ i
theorem out_step {F : Nat → Prop} {a b c : World} (h : Outer F a b) (k : Outer F b c) : Outer F a c := h.trans (k.mono fun _ h => .inl h)
theorem out_next {b B : Nat} {a c w' : World} (h : Outer (F47 b B) a c) (hb : Below c.heap.size c w') : Outer (F47 b B) a w' := out_step h (Outer.of_below hb)
theorem f47_cells {b B : Nat} {w : World} {t : TypeId} {cs : Array Value} {e : Nat} (hb : Blk w b t cs) (hne : e ≠ t) (hB : w.heap.size ≤ B) : ∀ i cs fr, i < w.heap.size → F47 b B i → w.heap[i]? ≠ some (.cells cs e fr) := by
  intro i cs' fr hi hf hc
  rcases hf with rfl | hf
  · unfold Blk at hb
    rw [hb] at hc
    injection hc with hc
    injection hc with _ hc _
    exact hne hc.symm
  · omega
theorem lookM_app47 {κ ν : Type} [DecidableEq κ] (m : κ) : ∀ (a b : List (κ × ν)), lookM m (a ++ b) = match lookM m a with | some v => some v | none => lookM m b
  | [], b => rfl
  | (n, x) :: a, b => by
    simp only [List.cons_append, lookM]
    by_cases h : n = m
    · simp [h]
    · simp only [if_neg h]
      exact lookM_app47 m a b
theorem lookM_none47 {κ ν : Type} [DecidableEq κ] {n : κ} : ∀ {l : List (κ × ν)}, (∀ p ∈ l, p.1 ≠ n) → lookM n l = none
  | [], _ => rfl
  | (a, x) :: l, h => by
    simp only [lookM]
    rw [if_neg (h (a, x) (by simp))]
    exact lookM_none47 fun p hp => h p (by simp [hp])
theorem putS_snoc (s : S47) (seen : List (Nm × Bs)) (n : Nm) (x : Bs) (h : ∀ p ∈ seen, p.1 ≠ n) (m : Nm) : (if n = m then some x else putS s seen m) = putS s (seen ++ [(n, x)]) m := by
  unfold putS
  rw [lookM_app47]
  by_cases e : n = m
  · subst e
    rw [if_pos rfl, lookM_none47 h]
    simp [lookM]
  · rw [if_neg e]
    cases lookM m seen with
    | some v => rfl
    | none => simp [lookM, e]
theorem mem_look47 {κ ν : Type} [DecidableEq κ] {n : κ} {x : ν} : ∀ {l : List (κ × ν)}, (l.Pairwise fun p q => p.1 ≠ q.1) → (n, x) ∈ l → lookM n l = some x
  | (a, y) :: l, hp, h => by
    have h1 := List.pairwise_cons.1 hp
    simp only [lookM]
    rcases List.mem_cons.1 h with h | h
    · injection h with h2 h3
      rw [if_pos h2.symm, h3]
    · rw [if_neg (fun e => h1.1 (n, x) h e)]
      exact mem_look47 h1.2 h
def encS (p : Nm × Bs) : Nm × Value := (p.1, .string (bs p.2))
theorem encS_inj {p q : Nm × Bs} (h : encS p = encS q) : p = q := by
  unfold encS at h
  obtain ⟨a, x⟩ := p; obtain ⟨b, y⟩ := q
  simp only [Prod.mk.injEq, Value.string.injEq] at h ⊢
  exact ⟨h.1, bs_inj h.2⟩
theorem put_done (s : S47) {seen W : List (Nm × Bs)} (h : (seen.map encS).Perm (W.map encS)) (hW : W.Pairwise fun p q => p.1 ≠ q.1) (n : Nm) : putS s seen n = putS s W n := by
  have hm : ∀ p, p ∈ seen ↔ p ∈ W := fun p => by
    have := h.mem_iff (a := encS p)
    constructor
    · intro hp
      obtain ⟨q, hq, e⟩ := List.mem_map.1 (this.1 (List.mem_map.2 ⟨p, hp, rfl⟩)); rw [← encS_inj e]; exact hq
    · intro hp
      obtain ⟨q, hq, e⟩ := List.mem_map.1 (this.2 (List.mem_map.2 ⟨p, hp, rfl⟩)); rw [← encS_inj e]; exact hq
  have hk : (seen.map Prod.fst).Nodup := by
    have h1 : (seen.map Prod.fst).Perm (W.map Prod.fst) := by
      have := h.map Prod.fst; rw [List.map_map, List.map_map] at this
      exact this
    rw [h1.nodup_iff]
    unfold List.Nodup
    rw [List.pairwise_map]
    exact hW
  have hS : seen.Pairwise fun p q => p.1 ≠ q.1 := by
    unfold List.Nodup at hk
    rw [List.pairwise_map] at hk
    exact hk
  have hl : lookM n seen = lookM n W := by
    apply Option.ext
    intro x
    constructor
    · intro h1
      exact mem_look47 hW ((hm _).1 (look_mem h1))
    · intro h1
      exact mem_look47 hS ((hm _).2 (look_mem h1))
  unfold putS
  rw [hl]
theorem SMap.congr {w : World} {b : Nat} {s s' : S47} (h : SMap w b s) (e : ∀ n, s n = s' n) : SMap w b s' := by
  obtain ⟨l, h1, h2⟩ := h
  exact ⟨l, h1, fun n => (h2 n).trans (e n)⟩
theorem SMap.isMap {w : World} {b : Nat} {s : S47} (h : SMap w b s) {cs : Array Value} {t : TypeId} {fr : Nat × Nat} : w.heap[b]? ≠ some (.cells cs t fr) := by
  obtain ⟨l, ⟨es, c, h1, _⟩, _⟩ := h; rw [h1]
  intro e
  cases e
def p5Rel (wD : World) (sb mw r : Nat) (s : S47) (ents : List (Nm × Value)) (wr : World) : Prop := ∃ (seen : List (Nm × Bs)) (left : List (Nm × Value)), MapIt wr mw r ents left ∧ (seen.map encS ++ left).Perm ents ∧ SMap wr sb (putS s seen) ∧ Outer (F47 sb wD.heap.size) wD wr
def p4Rel (w wB : World) (s : S47) (k : Ky) (d : De) (rv : Value) (T : List Nm) (i : Value) (wr : World) : Prop := ∃ m : Nat, m ≤ T.length ∧ i = .int .i64 m ∧ ∃ wv, Outer (F47 (w.heap.size + 1 + 1 + 1) wB.heap.size) wB wr ∧ Blk wr (w.heap.size + 1 + 1 + 1) 38 #[.int .i64 k.tick, .int .i64 k.cls, .int .i64 k.num, .string (bs k.lin), rv, wv] ∧ OwnP 92 7 chC wr wB.heap.size wv ((T.take m).map (wrC (wrs s k d)))
def p3Rel (w : World) (s : S47) (k : Ky) (d : De) (mb : Nat) (S : List Nm) (v i : Value) (wr : World) : Prop := ∃ m : Nat, m ≤ S.length ∧ i = .int .i64 m ∧ ∃ rv, PB w k d wr rv (.slice none 0 0) ∧ OwnP 92 7 chC wr w.heap.size rv ((S.take m).map (rdC s)) ∧ SMapL wr mb (wrs s k d) ∧ RdNm wr v S
set_option maxRecDepth 100000 in
set_option maxHeartbeats 40000000 in
theorem perform_is {w : World} {sb : Nat} {s : S47} {k : Ky} {d : De} (hs : SMap w sb s) (hp : PIn s k d) : Calls Tryz.prog 15 #[.map (some sb), kyV k, .agg #[.int .u8 d.who, .int .u8 d.reads, .int .u8 d.writes, .int .u8 d.spawn, .bool d.same]] w fun e w' => ∃ u1 u2, e = .returned (.agg #[.int .i64 (prf s k d).key.tick, .int .i64 (prf s k d).key.cls, .int .i64 (prf s k d).key.num, .string (bs (prf s k d).key.lin), u1, u2]) ∧ NAc w' (u1, u2) (prf s k d) ∧ SMap w' sb (nxtS s k d) ∧ Outer (fun i => i = sb) w w' := by
  have HS := Lib.hid hs; have HP := Lib.hid hp; have hmm := @run_makeMap Tryz.prog
  unfold kyV
  clear hs hp
  go_enter Tryz.func15, Tryz.ntmps15
  go_upto_region 5 with (fail)
  obtain ⟨hPB, hBM⟩ := perf_start w k d; have P0 := Lib.hid hPB; have M0 := Lib.hid hBM; clear hPB hBM; generalize (((((w.alloc (.cells #[.int .i64 k.tick, .int .i64 k.cls, .int .i64 k.num, .string (bs k.lin)] 35)).alloc (.cells #[.int .u8 d.who, .int .u8 d.reads, .int .u8 d.writes, .int .u8 d.spawn, .bool d.same] 59)).alloc (.cells #[.int .i64 0, .int .i64 0, .int .i64 0, .string ⟨#[]⟩, .slice none 0 0, .slice none 0 0] 38)).alloc (.cells #[.int .i64 k.tick, .int .i64 k.cls, .int .i64 k.num, .string (bs k.lin), .slice none 0 0, .slice none 0 0] 38)).alloc (.map #[] 0)) = W5 at *; have x1 := P0.out.kb.cell 1; have x3 := P0.out.kb.cell 3; simp only [qB, qC, qD] at x1 x3
  go_upto_if 31 with (fail)
  go_cut [11] (fun v wx => v = .map (some (w.heap.size + 1 + 1 + 1 + 1)) ∧ PB w k d wx (.slice none 0 0) (.slice none 0 0) ∧ BMap wx (w.heap.size + 1 + 1 + 1 + 1) (rd0 k).names)
  case first =>
    rcases HP.out.ky with ⟨h0, h1⟩ | ⟨h0, h1⟩
    · have e1 : (k.cls != 0) = false := by rw [h0]; rfl
      have HN := Lib.hid (show (rd0 k).names = [] by unfold rd0; rw [if_pos h0]); clear h0 h1
      go_wp2_with fail
      go_meet
      case rel => exact ⟨rfl, P0.out, by rw [HN.out]; exact M0.out⟩
    · have e1 : (k.cls != 0) = true := by rw [h0]; rfl
      have HN := Lib.hid (show (rd0 k).names = addN [] (prcN k.lin) by unfold rd0; rw [if_neg (by rw [h0]; decide)]; rfl); clear h0 h1
      go_wp2_with fail
      go_at_call 16; refine (ofproc_is _ _).mono ?_; rintro e w1 ⟨rfl, hb⟩; obtain ⟨w2, hput, hbm, hg⟩ := (M0.out.next hb).put (prcN k.lin); have P2 := Lib.hid ((P0.out.next hb).map (M0.out.next hb) hg (by omega)); have M2 := Lib.hid hbm; clear hb hbm hg
      go_wp2_with fail
      go_meet
      case rel => exact ⟨rfl, P2.out, by rw [HN.out]; exact M2.out⟩
  case rest =>
  obtain ⟨rfl, hPB, hBM⟩ := hcut; have P1 := Lib.hid hPB; have M1 := Lib.hid hBM; clear hPB hBM x1 x3 P0 M0; have H0 : Hid (p1Rel w s k d (.string ⟨#[118]⟩) (.bool true) (.bool true) (.int .i64 (0 : Nat)) wc) := Lib.hid ⟨0, by omega, rfl, rfl, rfl, rfl, P1.out, M1.out⟩; clear P1 M1
  go_wp2_with fail
  go_loopw [8, 9, 10, 12] (fun t8 t9 t10 i wr => p1Rel w s k d t8 t9 t10 i wr) (fun _ _ _ i _ => 6 - (intOf i).toNat)
  case atStart => exact H0.out
  case round =>
    clear H0; obtain ⟨m, hm6, rfl, rfl, rfl, rfl, hPB, hBM⟩ := hrel; have P1 := Lib.hid hPB; have M1 := Lib.hid hBM; clear hPB hBM; obtain ⟨st, hst⟩ : ∃ st, rdTo s k d m = st := ⟨_, rfl⟩; have HST := Lib.hid hst; have HSU := Lib.hid (rdTo_succ s k d m); have HVL := Lib.hid (rdTo_len s k d m); rw [hst] at M1 HSU HVL ⊢; clear hst; obtain ⟨vv, fi, al, nms⟩ := st
    simp only at M1 HVL ⊢
    by_cases hm : m < 6
    · have j0 : (0 : Int) ≤ (m : Int) := by omega
      have j1 : (m : Int) < 6 := by omega
      have j2 : decide ((m : Int) < 6) = true := decide_eq_true j1; have x1 := P1.out.db.cell 1; have x4 := P1.out.db.cell 4; simp only [qB, qC, qD] at x1 x4; have hbb := bits_bit d.reads m
      cases hbt : bitN d.reads m with
      | false =>
        have hb0 : (bits BinOp.and IntKind.u8 ((d.reads : Int) / 2 ^ m) 1 == 0) = true := by rw [hbb, hbt]; rfl
        have HR1 := Lib.hid (show rdTo s k d (m + 1) = ⟨vv, fi, al, nms⟩ by rw [HSU.out]; unfold rd1; rw [if_pos (.inl hbt)]); clear hbt hbb
        go_wp2_with fail
        go_roundw
        case rel => exact ⟨m + 1, by omega, by go_num, by rw [HR1.out], by rw [HR1.out], by rw [HR1.out], P1.out, by rw [HR1.out]; exact M1.out⟩
        case measure => simp [intOf]; omega
      | true =>
        have hb0 : (bits BinOp.and IntKind.u8 ((d.reads : Int) / 2 ^ m) 1 == 0) = false := by rw [hbb, hbt]; rfl
        cases al with
        | false =>
          have HR1 := Lib.hid (show rdTo s k d (m + 1) = ⟨vv, fi, false, nms⟩ by rw [HSU.out]; unfold rd1; rw [if_pos (.inr rfl)]); clear hbt hbb
          go_wp2_with fail
          go_roundw
          case rel => exact ⟨m + 1, by omega, by go_num, by rw [HR1.out], by rw [HR1.out], by rw [HR1.out], P1.out, by rw [HR1.out]; exact M1.out⟩
          case measure => simp [intOf]; omega
        | true =>
          obtain ⟨x, hx⟩ : ∃ x, (s (prtN (1 + (m : Nat)))).getD [] = x := ⟨_, rfl⟩
          have hxl : x.length ≤ 3 := by rw [← hx]; exact HP.out.vl _
          obtain ⟨al2, hal2⟩ : ∃ q, (if fi then x.length % 2 == 1 else true) = q := ⟨_, rfl⟩
          have HR1 := Lib.hid (show rdTo s k d (m + 1) = ⟨if d.same then vv else val47 x vv, false, al2, addN nms (prtN (1 + (m : Nat)))⟩ by
            rw [HSU.out, ← hal2]
            unfold rd1
            rw [if_neg (by simp [hbt])]
            simp only [hx])
          have HAL2 := Lib.hid hal2; clear hal2; have HLK := Lib.hid (fun W (h : SMap W sb s) => h.look (prtN (1 + (m : Nat))) hx); clear hbt hbb hx
          go_upto_region 11 with (fail)
          go_wp2_with fail
          go_at_call 14; refine (port_is m j0 (by omega) _).mono ?_; rintro e w1 ⟨rfl, hb⟩; have hlk := HLK.out w1 ((HS.out.next P1.out.fr).next hb); have P2 := Lib.hid (P1.out.next hb); have M2 := Lib.hid (M1.out.next hb); clear hb x1 x4 hb0
          go_wp2_with fail
          clear hlk; go_at_call 14; refine (port_is m j0 (by omega) _).mono ?_; rintro e w2 ⟨rfl, hb⟩; obtain ⟨w3, hput, hbm, hg⟩ := (M2.out.next hb).put (prtN (1 + (m : Nat))); have P3 := Lib.hid ((P2.out.next hb).map (M2.out.next hb) hg (by omega)); have M3 := Lib.hid hbm; clear hb hbm hg P1 P2 M1 M2
          go_upto_if 57 with (fail)
          clear hput
          have em : Int.tmod (x.length : Int) 2 = ((x.length % 2 : Nat) : Int) := by rw [Int.tmod_eq_emod_of_nonneg (by omega)]; rfl
          have hbx := bs_size x
          go_cut [9, 10] (fun v9 v10 wx => v9 = .bool false ∧ v10 = .bool al2 ∧ w3 = wx)
          case first =>
            cases fi with
            | true =>
              go_wp2_with fail
              go_meet
              case rel => exact ⟨rfl, by rw [par_is, ← HAL2.out]; rfl, rfl⟩
            | false =>
              go_wp2_with fail
              go_meet
              case rel => exact ⟨rfl, by rw [← HAL2.out]; rfl, rfl⟩
          case rest =>
          obtain ⟨rfl, rfl, rfl⟩ := hcut; clear em; have x4 := P3.out.db.cell 4; simp only [qB, qC, qD] at x4; obtain ⟨sm, hsm⟩ : ∃ sm, d.same = sm := ⟨_, rfl⟩; rw [hsm] at x4; have HSM := Lib.hid hsm; clear hsm
          cases sm with
          | true =>
            clear hbx
            go_wp2_with fail
            go_roundw
            case rel => exact ⟨m + 1, by omega, by go_num, by rw [HR1.out, if_pos HSM.out], by rw [HR1.out], by rw [HR1.out], P3.out, by rw [HR1.out]; exact M3.out⟩
            case measure => simp [intOf]; omega
          | false =>
            go_upto_region 16 with (fail)
            clear x4; have hby := bs_size vv; have hvl := HVL.out
            refine wp_region_noPanic ?_
            refine wp_region_held_drew (S := (fun (w' : World) => 0 ≤ w'.heap.size)) (by kernel_rfl) ?_ (fun hHeld => ?_)
            · exact Nat.zero_le _
            refine tk (v := ?_) 0 rfl (by kernel_rfl) (fun _ _ _ h => h) ?_ hHeld ?_; rotate_left
            · (intro w h; (try dsimp only at h); go_simp; try with_reducible rfl)
            try simp only [Act.put, pB, pC, pD]
            refine tk (v := ?_) 1 rfl (by kernel_rfl) (fun _ _ _ h => h) ?_ hHeld ?_; rotate_left
            · (intro w h; (try dsimp only at h); go_simp; try with_reducible rfl)
            try simp only [Act.put, pB, pC, pD]
            refine tk (v := ?_) 2 rfl (by kernel_rfl) (fun _ _ _ h => h) ?_ hHeld ?_; rotate_left
            · (intro w h; (try dsimp only at h); go_simp; try with_reducible rfl)
            try simp only [Act.put, pB, pC, pD]
            refine tk (v := ?_) 3 rfl (by kernel_rfl) (fun _ _ _ h => h) ?_ hHeld ?_; rotate_left
            · (intro w h; (try dsimp only at h); go_simp; try with_reducible rfl)
            try simp only [Act.put, pB, pC, pD]
            refine tk (v := ?_) 4 rfl (by kernel_rfl) (fun _ _ _ h => h) ?_ hHeld ?_; rotate_left
            · (intro w h; (try dsimp only at h); go_simp; try with_reducible rfl)
            try simp only [Act.put, pB, pC, pD]
            refine tk (v := ?_) 5 rfl (by kernel_rfl) (fun _ _ _ h => h) ?_ hHeld ?_; rotate_left
            · (intro w h; (try dsimp only at h); go_simp; try with_reducible rfl)
            try simp only [Act.put, pB, pC, pD]
            refine tk (v := ?_) 6 rfl (by kernel_rfl) (fun _ _ _ h => h) ?_ hHeld ?_; rotate_left
            · (intro w h; (try dsimp only at h); go_simp; try with_reducible rfl)
            try simp only [Act.put, pB, pC, pD]
            refine tk (v := ?_) 7 rfl (by kernel_rfl) (fun _ _ _ h => h) ?_ hHeld ?_; rotate_left
            · (intro w h; (try dsimp only at h); go_simp; try with_reducible rfl)
            try simp only [Act.put, pB, pC, pD]
            refine tk (v := ?_) 10 rfl (by kernel_rfl) (fun _ _ _ h => h) ?_ hHeld ?_; rotate_left
            · (intro w h; (try dsimp only at h); go_simp; try with_reducible rfl)
            try simp only [Act.put, pB, pC, pD]
            refine tk (v := ?_) 11 rfl (by kernel_rfl) (fun _ _ _ h => h) ?_ hHeld ?_; rotate_left
            · (intro w h; (try dsimp only at h); go_simp; try with_reducible rfl)
            try simp only [Act.put, pB, pC, pD]
            refine tk (v := ?_) 12 rfl (by kernel_rfl) (fun _ _ _ h => h) ?_ hHeld ?_; rotate_left
            · (intro w h; (try dsimp only at h); go_simp; try with_reducible rfl)
            try simp only [Act.put, pB, pC, pD]
            refine tk (v := ?_) 13 rfl (by kernel_rfl) (fun _ _ _ h => h) ?_ hHeld ?_; rotate_left
            · (intro w h; (try dsimp only at h); go_simp; try with_reducible rfl)
            try simp only [Act.put, pB, pC, pD]
            refine tk (v := ?_) 14 rfl (by kernel_rfl) (fun _ _ _ h => h) ?_ hHeld ?_; rotate_left
            · (intro w hSw; (try dsimp only at hSw); go_simp; (try rw [if_pos ⟨by omega, by omega⟩]))
            try simp only [Act.put, pB, pC, pD]
            refine wpAnyH_ready (rs := [8]) (by kernel_rfl) (by simp) ?_; refine AllReadyH.cons rfl (fun K hK => ?_) AllReadyH.nil; go_simp
            refine hK.out _ _ ?_ (fun hNew => ?_)
            · exact Nat.zero_le _
            clear hK K hHeld; have hHeld := hNew; clear hNew; try simp only [Act.put, pB, pC, pD]
            have hcell := (Blk.new w3 5 #[.int .u8 (IntKind.u8.wrap (97 + IntKind.u8.wrap ((IntKind.i64.wrap ((x.length : Int) + (vv.length : Int))).tmod 5)))]).drew.cell 0; rw [val_byte _ _ hxl hvl] at hcell; rw [val_byte _ _ hxl hvl]
            simp only [List.getElem?_toArray, List.getElem?_cons_zero] at hcell
            refine wpAnyH_more (S' := (fun (w' : World) => w'.cell? ⟨w3.heap.size, 0, none⟩ = some (.int .u8 ((97 + (x.length + vv.length) % 5 : Nat) : Int)))) (fun _ _ => Nat.zero_le _) ?_
            clear hHeld; have hHeld : (fun (w' : World) => w'.cell? ⟨w3.heap.size, 0, none⟩ = some (.int .u8 ((97 + (x.length + vv.length) % 5 : Nat) : Int))) _ := hcell; obtain ⟨cb, hcb⟩ : ∃ c : UInt8, UInt8.ofNat (97 + (x.length + vv.length) % 5) = c := ⟨_, rfl⟩; have HEQ := Lib.hid (val_eq x vv hcb); have hbc := bs_size [cb]
            simp only [List.length_singleton] at hbc
            refine tk (v := ?_) 9 rfl (by kernel_rfl) (fun _ _ _ h => h) ?_ hHeld ?_; rotate_left
            · (intro w hSw; (try dsimp only at hSw); go_simp; (rw [conv1 hSw, hcb]; rfl))
            try simp only [Act.put, pB, pC, pD]
            refine tk (v := ?_) 15 rfl (by kernel_rfl) (fun _ _ _ h => h) ?_ hHeld ?_; rotate_left
            · (intro w hSw; (try dsimp only at hSw); go_simp; (rw [if_neg (by omega)]))
            try simp only [Act.put, pB, pC, pD]
            refine tk (v := ?_) 16 rfl (by kernel_rfl) (fun _ _ _ h => h) ?_ hHeld ?_; rotate_left
            · (intro w h; (try dsimp only at h); go_simp; try with_reducible rfl)
            try simp only [Act.put, pB, pC, pD]
            refine wpAnyH_done (by kernel_rfl) ?_ _; clear hHeld
            try simp only [List.getElem_toArray, List.getElem_cons_zero, List.getElem_cons_succ, Act.put, pB, pC, pD]
            refine NoPanic.normal ?_
            have P4 := Lib.hid (P3.out.next (((Below.refl w3.heap.size w3).alloc (Nat.le_refl _) (.cells #[.int .u8 ((97 + (x.length + vv.length) % 5 : Nat) : Int)] 5)).drew)); have M4 := Lib.hid (M3.out.next (((Below.refl w3.heap.size w3).alloc (Nat.le_refl _) (.cells #[.int .u8 ((97 + (x.length + vv.length) % 5 : Nat) : Int)] 5)).drew)); rw [HEQ.out]; clear hcell hbc hby hbx
            go_wp2_with fail
            go_roundw
            case rel => exact ⟨m + 1, by omega, by go_num, by rw [HR1.out, HSM.out]; rfl, by rw [HR1.out], by rw [HR1.out], P4.out, by rw [HR1.out]; exact M4.out⟩
            case measure => simp [intOf]; omega
    · have j2 : decide ((m : Int) < 6) = false := decide_eq_false (by omega)
      have HRA : Hid (rdA s k d = ⟨vv, fi, al, nms⟩) := Lib.hid (by have := HST.out; rw [show m = 6 by omega] at this; exact this); clear HST HSU hm hm6
      go_wp2_with fail
      have hba := (Below.refl wr.heap.size wr).alloc (Nat.le_refl _) (.map #[] 0); have P2 := Lib.hid (P1.out.next hba); have M2 := Lib.hid (M1.out.next hba); have L2 : Hid (SMapL (wr.alloc (.map #[] 0)) wr.heap.size []) := Lib.hid (MapAt.new wr); have HMW := Lib.hid (show w.heap.size + 1 + 1 + 1 + 1 < wr.heap.size from M1.out.lt); have H0 : Hid (p2Rel w s k d wr.heap.size (.int .i64 (0 : Nat)) (wr.alloc (.map #[] 0))) := Lib.hid ⟨0, by omega, rfl, P2.out, by rw [HRA.out]; exact M2.out, L2.out⟩; clear P1 M1 P2 M2 L2 hba j2; generalize wr.alloc (.map #[] 0) = w9 at *; obtain ⟨mw, hmw⟩ : ∃ mw, wr.heap.size = mw := ⟨_, rfl⟩; rw [hmw] at HMW H0 ⊢; clear hmw
      go_loopw [15] (fun i wr => p2Rel w s k d mw i wr) (fun i _ => 6 - (intOf i).toNat)
      case atStart => exact H0.out
      case round =>
        clear H0; obtain ⟨q, hq6, rfl, hPB, hBM, hLM⟩ := hrel; rw [HRA.out] at hBM hLM; have P2 := Lib.hid hPB; have M2 := Lib.hid hBM; have L2 := Lib.hid hLM; have HWS := Lib.hid (wrTo_succ d ⟨vv, fi, al, nms⟩ q); clear hPB hBM hLM
        by_cases hq : q < 6
        · have j0 : (0 : Int) ≤ (q : Int) := by omega
          have j1 : (q : Int) < 6 := by omega
          have j2 : decide ((q : Int) < 6) = true := decide_eq_true j1; have x2 := P2.out.db.cell 2; simp only [qB, qC, qD] at x2; have hbb := bits_bit d.writes q
          cases hbt : bitN d.writes q with
          | false =>
            have hb1 : (bits BinOp.and IntKind.u8 ((d.writes : Int) / 2 ^ q) 1 == 1) = false := by rw [hbb, hbt]; rfl
            have HW1 := Lib.hid (show wrTo d ⟨vv, fi, al, nms⟩ (q + 1) = wrTo d ⟨vv, fi, al, nms⟩ q by rw [HWS.out, hbt]; rfl); clear hbt hbb
            go_wp2_with fail
            go_roundw
            case rel => exact ⟨q + 1, by omega, by go_num, P2.out, by rw [HRA.out]; exact M2.out, by rw [HRA.out, HW1.out]; exact L2.out⟩
            case measure => simp [intOf]; omega
          | true =>
            have hb1 : (bits BinOp.and IntKind.u8 ((d.writes : Int) / 2 ^ q) 1 == 1) = true := by rw [hbb, hbt]; rfl
            cases al with
            | true =>
              have HW1 := Lib.hid (show wrTo d ⟨vv, fi, true, nms⟩ (q + 1) = putM (prtN (1 + (q : Nat))) vv (wrTo d ⟨vv, fi, true, nms⟩ q) by rw [HWS.out, hbt]; rfl); clear hbt hbb
              go_wp2_with fail
              go_at_call 14; refine (port_is q j0 (by omega) _).mono ?_; rintro e w2 ⟨rfl, hb⟩; obtain ⟨w3, hput, hbm, hg⟩ := (L2.out.next hb).put (prtN (1 + (q : Nat))) vv; have P3 := Lib.hid ((P2.out.next hb).map (L2.out.next hb) hg (by have := HMW.out; omega)); have M3 := Lib.hid ((M2.out.next hb).same (hg.block _ (M2.out.next hb).lt (fun e => by injection e with e; have := HMW.out; omega))); have L3 := Lib.hid hbm; clear hb hbm hg hb1
              go_wp2_with fail
              go_roundw
              case rel => exact ⟨q + 1, by omega, by go_num, P3.out, by rw [HRA.out]; exact M3.out, by rw [HRA.out, HW1.out]; exact L3.out⟩
              case measure => simp [intOf]; omega
            | false =>
              by_cases h3 : q < 3
              · have j3 : decide ((q : Int) < 3) = true := decide_eq_true (by omega)
                have j4 : decide (q < 3) = true := decide_eq_true h3; have HW1 := Lib.hid (show wrTo d ⟨vv, fi, false, nms⟩ (q + 1) = putM (prtN (1 + (q : Nat))) vv (wrTo d ⟨vv, fi, false, nms⟩ q) by rw [HWS.out, hbt, j4]; rfl); clear hbt hbb
                go_wp2_with fail
                go_at_call 14; refine (port_is q j0 (by omega) _).mono ?_; rintro e w2 ⟨rfl, hb⟩; obtain ⟨w3, hput, hbm, hg⟩ := (L2.out.next hb).put (prtN (1 + (q : Nat))) vv; have P3 := Lib.hid ((P2.out.next hb).map (L2.out.next hb) hg (by have := HMW.out; omega)); have M3 := Lib.hid ((M2.out.next hb).same (hg.block _ (M2.out.next hb).lt (fun e => by injection e with e; have := HMW.out; omega))); have L3 := Lib.hid hbm; clear hb hbm hg hb1
                go_wp2_with fail
                go_roundw
                case rel => exact ⟨q + 1, by omega, by go_num, P3.out, by rw [HRA.out]; exact M3.out, by rw [HRA.out, HW1.out]; exact L3.out⟩
                case measure => simp [intOf]; omega
              · have j3 : decide ((q : Int) < 3) = false := decide_eq_false (by omega)
                have j4 : decide (q < 3) = false := decide_eq_false h3; have HW1 := Lib.hid (show wrTo d ⟨vv, fi, false, nms⟩ (q + 1) = wrTo d ⟨vv, fi, false, nms⟩ q by rw [HWS.out, hbt, j4]; rfl); clear hbt hbb
                go_wp2_with fail
                go_roundw
                case rel => exact ⟨q + 1, by omega, by go_num, P2.out, by rw [HRA.out]; exact M2.out, by rw [HRA.out, HW1.out]; exact L2.out⟩
                case measure => simp [intOf]; omega
        · have j2 : decide ((q : Int) < 6) = false := decide_eq_false (by omega)
          have HQ6 := Lib.hid (show q = 6 by omega); have x3 := P2.out.db.cell 3; simp only [qB, qC, qD] at x3; clear HWS hq hq6
          go_upto_region 23 with (fail)
          have hsr := HP.out.de.2.2.2
          go_cut [110] (fun v wx => v = .bool (spw d) ∧ wr = wx)
          case first =>
            by_cases h1 : 1 ≤ d.spawn
            · have e1 : decide ((1 : Int) ≤ (d.spawn : Int)) = true := decide_eq_true (by omega)
              have e3 : decide (1 ≤ d.spawn) = true := decide_eq_true h1
              by_cases h2 : d.spawn ≤ 3
              · have e2 : decide ((d.spawn : Int) ≤ 3) = true := decide_eq_true (by omega)
                have e4 : decide (d.spawn ≤ 3) = true := decide_eq_true h2; have HSP := Lib.hid (show spw d = true by unfold spw; rw [e3, e4]; rfl); clear h1 h2
                go_wp2_with fail
                go_meet
                case rel => exact ⟨by rw [HSP.out], rfl⟩
              · have e2 : decide ((d.spawn : Int) ≤ 3) = false := decide_eq_false (by omega)
                have e4 : decide (d.spawn ≤ 3) = false := decide_eq_false h2; have HSP := Lib.hid (show spw d = false by unfold spw; rw [e3, e4]; rfl); clear h1 h2
                go_wp2_with fail
                go_meet
                case rel => exact ⟨by rw [HSP.out], rfl⟩
            · have e1 : decide ((1 : Int) ≤ (d.spawn : Int)) = false := decide_eq_false (by omega)
              have e3 : decide (1 ≤ d.spawn) = false := decide_eq_false h1; have HSP := Lib.hid (show spw d = false by unfold spw; rw [e3]; rfl); clear h1
              go_wp2_with fail
              go_meet
              case rel => exact ⟨by rw [HSP.out], rfl⟩
          case rest =>
          obtain ⟨rfl, rfl⟩ := hcut; obtain ⟨sp, hsp⟩ : ∃ sp, spw d = sp := ⟨_, rfl⟩; rw [hsp]; have HSP := Lib.hid hsp; have HSB := Lib.hid (show sp = true → 1 ≤ d.spawn ∧ d.spawn < 256 from fun h => by rw [h] at hsp; unfold spw at hsp; simp only [Bool.and_eq_true, decide_eq_true_eq] at hsp; omega); clear hsp x3 hsr
          go_upto_if 110 with (fail)
          go_cut [11] (fun v wx => v = .map (some (w.heap.size + 1 + 1 + 1 + 1)) ∧ PB w k d wx (.slice none 0 0) (.slice none 0 0) ∧ BMap wx (w.heap.size + 1 + 1 + 1 + 1) (rds s k d) ∧ SMapL wx mw (wrs s k d))
          case first =>
            have x3 := P2.out.db.cell 3; simp only [qB, qC, qD] at x3
            cases sp with
            | true =>
              obtain ⟨hs1, hs3⟩ := HSB.out rfl
              go_wp2_with fail
              go_at_call 12; refine (who_is d.spawn hs1 hs3 _).mono ?_; rintro e w3 ⟨rfl, hb⟩; have P3 := Lib.hid (P2.out.next hb); have M3 := Lib.hid (M2.out.next hb); have L3 := Lib.hid (L2.out.next hb); clear hb
              go_wp2_with fail
              go_at_call 16; refine (ofproc_is _ _).mono ?_; rintro e w4 ⟨rfl, hb⟩; have P4 := Lib.hid (P3.out.next hb); have M4 := Lib.hid (M3.out.next hb); have L4 := Lib.hid (L3.out.next hb); clear hb; obtain ⟨w5, hput, hbm, hg⟩ := M4.out.put (prcN (whoS d.spawn)); have P5 := Lib.hid (P4.out.map M4.out hg (by omega)); have M5 := Lib.hid hbm; have L5 := Lib.hid (L4.out.same (hg.block _ L4.out.lt (fun e => by injection e with e; have := HMW.out; omega))); clear hbm hg x3; have x3 := P5.out.db.cell 3; simp only [qB, qC, qD] at x3
              go_wp2_with fail
              go_at_call 12; refine (who_is d.spawn hs1 hs3 _).mono ?_; rintro e w6 ⟨rfl, hb⟩; have P6 := Lib.hid (P5.out.next hb); have M6 := Lib.hid (M5.out.next hb); have L6 := Lib.hid (L5.out.next hb); clear hb
              go_wp2_with fail
              go_at_call 16; refine (ofproc_is _ _).mono ?_; rintro e w7 ⟨rfl, hb⟩; have P7 := Lib.hid (P6.out.next hb); have M7 := Lib.hid (M6.out.next hb); have L7 := Lib.hid (L6.out.next hb); clear hb; clear hput; obtain ⟨w8, hput, hbm, hg⟩ := L7.out.put (prcN (whoS d.spawn)) [112]; rw [show bs [112] = ⟨#[112]⟩ from rfl] at hput; have P8 := Lib.hid (P7.out.map L7.out hg (by have := HMW.out; omega)); have M8 := Lib.hid (M7.out.same (hg.block _ M7.out.lt (fun e => by injection e with e; have := HMW.out; omega))); have L8 := Lib.hid hbm; clear hbm hg
              go_wp2_with fail
              go_meet
              case rel => exact ⟨rfl, P8.out, by unfold rds; rw [HSP.out, HRA.out]; exact M8.out, by unfold wrs; rw [HSP.out, HRA.out, ← HQ6.out]; exact L8.out⟩
            | false =>
              go_wp2_with fail
              go_meet
              case rel => exact ⟨rfl, P2.out, by unfold rds; rw [HSP.out, HRA.out]; exact M2.out, by unfold wrs; rw [HSP.out, HRA.out, ← HQ6.out]; exact L2.out⟩
          case rest =>
          obtain ⟨rfl, hPB, hBM, hLM⟩ := hcut; have P3 := Lib.hid hPB; have M3 := Lib.hid hBM; have L3 := Lib.hid hLM; clear hPB hBM hLM P2 M2 L2; have HRD := Lib.hid (rds_ok HP.out); have HWD := Lib.hid (wrs_ok HP.out)
          go_wp2_with fail
          go_at_call 40; refine (keys_is M3.out (Nat.le_trans HRD.out.1 (by omega))).mono ?_; rintro e w10 ⟨v10, l10, rfl, hpm, hown, hb⟩
          have hl10 : l10.length ≤ 12 := by rw [hpm.length_eq]; exact Nat.le_trans HRD.out.1 (by omega)
          have ho10 : ∀ n ∈ l10, OwnE n := fun n hn => ob_own HRD.out.2.2 n (hpm.mem_iff.1 hn)
          have HSU := Lib.hid (sortU_perm ordN (ob_own HRD.out.2.2) hpm); have P10 := Lib.hid (P3.out.next hb); have L10 := Lib.hid (L3.out.next hb); have HSO := Lib.hid (sort2_is (Rd.of_own hown) hl10 ho10); clear hown hb hl10 ho10 hpm P3 L3 M3
          go_wp2_with fail
          go_at_call 39
          refine HSO.out.mono ?_
          rintro e w11 ⟨v11, rfl, hown, hb⟩; rw [HSU.out] at hown; have hrn : RdNm w11 v11 (sortU cmpN (rds s k d)) := Rd.of_own hown; have hsl := sortU_len HRD.out.2.2; obtain ⟨S, hS⟩ : ∃ S, sortU cmpN (rds s k d) = S := ⟨_, rfl⟩; rw [hS] at hrn hsl; have HSS := Lib.hid hS; obtain ⟨A11, c11, rfl, hc11⟩ := RdP.form hrn; have H0 : Hid (p3Rel w s k d mw S (.slice A11 S.length c11) (.int .i64 (0 : Nat)) w11) := Lib.hid ⟨0, Nat.zero_le _, rfl, _, P10.out.next hb, OwnP.nil, L10.out.next hb, hrn⟩; clear hown hb hrn hS P10 L10 HSO HSU
          go_wp2_with fail
          go_loopw [125] (fun i wr => p3Rel w s k d mw S (.slice A11 S.length c11) i wr) (fun i _ => S.length - (intOf i).toNat)
          case atStart => exact H0.out
          case round =>
            clear H0; obtain ⟨g, hgl, rfl, rv, hPB, hRV, hLM, hRN⟩ := hrel; have P12 := Lib.hid hPB; have R12 := Lib.hid hRV; have L12 := Lib.hid hLM; have N12 := Lib.hid hRN; clear hPB hRV hLM hRN
            by_cases hg : g < S.length
            · have j0 : (0 : Int) ≤ (g : Int) := by omega
              have j1 : (g : Int) < (S.length : Int) := by omega
              have j2 : decide ((g : Int) < (S.length : Int)) = true := decide_eq_true j1; obtain ⟨nb, no, hbe, hnb, y0, y1, y2, y3, y4⟩ := RdNm.piece N12.out hg; subst hbe; have HTK := Lib.hid (show S.take (g + 1) = S.take g ++ [S[g]] from List.take_succ_eq_append_getElem hg); obtain ⟨n, hn⟩ : ∃ n, S[g] = n := ⟨_, rfl⟩; rw [hn] at y0 y1 y2 y3 y4 HTK; clear hn; obtain ⟨x, hx⟩ : ∃ x, (s n).getD [] = x := ⟨_, rfl⟩; obtain ⟨q, hq⟩ : ∃ q, (s n).isSome = q := ⟨_, rfl⟩; have HRC := Lib.hid (show rdC s n = ⟨n, x, !q⟩ by unfold rdC; rw [hx, ← hq]; cases s n <;> rfl); have HLK := Lib.hid (fun W (h : SMap W sb s) => h.ok n hx hq); clear hx hq
              go_upto_region 29 with (fail)
              have hba := (Below.refl wr.heap.size wr).alloc (Nat.le_refl _) (.cells #[.int .i64 n.kind, .string (bs n.owner), .int .i64 n.num, .int .i64 n.idx, .string (bs n.text)] 45); have ZN := Lib.hid (Blk.new wr 45 #[.int .i64 n.kind, .string (bs n.owner), .int .i64 n.num, .int .i64 n.idx, .string (bs n.text)]); have P13 := Lib.hid (P12.out.next hba); have R13 := Lib.hid (OwnP.next R12.out hba); have L13 := Lib.hid (L12.out.next hba); have N13 := Lib.hid (RdP.next N12.out hba); clear y0 y1 y2 y3 y4 hba hnb P12 R12 L12 N12; generalize wr.alloc (.cells #[.int .i64 n.kind, .string (bs n.owner), .int .i64 n.num, .int .i64 n.idx, .string (bs n.text)] 45) = W at *; obtain ⟨cb, hcb⟩ : ∃ cb, wr.heap.size = cb := ⟨_, rfl⟩; rw [hcb] at ZN ⊢; clear hcb; have z0 := ZN.out.cell 0; have z1 := ZN.out.cell 1; have z2 := ZN.out.cell 2; have z3 := ZN.out.cell 3; have z4 := ZN.out.cell 4; have a4 := P13.out.ab.cell 4; simp only [qB, qC, qD] at z0 z1 z2 z3 z4 a4; have hlk := HLK.out W (HS.out.next P13.out.fr)
              unfold nmV nmA at hlk
              obtain ⟨A3, c3, rfl, hc3⟩ := own_len R13.out; have HLN := Lib.hid (show ((S.take g).map (rdC s)).length ≤ 10 by rw [List.length_map, List.length_take]; omega); obtain ⟨L, hL⟩ : ∃ L, (S.take g).map (rdC s) = L := ⟨_, rfl⟩; have HL := Lib.hid hL; rw [hL] at R13 HLN hc3 a4 P13; clear hL; have hLl := HLN.out
              go_upto_region 30 with (fail)
              clear hlk; have hba := (Below.refl W.heap.size W).alloc (Nat.le_refl _) (.cells #[.int .i64 n.kind, .string (bs n.owner), .int .i64 n.num, .int .i64 n.idx, .string (bs n.text), .string (bs x), .bool (!q)] 92); have PV := Lib.hid (P13.out.next hba); have RV := Lib.hid (OwnP.next R13.out hba); have LV := Lib.hid (L13.out.next hba); have NV := Lib.hid (RdP.next N13.out hba); have ZV := Lib.hid (ZN.out.next hba ZN.out.lt); have hws := P13.out.fr.size; have habl := P13.out.ab.lt; obtain ⟨i0, hi, hz0, hz1, hz2⟩ := info_parts infoCh
              go_wp2_with (at_builtin; refine wpList_append_w _ rfl _ _ _ rfl w.heap.size 92 i0 _ 7 80 Tryz.underlying36 hi hz0 hz1 hz2 rfl (by omega) (.slice A3 L.length c3) L.length (L.flatMap chC) rfl RV.out (.slice (some ⟨W.heap.size, 0, none⟩) 1 1) 1 [.int .i64 n.kind, .string (bs n.owner), .int .i64 n.num, .int .i64 n.idx, .string (bs n.text), .string (bs x), .bool (!q)] (by rfl) (Rd.of_own (own_new W 0 92 7 [.int .i64 n.kind, .string (bs n.owner), .int .i64 n.num, .int .i64 n.idx, .string (bs n.text), .string (bs x), .bool (!q)] rfl (Nat.zero_le _))) (by omega) (by rfl) (by simp [Value.oneCell']) (by unfold maxLen; omega) (by omega) (by simp; omega) ?_; intro v8 w8 hown8 hg8 hat8; obtain ⟨A8, c8, rfl, _⟩ := own_len hown8; have hA8 := PV.out.ab.grown hg8 (own_apart_blk47 RV.out PV.out.ab (by decide)); have hZ8 := ZV.out.grown hg8 (own_apart_blk47 RV.out ZV.out (by decide)); have HO8 := Lib.hid hown8; have HG8 := Lib.hid hg8; have HA8 := Lib.hid hA8; have L8 := Lib.hid (LV.out.same (hg8.block _ LV.out.lt (fun e => own_not_mapAt RV.out LV.out e.symm))); have N8 := Lib.hid (Rd.far NV.out RV.out hg8 (by decide)); have r4 := hA8.cell 4; have rf := hA8.frozen 4; have e0 := hZ8.cell 0; have e1 := hZ8.cell 1; have e2 := hZ8.cell 2; have e3 := hZ8.cell 3; have e4 := hZ8.cell 4; (simp only [qB, qC, qD] at r4 e0 e1 e2 e3 e4); clear hown8 hg8 hat8 hA8 hZ8)
              clear z0 z1 z2 z3 z4; have HB9 := Lib.hid (PV.out.fr.grown HG8.out PV.out.fr.size (fun k hk => own_ge RV.out hk)); have hnab := own_blk_ne HO8.out HA8.out (by decide); have P15 : Hid (PB w k d (w8.setCell ⟨w.heap.size + 1 + 1 + 1, 4, none⟩ (.slice A8 (L.length + 1) c8)) (.slice A8 (L.length + 1) c8) (.slice none 0 0)) := Lib.hid {
                fr := HB9.out.setCell (p := ⟨w.heap.size + 1 + 1 + 1, 4, none⟩) (by show w.heap.size ≤ w.heap.size + 1 + 1 + 1; omega) _
                kb := (PV.out.kb.grown HG8.out (own_apart_blk47 RV.out PV.out.kb (by decide))).far (by show w.heap.size ≠ w.heap.size + 1 + 1 + 1; omega) _
                db := (PV.out.db.grown HG8.out (own_apart_blk47 RV.out PV.out.db (by decide))).far (by show w.heap.size + 1 ≠ w.heap.size + 1 + 1 + 1; omega) _
                rb := (PV.out.rb.grown HG8.out (own_apart_blk47 RV.out PV.out.rb (by decide))).far (by show w.heap.size + 1 + 1 ≠ w.heap.size + 1 + 1 + 1; omega) _
                ab := HA8.out.set_ 4 _ }
              have R15 : Hid (OwnP 92 7 chC (w8.setCell ⟨w.heap.size + 1 + 1 + 1, 4, none⟩ (.slice A8 (L.length + 1) c8)) w.heap.size (.slice A8 (L.length + 1) c8) ((S.take (g + 1)).map (rdC s))) := Lib.hid (by
                rw [HTK.out, List.map_append, HL.out, List.map_singleton, HRC.out]
                refine OwnP.snoc (own_same HO8.out fun z hz => Below.heap_setCell w8 ⟨w.heap.size + 1 + 1 + 1, 4, none⟩ _ _ (fun e => hnab (hz.trans (congrArg some e))))
              )
              have L15 : Hid (SMapL (w8.setCell ⟨w.heap.size + 1 + 1 + 1, 4, none⟩ (.slice A8 (L.length + 1) c8)) mw (wrs s k d)) := Lib.hid ((L8.out).same (Below.heap_setCell w8 ⟨w.heap.size + 1 + 1 + 1, 4, none⟩ _ _ (fun e => L8.out.noCells HA8.out (congrArg some e.symm)))); have N15 : Hid (RdNm (w8.setCell ⟨w.heap.size + 1 + 1 + 1, 4, none⟩ (.slice A8 (L.length + 1) c8)) (.slice (some ⟨nb, no, none⟩) S.length c11) S) := Lib.hid (Rd.blk N8.out HA8.out (only_setCell (only_of_below (Below.refl _ _) _) (.inl rfl) _) (by decide)); clear r4 a4 hws habl hnab
              go_roundw
              case rel => exact ⟨g + 1, by omega, by go_num, _, P15.out, R15.out, L15.out, N15.out⟩
              case measure => simp [intOf]; omega
            · have j2 : decide ((g : Int) < (S.length : Int)) = false := decide_eq_false (by omega)
              have HGE := Lib.hid (show S.take g = S by rw [List.take_of_length_le (by omega)]); rw [HGE.out] at R12; obtain ⟨RR, hRR⟩ : ∃ RR, S.map (rdC s) = RR := ⟨_, rfl⟩; have HRR : Hid (RR = (prf s k d).reads) := Lib.hid (by rw [← hRR, ← HSS.out]; rfl); rw [hRR] at R12; obtain ⟨ents, hents⟩ : ∃ ents, (wrs s k d).map (fun p => (p.1, Value.string (bs p.2))) = ents := ⟨_, rfl⟩; have HEK : Hid (ents.map Prod.fst = (wrs s k d).map Prod.fst) := Lib.hid (by rw [← hents, List.map_map]; rfl); have HEN := Lib.hid hents
              have hel : ents.length ≤ 12 := by rw [← hents, List.length_map]; exact Nat.le_trans HWD.out.1 (by omega)
              have hM := L12.out
              unfold SMapL at hM
              rw [hents] at hM; have HM := Lib.hid hM; obtain ⟨i0, hi, hz0, hz1, hz2⟩ := info_parts infoNm; clear hM hents hRR N12 L12 HSS HGE; obtain ⟨wb, rfl⟩ : ∃ wb, wb = wr := ⟨_, rfl⟩
              go_wp2_with (at_range; refine wpList_range_nm _ rfl _ _ rfl Tryz.underlying57 mw ents rfl HM.out ?_; intro w7 hit7 hb7 hs7; have HIT7 := Lib.hid hit7; have HB7 := Lib.hid hb7; clear hit7 hb7 hs7)
              try go_frame
              obtain ⟨r, hr⟩ : ∃ r, wb.heap.size = r := ⟨_, rfl⟩; have HRG : Hid (wb.heap.size ≤ r) := Lib.hid (by omega); rw [hr] at HIT7 ⊢; have P12r := P12.out; have H0 : Hid (keyRel ents mw r wb (.slice none 0 0) w7) := Lib.hid ⟨[], ents, HIT7.out, List.Perm.refl _, World.ownsRow_nil _ _ _ _, HB7.out⟩; clear hr P12r
              go_loopw [20] (fun v wr => keyRel ents mw r wb v wr) (fun _ wr => wr.rangeLeft mw r)
              case atStart => exact H0.out
              case round =>
                clear H0; obtain ⟨seen, left, hit, hpm, hown, hbw⟩ := hrel
                have hsl : seen.length + left.length = ents.length := by
                  have := hpm.length_eq
                  simpa using this
                have HIT := Lib.hid hit; have HPM := Lib.hid hpm; have HBW := Lib.hid hbw
                have hLl : seen.length ≤ 12 := by omega
                have HO := Lib.hid hown; obtain ⟨A3, c3, rfl, hc3⟩ := own_len hown; clear hit hpm hown hbw
                go_wp2_with (at_next; refine wpList_next_nm _ rfl _ rfl mw r ents left rfl HIT.out ?_ ?_)
                · intro hleft
                  have HPE : Hid (seen.Perm ((wrs s k d).map Prod.fst)) := Lib.hid (by have := HPM.out; rw [hleft, HEK.out] at this; simpa using this); clear hleft; have P16 := Lib.hid (P12.out.next (HBW.out.mono (Nat.le_refl _))); have R16 := Lib.hid (OwnP.next R12.out HBW.out); have M16 := Lib.hid (HM.out.next HBW.out)
                  have ho16 : ∀ n ∈ seen, OwnE n := fun n hn => by
                    have := HPE.out.mem_iff.1 hn; obtain ⟨p, hp, rfl⟩ := List.mem_map.1 this
                    exact IsOb.own (HWD.out.2.2 p hp).1
                  have hob : ∀ n ∈ (wrs s k d).map Prod.fst, n ∈ objs := fun n hn => by
                    obtain ⟨p, hp, rfl⟩ := List.mem_map.1 hn
                    exact (HWD.out.2.2 p hp).1
                  have HSU := Lib.hid (sortU_perm ordN (ob_own hob) HPE.out); have HSO := Lib.hid (sort2_is (Rd.of_own HO.out) hLl ho16); have htl := sortU_len hob; clear ho16 hob HPE HPM HO P12 R12 HM HIT hc3
                  go_wp2_with fail
                  go_at_call 39
                  refine HSO.out.mono ?_
                  rintro e wB ⟨v17, rfl, hown, hb⟩; rw [HSU.out] at hown; have hrn : RdNm wB v17 (sortU cmpN ((wrs s k d).map Prod.fst)) := Rd.of_own hown; obtain ⟨T, hT⟩ : ∃ T, sortU cmpN ((wrs s k d).map Prod.fst) = T := ⟨_, rfl⟩; rw [hT] at hrn htl; have HTT : Hid (T.map (wrC (wrs s k d)) = (prf s k d).writes) := Lib.hid (by rw [← hT]; rfl); obtain ⟨A17, c17, rfl, hc17⟩ := RdP.form hrn; have N17 := Lib.hid hrn; have P17 := Lib.hid (P16.out.next hb); have R17 := Lib.hid (OwnP.next R16.out hb); have M17 := Lib.hid (M16.out.next hb); have hws := P17.out.fr.size; have hab := P17.out.ab.lt; have H0 : Hid (p4Rel w wB s k d rv T (.int .i64 (0 : Nat)) wB) := Lib.hid ⟨0, Nat.zero_le _, rfl, _, Outer.refl _ _, P17.out.ab, OwnP.nil⟩; clear hown hb hrn hT P16 R16 M16 HSO HSU
                  go_wp2_with fail
                  go_loopw [159] (fun i wr => p4Rel w wB s k d rv T i wr) (fun i _ => T.length - (intOf i).toNat)
                  case atStart => exact H0.out
                  case round =>
                    clear H0; obtain ⟨m4, hml4, rfl, wv, hOT, hAB, hWV⟩ := hrel
                    by_cases hg4 : m4 < T.length
                    · have j0 : (0 : Int) ≤ (m4 : Int) := by omega
                      have j1 : (m4 : Int) < (T.length : Int) := by omega
                      have j2 : decide ((m4 : Int) < (T.length : Int)) = true := decide_eq_true j1; have hwsB := hOT.size; have hrn := rd_out_ N17.out hOT (f47_cells P17.out.ab (by decide) (Nat.le_refl _)); obtain ⟨nb, no, hbe, hnb, y0, y1, y2, y3, y4⟩ := RdNm.piece hrn hg4; subst hbe; have HTK := Lib.hid (show T.take (m4 + 1) = T.take m4 ++ [T[m4]] from List.take_succ_eq_append_getElem hg4); obtain ⟨n, hn⟩ : ∃ n, T[m4] = n := ⟨_, rfl⟩; rw [hn] at y0 y1 y2 y3 y4 HTK; clear hn hrn; obtain ⟨x, hx⟩ : ∃ x, (lookM n (wrs s k d)).getD [] = x := ⟨_, rfl⟩; have HRC := Lib.hid (show wrC (wrs s k d) n = ⟨n, x, false⟩ by unfold wrC; rw [hx]); have HLK := Lib.hid (fun W (h : MapAt W mw ents) => (show SMapL W mw (wrs s k d) by unfold SMapL; rw [HEN.out]; exact h).look n hx); have hmwB := M17.out.lt
                      have hmab : mw ≠ w.heap.size + 1 + 1 + 1 := fun e => M17.out.noCells P17.out.ab (congrArg some e.symm)
                      have M18 := Lib.hid (M17.out.same (hOT.block mw hmwB (fun hf => by rcases hf with e | e; exact hmab e; omega))); have OT := Lib.hid hOT; clear hx hOT
                      go_upto_region 40 with (fail)
                      have hba := (Below.refl wr.heap.size wr).alloc (Nat.le_refl _) (.cells #[.int .i64 n.kind, .string (bs n.owner), .int .i64 n.num, .int .i64 n.idx, .string (bs n.text)] 45); have ZN := Lib.hid (Blk.new wr 45 #[.int .i64 n.kind, .string (bs n.owner), .int .i64 n.num, .int .i64 n.idx, .string (bs n.text)]); have AB := Lib.hid (hAB.next hba hAB.lt); have WV := Lib.hid (OwnP.next hWV hba); have OT2 := Lib.hid (out_next OT.out hba); have M19 := Lib.hid (M18.out.next hba); clear y0 y1 y2 y3 y4 hba hnb hAB hWV OT M18; have hwsW : wB.heap.size ≤ (wr.alloc (.cells #[.int .i64 n.kind, .string (bs n.owner), .int .i64 n.num, .int .i64 n.idx, .string (bs n.text)] 45)).heap.size := OT2.out.size; generalize wr.alloc (.cells #[.int .i64 n.kind, .string (bs n.owner), .int .i64 n.num, .int .i64 n.idx, .string (bs n.text)] 45) = W at *; obtain ⟨cb, hcb⟩ : ∃ cb, wr.heap.size = cb := ⟨_, rfl⟩
                      have hcbB : wB.heap.size ≤ cb := by rw [← hcb]; exact hwsB
                      rw [hcb] at ZN ⊢; clear hcb; have z0 := ZN.out.cell 0; have z1 := ZN.out.cell 1; have z2 := ZN.out.cell 2; have z3 := ZN.out.cell 3; have z4 := ZN.out.cell 4; have a5 := AB.out.cell 5; simp only [qB, qC, qD] at z0 z1 z2 z3 z4 a5; obtain ⟨A3, c3, rfl, hc3⟩ := own_len WV.out; have HLN := Lib.hid (show ((T.take m4).map (wrC (wrs s k d))).length ≤ 10 by rw [List.length_map, List.length_take]; omega); obtain ⟨L, hL⟩ : ∃ L, (T.take m4).map (wrC (wrs s k d)) = L := ⟨_, rfl⟩; have HL := Lib.hid hL; rw [hL] at WV HLN hc3 a5 AB; clear hL; have hLl := HLN.out
                      have hlk0 := fun W' (h : W'.heap[mw]? = W.heap[mw]?) => HLK.out W' (M19.out.same h)
                      unfold nmV nmA at hlk0
                      have hba := ((Below.refl W.heap.size W).alloc (Nat.le_refl _) (.cells #[.int .i64 n.kind, .string (bs n.owner), .int .i64 n.num, .int .i64 n.idx, .string (bs n.text), .string (bs x), .bool false] 92)).drew; have ABV := Lib.hid (AB.out.next hba AB.out.lt); have WVV := Lib.hid (OwnP.next WV.out hba); have ZV := Lib.hid (ZN.out.next hba ZN.out.lt); have MV := Lib.hid (M19.out.next hba); have OTV := Lib.hid (out_next OT2.out hba); have hmV := hba.block mw M19.out.lt; obtain ⟨i1, hi1, hy0, hy1, hy2⟩ := info_parts infoCh; have hW1 : wB.heap.size ≤ W.heap.size + 1 := Nat.le_trans hwsW (Nat.le_succ _)
                      refine wp_region_noPanic ?_
                      refine wp_region_last (S := (fun (w' : World) => w'.cell? ⟨w.heap.size + 1 + 1 + 1, 5, none⟩ = some (.slice A3 L.length c3) ∧ w'.cell? ⟨cb, 0, none⟩ = some (.int .i64 n.kind) ∧ w'.cell? ⟨cb, 1, none⟩ = some (.string (bs n.owner)) ∧ w'.cell? ⟨cb, 2, none⟩ = some (.int .i64 n.num) ∧ w'.cell? ⟨cb, 3, none⟩ = some (.int .i64 n.idx) ∧ w'.cell? ⟨cb, 4, none⟩ = some (.string (bs n.text)) ∧ w'.heap[mw]? = W.heap[mw]?)) 10 10 rfl (by kernel_rfl) (by kernel_rfl) ?_ (fun hHeld => ?_)
                      · exact ⟨a5, z0, z1, z2, z3, z4, rfl⟩
                      refine tk (v := ?_) 0 rfl (by kernel_rfl) (fun _ _ _ h => h) ?_ hHeld ?_; rotate_left
                      · (intro w h; (try dsimp only at h); go_simp; try with_reducible rfl)
                      try simp only [Act.put, pB, pC, pD]
                      refine tk (v := ?_) 1 rfl (by kernel_rfl) (fun _ _ _ h => h) ?_ hHeld ?_; rotate_left
                      · (intro w h; (try dsimp only at h); go_simp; try with_reducible rfl)
                      try simp only [Act.put, pB, pC, pD]
                      refine tk (v := ?_) 2 rfl (by kernel_rfl) (fun _ _ _ h => h) ?_ hHeld ?_; rotate_left
                      · (intro w h; (try dsimp only at h); go_simp; try with_reducible rfl)
                      try simp only [Act.put, pB, pC, pD]
                      refine tk (v := ?_) 3 rfl (by kernel_rfl) (fun _ _ _ h => h) ?_ hHeld ?_; rotate_left
                      · (intro w h; (try dsimp only at h); go_simp; try with_reducible rfl)
                      try simp only [Act.put, pB, pC, pD]
                      refine tk (v := ?_) 4 rfl (by kernel_rfl) (fun _ _ _ h => h) ?_ hHeld ?_; rotate_left
                      · (intro w h; (try dsimp only at h); go_simp; try with_reducible rfl)
                      try simp only [Act.put, pB, pC, pD]
                      refine tk (v := ?_) 5 rfl (by kernel_rfl) (fun _ _ _ h => h) ?_ hHeld ?_; rotate_left
                      · (intro w h; (try dsimp only at h); go_simp; try with_reducible rfl)
                      try simp only [Act.put, pB, pC, pD]
                      refine tk (v := ?_) 6 rfl (by kernel_rfl) (fun _ _ _ h => h) ?_ hHeld ?_; rotate_left
                      · (intro w h; (try dsimp only at h); go_simp; try with_reducible rfl)
                      try simp only [Act.put, pB, pC, pD]
                      refine wpAnyH_ready (rs := [7]) (by kernel_rfl) (by simp) ?_; refine AllReadyH.cons rfl (fun K hK => ?_) AllReadyH.nil; go_simp
                      refine hK.out _ _ ?_ (fun hNew => ?_)
                      · exact ⟨(World.cell?_alloc_lt W _ _ AB.out.lt).trans a5, (World.cell?_alloc_lt W _ _ ZN.out.lt).trans z0, (World.cell?_alloc_lt W _ _ ZN.out.lt).trans z1, (World.cell?_alloc_lt W _ _ ZN.out.lt).trans z2, (World.cell?_alloc_lt W _ _ ZN.out.lt).trans z3, (World.cell?_alloc_lt W _ _ ZN.out.lt).trans z4, hmV⟩
                      clear hK K hHeld; have hHeld := hNew; clear hNew; try simp only [Act.put, pB, pC, pD]
                      refine wpAnyH_ready (rs := [8]) (by kernel_rfl) (by simp) ?_; refine AllReadyH.cons rfl (fun K hK => ?_) AllReadyH.nil
                      refine step_append_w _ (by rfl) _ _ _ (by rfl) wB.heap.size 92 i1 _ 7 80 Tryz.underlying36 hi1 hy0 hy1 hy2 rfl (by omega) (.slice A3 L.length c3) L.length (L.flatMap chC) (by rfl) WVV.out (.slice (some ⟨W.heap.size, 0, none⟩) 1 1) 1 [.int .i64 n.kind, .string (bs n.owner), .int .i64 n.num, .int .i64 n.idx, .string (bs n.text), .string (bs x), .bool false] (by rfl) (Rd.of_own (own_new W 0 92 7 [.int .i64 n.kind, .string (bs n.owner), .int .i64 n.num, .int .i64 n.idx, .string (bs n.text), .string (bs x), .bool false] rfl (Nat.zero_le _))) (by omega) (by rfl) (by simp [Value.oneCell']) (by unfold maxLen; omega) (by omega) (by simp; omega) ?_; intro v8 w8 hown8 hg8 hat8; obtain ⟨A8, c8, rfl, _⟩ := own_len hown8; have hA8 := ABV.out.grown hg8 (own_apart_blk47 WVV.out ABV.out (by decide)); have hZ8 := ZV.out.grown hg8 (own_apart_blk47 WVV.out ZV.out (by decide)); have HO8 := Lib.hid hown8; have HA8 := Lib.hid hA8; have OT8 := Lib.hid (out_step OTV.out (Outer.of_grown hg8 (fun g hg => .inr (own_ge WVV.out hg)))); have hm8 := (hg8.block mw MV.out.lt (fun e => own_not_mapAt WVV.out MV.out e.symm)).trans hmV; have r5 := hA8.cell 5; have rf := hA8.frozen 5; have e0 := hZ8.cell 0; have e1 := hZ8.cell 1; have e2 := hZ8.cell 2; have e3 := hZ8.cell 3; have e4 := hZ8.cell 4; (simp only [qB, qC, qD] at r5 e0 e1 e2 e3 e4); clear hown8 hg8 hat8 hA8 hZ8
                      refine hK.out _ _ ?_ (fun hNew => ?_)
                      · exact ⟨r5, e0, e1, e2, e3, e4, hm8⟩
                      clear hK K hHeld; have hHeld := hNew; clear hNew; try simp only [Act.put, pB, pC, pD]
                      refine tk (v := ?_) 9 rfl (by kernel_rfl) (fun _ _ _ h => h) ?_ hHeld ?_; rotate_left
                      · (intro w h; (try dsimp only at h); go_simp; try with_reducible rfl)
                      try simp only [Act.put, pB, pC, pD]
                      refine wpAnyH_done (by kernel_rfl) ?_ _
                      refine lastQ_step rfl (fun K hK => ?_)
                      clear hHeld; go_simp
                      refine hK _ _ ?_
                      clear hK K
                      refine NoPanic.normal ?_
                      have OT9 : Hid (Outer (F47 (w.heap.size + 1 + 1 + 1) wB.heap.size) wB (w8.setCell ⟨w.heap.size + 1 + 1 + 1, 5, none⟩ (.slice A8 (L.length + 1) c8))) := Lib.hid (out_step OT8.out (Outer.of_grown (row := some (w.heap.size + 1 + 1 + 1)) (only_setCell (only_of_below (Below.refl _ _) _) (.inl rfl) _) (fun g hg => .inl (by injection hg with hg; exact hg.symm))))
                      have W9 : Hid (OwnP 92 7 chC (w8.setCell ⟨w.heap.size + 1 + 1 + 1, 5, none⟩ (.slice A8 (L.length + 1) c8)) wB.heap.size (.slice A8 (L.length + 1) c8) ((T.take (m4 + 1)).map (wrC (wrs s k d)))) := Lib.hid (by
                        rw [HTK.out, List.map_append, HL.out, List.map_singleton, HRC.out]
                        refine OwnP.snoc (own_same HO8.out fun z hz => Below.heap_setCell w8 ⟨w.heap.size + 1 + 1 + 1, 5, none⟩ _ _ (fun e => by have := own_ge HO8.out hz; have e2 : z = w.heap.size + 1 + 1 + 1 := e; omega)))
                      have A9 := Lib.hid (HA8.out.set_ 5 (.slice A8 (L.length + 1) c8)); clear r5 e0 e1 e2 e3 e4 z0 z1 z2 z3 z4 a5 hlk0 hmV hm8 hW1
                      go_wp2_with fail
                      go_roundw
                      case rel => exact ⟨m4 + 1, by omega, by go_num, _, OT9.out, A9.out, W9.out⟩
                      case measure => simp [intOf]; omega
                    · have j2 : decide ((m4 : Int) < (T.length : Int)) = false := decide_eq_false (by omega)
                      have HGE := Lib.hid (show T.take m4 = T by rw [List.take_of_length_le (by omega)]); rw [HGE.out] at hWV; obtain ⟨wD, rfl⟩ : ∃ wD, wD = wr := ⟨_, rfl⟩; have hsbw := HS.out.lt; have hmwB := M17.out.lt; have hsD := hOT.size
                      have hmab : mw ≠ w.heap.size + 1 + 1 + 1 := fun e => M17.out.noCells P17.out.ab (congrArg some e.symm)
                      have M20 := Lib.hid (M17.out.same (hOT.block mw hmwB (fun hf => by rcases hf with e | e; exact hmab e; omega))); have S20 := Lib.hid ((HS.out.next P17.out.fr).same (hOT.block sb (by omega) (fun hf => by rcases hf with e | e <;> omega))); have OT := Lib.hid hOT; have AB := Lib.hid hAB; have WV := Lib.hid hWV; have RB := Lib.hid (P17.out.rb.out_ hOT (fun hf => by have := P17.out.rb.lt; rcases hf with e | e <;> omega)); have KPW := Lib.hid HWD.out.2.1; clear hOT hAB hWV HGE hml4 N17
                      go_wp2_with (at_range; refine wpList_range_nm _ rfl _ _ rfl Tryz.underlying57 mw ents rfl M20.out ?_; intro w7b hit7 hb7 hs7; have HIT7b := Lib.hid hit7; have HB7b := Lib.hid hb7; clear hit7 hb7 hs7)
                      try go_frame
                      obtain ⟨r2, hr2⟩ : ∃ r2, wD.heap.size = r2 := ⟨_, rfl⟩; have HR2 := Lib.hid hr2; rw [hr2] at HIT7b ⊢; have H0 : Hid (p5Rel wD sb mw r2 s ents w7b) := Lib.hid ⟨[], ents, HIT7b.out, List.Perm.refl _, S20.out.next HB7b.out, Outer.of_below HB7b.out⟩; clear hr2
                      go_loopw [25] (fun _ wr => p5Rel wD sb mw r2 s ents wr) (fun _ wr => wr.rangeLeft mw r2)
                      case atStart => exact H0.out
                      case round =>
                        clear H0; obtain ⟨seen5, left5, hit5, hpm5, hsm5, hot5⟩ := hrel; have IT5 := Lib.hid hit5; have PM5 := Lib.hid hpm5; have SM5 := Lib.hid hsm5; have OT5 := Lib.hid hot5; clear hit5 hpm5 hsm5 hot5
                        go_wp2_with (at_next; refine wpList_next_nm _ rfl _ rfl mw r2 ents left5 rfl IT5.out ?_ ?_)
                        · intro hleft5
                          have HPD := Lib.hid (put_done s (seen := seen5) (W := wrs s k d) (by have := PM5.out; rw [hleft5, List.append_nil, ← HEN.out] at this; exact this) KPW.out); clear hleft5; obtain ⟨WW, hWW⟩ : ∃ WW, T.map (wrC (wrs s k d)) = WW := ⟨_, rfl⟩; rw [hWW] at WV HTT; clear hWW; have hsbw := HS.out.lt; have hab0 := P17.out.ab.lt; have hrb0 := P17.out.rb.lt; have hsD := OT.out.size; have AB5 := Lib.hid (AB.out.out_ OT5.out (fun hf => by rcases hf with e | e <;> omega)); have RB5 := Lib.hid (RB.out.out_ OT5.out (fun hf => by rcases hf with e | e <;> omega)); have R20 := Lib.hid (rd_out_ (show RdCh wB rv RR from Rd.of_own R17.out) OT.out (f47_cells P17.out.ab (by decide) (Nat.le_refl _))); have hsbD := S20.out
                          have hfc : ∀ i cs fr, i < wD.heap.size → F47 sb wD.heap.size i → wD.heap[i]? ≠ some (.cells cs 92 fr) := by
                            intro i cs fr hi hf
                            rcases hf with rfl | hf
                            · exact hsbD.isMap
                            · omega
                          have R21 := Lib.hid (rd_out_ R20.out OT5.out hfc); have W21 := Lib.hid (rd_out_ (show RdCh wD wv WW from Rd.of_own WV.out) OT5.out hfc); have S21 := Lib.hid (SM5.out.congr (s' := nxtS s k d) HPD.out); have a0 := AB5.out.cell 0; have a1 := AB5.out.cell 1; have a2 := AB5.out.cell 2; have a3 := AB5.out.cell 3; have a4 := AB5.out.cell 4; have a5 := AB5.out.cell 5; have b0 := RB5.out.cell 0; have b1 := RB5.out.cell 1; have b2 := RB5.out.cell 2; have b3 := RB5.out.cell 3; have b4 := RB5.out.cell 4; have b5 := RB5.out.cell 5; have f0 := RB5.out.frozen 0; have f1 := RB5.out.frozen 1; have f2 := RB5.out.frozen 2; have f3 := RB5.out.frozen 3; have f4 := RB5.out.frozen 4; have f5 := RB5.out.frozen 5; simp only [qB, qC, qD] at a0 a1 a2 a3 a4 a5 b0 b1 b2 b3 b4 b5; obtain ⟨Ar, cr, rfl, _⟩ := RdP.form R21.out; obtain ⟨Aw, cw, rfl, _⟩ := RdP.form W21.out; clear hfc hsbD
                          go_wp2_with fail
                          clear a0 a1 a2 a3 a4 a5 b0 b1 b2 b3 b4 b5 f0 f1 f2 f3 f4 f5; obtain ⟨hb6, hg6⟩ := set6_ (.int .i64 k.tick) (.int .i64 k.cls) (.int .i64 k.num) (.string (bs k.lin)) (.slice Ar RR.length cr) (.slice Aw WW.length cw) RB5.out; have q0 := hb6.cell 0; have q1 := hb6.cell 1; have q2 := hb6.cell 2; have q3 := hb6.cell 3; have q4 := hb6.cell 4; have q5 := hb6.cell 5; simp only [qB, qC, qD] at q0 q1 q2 q3 q4 q5; clear hb6; have R22 := Lib.hid (Rd.blk R21.out RB5.out hg6 (by decide)); have W22 := Lib.hid (Rd.blk W21.out RB5.out hg6 (by decide)); have hsb5 := SM5.out.lt; have S22 := Lib.hid (S21.out.same (hg6.block sb hsb5 (fun e => by injection e with e; omega))); have hws := P17.out.fr.size; have OF : Hid (Outer (fun i => i = sb) w ((((((wr.setCell ⟨w.heap.size + 1 + 1, 0, none⟩ (.int .i64 k.tick)).setCell ⟨w.heap.size + 1 + 1, 1, none⟩ (.int .i64 k.cls)).setCell ⟨w.heap.size + 1 + 1, 2, none⟩ (.int .i64 k.num)).setCell ⟨w.heap.size + 1 + 1, 3, none⟩ (.string (bs k.lin))).setCell ⟨w.heap.size + 1 + 1, 4, none⟩ (.slice Ar RR.length cr)).setCell ⟨w.heap.size + 1 + 1, 5, none⟩ (.slice Aw WW.length cw))) := Lib.hid {
                            os := hg6.os.trans (OT5.out.os.trans (OT.out.os.trans P17.out.fr.os))
                            tape := hg6.tape.trans (OT5.out.tape.trans (OT.out.tape.trans P17.out.fr.tape))
                            output := hg6.output.trans (OT5.out.output.trans (OT.out.output.trans P17.out.fr.output))
                            size := Nat.le_trans (Nat.le_trans (Nat.le_trans hws hsD) OT5.out.size) hg6.size
                            block := fun i hi hf => by
                              have h1 : i ≠ sb := hf; have h2 := hg6.block i (by have := OT5.out.size; omega) (fun e => by injection e with e; omega); have h3 := OT5.out.block i (by omega) (fun hf => by rcases hf with e | e <;> omega); have h4 := OT.out.block i (by omega) (fun hf => by rcases hf with e | e <;> omega); have h5 := P17.out.fr.block i hi
                              exact h2.trans (h3.trans (h4.trans h5)) }
                          clear hg6; have HKEY := Lib.hid (show (prf s k d).key = k from rfl); generalize ((((((wr.setCell ⟨w.heap.size + 1 + 1, 0, none⟩ (.int .i64 k.tick)).setCell ⟨w.heap.size + 1 + 1, 1, none⟩ (.int .i64 k.cls)).setCell ⟨w.heap.size + 1 + 1, 2, none⟩ (.int .i64 k.num)).setCell ⟨w.heap.size + 1 + 1, 3, none⟩ (.string (bs k.lin))).setCell ⟨w.heap.size + 1 + 1, 4, none⟩ (.slice Ar RR.length cr)).setCell ⟨w.heap.size + 1 + 1, 5, none⟩ (.slice Aw WW.length cw)) = w30 at *; have hread : NAc w30 (.slice Ar RR.length cr, .slice Aw WW.length cw) (prf s k d) := ⟨by rw [← HRR.out]; exact R22.out, by rw [← HTT.out]; exact W22.out⟩; have HRE := Lib.hid hread; have HFIN : Hid (∃ u1 u2, Ending.returned (.agg #[.int .i64 k.tick, .int .i64 k.cls, .int .i64 k.num, .string (bs k.lin), .slice Ar RR.length cr, .slice Aw WW.length cw]) = Ending.returned (.agg #[.int .i64 (prf s k d).key.tick, .int .i64 (prf s k d).key.cls, .int .i64 (prf s k d).key.num, .string (bs (prf s k d).key.lin), u1, u2]) ∧ NAc w30 (u1, u2) (prf s k d) ∧ SMap w30 sb (nxtS s k d) ∧ Outer (fun i => i = sb) w w30) := Lib.hid ⟨.slice Ar RR.length cr, .slice Aw WW.length cw, by rw [HKEY.out], HRE.out, S22.out, OF.out⟩; clear hread; obtain ⟨rbn, hrbn⟩ : ∃ rbn, w.heap.size + 1 + 1 = rbn := ⟨_, rfl⟩; rw [hrbn] at q0 q1 q2 q3 q4 q5 ⊢; clear hrbn
                          exact bodyPost_ret (v := .agg #[.int .i64 k.tick, .int .i64 k.cls, .int .i64 k.num, .string (bs k.lin), .slice Ar RR.length cr, .slice Aw WW.length cw]) (by simp [results, Tryz.results15, go_sem, q0, q1, q2, q3, q4, q5]) rfl HFIN.out
                        · intro n v left' w8 hpm2 hpe hit8 hg8 hs8 hen8
                          rw [← HEN.out] at hpe; obtain ⟨qq, hqm, hqe⟩ := List.mem_map.1 hpe; obtain ⟨n1, x1⟩ := qq
                          simp only [Prod.mk.injEq] at hqe
                          obtain ⟨rfl, rfl⟩ := hqe; have hr2ge := HR2.out; have S8 := Lib.hid (SM5.out.same (hg8.block sb SM5.out.lt (fun e => by injection e with e; omega))); have OT8 := Lib.hid (out_step OT5.out (Outer.of_grown hg8 (fun g hg => .inr (by injection hg with hg; omega)))); have IT8 := Lib.hid hit8; have HS8 := Lib.hid hs8; have PM8 : Hid ((seen5.map encS ++ encS (n1, x1) :: left').Perm ents) := Lib.hid ((List.Perm.append_left _ hpm2.symm).trans PM5.out); have PM2 := Lib.hid hpm2.length_eq
                          have hkn : ∀ p ∈ seen5, p.1 ≠ n1 := by
                            have h1 : ((seen5.map encS ++ encS (n1, x1) :: left').map Prod.fst).Nodup := by
                              rw [(PM8.out.map Prod.fst).nodup_iff, HEK.out]
                              unfold List.Nodup
                              rw [List.pairwise_map]
                              exact KPW.out
                            rw [List.map_append, List.nodup_append] at h1
                            intro p hp e
                            exact h1.2.2 p.1 (List.mem_map.2 ⟨encS p, List.mem_map.2 ⟨p, hp, rfl⟩, rfl⟩) n1 (by simp [encS]) e
                          have HKN := Lib.hid hkn; have hb89 := (Below.refl w8.heap.size w8).alloc (Nat.le_refl _) (.cells #[.int .i64 n1.kind, .string (bs n1.owner), .int .i64 n1.num, .int .i64 n1.idx, .string (bs n1.text)] 45); obtain ⟨w10, hput, hbm, hg10⟩ := (S8.out.next hb89).put n1 x1; have IT9 := IT8.out.next hb89; have IT10 := Lib.hid (IT9.grown hg10 (fun e => by injection e with e; have := HMW.out; omega) (fun e => by injection e with e; omega)); have S10 := Lib.hid (hbm.congr (putS_snoc s seen5 n1 x1 HKN.out)); have OT10 := Lib.hid (out_step (out_next OT8.out hb89) (Outer.of_grown hg10 (fun g hg => .inl (by injection hg with hg; exact hg.symm))))
                          simp only [nmV, nmA] at hen8 hput ⊢
                          clear hpm2 hpe hit8 hg8 hs8 hbm hg10 hkn hqm IT9 hb89
                          go_wp2_with fail
                          go_roundw
                          case rel =>
                            refine ⟨seen5 ++ [(n1, x1)], left', IT10.out, ?_, S10.out, OT10.out⟩
                            rw [List.map_append, List.append_assoc]
                            exact PM8.out
                          case measure =>
                            show w10.rangeLeft mw r2 < wr.rangeLeft mw r2
                            rw [IT10.out.size, IT5.out.size, PM2.out]
                            simp
                · intro n v left' w8 hpm2 hpe hit8 hg8 hs8 hen8
                  have HPM2 := Lib.hid hpm2; have HIT8 := Lib.hid hit8; have HS8 := Lib.hid hs8; have ho8 := HO.out.kept hg8 (.inr (fun e1 => (own_not_it HO.out HIT.out).2 e1.symm)); have HO8 := Lib.hid ho8; have HB8 : Hid (Below wb.heap.size wb w8) := Lib.hid (HBW.out.trans ⟨hg8.os, hg8.tape, hg8.output, hg8.size, fun i hi => hg8.block i (Nat.lt_of_lt_of_le hi HBW.out.size) (fun e1 => by injection e1 with e1; have := HRG.out; omega)⟩)
                  simp only [nmV, nmA] at hen8 ⊢
                  have hb89 := (Below.refl w8.heap.size w8).alloc (Nat.le_refl _) (.cells #[.int .i64 n.kind, .string (bs n.owner), .int .i64 n.num, .int .i64 n.idx, .string (bs n.text)] 45); have HB89 := Lib.hid hb89; clear hpm2 hpe hit8 hg8 hs8 hb89 ho8
                  go_wp2_with (at_builtin; refine wpList_append_w _ rfl _ _ _ rfl wb.heap.size 45 i0 _ 5 56 Tryz.underlying98 hi hz0 hz1 hz2 rfl (by omega) (.slice A3 seen.length c3) seen.length (seen.flatMap nmC) rfl (own_next (own_next HO8.out HB89.out) ((Below.refl _ _).alloc (Nat.le_refl _) _)) (.slice (some ⟨w8.heap.size + 1, 0, none⟩) 1 1) 1 [.int .i64 n.kind, .string (bs n.owner), .int .i64 n.num, .int .i64 n.idx, .string (bs n.text)] rfl (by have h := own_new (w8.alloc (.cells #[.int .i64 n.kind, .string (bs n.owner), .int .i64 n.num, .int .i64 n.idx, .string (bs n.text)] 45)) 0 45 5 [.int .i64 n.kind, .string (bs n.owner), .int .i64 n.num, .int .i64 n.idx, .string (bs n.text)] rfl (Nat.zero_le _); rw [World.size_alloc] at h; exact Rd.of_own h) (by omega) rfl (by simp [Value.oneCell']) (by unfold maxLen; omega) (by omega) (by have := HB8.out.size; simp; omega) ?_; intro v5 w10 hown5 hg5 hat5; have HO5 := Lib.hid hown5; have HG5 := Lib.hid hg5; clear hown5 hg5 hat5)
                  clear hen8; have HIT9 := Lib.hid (HIT8.out.next (HB89.out.alloc HB89.out.size (.cells #[.int .i64 n.kind, .string (bs n.owner), .int .i64 n.num, .int .i64 n.idx, .string (bs n.text)] 45))); have HO9 := Lib.hid (own_next (own_next HO8.out HB89.out) ((Below.refl _ _).alloc (Nat.le_refl _) (.cells #[.int .i64 n.kind, .string (bs n.owner), .int .i64 n.num, .int .i64 n.idx, .string (bs n.text)] 45))); have hne := own_not_it HO9.out HIT9.out; have HIT10 := Lib.hid (HIT9.out.grown HG5.out hne.1 hne.2); have hb5 : Below wb.heap.size w8 w10 := below_own ((HB89.out.alloc HB89.out.size (.cells #[.int .i64 n.kind, .string (bs n.owner), .int .i64 n.num, .int .i64 n.idx, .string (bs n.text)] 45)).mono HB8.out.size) HO9.out HG5.out (Nat.le_refl _) (by have := HB8.out.size; simp; omega); have HB5 := Lib.hid hb5; clear hb5 hne
                  go_wp2_with fail
                  go_roundw
                  case rel =>
                    refine ⟨seen ++ [n], left', HIT10.out, ?_, ?_, HB8.out.trans HB5.out⟩
                    · refine List.Perm.trans ?_ HPM.out
                      have h1 : (left.map Prod.fst).Perm (n :: left'.map Prod.fst) := HPM2.out.map Prod.fst; rw [List.append_assoc]
                      exact (List.Perm.append_left seen h1).symm
                    · rw [List.flatMap_append, List.length_append]
                      exact HO5.out
                  case measure =>
                    show w10.rangeLeft mw r < wr.rangeLeft mw r
                    rw [HIT10.out.size, HIT.out.size, HPM2.out.length_eq]
                    simp
end Go.Proofs.YtmjkcanjfjfkfaaGreat
namespace Go.Proofs.YtmjkcanjfjfkfaaGreat
open Go.RowKit
set_option linter.unusedSimpArgs false
set_option linter.unusedVariables false
attribute [local go_sem ↓] Go.wp_at_zero Go.wp_at_succ
def hasW (l : List Ac) (n : Nm) (m : Nat) : Bool := match l[m]? with
  | some a => a.writes.any fun c => decide (c.name = n)
  | none => false
def wrB (l : List Ac) (n : Nm) : Nat → Int
  | 0 => -1
  | m + 1 => if hasW l n m then (m : Int) else wrB l n m
def woRel (w : World) (l : List Ac) (n : Nm) (M : Nat) (v7 : Value) (wr : World) : Prop := ∃ (m : Nat) (i : Int), m ≤ M ∧ i = (m : Int) - 1 ∧ v7 = .int .i64 i ∧ wrB l n M = wrB l n m ∧ Below w.heap.size w wr
def wiRel (w : World) (a : Ac) (n : Nm) (v8 : Value) (wr : World) : Prop := ∃ k : Nat, k ≤ a.writes.length ∧ v8 = .int .i64 (k : Int) ∧ (∀ j (h : j < a.writes.length), j < k → a.writes[j].name ≠ n) ∧ Below w.heap.size w wr
set_option maxRecDepth 100000 in
set_option maxHeartbeats 4000000 in
theorem rwriter_is {w : World} {v : Value} {l : List Ac} (n : Nm) (t : Int) (h : RdAc w v l) (hl : l.length ≤ 100) (hw : ∀ a ∈ l, a.writes.length ≤ 10) :
    Calls Tryz.prog 54 #[v, nmV n, .int .i64 t] w fun e w' => e = .returned (.int .i64 (wrB l n (min t l.length).toNat)) ∧ Below w.heap.size w w' := by
  obtain ⟨A, c, rfl, hc⟩ := RowRd.form h; have ha := (Below.refl w.heap.size w).alloc (Nat.le_refl _) (.cells #[.int .i64 n.kind, .string (bs n.owner), .int .i64 n.num, .int .i64 n.idx, .string (bs n.text)] 45); have zb := Blk.new w 45 #[.int .i64 n.kind, .string (bs n.owner), .int .i64 n.num, .int .i64 n.idx, .string (bs n.text)]; obtain ⟨M, hM⟩ : ∃ M, (min t (l.length : Int)).toNat = M := ⟨_, rfl⟩; have HMv : Hid (max (min t (l.length : Int)) 0 - 1 = (M : Int) - 1) := Lib.hid (by omega); have HM := Lib.hid (show M ≤ l.length by omega); have HR := Lib.hid (h.next ha); have ZB := Lib.hid zb; have HA := Lib.hid ha; have HWL := Lib.hid hw; rw [hM]; clear h ha zb hM hw
  go_enter Tryz.func54, Tryz.ntmps54
  simp only [nmV, nmA]
  go_upto_region 1 with (fail)
  generalize (w.alloc (.cells #[.int .i64 n.kind, .string (bs n.owner), .int .i64 n.num, .int .i64 n.idx, .string (bs n.text)] 45)) = W0 at *
  go_cut [7] (fun v7 wx => v7 = .int .i64 ((M : Int) - 1) ∧ W0 = wx)
  case first =>
    go_wp2_with fail
    go_meet
    case rel => exact ⟨by rw [HMv.out], rfl⟩
  case rest =>
    obtain ⟨rfl, rfl⟩ := hcut; have hws : w.heap.size < W0.heap.size := ZB.out.lt; have H0 : Hid (woRel W0 l n M (.int .i64 ((M : Int) - 1)) W0) := Lib.hid ⟨M, _, Nat.le_refl _, rfl, rfl, rfl, Below.refl _ _⟩
    go_wp2_with fail
    go_loopw [7] (fun v7 wr => woRel W0 l n M v7 wr) (fun v7 _ => (intOf v7 + 1).toNat)
    case atStart => exact H0.out
    case round =>
      clear H0; obtain ⟨m, i, hm, hi, rfl, hwb, hB⟩ := hrel; have HB := Lib.hid hB; have HWB := Lib.hid hwb; clear hB hwb
      by_cases hm0 : m = 0
      · have e1 : decide (0 ≤ i) = false := decide_eq_false (by omega)
        have HE := Lib.hid (show wrB l n M = -1 by rw [HWB.out, hm0]; rfl); have hHB := HA.out.trans (HB.out.mono HA.out.size); have HF := Lib.hid hHB; clear hHB
        go_wp2_with fail
        go_ret
        exact ⟨by rw [HE.out]; rfl, HF.out⟩
      · obtain ⟨q, hq⟩ : ∃ q : Nat, m = q + 1 := ⟨m - 1, by omega⟩
        have hiq : i = (q : Int) := by omega
        subst hiq; have HQ := Lib.hid hq; rw [hq] at HWB
        have hqM : q < M := by omega
        have HQM := Lib.hid hqM
        have hql : q < l.length := by have := HM.out; omega
        clear hm hi hm0 hq hqM; have e1 : decide (0 ≤ (q : Int)) = true := decide_eq_true (by omega)
        have e2 : (0 : Int) ≤ (q : Int) := by omega
        have e3 : (q : Int) < (l.length : Int) := by omega
        obtain ⟨a, haq⟩ : ∃ a, l[q] = a := ⟨_, rfl⟩; have HAQ : Hid (l[q]? = some a) := Lib.hid (by rw [List.getElem?_eq_getElem hql, haq]); have hwa : a.writes.length ≤ 10 := HWL.out a (by rw [← haq]; exact List.getElem_mem hql); have HQL := Lib.hid hql; have HAE := Lib.hid haq; have H1 : Hid (wiRel W0 a n (.int .i64 (0 : Nat)) wr) := Lib.hid ⟨0, Nat.zero_le _, rfl, fun _ _ h => absurd h (Nat.not_lt_zero _), HB.out⟩; clear haq
        go_wp2_with fail
        go_loopw [8] (fun v8 wr => wiRel W0 a n v8 wr) (fun v8 _ => 10 - (intOf v8).toNat)
        case atStart => exact H1.out
        case round =>
          clear H1; obtain ⟨k, hk, rfl, hno, hB2⟩ := hrel; have HB2 := Lib.hid hB2; have HNO := Lib.hid hno; obtain ⟨xb, xo, u1, u2, rfl, hxb, _, hw2, _, _, _, _, _, y5⟩ := RdAc.piece (HR.out.next HB2.out) HQL.out; have z0 := (ZB.out.next HB2.out ZB.out.lt).cell 0; have z1 := (ZB.out.next HB2.out ZB.out.lt).cell 1; have z2 := (ZB.out.next HB2.out ZB.out.lt).cell 2; have z3 := (ZB.out.next HB2.out ZB.out.lt).cell 3; have z4 := (ZB.out.next HB2.out ZB.out.lt).cell 4; simp only [qB, qC, qD] at z0 z1 z2 z3 z4; rw [HAE.out] at hw2; obtain ⟨A2, c2, rfl, hc2⟩ := RdP.form hw2; have HW2 := Lib.hid hw2; clear hB2 hno hw2
          by_cases hkl : k < a.writes.length
          · have j1 : decide ((k : Int) < (a.writes.length : Int)) = true := decide_eq_true (by omega)
            have j2 : (0 : Int) ≤ (k : Int) := by omega
            have j3 : (k : Int) < (a.writes.length : Int) := by omega
            obtain ⟨cb, co, rfl, hcb, v0, v1, v2, v3, v4, _, _⟩ := RdCh.piece HW2.out hkl; obtain ⟨p, hp⟩ : ∃ p, a.writes[k].name = p := ⟨_, rfl⟩; have HP := Lib.hid hp; rw [hp] at v0 v1 v2 v3 v4; clear hp
            by_cases hpn : p = n
            · have he := fun W => eqlNm p n true (by simp [hpn]) W
              unfold nmV nmA at he
              have HPN := Lib.hid hpn; have hkl2 := Lib.hid hkl
              have HHW : Hid (wrB l n M = (q : Int)) := Lib.hid (by
                rw [HWB.out]
                unfold wrB hasW
                rw [HAQ.out]
                exact if_pos (List.any_eq_true.2 ⟨_, List.getElem_mem hkl2.out, decide_eq_true (by rw [HP.out, HPN.out])⟩))
              have hHB := HA.out.trans (HB2.out.mono HA.out.size); have HF := Lib.hid hHB; clear hpn hHB
              go_wp2_with fail
              go_quiet (fail)
              clear z0 z1 z2 z3 z4 v0 v1 v2 v3 v4 he; have HFF := Lib.hid (HF.out.trans ((below_drewN (Below.refl _ wr) nq).mono HF.out.size)); generalize World.drewN wr nq = w3 at *
              go_wp2_with fail
              go_ret
              exact ⟨by rw [HHW.out]; rfl, HFF.out⟩
            · have he := fun W => eqlNm p n false (by simp [hpn]) W
              unfold nmV nmA at he
              have HPN := Lib.hid hpn; clear hpn
              go_wp2_with fail
              go_quiet (fail)
              clear z0 z1 z2 z3 z4 v0 v1 v2 v3 v4 he; have HFF := Lib.hid (HB2.out.trans ((below_drewN (Below.refl _ wr) nq).mono HB2.out.size)); generalize World.drewN wr nq = w3 at *
              go_wp2_with fail
              go_roundw
              case rel => exact ⟨k + 1, by omega, by go_num, fun j hj hjk => by
                rcases Nat.lt_succ_iff_lt_or_eq.1 hjk with h | h
                · exact HNO.out j hj h
                · subst h; rw [HP.out]; exact HPN.out, HFF.out⟩
              case measure => simp [intOf]; omega
          · have j1 : decide ((k : Int) < (a.writes.length : Int)) = false := decide_eq_false (by omega)
            have HHW : Hid (wrB l n M = wrB l n q) := Lib.hid (by
              rw [HWB.out]
              show (if hasW l n q then (q : Int) else wrB l n q) = _
              refine if_neg ?_
              unfold hasW
              rw [HAQ.out]
              intro h
              obtain ⟨x, hx, he⟩ := List.any_eq_true.1 h; obtain ⟨j, hj, rfl⟩ := List.getElem_of_mem hx
              exact HNO.out j hj (by omega) (of_decide_eq_true he))
            clear z0 z1 z2 z3 z4
            go_wp2_with fail
            exact ⟨⟨q, (q : Int) - 1, by have := HQM.out; omega, rfl, rfl, HHW.out, HB2.out⟩, by simp [intOf]⟩
end Go.Proofs.YtmjkcanjfjfkfaaGreat
namespace Go.Proofs.YtmjkcanjfjfkfaaGreat
set_option linter.unusedSimpArgs false
set_option linter.unusedVariables false
theorem cntL_cons (x : Int) (l : List Int) (t : Int) : cntL (x :: l) t = if x < t then cntL l t + 1 else 0 := by
  unfold cntL
  rw [List.takeWhile_cons]
  by_cases h : x < t <;> simp [h]
theorem cntL_lo : ∀ (l : List Int) (t : Int) (i : Nat) (h : i < l.length), i < cntL l t → l[i] < t
  | [], t, i, h, _ => by simp at h
  | x :: l, t, i, h, hi => by
    rw [cntL_cons] at hi
    split at hi
    · rename_i hx
      cases i with
      | zero => exact hx
      | succ i => exact cntL_lo l t i (by simpa using h) (by omega)
    · omega
theorem cntL_hi : ∀ (l : List Int) (t : Int) (i : Nat) (h : i < l.length), i = cntL l t → t ≤ l[i]
  | [], t, i, h, _ => by simp at h
  | x :: l, t, i, h, hi => by
    rw [cntL_cons] at hi
    split at hi
    · cases i with
      | zero => omega
      | succ i => exact cntL_hi l t i (by simpa using h) (by omega)
    · rename_i hx
      subst hi
      exact Int.not_lt.1 hx
theorem wrI_spec {xs : List Int} (hs : Asc xs) (t : Int) : (wrI xs t = -1 ∧ ∀ x ∈ xs, t ≤ x) ∨ (wrI xs t ∈ xs ∧ wrI xs t < t ∧ ∀ x ∈ xs, x < t → x ≤ wrI xs t) := by
  have h1 := cntL_le xs t
  have hhi : ∀ i (h : i < xs.length), cntL xs t ≤ i → t ≤ xs[i] := fun i h hi => by
    have h2 := cntL_hi xs t (cntL xs t) (by omega) rfl; have h3 := hs (cntL xs t) i (by omega) h hi
    omega
  unfold wrI
  split
  · rename_i h
    refine .inl ⟨rfl, fun x hx => ?_⟩
    obtain ⟨i, hi, rfl⟩ := List.getElem_of_mem hx
    exact hhi i hi (by omega)
  · rename_i h
    have hg : xs.getD (cntL xs t - 1) 0 = xs[cntL xs t - 1]'(by omega) := by rw [List.getD_eq_getElem?_getD, List.getElem?_eq_getElem (by omega)]; rfl
    rw [hg]
    refine .inr ⟨List.getElem_mem _, cntL_lo xs t _ (by omega) (by omega), fun x hx hxt => ?_⟩
    obtain ⟨i, hi, rfl⟩ := List.getElem_of_mem hx
    refine hs _ _ _ _ ?_
    rcases Nat.lt_or_ge i (cntL xs t) with h2 | h2
    · omega
    · have := hhi i hi h2; omega
theorem wrB_spec (l : List Ac) (n : Nm) : ∀ m, (wrB l n m = -1 ∧ ∀ i, i < m → hasW l n i = false) ∨ ∃ i : Nat, i < m ∧ wrB l n m = (i : Int) ∧ hasW l n i = true ∧ ∀ j, j < m → i < j → hasW l n j = false
  | 0 => .inl ⟨rfl, fun i h => absurd h (Nat.not_lt_zero _)⟩
  | m + 1 => by
    unfold wrB
    cases hh : hasW l n m with
    | true => exact .inr ⟨m, by omega, by simp, hh, fun j h1 h2 => by omega⟩
    | false =>
      rw [if_neg (by simp)]
      rcases wrB_spec l n m with ⟨h1, h2⟩ | ⟨i, h1, h2, h3, h4⟩
      · refine .inl ⟨h1, fun i hi => ?_⟩
        rcases Nat.lt_succ_iff_lt_or_eq.1 hi with h | h
        · exact h2 i h
        · rw [h]; exact hh
      · refine .inr ⟨i, by omega, h2, h3, fun j hj hij => ?_⟩
        rcases Nat.lt_succ_iff_lt_or_eq.1 hj with h | h
        · exact h4 j h hij
        · rw [h]; exact hh
theorem hasW_lt {l : List Ac} {n : Nm} {i : Nat} (h : hasW l n i = true) : i < l.length := by
  unfold hasW at h
  cases hg : l[i]? with
  | none => rw [hg] at h; simp at h
  | some a => exact (List.getElem?_eq_some_iff.1 hg).1
theorem vers_mem (n : Nm) : ∀ (l : List Ac) (s : Nat) (x : Int), x ∈ (vers n s l).map Ver.idx ↔ ∃ i : Nat, x = ((s + i : Nat) : Int) ∧ hasW l n i = true
  | [], s, x => by simp [vers, hasW]
  | a :: l, s, x => by
    have ih := vers_mem n l (s + 1) x; rw [vers, List.map_append, List.mem_append, ih]
    constructor
    · rintro (h | ⟨i, hi, hh⟩)
      · obtain ⟨v, hv, rfl⟩ := List.mem_map.1 h
        obtain ⟨c, hc, rfl⟩ := List.mem_map.1 hv; obtain ⟨hc1, hc2⟩ := List.mem_filter.1 hc
        exact ⟨0, rfl, List.any_eq_true.2 ⟨c, hc1, by simpa using hc2⟩⟩
      · exact ⟨i + 1, by rw [hi]; congr 1; omega, hh⟩
    · rintro ⟨i, hi, hh⟩
      cases i with
      | zero =>
        obtain ⟨c, hc, he⟩ := List.any_eq_true.1 (show (a.writes.any fun c => decide (c.name = n)) = true from hh)
        exact .inl (List.mem_map.2 ⟨_, List.mem_map.2 ⟨c, List.mem_filter.2 ⟨hc, by simpa using he⟩, rfl⟩, hi.symm⟩)
      | succ i => exact .inr ⟨i, by rw [hi]; congr 1; omega, hh⟩
theorem wls_mem {l : List Ac} {n : Nm} {x : Int} : x ∈ wls l n ↔ ∃ i : Nat, x = (i : Int) ∧ hasW l n i = true := by
  have := vers_mem n l 0 x
  simpa [wls] using this
theorem wrI_wrB {l : List Ac} (h : ∀ a ∈ l, ordCh a.writes = true) (n : Nm) (t : Int) : wrI (wls l n) t = wrB l n (min t (l.length : Int)).toNat := by
  obtain ⟨M, hM⟩ : ∃ M, (min t (l.length : Int)).toNat = M := ⟨_, rfl⟩; rw [hM]
  rcases wrB_spec l n M with ⟨h1, h2⟩ | ⟨i, h1, h2, h3, h4⟩
  · rcases wrI_spec (wls_asc h n) t with ⟨g1, _⟩ | ⟨g1, g2, _⟩
    · rw [g1, h1]
    · obtain ⟨j, hj, hh⟩ := wls_mem.1 g1
      have := hasW_lt hh; have := h2 j (by omega); rw [hh] at this
      cases this
  · have hil := hasW_lt h3
    have him := wls_mem.2 ⟨i, rfl, h3⟩
    rcases wrI_spec (wls_asc h n) t with ⟨_, g2⟩ | ⟨g1, g2, g3⟩
    · have := g2 _ him
      omega
    · have g4 := g3 _ him (by omega)
      obtain ⟨j, hj, hh⟩ := wls_mem.1 g1; have hjl := hasW_lt hh; rw [h2, hj]
      rcases Nat.lt_or_ge i j with h5 | h5
      · have := h4 j (by omega) h5
        rw [hh] at this
        cases this
      · omega
def VL (s : S47) : Prop := ∀ n, ((s n).getD []).length ≤ 3
def DeOk (ds : List De) : Prop := ∀ d ∈ ds, d.who < 256 ∧ d.reads < 256 ∧ d.writes < 256 ∧ d.spawn < 256
theorem who_lin {n : Nat} (h1 : 1 ≤ n) (h2 : n ≤ 3) : whoS n ∈ ([[49], [50], [51]] : List Bs) := who_ob h1 h2
theorem pinI {s : S47} {ds : List De} {d : De} (hs : VL s) (hd : DeOk ds) (h : d ∈ ds) (t i : Nat) : PIn s (kyI t i) d := ⟨hs, hd d h, .inl ⟨rfl, rfl⟩⟩
theorem pinP {s : S47} {ds : List De} {d : De} (hs : VL s) (hd : DeOk ds) (h : d ∈ ds) (t : Nat) {n : Nat} (h1 : 1 ≤ n) (h2 : n ≤ 3) : PIn s (kyP t n) d := ⟨hs, hd d h, .inr ⟨rfl, who_lin h1 h2⟩⟩
theorem stp_vl {st : S47 × List Ac} {k : Ky} {d : De} (h : PIn st.1 k d) : VL (stp st k d).1 := fun n => nxt_vl h n
theorem stp_len (st : S47 × List Ac) (k : Ky) (d : De) : (stp st k d).2.length = st.2.length + 1 := by simp [stp]
theorem inF_vl {ds : List De} (hd : DeOk ds) (ins t : Nat) (st : S47 × List Ac) (i : Nat) (h : VL st.1) : VL (inF ds ins t st i).1 := by
  unfold inF
  cases hi : ds[i]? with
  | none => exact h
  | some d =>
    simp only
    split
    · exact stp_vl (pinI h hd (List.mem_of_getElem? hi) t i)
    · exact h
theorem inF_len (ds : List De) (ins t : Nat) (st : S47 × List Ac) (i : Nat) : (inF ds ins t st i).2.length ≤ st.2.length + 1 := by
  unfold inF
  cases ds[i]? with
  | none => simp
  | some d =>
    simp only
    split
    · rw [stp_len]; exact Nat.le_refl _
    · omega
theorem fstD_mem {ds : List De} {n : Nat} {p : Nat → Bool} : ∀ {l : List Nat} {d : De}, fstD ds n p l = some d → d ∈ ds ∧ d.who % 4 = n ∧ p n = true
  | [], d, h => by simp [fstD] at h
  | i :: l, d, h => by
    rw [fstD] at h
    cases hi : ds[i]? with
    | none => rw [hi] at h; exact fstD_mem h
    | some d' =>
      rw [hi] at h
      simp only at h
      split at h
      · rename_i hc
        injection h with h
        subst h
        exact ⟨List.mem_of_getElem? hi, hc⟩
      · exact fstD_mem h
theorem prF_vl {ds : List De} (hd : DeOk ds) (p : Nat → Bool) (t : Nat) (pl : List Nat) (st : S47 × List Ac) {n : Nat} (h1 : 1 ≤ n) (h2 : n ≤ 3) (h : VL st.1) : VL (prF ds p t pl st n).1 := by
  unfold prF
  cases hf : fstD ds n p pl with
  | none => exact h
  | some d => exact stp_vl (pinP h hd (fstD_mem hf).1 t h1 h2)
theorem prF_len (ds : List De) (p : Nat → Bool) (t : Nat) (pl : List Nat) (st : S47 × List Ac) (n : Nat) : (prF ds p t pl st n).2.length ≤ st.2.length + 1 := by
  unfold prF
  cases fstD ds n p pl with
  | none => simp
  | some d => simp only; rw [stp_len]; exact Nat.le_refl _
theorem fold_vl {ds : List De} (hd : DeOk ds) (ins t : Nat) : ∀ (l : List Nat) (st : S47 × List Ac), VL st.1 → VL (l.foldl (inF ds ins t) st).1 ∧ (l.foldl (inF ds ins t) st).2.length ≤ st.2.length + l.length
  | [], st, h => ⟨h, by simp⟩
  | i :: l, st, h => by
    obtain ⟨h1, h2⟩ := fold_vl hd ins t l (inF ds ins t st i) (inF_vl hd ins t st i h); have h3 := inF_len ds ins t st i
    exact ⟨h1, by simp only [List.foldl_cons, List.length_cons]; omega⟩
theorem places_len (N t : Nat) : (places N t).length = min (min N (4 * t + 4)) 20 - 4 * t := by simp [places]
theorem places_le (N t : Nat) : (places N t).length ≤ 4 := by rw [places_len]; omega
theorem places_get (N t j : Nat) (h : j < (places N t).length) : (places N t)[j] = 4 * t + j := by simp [places]
theorem tick_vl {ds : List De} (hd : DeOk ds) (ins prs t : Nat) (st : S47 × List Ac) (h : VL st.1) : VL (tickF ds ins prs st t).1 ∧ (tickF ds ins prs st t).2.length ≤ st.2.length + 7 := by
  unfold tickF
  obtain ⟨h1, h2⟩ := fold_vl hd ins t (places ds.length t) st h; have hp := places_le ds.length t; generalize (places ds.length t).foldl (inF ds ins t) st = s1 at *; generalize (fun n => thr s1.1 n && !bitN prs n) = p; generalize places ds.length t = pl at *
  simp only [List.foldl_cons, List.foldl_nil]
  have a1 := prF_vl hd p t pl s1 (n := 1) (by decide) (by decide) h1; have b1 := prF_len ds p t pl s1 1; have a2 := prF_vl hd p t pl _ (n := 2) (by decide) (by decide) a1; have b2 := prF_len ds p t pl (prF ds p t pl s1 1) 2; have a3 := prF_vl hd p t pl _ (n := 3) (by decide) (by decide) a2; have b3 := prF_len ds p t pl (prF ds p t pl (prF ds p t pl s1 1) 2) 3
  exact ⟨a3, by omega⟩
theorem runTo_succ (ds : List De) (ins prs m : Nat) : runTo ds ins prs (m + 1) = tickF ds ins prs (runTo ds ins prs m) m := by
  unfold runTo
  rw [List.range_succ, List.foldl_append]
  rfl
theorem runTo_vl {ds : List De} (hd : DeOk ds) (ins prs : Nat) : ∀ m, VL (runTo ds ins prs m).1 ∧ (runTo ds ins prs m).2.length ≤ 7 * m
  | 0 => ⟨fun n => by simp [runTo, s00], by simp [runTo]⟩
  | m + 1 => by
    rw [runTo_succ]; obtain ⟨h1, h2⟩ := runTo_vl hd ins prs m; obtain ⟨h3, h4⟩ := tick_vl hd ins prs m _ h1
    exact ⟨h3, by omega⟩
theorem ordCh_map {f : Nm → Ch} (hn : ∀ n, (f n).name = n) (hv : ∀ n, (f n).value.length ≤ 3) (ha : ∀ n, (f n).absent = true → (f n).value = []) : ∀ {l : List Nm}, Strict cmpN l → (∀ n ∈ l, n ∈ objs) → ordCh (l.map f) = true
  | [], _, _ => rfl
  | n :: l, h, ho => by
    have ih := ordCh_map hn hv ha (l := l) h.tail fun m hm => ho m (List.mem_cons_of_mem _ hm)
    have h1 : okCh (f n) = true := by
      unfold okCh okN
      rw [hn, decide_eq_true (ho n (List.mem_cons_self ..)), decide_eq_true (Nat.le_trans (hv n) (by decide))]
      cases hb : (f n).absent with
      | false => rfl
      | true => rw [ha n hb]; rfl
    cases l with
    | nil => simp only [List.map_cons, List.map_nil, ordCh, h1, Bool.and_self]
    | cons m l =>
      have h2 : cmpN (f n).name (f m).name < 0 := by rw [hn, hn]; exact (List.pairwise_cons.1 h).1 m (List.mem_cons_self ..)
      simp only [List.map_cons] at ih ⊢
      rw [ordCh, ih, h1]
      simp [h2]
theorem look_len {s : S47} {k : Ky} {d : De} (h : PIn s k d) (n : Nm) : ((lookM n (wrs s k d)).getD []).length ≤ 3 := by
  cases hl : lookM n (wrs s k d) with
  | some v => exact ((wrs_ok h).2.2 _ (look_mem hl)).2
  | none => exact Nat.zero_le _
theorem wrs_obj {s : S47} {k : Ky} {d : De} (h : PIn s k d) : ∀ n ∈ (wrs s k d).map Prod.fst, n ∈ objs := fun n hn => by
  obtain ⟨p, hp, rfl⟩ := List.mem_map.1 hn
  exact ((wrs_ok h).2.2 p hp).1
theorem sortU_obj {l : List Nm} (h : ∀ n ∈ l, n ∈ objs) : ∀ n ∈ sortU cmpN l, n ∈ objs := fun n hn => h n ((mem_sortU ordN l (ob_own h)).1 hn)
theorem prf_ord {s : S47} {k : Ky} {d : De} (h : PIn s k d) : okAc (prf s k d) = true := by
  have h1 := (rds_ok h).2.2; have h2 := wrs_obj h
  unfold okAc prf
  simp only
  rw [ordCh_map (fun _ => rfl) h.vl (fun n hb => by unfold rdC at hb ⊢; simp only at hb ⊢; rw [Option.isNone_iff_eq_none.1 hb]; rfl) (strict_sortU ordN _ (ob_own h1)) (sortU_obj h1),
    ordCh_map (fun _ => rfl) (look_len h) (fun n hb => by unfold wrC at hb; cases hb) (strict_sortU ordN _ (ob_own h2)) (sortU_obj h2)]
  rfl
theorem prf_acR {s : S47} {k : Ky} {d : De} (h : PIn s k d) (hk : KyR k) : AcR (prf s k d) := by
  have h1 := (rds_ok h).2.2; have h2 := wrs_obj h
  unfold prf
  refine ⟨hk, fun c hc => ?_, fun c hc => ?_, ?_, ?_⟩
  · obtain ⟨n, hn, rfl⟩ := List.mem_map.1 hc
    exact ⟨.inl (sortU_obj h1 n hn), Nat.le_trans (h.vl n) (by decide)⟩
  · obtain ⟨n, hn, rfl⟩ := List.mem_map.1 hc
    exact ⟨.inl (sortU_obj h2 n hn), Nat.le_trans (look_len h n) (by decide)⟩
  · rw [List.length_map]; exact sortU_len h1
  · rw [List.length_map]; exact sortU_len h2
def GoodK (r : Nat) (k : Ky) : Prop := (∃ t i : Nat, t < 5 ∧ i < 20 ∧ k = kyI t i ∧ r = t * 1000 + i) ∨ (∃ t n : Nat, t < 5 ∧ 1 ≤ n ∧ n ≤ 3 ∧ k = kyP t n ∧ r = t * 1000 + 100 + n)
theorem GoodK.kyR {r : Nat} {k : Ky} (h : GoodK r k) : KyR k := by
  rcases h with ⟨t, i, ht, hi, rfl, _⟩ | ⟨t, n, ht, h1, h2, rfl, _⟩
  · refine ⟨⟨?_, ?_⟩, (show ([] : Bs) ∈ lin5 by decide), .inl ⟨rfl, ?_, ?_, rfl⟩⟩ <;> simp only [kyI] <;> omega
  · refine ⟨⟨?_, ?_⟩, ?_, .inr ⟨rfl, rfl, ?_⟩⟩
    · simp only [kyP]; omega
    · simp only [kyP]; omega
    · show whoS n ∈ lin5
      rcases (show n = 1 ∨ n = 2 ∨ n = 3 by omega) with rfl | rfl | rfl <;> decide
    · show whoS n ≠ []
      rcases (show n = 1 ∨ n = 2 ∨ n = 3 by omega) with rfl | rfl | rfl <;> decide
theorem or4_neg {a b c d : Int} : or4 a b c d < 0 ↔ a < 0 ∨ (a = 0 ∧ (b < 0 ∨ (b = 0 ∧ (c < 0 ∨ (c = 0 ∧ d < 0))))) := by
  unfold or4 or3
  repeat' split
  all_goals omega
theorem GoodK.lt {r r' : Nat} {k k' : Ky} (h : GoodK r k) (h' : GoodK r' k') (hr : r < r') : cmpK k k' < 0 := by
  unfold cmpK
  rw [or4_neg]
  simp only [cmpI_lt, cmpI_eq]
  rcases h with ⟨t, i, ht, hi, rfl, rfl⟩ | ⟨t, n, ht, h1, h2, rfl, rfl⟩ <;> rcases h' with ⟨t', i', ht', hi', rfl, rfl⟩ | ⟨t', n', ht', h1', h2', rfl, rfl⟩
  · simp only [kyI]
    rcases (show t < t' ∨ t = t' by omega) with h | h
    · left; omega
    · right; exact ⟨by omega, .inr ⟨trivial, .inl (by omega)⟩⟩
  · simp only [kyI, kyP]
    rcases (show t < t' ∨ t = t' by omega) with h | h
    · left; omega
    · right; exact ⟨by omega, .inl (by decide)⟩
  · simp only [kyI, kyP]
    left; omega
  · simp only [kyP]
    rcases (show t < t' ∨ t = t' by omega) with h | h
    · left; omega
    · right
      refine ⟨by omega, .inr ⟨trivial, .inr ⟨trivial, ?_⟩⟩⟩
      have hn : n < n' := by omega
      rcases (show (n = 1 ∧ n' = 2) ∨ (n = 1 ∧ n' = 3) ∨ (n = 2 ∧ n' = 3) by omega) with ⟨rfl, rfl⟩ | ⟨rfl, rfl⟩ | ⟨rfl, rfl⟩ <;> decide
inductive Trc (ds : List De) : S47 → List Ac → Prop
  | nil : Trc ds s00 []
  | snoc {s : S47} {l : List Ac} {k : Ky} {d : De} : Trc ds s l → d ∈ ds → PIn s k d → (∃ r, GoodK r k) → Trc ds (nxtS s k d) (l ++ [prf s k d])
structure RInv (ds : List De) (R : Nat) (st : S47 × List Ac) : Prop where
  vl : VL st.1
  tr : Trc ds st.1 st.2
  gk : ∀ a ∈ st.2, ∃ r, r < R ∧ GoodK r a.key
  pw : st.2.Pairwise fun a b => cmpK a.key b.key < 0
theorem RInv.mono {ds : List De} {R R' : Nat} {st : S47 × List Ac} (h : RInv ds R st) (hr : R ≤ R') : RInv ds R' st :=
  ⟨h.vl, h.tr, fun a ha => by obtain ⟨r, h1, h2⟩ := h.gk a ha; exact ⟨r, by omega, h2⟩, h.pw⟩
theorem RInv.stp {ds : List De} {R r : Nat} {st : S47 × List Ac} {k : Ky} {d : De} (h : RInv ds R st) (hd : d ∈ ds) (hp : PIn st.1 k d) (hk : GoodK r k) (hr : R ≤ r) : RInv ds (r + 1) (Go.Proofs.YtmjkcanjfjfkfaaGreat.stp st k d) := by
  refine ⟨stp_vl hp, h.tr.snoc hd hp ⟨r, hk⟩, fun a ha => ?_, ?_⟩
  · rcases List.mem_append.1 ha with ha | ha
    · obtain ⟨r', h1, h2⟩ := h.gk a ha
      exact ⟨r', by omega, h2⟩
    · rw [List.mem_singleton] at ha
      subst ha
      exact ⟨r, by omega, hk⟩
  · refine List.pairwise_append.2 ⟨h.pw, List.pairwise_singleton _ _, fun a ha b hb => ?_⟩
    rw [List.mem_singleton] at hb; subst hb; obtain ⟨r', h1, h2⟩ := h.gk a ha
    exact h2.lt hk (by omega)
theorem RInv.inp {ds : List De} (hd : DeOk ds) {ins t i : Nat} {st : S47 × List Ac} (ht : t < 5) (hi : i < 20) (h : RInv ds (t * 1000 + i) st) : RInv ds (t * 1000 + i + 1) (inF ds ins t st i) := by
  unfold inF
  cases hg : ds[i]? with
  | none => exact h.mono (by omega)
  | some d =>
    simp only
    split
    · exact h.stp (List.mem_of_getElem? hg) (pinI h.vl hd (List.mem_of_getElem? hg) t i) (.inl ⟨t, i, ht, hi, rfl, rfl⟩) (Nat.le_refl _)
    · exact h.mono (by omega)
theorem RInv.ins {ds : List De} (hd : DeOk ds) {ins t f : Nat} {st : S47 × List Ac} (ht : t < 5) (h : RInv ds (t * 1000 + f) st) (m : Nat) (hm : f + m ≤ 20) : RInv ds (t * 1000 + f + m) (((List.range m).map fun j => f + j).foldl (inF ds ins t) st) := by
  induction m with
  | zero => exact h.mono (by omega)
  | succ m ih =>
    have ih := ih (by omega); rw [List.range_succ, List.map_append, List.foldl_append]; generalize ((List.range m).map fun j => f + j).foldl (inF ds ins t) st = s2 at *; have h2 := RInv.inp (i := f + m) hd (ins := ins) ht (by omega) (ih.mono (R' := t * 1000 + (f + m)) (by omega))
    exact h2.mono (by omega)
theorem RInv.prc {ds : List De} (hd : DeOk ds) {p : Nat → Bool} {t n : Nat} {pl : List Nat} {st : S47 × List Ac} (ht : t < 5) (h1 : 1 ≤ n) (h2 : n ≤ 3) (h : RInv ds (t * 1000 + 100 + n) st) : RInv ds (t * 1000 + 100 + n + 1) (prF ds p t pl st n) := by
  unfold prF
  cases hf : fstD ds n p pl with
  | none => exact h.mono (by omega)
  | some d => exact h.stp (fstD_mem hf).1 (pinP h.vl hd (fstD_mem hf).1 t h1 h2) (.inr ⟨t, n, ht, h1, h2, rfl, rfl⟩) (Nat.le_refl _)
theorem RInv.tick {ds : List De} (hd : DeOk ds) {ins prs t : Nat} {st : S47 × List Ac} (ht : t < 5) (h : RInv ds (t * 1000) st) : RInv ds ((t + 1) * 1000) (tickF ds ins prs st t) := by
  have h1 := RInv.ins hd (ins := ins) (f := 4 * t) ht (h.mono (by omega)) (min (min ds.length (4 * t + 4)) 20 - 4 * t) (by omega)
  unfold tickF
  have h2 : RInv ds (t * 1000 + 100 + 1) ((places ds.length t).foldl (inF ds ins t) st) := by unfold places; exact h1.mono (by omega)
  generalize (places ds.length t).foldl (inF ds ins t) st = s1 at *; generalize (fun n => thr s1.1 n && !bitN prs n) = p; generalize places ds.length t = pl at *
  exact ((((h2.prc hd (p := p) (pl := pl) ht (by decide) (by decide)).prc hd (p := p) (pl := pl) (n := 2) ht (by decide) (by decide)).prc hd (p := p) (pl := pl) (n := 3) ht (by decide) (by decide)).mono (by omega))
theorem runTo_inv {ds : List De} (hd : DeOk ds) (ins prs : Nat) : ∀ m, m ≤ 5 → RInv ds (m * 1000) (runTo ds ins prs m)
  | 0, _ => ⟨fun n => by simp [runTo, s00], .nil, fun a ha => by simp [runTo] at ha, by simp [runTo]⟩
  | m + 1, hm => by
    rw [runTo_succ]
    exact (runTo_inv hd ins prs m (by omega)).tick hd (by omega)
theorem ticks_le (ds : List De) : ticks ds ≤ 5 := by unfold ticks; omega
theorem Trc.good {ds : List De} {s : S47} {l : List Ac} (h : Trc ds s l) : ∀ a ∈ l, AcR a ∧ okAc a = true := by
  induction h with
  | nil => intro a ha; cases ha
  | snoc _ _ hp hk ih =>
    intro a ha
    rcases List.mem_append.1 ha with ha | ha
    · exact ih a ha
    · rw [List.mem_singleton] at ha
      subst ha; obtain ⟨r, hk⟩ := hk
      exact ⟨prf_acR hp hk.kyR, prf_ord hp⟩
theorem runS_good {ds : List De} (hd : DeOk ds) (ins prs : Nat) : KS (runS ds ins prs) ∧ (∀ a ∈ runS ds ins prs, AcR a) ∧ (∀ a ∈ runS ds ins prs, okAc a = true) ∧ (runS ds ins prs).length ≤ 35 := by
  have h := runTo_inv hd ins prs (ticks ds) (ticks_le ds); have hl := (runTo_vl hd ins prs (ticks ds)).2; have ht := ticks_le ds
  refine ⟨fun k hk => ?_, fun a ha => (h.tr.good a ha).1, fun a ha => (h.tr.good a ha).2, by unfold runS; omega⟩
  exact List.pairwise_iff_getElem.1 h.pw k (k + 1) _ _ (by omega)
def de0 : De := ⟨0, 0, 0, 0, false⟩
def fstQ (lin : Bs) (l : List De) : De := (l.find? fun d => decide (0 < d.who % 4) && decide (whoS (d.who % 4) = lin)).getD de0
def deedS (ds : List De) (k : Ky) : De := if k.cls = 0 then ds.getD (k.num - 1).toNat de0 else fstQ k.lin (ds.drop (4 * k.tick).toNat)
def wrOf (a : Ac) (n : Nm) : Option Bs := (a.writes.find? fun c => decide (c.name = n)).map Ch.value
def stA (s : S47) (a : Ac) : S47 := fun n => match wrOf a n with
  | some v => some v
  | none => s n
def stL (l : List Ac) : S47 := l.foldl stA s00
theorem stL_snoc (l : List Ac) (a : Ac) : stL (l ++ [a]) = stA (stL l) a := by unfold stL; rw [List.foldl_append]; rfl
theorem find_wrC (W : List (Nm × Bs)) (n : Nm) : ∀ L : List Nm, ((L.map (wrC W)).find? fun c => decide (c.name = n)) = if n ∈ L then some (wrC W n) else none
  | [] => by simp
  | m :: L => by
    rw [List.map_cons, List.find?_cons]
    by_cases h : m = n
    · subst h
      simp [wrC]
    · have : decide ((wrC W m).name = n) = false := decide_eq_false h
      rw [this]
      simp only
      rw [find_wrC W n L]
      have hn : ¬ n = m := fun e => h e.symm
      simp [hn]
theorem lookM_mem {κ ν : Type} [DecidableEq κ] {n : κ} : ∀ {l : List (κ × ν)}, n ∈ l.map Prod.fst ↔ (lookM n l).isSome = true
  | [] => by simp [lookM]
  | (a, v) :: l => by
    simp only [List.map_cons, List.mem_cons, lookM]
    by_cases h : a = n
    · simp [h]
    · rw [if_neg h, lookM_mem (l := l)]
      have hn : ¬ n = a := fun e => h e.symm
      simp [hn]
theorem wrOf_prf {s : S47} {k : Ky} {d : De} (h : PIn s k d) (n : Nm) : wrOf (prf s k d) n = lookM n (wrs s k d) := by
  unfold wrOf prf
  simp only
  rw [find_wrC]; have hm := mem_sortU ordN (y := n) ((wrs s k d).map Prod.fst) (ob_own (wrs_obj h))
  cases hl : lookM n (wrs s k d) with
  | some v =>
    rw [if_pos (hm.2 (lookM_mem.2 (by rw [hl]; rfl)))]
    simp [wrC, hl]
  | none =>
    rw [if_neg (fun g => by have := lookM_mem.1 (hm.1 g); rw [hl] at this; cases this)]
    rfl
theorem nxt_stA {s : S47} {k : Ky} {d : De} (h : PIn s k d) : nxtS s k d = stA s (prf s k d) := by
  funext n
  unfold nxtS putS stA
  rw [wrOf_prf h] <;> (cases lookM n (wrs s k d) <;> rfl)
def KD (ds : List De) (k : Ky) : Prop := (k.cls = 0 → 1 ≤ k.num ∧ k.num ≤ (ds.length : Int)) ∧ 0 ≤ k.tick ∧ k.tick ≤ 100
inductive Tr2 (ds : List De) : S47 → List Ac → Prop
  | nil : Tr2 ds s00 []
  | snoc {s : S47} {l : List Ac} {k : Ky} : Tr2 ds s l → PIn s k (deedS ds k) → KD ds k → Tr2 ds (nxtS s k (deedS ds k)) (l ++ [prf s k (deedS ds k)])
theorem Tr2.st {ds : List De} {s : S47} {l : List Ac} (h : Tr2 ds s l) : s = stL l := by
  induction h with
  | nil => rfl
  | snoc h hp hk ih => rw [stL_snoc, ← ih, nxt_stA hp]
theorem Tr2.vl {ds : List De} {s : S47} {l : List Ac} (h : Tr2 ds s l) : VL s := by
  induction h with
  | nil => intro n; simp [s00]
  | snoc h hp hk ih => exact fun n => nxt_vl hp n
theorem Tr2.at_ {ds : List De} {s : S47} {l : List Ac} (h : Tr2 ds s l) : ∀ (i : Nat) (hi : i < l.length), l[i] = prf (stL (l.take i)) l[i].key (deedS ds l[i].key) ∧ PIn (stL (l.take i)) l[i].key (deedS ds l[i].key) ∧ KD ds l[i].key := by
  induction h with
  | nil => intro i hi; simp at hi
  | snoc h hp hk ih =>
    rename_i s l k
    intro i hi
    rw [List.length_append, List.length_singleton] at hi
    by_cases hl : i < l.length
    · rw [List.getElem_append_left hl, List.take_append_of_le_length (by omega)]
      exact ih i hl
    · obtain rfl : i = l.length := by omega
      have e : stL l = s := h.st.symm
      simp only [List.getElem_concat_length, List.take_left', e]
      exact ⟨rfl, hp, hk⟩
theorem find_drop {ds : List De} {n t : Nat} {p : Nat → Bool} (h1 : 1 ≤ n) (h2 : n ≤ 3) {d : De} : ∀ (m f : Nat), f + m ≤ ds.length → fstD ds n p ((List.range m).map fun j => f + j) = some d → fstQ (whoS n) (ds.drop f) = d
  | 0, f, _, h => by simp [fstD] at h
  | m + 1, f, hf, h => by
    rw [List.range_succ_eq_map, List.map_cons, List.map_map] at h
    have hfl : f < ds.length := by omega
    rw [List.drop_eq_getElem_cons hfl]
    simp only [Nat.add_zero, fstD, List.getElem?_eq_getElem hfl] at h
    have hpn : p n = true := by
      split at h
      · rename_i hc; exact hc.2
      · exact (fstD_mem h).2.2
    unfold fstQ
    rw [List.find?_cons]
    by_cases hc : ds[f].who % 4 = n
    · rw [if_pos ⟨hc, hpn⟩] at h
      injection h with h
      rw [hc]
      simp [h, decide_eq_true (show 0 < n by omega)]
    · rw [if_neg (fun g => hc g.1)] at h
      have hw : (decide (0 < ds[f].who % 4) && decide (whoS (ds[f].who % 4) = whoS n)) = false := by
        rw [Bool.and_eq_false_iff]
        by_cases h0 : 0 < ds[f].who % 4
        · right
          refine decide_eq_false ?_
          have h4 : ds[f].who % 4 < 4 := Nat.mod_lt _ (by decide); generalize ds[f].who % 4 = x at *
          rcases (show x = 1 ∨ x = 2 ∨ x = 3 by omega) with rfl | rfl | rfl <;> rcases (show n = 1 ∨ n = 2 ∨ n = 3 by omega) with rfl | rfl | rfl <;> first | (exact absurd rfl hc) | decide
        · exact .inl (decide_eq_false h0)
      rw [hw]
      simp only
      have := find_drop (ds := ds) (t := t) (p := p) h1 h2 (d := d) m (f + 1) (by omega) (by
        rw [← h]
        congr 1
        apply List.map_congr_left
        intro j _
        show f + 1 + j = f + Nat.succ j
        omega)
      exact this
theorem tr2_in {ds : List De} (hd : DeOk ds) {ins t : Nat} (ht : t ≤ 100) : ∀ (pl : List Nat) (st : S47 × List Ac), Tr2 ds st.1 st.2 → Tr2 ds (pl.foldl (inF ds ins t) st).1 (pl.foldl (inF ds ins t) st).2
  | [], st, h => h
  | i :: pl, st, h => by
    rw [List.foldl_cons]
    refine tr2_in hd ht pl _ ?_
    unfold inF
    cases hi : ds[i]? with
    | none => exact h
    | some d =>
      simp only
      split
      · have hde : deedS ds (kyI t i) = d := by
          unfold deedS kyI
          simp only [if_true]
          rw [show ((i : Int) + 1 - 1).toNat = i by omega, List.getD_eq_getElem?_getD, hi]
          rfl
        have := h.snoc (k := kyI t i) (by rw [hde]; exact pinI h.vl hd (List.mem_of_getElem? hi) t i) ⟨fun _ => by have := (List.getElem?_eq_some_iff.1 hi).1; simp only [kyI]; omega, by simp only [kyI]; omega, by simp only [kyI]; omega⟩; rw [hde] at this
        exact this
      · exact h
theorem tr2_pr {ds : List De} (hd : DeOk ds) {p : Nat → Bool} {t n : Nat} (ht : t ≤ 100) (h1 : 1 ≤ n) (h2 : n ≤ 3) {st : S47 × List Ac} (h : Tr2 ds st.1 st.2) : Tr2 ds (prF ds p t (places ds.length t) st n).1 (prF ds p t (places ds.length t) st n).2 := by
  unfold prF
  cases hf : fstD ds n p (places ds.length t) with
  | none => exact h
  | some d =>
    simp only
    have hde : deedS ds (kyP t n) = d := by
      unfold deedS kyP
      simp only
      rw [if_neg (by decide), show (4 * (t : Int)).toNat = 4 * t by omega]
      by_cases hlt : 4 * t ≤ ds.length
      · exact find_drop (t := t) h1 h2 _ _ (by omega) hf
      · have : places ds.length t = [] := List.length_eq_zero_iff.1 (by rw [places_len]; omega)
        rw [this] at hf
        cases hf
    have := h.snoc (k := kyP t n) (by rw [hde]; exact pinP h.vl hd (fstD_mem hf).1 t h1 h2) ⟨fun h0 => (by simp only [kyP] at h0; cases h0), by simp only [kyP]; omega, by simp only [kyP]; omega⟩; rw [hde] at this
    exact this
theorem tr2_to {ds : List De} (hd : DeOk ds) (ins prs : Nat) : ∀ m, m ≤ 100 → Tr2 ds (runTo ds ins prs m).1 (runTo ds ins prs m).2
  | 0, _ => .nil
  | m + 1, hm => by
    rw [runTo_succ]; have h := tr2_in hd (ins := ins) (t := m) (by omega) (places ds.length m) _ (tr2_to hd ins prs m (by omega))
    unfold tickF
    generalize (places ds.length m).foldl (inF ds ins m) (runTo ds ins prs m) = s1 at *; generalize (fun n => thr s1.1 n && !bitN prs n) = p
    exact tr2_pr hd (n := 3) (by omega) (by decide) (by decide) (tr2_pr hd (n := 2) (by omega) (by decide) (by decide) (tr2_pr hd (n := 1) (by omega) (by decide) (by decide) h))
theorem runS_tr2 {ds : List De} (hd : DeOk ds) (ins prs : Nat) : Tr2 ds (runTo ds ins prs (ticks ds)).1 (runS ds ins prs) := tr2_to hd ins prs (ticks ds) (Nat.le_trans (ticks_le ds) (by decide))
theorem rdTo_mono (s : S47) (k : Ky) (d : De) {n : Nm} : ∀ {m m' : Nat}, m ≤ m' → n ∈ (rdTo s k d m).names → n ∈ (rdTo s k d m').names
  | m, 0, h, hn => by obtain rfl : m = 0 := by omega
                      exact hn
  | m, m' + 1, h, hn => by
    rcases Nat.eq_or_lt_of_le h with rfl | h
    · exact hn
    · have := rdTo_mono s k d (m := m) (m' := m') (by omega) hn
      rw [rdTo_succ]
      unfold rd1
      split
      · exact this
      · exact addN_mem.2 (.inl this)
theorem rdTo_congr {s s' : S47} {k : Ky} {d : De} (h : ∀ n ∈ (rdTo s k d 6).names, s n = s' n) : ∀ m, m ≤ 6 → rdTo s k d m = rdTo s' k d m
  | 0, _ => rfl
  | m + 1, hm => by
    have ih := rdTo_congr h m (by omega); rw [rdTo_succ, rdTo_succ, ← ih]
    have hmem : ¬ (bitN d.reads m = false ∨ (rdTo s k d m).all = false) → s (prtN (1 + (m : Nat))) = s' (prtN (1 + (m : Nat))) := fun hc => by
      refine h _ (rdTo_mono s k d (m := m + 1) (m' := 6) hm ?_)
      rw [rdTo_succ]
      unfold rd1
      rw [if_neg hc]
      exact addN_mem.2 (.inr rfl)
    unfold rd1
    by_cases hc : bitN d.reads m = false ∨ (rdTo s k d m).all = false
    · rw [if_pos hc, if_pos hc]
    · rw [if_neg hc, if_neg hc, hmem hc]
theorem prf_congr {s s' : S47} {k : Ky} {d : De} (h : PIn s k d) (hs : ∀ n ∈ rds s k d, s n = s' n) : prf s k d = prf s' k d := by
  have h1 : rdA s k d = rdA s' k d := rdTo_congr (fun n hn => hs n (by
    unfold rds
    split
    · exact addN_mem.2 (.inl hn)
    · exact hn)) 6 (Nat.le_refl _)
  have h2 : rds s k d = rds s' k d := by unfold rds; rw [h1]
  have h3 : wrs s k d = wrs s' k d := by unfold wrs; rw [h1]
  unfold prf
  rw [← h2, ← h3]
  congr 1
  apply List.map_congr_left
  intro n hn
  have := hs n ((mem_sortU ordN _ (ob_own (rds_ok h).2.2)).1 hn)
  unfold rdC
  rw [this]
theorem stL_none {n : Nm} : ∀ {l : List Ac}, (∀ a ∈ l, wrOf a n = none) → ∀ s : S47, l.foldl stA s n = s n
  | [], _, s => rfl
  | a :: l, h, s => by
    rw [List.foldl_cons, stL_none fun b hb => h b (by simp [hb])]
    unfold stA
    rw [h a (by simp)]
theorem stL_last {n : Nm} {A B : List Ac} {a : Ac} {v : Bs} (ha : wrOf a n = some v) (hb : ∀ b ∈ B, wrOf b n = none) : stL (A ++ a :: B) n = some v := by
  unfold stL
  rw [List.foldl_append, List.foldl_cons, stL_none hb]
  unfold stA
  rw [ha]
theorem hasW_wrOf {l : List Ac} {n : Nm} {i : Nat} (hi : i < l.length) : hasW l n i = (wrOf l[i] n).isSome := by
  unfold hasW wrOf
  rw [List.getElem?_eq_getElem hi, Option.isSome_map, List.isSome_find?]
theorem stL_take {l : List Ac} {n : Nm} {i : Nat} (hi : i ≤ l.length) : (wrB l n i = -1 ∧ stL (l.take i) n = none) ∨ ∃ (p : Nat) (hp : p < i) (v : Bs), wrB l n i = (p : Int) ∧ wrOf (l[p]'(by omega)) n = some v ∧ stL (l.take i) n = some v ∧ ∀ j (hj : j < i), p < j → wrOf (l[j]'(by omega)) n = none := by
  rcases wrB_spec l n i with ⟨h1, h2⟩ | ⟨p, h1, h2, h3, h4⟩
  · refine .inl ⟨h1, stL_none (fun a ha => ?_) _⟩
    obtain ⟨j, hj, rfl⟩ := List.getElem_of_mem ha; rw [List.length_take] at hj; rw [List.getElem_take]; have := h2 j (by omega); rw [hasW_wrOf (by omega)] at this
    simpa using this
  · rw [hasW_wrOf (by omega)] at h3
    obtain ⟨v, hv⟩ := Option.isSome_iff_exists.1 h3
    refine .inr ⟨p, h1, v, h2, hv, ?_, fun j hj hpj => ?_⟩
    · have hsp : l.take i = l.take p ++ l[p]'(by omega) :: (l.take i).drop (p + 1) := by
        have e1 : (l.take i).take p = l.take p := by rw [List.take_take, Nat.min_eq_left (by omega)]
        have e2 : (l.take i)[p]'(by rw [List.length_take]; omega) = l[p]'(by omega) := List.getElem_take ..; rw [← e1, ← e2, ← List.drop_eq_getElem_cons, List.take_append_drop]
      rw [hsp]
      refine stL_last hv fun b hb => ?_
      obtain ⟨j, hj, rfl⟩ := List.getElem_of_mem hb; rw [List.length_drop, List.length_take] at hj; rw [List.getElem_drop, List.getElem_take]; have := h4 (p + 1 + j) (by omega) (by omega); rw [hasW_wrOf (by omega)] at this
      simpa using this
    · have := h4 j hj hpj
      rw [hasW_wrOf (by omega)] at this
      simpa using this
def ac0 : Ac := ⟨⟨0, 0, 0, []⟩, [], []⟩
def acG (l : List Ac) (x : Int) : Ac := l.getD x.toNat ac0
theorem acG_at {l : List Ac} {x : Int} (h0 : 0 ≤ x) (h : x < (l.length : Int)) : acG l x = l[x.toNat]'(by omega) := by
  unfold acG
  rw [List.getD_eq_getElem?_getD, List.getElem?_eq_getElem (by omega)]
  rfl
theorem wordK : WOrd cmpK := word_lex (word_lex (word_i Ky.tick) (word_lex (word_i Ky.cls) (word_i Ky.num))) (word_s Ky.lin)
theorem cmpK_eq {a b : Ky} : cmpK a b = 0 ↔ a = b := by
  constructor
  · intro h
    unfold cmpK or4 or3 at h
    have h1 := @cmpI_eq a.tick b.tick; have h2 := @cmpI_eq a.cls b.cls; have h3 := @cmpI_eq a.num b.num; have h4 := @cmpS_eq a.lin b.lin; obtain ⟨t, c, n, l⟩ := a; obtain ⟨t2, c2, n2, l2⟩ := b
    simp only at *
    by_cases e1 : cmpI t t2 = 0
    · by_cases e2 : cmpI c c2 = 0
      · by_cases e3 : cmpI n n2 = 0
        · simp [e1, e2, e3] at h
          rw [h1.1 e1, h2.1 e2, h3.1 e3, h4.1 h]
        · simp [e1, e2, e3] at h
      · simp [e1, e2] at h
    · simp [e1] at h
  · rintro rfl
    exact wordK.refl a
def KP (l : List Ac) : Prop := l.Pairwise fun a b => cmpK a.key b.key < 0
theorem runS_pw {ds : List De} (hd : DeOk ds) (ins prs : Nat) : KP (runS ds ins prs) := (runTo_inv hd ins prs (ticks ds) (ticks_le ds)).pw
def befK (l : List Ac) (k : Ky) : Nat := (l.takeWhile fun a => decide (cmpK a.key k < 0)).length
theorem befK_le (l : List Ac) (k : Ky) : befK l k ≤ l.length := by unfold befK; exact (List.takeWhile_sublist _).length_le
theorem befK_cons (a : Ac) (l : List Ac) (k : Ky) : befK (a :: l) k = if cmpK a.key k < 0 then befK l k + 1 else 0 := by
  unfold befK
  rw [List.takeWhile_cons]
  by_cases h : cmpK a.key k < 0 <;> simp [h]
theorem befK_lo : ∀ {l : List Ac} {k : Ky} {i : Nat} (h : i < l.length), i < befK l k → cmpK l[i].key k < 0
  | [], k, i, h, _ => by simp at h
  | a :: l, k, i, h, hi => by
    rw [befK_cons] at hi
    split at hi
    · rename_i hx
      cases i with
      | zero => exact hx
      | succ i => exact befK_lo (l := l) (by simpa using h) (by omega)
    · omega
theorem befK_hi {l : List Ac} {k : Ky} (hp : KP l) {i : Nat} (h : i < l.length) (hi : befK l k ≤ i) : ¬ cmpK l[i].key k < 0 := by
  induction l generalizing i with
  | nil => simp at h
  | cons a l ih =>
    rw [befK_cons] at hi; obtain ⟨h1, h2⟩ := List.pairwise_cons.1 hp
    split at hi
    · cases i with
      | zero => omega
      | succ i => exact ih h2 (by simpa using h) (by omega)
    · rename_i hx
      cases i with
      | zero => exact hx
      | succ i =>
        intro hc
        have hil : i < l.length := by simpa using h
        have h3 := h1 l[i] (List.getElem_mem hil); have h4 := (wordK.trans a.key l[i].key k (by omega) (by simp only [List.getElem_cons_succ] at hc; omega)).2 (.inl h3)
        exact hx h4
theorem befK_eq {l : List Ac} {k : Ky} (hp : KP l) {p : Nat} (h0 : p ≤ l.length) (h1 : ∀ i (h : i < l.length), i < p → cmpK l[i].key k < 0) (h2 : ∀ i (h : i < l.length), p ≤ i → ¬ cmpK l[i].key k < 0) : befK l k = p := by
  have hle := befK_le l k
  rcases Nat.lt_trichotomy (befK l k) p with h | h | h
  · exact absurd (h1 (befK l k) (by omega) h) (befK_hi hp (by omega) (Nat.le_refl _))
  · exact h
  · exact absurd (befK_lo (i := p) (by omega) h) (h2 p (by omega) (Nat.le_refl _))
theorem KP.lt {l : List Ac} (h : KP l) {i j : Nat} (hj : j < l.length) (hij : i < j) : cmpK (l[i]'(by omega)).key l[j].key < 0 := List.pairwise_iff_getElem.1 h i j _ hj hij
theorem KP.befK_at {l : List Ac} (h : KP l) {i : Nat} (hi : i < l.length) : befK l l[i].key = i := by
  refine befK_eq h (by omega) (fun j hj hji => h.lt hi hji) (fun j hj hij hc => ?_)
  rcases Nat.eq_or_lt_of_le hij with rfl | hlt
  · rw [wordK.refl] at hc; omega
  · have := h.lt hj hlt
    have := (wordK.anti l[j].key l[i].key).1 hc
    omega
def hasK (l : List Ac) (k : Ky) : Bool := match l[befK l k]? with
  | some a => decide (a.key = k)
  | none => false
theorem hasK_iff {l : List Ac} (h : KP l) {k : Ky} : hasK l k = true ↔ ∃ a ∈ l, a.key = k := by
  unfold hasK
  constructor
  · intro hh
    cases hg : l[befK l k]? with
    | none => rw [hg] at hh; cases hh
    | some a => rw [hg] at hh; exact ⟨a, List.mem_of_getElem? hg, of_decide_eq_true hh⟩
  · rintro ⟨a, ha, rfl⟩
    obtain ⟨i, hi, rfl⟩ := List.getElem_of_mem ha; rw [h.befK_at hi, List.getElem?_eq_getElem hi]
    exact decide_eq_true rfl
theorem hasK_at {l : List Ac} {k : Ky} (hh : hasK l k = true) : ∃ h : befK l k < l.length, l[befK l k].key = k := by
  unfold hasK at hh
  cases hg : l[befK l k]? with
  | none => rw [hg] at hh; cases hh
  | some a =>
    rw [hg] at hh; obtain ⟨h1, h2⟩ := List.getElem?_eq_some_iff.1 hg
    exact ⟨h1, by rw [h2]; exact of_decide_eq_true hh⟩
def fndI : List Ac → Ky → Int
  | [], _ => -1
  | a :: l, k => if a.key = k then 0 else if fndI l k = -1 then -1 else fndI l k + 1
theorem fndI_spec : ∀ (l : List Ac) (k : Ky), (fndI l k = -1 ∧ ∀ a ∈ l, a.key ≠ k) ∨ ∃ (i : Nat) (h : i < l.length), fndI l k = (i : Int) ∧ l[i].key = k ∧ ∀ j (hj : j < l.length), j < i → l[j].key ≠ k
  | [], k => .inl ⟨rfl, fun a ha => by cases ha⟩
  | a :: l, k => by
    unfold fndI
    by_cases h : a.key = k
    · rw [if_pos h]
      exact .inr ⟨0, by simp, rfl, h, fun j _ hj => by omega⟩
    · rw [if_neg h]
      rcases fndI_spec l k with ⟨h1, h2⟩ | ⟨i, hi, h1, h2, h3⟩
      · rw [if_pos h1]
        refine .inl ⟨rfl, fun b hb => ?_⟩
        rcases List.mem_cons.1 hb with rfl | hb
        · exact h
        · exact h2 b hb
      · rw [if_neg (by omega), h1]
        refine .inr ⟨i + 1, by simpa using hi, by omega, h2, fun j hj hji => ?_⟩
        cases j with
        | zero => exact h
        | succ j => exact h3 j (by simpa using hj) (by omega)
theorem fndI_has {l : List Ac} (h : KP l) (k : Ky) : fndI l k = if hasK l k then (befK l k : Int) else -1 := by
  rcases fndI_spec l k with ⟨h1, h2⟩ | ⟨i, hi, h1, h2, h3⟩
  · rw [h1, if_neg]
    intro hh
    obtain ⟨a, ha, hk⟩ := (hasK_iff h).1 hh
    exact h2 a ha hk
  · rw [h1, if_pos ((hasK_iff h).2 ⟨l[i], List.getElem_mem hi, h2⟩), ← h2, h.befK_at hi]
structure Rs where
  key : Ky
  kind : Int
  name : Nm
deriving DecidableEq
def nm0 : Nm := ⟨0, [], 0, 0, []⟩
def ch0 : Ch := ⟨nm0, [], false⟩
def ky00 : Ky := ⟨0, 0, 0, []⟩
def rs0 : Rs := ⟨ky00, 0, nm0⟩
def sloK (t : Int) : Ky := ⟨t, 1, 0, []⟩
def chOf (a : Ac) (n : Nm) : Ch := (a.writes.find? fun c => decide (c.name = n)).getD ch0
def lwr (l : List Ac) (n : Nm) (k : Ky) : Int := wrB l n (befK l k)
def difC (a b : Ch) : Bool := (a.absent != b.absent) || (!a.absent && (a.value != b.value))
def vdf (a b : List Ac) (n : Nm) (k : Ky) : Bool :=
  if lwr a n k < 0 ∨ lwr b n k < 0 then decide (0 ≤ lwr a n k) || decide (0 ≤ lwr b n k) else difC (chOf (acG a (lwr a n k)) n) (chOf (acG b (lwr b n k)) n)
def orgK (a b : List Ac) (n : Nm) (k : Ky) : Option Ky :=
  if 0 ≤ lwr a n k then (if 0 ≤ lwr b n k ∧ 0 < cmpK (acG b (lwr b n k)).key (acG a (lwr a n k)).key then some (acG b (lwr b n k)).key else some (acG a (lwr a n k)).key)
  else if 0 ≤ lwr b n k then some (acG b (lwr b n k)).key else none
def chgN (x y : List Ch) : Option Nm := (x.find? fun c => y.any fun d => decide (d.name = c.name) && difC c d).map Ch.name
def alo (a b : List Ac) (k : Ky) (kind : Int) : Rs := if k.cls = 0 then ⟨k, kind, nm0⟩ else if vdf a b (prcN k.lin) (sloK k.tick) then ⟨k, kind, prcN k.lin⟩ else ⟨k, kind, nm0⟩
def rsnE (a b : List Ac) (k : Ky) : Rs × Int :=
  if hasK a k then
    (if hasK b k then
      (if (acG a (befK a k)).reads = (acG b (befK b k)).reads then (rs0, 8) else match chgN (acG a (befK a k)).reads (acG b (befK b k)).reads with
        | some n => (⟨k, 1, n⟩, 0)
        | none => (rs0, 10))
    else (alo a b k 3, 0))
  else if hasK b k then (alo a b k 2, 0) else (rs0, 8)
def expF (a b : List Ac) : Nat → Ky → List Rs → List Rs × Int
  | 0, _, _ => ([], 10)
  | n + 1, k, out => if (rsnE a b k).2 ≠ 0 then ([], if out = [] then (rsnE a b k).2 else 10)
    else if (rsnE a b k).1.name = nm0 then (out ++ [(rsnE a b k).1], 0)
    else match orgK a b (rsnE a b k).1.name (if (rsnE a b k).1.kind = 1 then k else sloK k.tick) with
      | none => ([], 10)
      | some o => expF a b n o (out ++ [(rsnE a b k).1])
def msr (a b : List Ac) (k : Ky) : Nat := befK a k + befK b k
def expA (a b : List Ac) (k : Ky) : List Rs × Int := expF a b (msr a b k + 1) k []
theorem befK_mono {l : List Ac} (h : KP l) {k k' : Ky} (hk : cmpK k k' ≤ 0) : befK l k ≤ befK l k' := by
  rcases Nat.lt_or_ge (befK l k') (befK l k) with hlt | hge
  · exfalso
    have hl := befK_le l k; have h1 := befK_lo (l := l) (k := k) (i := befK l k') (by omega) hlt; have h2 := befK_hi h (k := k') (i := befK l k') (by omega) (Nat.le_refl _)
    exact h2 ((wordK.trans l[befK l k'].key k k' (by omega) hk).2 (.inl h1))
  · exact hge
theorem lwr_spec {l : List Ac} (h : KP l) {n : Nm} {k : Ky} (h0 : 0 ≤ lwr l n k) : ∃ (i : Nat) (hi : i < l.length), lwr l n k = (i : Int) ∧ acG l (lwr l n k) = l[i] ∧ cmpK l[i].key k < 0 ∧ i < befK l k := by
  unfold lwr at h0 ⊢
  rcases wrB_spec l n (befK l k) with ⟨h1, _⟩ | ⟨i, h1, h2, h3, _⟩
  · omega
  · have hl := befK_le l k
    refine ⟨i, by omega, h2, ?_, befK_lo (by omega) h1, h1⟩
    rw [h2, acG_at (by omega) (by omega)]
    rfl
theorem orgK_lt {a b : List Ac} (ha : KP a) (hb : KP b) {n : Nm} {k o : Ky} (ho : orgK a b n k = some o) : cmpK o k < 0 ∧ msr a b o < msr a b k ∧ ((∃ x ∈ a, x.key = o) ∨ ∃ x ∈ b, x.key = o) := by
  have keyA : 0 ≤ lwr a n k → ∀ o, (acG a (lwr a n k)).key = o → cmpK o k < 0 ∧ msr a b o < msr a b k ∧ ((∃ x ∈ a, x.key = o) ∨ ∃ x ∈ b, x.key = o) := fun h0 o e => by
    obtain ⟨i, hi, h1, h2, h3, h4⟩ := lwr_spec ha h0; rw [h2] at e; subst e
    refine ⟨h3, ?_, .inl ⟨a[i], List.getElem_mem hi, rfl⟩⟩
    unfold msr
    rw [ha.befK_at hi]; have := befK_mono hb (k := a[i].key) (k' := k) (by omega)
    omega
  have keyB : 0 ≤ lwr b n k → ∀ o, (acG b (lwr b n k)).key = o → cmpK o k < 0 ∧ msr a b o < msr a b k ∧ ((∃ x ∈ a, x.key = o) ∨ ∃ x ∈ b, x.key = o) := fun h0 o e => by
    obtain ⟨i, hi, h1, h2, h3, h4⟩ := lwr_spec hb h0; rw [h2] at e; subst e
    refine ⟨h3, ?_, .inr ⟨b[i], List.getElem_mem hi, rfl⟩⟩
    unfold msr
    rw [hb.befK_at hi]; have := befK_mono ha (k := b[i].key) (k' := k) (by omega)
    omega
  unfold orgK at ho
  split at ho
  · rename_i h0
    split at ho
    · rename_i h1
      injection ho with ho
      exact keyB h1.1 o ho
    · injection ho with ho
      exact keyA h0 o ho
  · split at ho
    · rename_i h1
      injection ho with ho
      exact keyB h1 o ho
    · cases ho
theorem sloK_lt {k : Ky} (h : k.cls = 2) : cmpK (sloK k.tick) k < 0 := by
  unfold cmpK sloK
  rw [or4_neg]
  refine .inr ⟨cmpI_eq.2 rfl, .inl ?_⟩
  rw [cmpI_lt, h]
  show (1 : Int) < 2
  decide
end Go.Proofs.YtmjkcanjfjfkfaaGreat
