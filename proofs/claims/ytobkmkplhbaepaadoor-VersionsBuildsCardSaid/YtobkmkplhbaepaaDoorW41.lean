/- Walks of layer 46: the nodes of a state in order. -/
import Derived.RangeFuncBox
import Derived.RangeFuncLeaves
import Derived.RangeFuncKeeps
import Derived.RangeFuncBound
import Derived.RangeFuncCalls
import Derived.Shelf.Abstract
import Derived.WalkKit
import Derived.OwnWalkIn
import Derived.TacticsInMore
import Derived.LoopNIn
import Derived.LoopIn
import Derived.Maps.AppendAt
import Derived.Laws.MakeOwn
import Derived.Test.YtobkmkplhbaepaaDoorGS
namespace Go.Proofs.YtobkmkplhbaepaaDoor
open Go.RowKit Go.Shelf
set_option linter.unusedSimpArgs false
set_option linter.unusedVariables false
attribute [local go_sem] Oper.semAt_some
theorem room_of_none {F : Fence} (hd : F.depth = none) (k : Nat) : F.room k := fun d h => by rw [hd] at h; cases h
theorem RoundIn.anyDepth {F : Fence} (hd : F.depth = none) {m m' : Nat} {P : Program} {l : Nat} {f : FuncId} {tmps : Array Value} {assign body : Code} {w : World} {R : Ending → World → Prop}
    (h : RoundIn F m P l f tmps assign body w R) : RoundIn F m' P l f tmps assign body w R := ⟨h.1, fun c cs _ => h.2 c cs (room_of_none hd _)⟩
theorem YieldAt.anyDepth {F : Fence} (hd : F.depth = none) {m : Nat} (m' : Nat) {P : Program} {l : Nat} {args : Array Value} {W : World} {R : Ending → World → Prop} (h : YieldAt F m P l args W R) : YieldAt F m' P l args W R := by
  obtain ⟨fn, tmps, assign, body, hy, hR⟩ := h
  exact ⟨fn, tmps, assign, body, hy, RoundIn.anyDepth hd hR⟩
def ndC (q : Nm × Bs) (x : Option Addr) : List Value := [.pointer x]
theorem ndC_len (q : Nm × Bs) (x : Option Addr) : (ndC q x).length = 1 := rfl
/-- A pointer to a node. -/
def NNd (w : World) (x : Option Addr) (q : Nm × Bs) : Prop := ∃ b pl pr h s y, x = some ⟨b, 0, none⟩ ∧ NdAt w b pl pr q.1 q.2 h s y
theorem NNd.next {w w' : World} (hb : Below w.heap.size w w') {x : Option Addr} {q : Nm × Bs} (h : NNd w x q) : NNd w' x q := by
  obtain ⟨b, pl, pr, h, s, y, e, hn⟩ := h
  exact ⟨b, pl, pr, h, s, y, e, Blk.next hn hb hn.lt⟩
/-- A tree in memory with its nodes' addresses in order. -/
def TrL (w : World) : Option Addr → T46 → List (Option Addr) → Prop
  | p, .nil, xs => p = none ∧ xs = []
  | p, .node l k v r, xs => ∃ b pl pr xl xr, p = some ⟨b, 0, none⟩ ∧ NdAt w b pl pr k v (Tr.ht (.node l k v r)) (Tr.sz (.node l k v r)) (byT (.node l k v r)) ∧ TrL w pl l xl ∧ TrL w pr r xr ∧ xs = xl ++ p :: xr
theorem trl_of {w : World} : ∀ {t : T46} {p : Option Addr}, TrAt w p t → ∃ xs, TrL w p t xs
  | .nil, p, h => ⟨[], h, rfl⟩
  | .node l k v r, p, ⟨b, pl, pr, e, hn, hl, hr⟩ => by
    obtain ⟨xl, h1⟩ := trl_of hl
    obtain ⟨xr, h2⟩ := trl_of hr
    exact ⟨_, b, pl, pr, xl, xr, e, hn, h1, h2, rfl⟩
theorem TrL.len {w : World} : ∀ {t : T46} {p : Option Addr} {xs : List (Option Addr)}, TrL w p t xs → xs.length = t.sz
  | .nil, p, xs, h => by rw [h.2]; rfl
  | .node l k v r, p, xs, ⟨b, pl, pr, xl, xr, e, hn, hl, hr, hx⟩ => by
    have h1 := TrL.len hl
    have h2 := TrL.len hr
    rw [hx]
    simp only [List.length_append, List.length_cons, Tr.sz]
    omega
theorem rowW_append {α β : Type} {N : World → β → α → Prop} {w : World} {l1 l2 : List α} {v1 v2 : List β} (h1 : RowW N w l1 v1) (h2 : RowW N w l2 v2) : RowW N w (l1 ++ l2) (v1 ++ v2) := by
  refine ⟨by simp [h1.1, h2.1], fun i x v e1 e2 => ?_⟩
  by_cases hi : i < l1.length
  · rw [List.getElem?_append_left hi] at e1
    rw [List.getElem?_append_left (by rw [h1.1]; exact hi)] at e2
    exact h1.2 i x v e1 e2
  · rw [List.getElem?_append_right (by omega)] at e1
    rw [List.getElem?_append_right (by rw [h1.1]; omega), h1.1] at e2
    exact h2.2 _ x v e1 e2
theorem TrL.row {w : World} : ∀ {t : T46} {p : Option Addr} {xs : List (Option Addr)}, TrL w p t xs → RowW NNd w t.flat xs
  | .nil, p, xs, h => by rw [h.2]; exact RowW.nil _ _
  | .node l k v r, p, xs, ⟨b, pl, pr, xl, xr, e, hn, hl, hr, hx⟩ => by
    rw [hx]
    have h1 := TrL.row hl
    have h2 := TrL.row hr
    have h3 : RowW NNd w [(k, v)] [p] := by
      refine ⟨rfl, fun i x v' e1 e2 => ?_⟩
      cases i with
      | zero =>
        simp at e1 e2
        subst e1 e2
        exact ⟨b, pl, pr, _, _, _, e, hn⟩
      | succ i => simp at e1
    exact rowW_append h1 (rowW_append h3 h2)
set_option maxRecDepth 100000 in
set_option maxHeartbeats 2000000 in
theorem each_in (F : Fence) (hd : F.depth = none) (h6 : F.fn 102) (hro : F.round = none) (l N : Nat) (w0 : World) (J Jx : List (Option Addr) → World → Prop)
    (hY : ∀ m pre x W, J pre W → pre.length < N → YieldAt F m Tryd.prog l #[.pointer x] W fun e W' =>
      (e = .returned (.bool true) ∧ J (pre ++ [x]) W' ∧ Below w0.heap.size W W') ∨ (e = .returned (.bool false) ∧ Jx (pre ++ [x]) W')) (T : T46) :
    ∀ (n : Nat) (p : Option Addr) (pre xs : List (Option Addr)) (W : World), TrL w0 p T xs → Below w0.heap.size w0 W → J pre W → pre.length + xs.length ≤ N →
      CallsIn F n Tryd.prog 102 #[.pointer p, .func (.yield l) #[] #[]] W fun e W' =>
        (e = .returned (.bool true) ∧ J (pre ++ xs) W' ∧ Below w0.heap.size W W') ∨ (e = .returned (.bool false) ∧ ∃ q, q <+: xs ∧ Jx (pre ++ q) W') := by
  induction T with
  | nil =>
    intro n p pre xs W ht hB hJ _
    obtain ⟨rfl, rfl⟩ := ht
    refine callsIn_of_wp Tryd.func102 rfl h6 ?_ hro
    simp only [Tryd.ntmps102, List.size_toArray, List.length_cons, List.length_nil, Nat.reduceAdd, Nat.reduceSub, Array.replicate_succ, Array.replicate_zero, List.push_toArray, List.append_toArray, List.nil_append, List.cons_append]
    gi_wp2
    all_goals first
      | (exfalso; have hbad : ∃ b, some undef = some (Value.bool b) := ⟨_, by assumption⟩; obtain ⟨b, hbad⟩ := hbad; simp [undef] at hbad; done)
      | (refine ⟨fun _ h => (by cases h), ?_⟩; gi_wp2; go_ret; exact .inl ⟨rfl, by simpa using hJ, Below.refl _ _⟩)
  | node tl k v tr ihl ihr =>
    intro n p pre xs W ht hB hJ hN
    obtain ⟨b, pl, pr, xl, xr, rfl, hnd, hl, hr, rfl⟩ := ht
    have hb : b < w0.heap.size := hnd.lt
    have hdd : ∀ k : Nat, (F.depth.isSome = true → 1 ≤ k) := fun k h => by rw [hd] at h; cases h
    simp only [List.length_append, List.length_cons] at hN
    have n0 : w0.cell? ⟨b, 0, none⟩ = some (.pointer pl) := hnd.cell 0
    have n1 : w0.cell? ⟨b, 1, none⟩ = some (.pointer pr) := hnd.cell 1
    have c0 := (hB.cell (p := ⟨b, 0, none⟩) hb).trans n0
    have hy2 : ∀ W1, J (pre ++ xl) W1 → Below w0.heap.size W W1 → YieldAt F (n - 1) Tryd.prog l #[.pointer (some ⟨b, 0, none⟩)] W1 fun e W2 =>
        (e = .returned (.bool true) ∧ J (pre ++ xl ++ [some ⟨b, 0, none⟩]) W2 ∧ Below w0.heap.size W W2 ∧ W2.cell? ⟨b, 1, none⟩ = some (.pointer pr) ∧ Below w0.heap.size w0 W2) ∨ (e = .returned (.bool false) ∧ Jx (pre ++ xl ++ [some ⟨b, 0, none⟩]) W2) := fun W1 hJ1 hb1 =>
      YieldAt.mono (hY (n - 1) _ _ W1 hJ1 (by simp; omega)) fun e W2 h => h.elim
        (fun ⟨he, hj, hb2⟩ => .inl ⟨he, hj, hb1.trans hb2, ((hB.trans (hb1.trans hb2)).cell (p := ⟨b, 1, none⟩) hb).trans n1, hB.trans (hb1.trans hb2)⟩) .inr
    have ih1 := (ihl (n - 1) pl pre xl W hl hB hJ (by omega)).mono (R' := fun e W1 =>
        (e = .returned (.bool true) ∧ YieldAt F (n - 1) Tryd.prog l #[.pointer (some ⟨b, 0, none⟩)] W1 fun e W2 =>
          (e = .returned (.bool true) ∧ J (pre ++ xl ++ [some ⟨b, 0, none⟩]) W2 ∧ Below w0.heap.size W W2 ∧ W2.cell? ⟨b, 1, none⟩ = some (.pointer pr) ∧ Below w0.heap.size w0 W2) ∨ (e = .returned (.bool false) ∧ Jx (pre ++ xl ++ [some ⟨b, 0, none⟩]) W2)) ∨
        (e = .returned (.bool false) ∧ ∃ q, q <+: xl ∧ Jx (pre ++ q) W1))
      (fun e W1 h => h.elim (fun ⟨he, hj, hb1⟩ => .inl ⟨he, hy2 W1 hj hb1⟩) .inr)
    clear hy2 ihl
    refine callsIn_of_wp Tryd.func102 rfl h6 ?_ hro
    simp only [Tryd.ntmps102, List.size_toArray, List.length_cons, List.length_nil, Nat.reduceAdd, Nat.reduceSub, Array.replicate_succ, Array.replicate_zero, List.push_toArray, List.append_toArray, List.nil_append, List.cons_append]
    gi_wp2_with (first
      | ((try refine ⟨hdd _, ?_⟩); gi_at_call 102; refine ih1.mono ?_; clear ih1; rintro e W1 (⟨rfl, fn, tmps, assign, body, hy, hR⟩ | ⟨rfl, q, hq, hx1⟩))
      | ((try refine ⟨hdd _, ?_⟩); refine hR.mono ?_; clear hR; rintro e W2 (⟨rfl, hJ2, hb2, c2', hB2⟩ | ⟨rfl, hx2⟩))
      | ((try refine ⟨hdd _, ?_⟩); gi_at_call 102; refine (ihr (n - 1) pr _ xr _ hr hB2 hJ2 (by simp; omega)).mono ?_; rintro e W3 (⟨rfl, hJ3, hb3⟩ | ⟨rfl, q, hq, hx3⟩)))
    · go_ret
      exact .inl ⟨rfl, by simpa [List.append_assoc] using hJ3, hb2.trans hb3⟩
    · go_ret
      obtain ⟨r, hr'⟩ := hq
      exact .inr ⟨rfl, xl ++ some ⟨b, 0, none⟩ :: q, ⟨r, by simp [← hr']⟩, by simpa [List.append_assoc] using hx3⟩
    · go_ret
      exact .inr ⟨rfl, xl ++ [some ⟨b, 0, none⟩], ⟨xr, by simp⟩, by simpa [List.append_assoc] using hx2⟩
    · refine ⟨fun _ h => (by cases h), ?_⟩
      gi_wp2
      go_ret
      exact .inr ⟨rfl, q, hq.trans (by simp), hx1⟩
set_option maxHeartbeats 1000000 in
theorem nodes1_in (F : Fence) (hd : F.depth = none) (n : Nat) (h5 : F.fn 101) (h6 : F.fn 102) (hro : F.round = none) (l Bt B : Nat) (q : Option Addr) (T : T46) (xs : List (Option Addr)) (w0 : World) (J Jx : List (Option Addr) → World → Prop)
    (hY : ∀ pre x W, J pre W → pre.length < xs.length → YieldAt F (n - 1) Tryd.prog l #[.pointer x] W fun e W' =>
      (e = .returned (.bool true) ∧ J (pre ++ [x]) W' ∧ Below w0.heap.size W W') ∨ (e = .returned (.bool false) ∧ Jx (pre ++ [x]) W'))
    (W : World) (hBt : W.cell? ⟨Bt, 0, none⟩ = some (.pointer (some ⟨B, 0, none⟩))) (hB0 : B < w0.heap.size) (hq : w0.cell? ⟨B, 0, none⟩ = some (.pointer q)) (hT : TrL w0 q T xs) (hb : Below w0.heap.size w0 W) (h0 : J [] W) :
    CallsIn F n Tryd.prog 101 #[.func (.yield l) #[] #[], .pointer (some ⟨Bt, 0, none⟩)] W fun e W' => (∃ v, e = .returned v) ∧
      ((∃ ys, ys = xs ∧ J ys W') ∨ (∃ pre, pre <+: xs ∧ Jx pre W')) := by
  have hdd : ∀ k : Nat, (F.depth.isSome = true → 1 ≤ k) := fun k h => by rw [hd] at h; cases h
  have hp := each_in F hd h6 hro l xs.length w0 J Jx (fun m pre x W hj hl => YieldAt.anyDepth hd m (hY pre x W hj hl)) T (n - 1) q [] xs W hT hb h0 (by simp)
  have hq' := (hb.cell (p := ⟨B, 0, none⟩) hB0).trans hq
  refine callsIn_of_wp Tryd.func101 rfl h5 ?_ hro
  simp only [Tryd.ntmps101, List.size_toArray, List.length_cons, List.length_nil, Nat.reduceAdd, Nat.reduceSub, Array.replicate_succ, Array.replicate_zero, List.push_toArray, List.append_toArray, List.nil_append, List.cons_append]
  gi_wp2_with ((try refine ⟨hdd _, ?_⟩); gi_at_call 102; refine hp.mono ?_; clear hp; rintro e W1 (⟨rfl, hJ1, _⟩ | ⟨rfl, q, hq, hx⟩))
  · go_end0
    exact ⟨⟨_, rfl⟩, .inl ⟨_, rfl, by simpa using hJ1⟩⟩
  · go_end0
    exact ⟨⟨_, rfl⟩, .inr ⟨q, hq, by simpa using hx⟩⟩
set_option maxHeartbeats 1000000 in
theorem nodes_in (F : Fence) (n : Nat) (h4 : F.fn 86) (hro : F.round = none) (p0 : Option Addr) (w : World) :
    CallsIn F n Tryd.prog 86 #[.pointer p0] w fun e w' => e = .returned (.func (.func 101) #[] #[.pointer (some ⟨w.heap.size, 0, none⟩)]) ∧ w' = w.alloc (.cells #[.pointer p0] 27) := by
  refine callsIn_of_wp Tryd.func86 rfl h4 ?_ hro
  simp only [Tryd.ntmps86, List.size_toArray, List.length_cons, List.length_nil, Nat.reduceAdd, Nat.reduceSub, Array.replicate_succ, Array.replicate_zero, List.push_toArray, List.append_toArray, List.nil_append, List.cons_append]
  gi_wp2
  go_ret
  exact ⟨rfl, rfl⟩
theorem nodes_stops (F : Fence) (hd : F.depth = none) (n : Nat) (h5 : F.fn 101) (h6 : F.fn 102) (hro : F.round = none) (Bt B : Nat) (q : Option Addr) (T : T46) (xs : List (Option Addr)) (w0 w : World) (hBt : Bt < w.heap.size) (hc : w.cell? ⟨Bt, 0, none⟩ = some (.pointer (some ⟨B, 0, none⟩))) (hB0 : B < w0.heap.size) (hq : w0.cell? ⟨B, 0, none⟩ = some (.pointer q)) (hT : TrL w0 q T xs) (hb : Below w0.heap.size w0 w) :
    SeqStopsK F n Tryd.prog 101 #[.pointer (some ⟨Bt, 0, none⟩)] (fun x : Option Addr => #[Value.pointer x]) (Below w0.heap.size) (fun ys => ys = xs) (fun pre => pre <+: xs) xs.length w := fun l J Jx W hW _ _ hY h0 =>
  nodes1_in F hd n h5 h6 hro l Bt B q T xs w0 J Jx hY W ((hW.cell (p := ⟨Bt, 0, none⟩) hBt).trans hc) hB0 hq hT (hb.trans (hW.mono hb.size)) h0
end Go.Proofs.YtobkmkplhbaepaaDoor
