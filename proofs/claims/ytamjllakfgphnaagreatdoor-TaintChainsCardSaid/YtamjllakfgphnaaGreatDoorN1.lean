/- A range over a function whose iterator ranges over a function itself: what a round keeps, but for its own loop's record. -/
import Derived.RangeFuncNested
import Derived.RangeFuncBound
import Derived.RangeFuncBox
import Derived.RangeFuncCalls
import Derived.RangeFuncLeaves
import Derived.Shelf.Abstract
import Derived.Test.YtamjllakfgphnaaGreatDoorGV
namespace Go.Proofs.YtamjllakfgphnaaGreatDoor
open Go.RowKit Go.Shelf
set_option linter.unusedSimpArgs false
set_option linter.unusedVariables false
/-- A loop's own writes in a round: blocks of Wr alone, and none below nb. -/
structure KpB (nb : Nat) (Wr : Nat → Prop) (X Y : World) : Prop where
  low : Below nb X Y
  high : ∀ (k : Nat) (o : Obj), ¬ Wr k → X.heap[k]? = some o → Y.heap[k]? = some o
theorem KpB.refl (nb : Nat) (Wr : Nat → Prop) (X : World) : KpB nb Wr X X := ⟨Below.refl _ _, fun _ _ _ h => h⟩
theorem KpB.trans {nb : Nat} {Wr : Nat → Prop} {X Y Z : World} (h : KpB nb Wr X Y) (k : KpB nb Wr Y Z) : KpB nb Wr X Z := ⟨h.low.trans k.low, fun i o h1 h2 => k.high i o h1 (h.high i o h1 h2)⟩
theorem KpB.of_below {nb : Nat} {Wr : Nat → Prop} {X Y : World} (hb : Below X.heap.size X Y) (hn : nb ≤ X.heap.size) : KpB nb Wr X Y :=
  ⟨hb.mono hn, fun k o _ h => (hb.block k (Array.getElem?_eq_some_iff.1 h).1).trans h⟩
theorem KpB.alloc {nb : Nat} {Wr : Nat → Prop} (X : World) (o : Obj) (hn : nb ≤ X.heap.size) : KpB nb Wr X (X.alloc o) := KpB.of_below ((Below.refl _ X).alloc (Nat.le_refl _) o) hn
theorem KpB.drew {nb : Nat} {Wr : Nat → Prop} (X : World) (hn : nb ≤ X.heap.size) : KpB nb Wr X X.drew := KpB.of_below (Below.refl _ X).drew hn
theorem KpB.setCell {nb : Nat} {Wr : Nat → Prop} (X : World) (p : Addr) (v : Value) (hn : nb ≤ p.block) (hw : Wr p.block) : KpB nb Wr X (X.setCell p v) :=
  ⟨(Below.refl nb X).setCell hn v, fun k o h1 h2 => (Below.heap_setCell X p v k (fun e => h1 (e ▸ hw))).trans h2⟩
/-- What a round of the loop with the record r keeps. -/
structure RoundKeeps (nb : Nat) (Wr : Nat → Prop) (r : Nat) (X Y : World) : Prop where
  low : Below nb X Y
  high : ∀ (k : Nat) (o : Obj), k ≠ r → ¬ Wr k → X.heap[k]? = some o → Y.heap[k]? = some o
theorem RoundKeeps.trans {nb : Nat} {Wr : Nat → Prop} {r : Nat} {X Y Z : World} (h : RoundKeeps nb Wr r X Y) (k : RoundKeeps nb Wr r Y Z) : RoundKeeps nb Wr r X Z :=
  ⟨h.low.trans k.low, fun i o h1 h2 h3 => k.high i o h1 h2 (h.high i o h1 h2 h3)⟩
theorem KpB.round {nb : Nat} {Wr : Nat → Prop} {X Y : World} (h : KpB nb Wr X Y) (r : Nat) : RoundKeeps nb Wr r X Y := ⟨h.low, fun k o _ h2 h3 => h.high k o h2 h3⟩
theorem RoundKeeps.put {nb : Nat} {Wr : Nat → Prop} {r : Nat} (X : World) (o o' : Obj) (hr : X.heap[r]? = some o) (hn : nb ≤ r) : RoundKeeps nb Wr r X (X.putObj r o') := by
  have hg := grownBy_putObj' X r o'
  exact ⟨⟨hg.os, hg.tape, hg.output, hg.size, fun i hi => hg.block i (Nat.lt_of_lt_of_le hi (Nat.le_of_lt (Nat.lt_of_le_of_lt hn (Array.getElem?_eq_some_iff.1 hr).1))) (fun e => by injection e with e; omega)⟩,
    fun k q h1 _ h3 => (hg.block k (Array.getElem?_eq_some_iff.1 h3).1 (fun e => by injection e with e; exact h1 e)).trans h3⟩
theorem row_keeps {X Y : World} {row : Option Nat} (hg : X.grownBy Y row) {k : Nat} {o : Obj} (h : X.heap[k]? = some o) (hne : ∀ r, row = some r → r ≠ k) : Y.heap[k]? = some o :=
  (hg.block k (Array.getElem?_eq_some_iff.1 h).1 (fun e => hne k e.symm rfl)).trans h
/-- What a round keeps however it ends: whatever is no cells, but for its own record. -/
structure RoundOthers (B r : Nat) (X Y : World) : Prop where
  size : X.heap.size ≤ Y.heap.size
  high : ∀ (k : Nat) (o : Obj), k ≠ r → B ≤ k → X.heap[k]? = some o → o.isCells = false → Y.heap[k]? = some o
theorem RoundOthers.trans {B r : Nat} {X Y Z : World} (h : RoundOthers B r X Y) (k : RoundOthers B r Y Z) : RoundOthers B r X Z :=
  ⟨Nat.le_trans h.size k.size, fun i o h1 h2 h3 h4 => k.high i o h1 h2 (h.high i o h1 h2 h3 h4) h4⟩
theorem RoundOthers.of_from {B r : Nat} {X Y : World} (h : KeepsFrom B X Y) : RoundOthers B r X Y := ⟨h.size, fun k o _ h2 h3 h4 => h.same k o h2 h3 h4⟩
theorem RoundOthers.put {B r : Nat} (X : World) (o' : Obj) : RoundOthers B r X (X.putObj r o') :=
  ⟨(grownBy_putObj' X r o').size, fun k q h1 _ h3 _ => ((grownBy_putObj' X r o').block k (Array.getElem?_eq_some_iff.1 h3).1 (fun e => by injection e with e; exact h1 e)).trans h3⟩
/-- What an iterator owes at a loop that begins in world w. -/
def SeqBut {α : Type} (F : Fence) (n : Nat) (P : Program) (g : Nat) (lb : Array Value) (encs : α → Array Value) (nb : Nat) (Wr : Nat → Prop) (S Sp : List α → Prop) (N : Nat) (w : World) : Prop :=
  ∀ (J Jx : List α → World → Prop) (W : World), Below w.heap.size w W → w.heap.size + 2 ≤ W.heap.size → OwnFrom W.heap.size J → OwnFrom W.heap.size Jx →
    (∀ pre x X, J pre X → pre.length < N → YieldAt F (n - 1) P (w.heap.size + 1) (encs x) X fun e Y =>
      (e = .returned (.bool true) ∧ J (pre ++ [x]) Y ∧ RoundKeeps nb Wr (w.heap.size + 1) X Y) ∨ (e = .returned (.bool false) ∧ Jx (pre ++ [x]) Y ∧ RoundOthers w.heap.size (w.heap.size + 1) X Y)) →
    J [] W →
    CallsIn F n P g (#[.func (.yield (w.heap.size + 1)) #[] #[]] ++ lb) W fun e Y => (∃ v, e = .returned v) ∧ ((∃ ys, S ys ∧ J ys Y) ∨ (∃ pre, Sp pre ∧ Jx pre Y))
set_option maxHeartbeats 1000000 in
theorem wpIn_range_but {α : Type} {F : Fence} {n : Nat} {P : Program} {g : Operand} {ps : Array Tmp} {assign body : Code} {Q : Exit → Go.Act → World → Prop} {a : Go.Act} {w : World}
    (hro : F.round = none) (h1 : 1 ≤ n) {gf : Nat} {lb : Array Value} (hg : a.eval g = .func (.func gf) #[] lb) (hFg : F.fn gf) (eg : ∀ args w, (callFunc gf args).run P w = .ok (.enter gf args) w)
    {encs : α → Array Value} {nb : Nat} (hnb : nb ≤ w.heap.size) {Wr : Nat → Prop} {S Sp : List α → Prop} {N : Nat} (hseq : SeqBut F (n - 1) P gf lb encs nb Wr S Sp N w) (hps : ∀ x, (encs x).size = ps.size)
    (I : List α → World → Prop) (Ix : Code → List α → World → Prop) (hI : OwnFrom w.heap.size I) (hIx : ∀ c, OwnFrom w.heap.size (Ix c)) (h0 : I [] w) (Ax : α → Go.Act → World → Prop) (hAx : ∀ x a', OwnFrom w.heap.size (fun (_ : Unit) W => Ax x a' W))
    (hassign : ∀ (l : Nat) (pre : List α) (x : α) (W : World) (K : Go.Act → World → Prop), I pre W → (∀ a' W', KeepsFrom w.heap.size W W' → KpB nb Wr W W' → I pre W' → Ax x a' W' → K a' W') →
      assign.wpIn (F.inRound l) (n - 1 - 1) P (Exit.then K (fun _ _ _ => False)) { tmps := (ps.zip (encs x)).foldl (fun t (p, v) => t.setIfInBounds p v) a.tmps, defers := [] } W)
    (hbody : ∀ (l : Nat) (pre : List α) (x : α) (a' : Go.Act) (W : World), w.heap.size ≤ l → (∃ r, W.heap[l]? = some (.loop r)) → I pre W → Ax x a' W → pre.length < N → body.wpIn (F.inRound l) (n - 1 - 1) P (ownPostG w.heap.size (KpB nb Wr) I Ix (pre ++ [x]) W) a' W)
    (hdone : ∀ (D : Nat) (xs : List α) (W : World), w.heap.size ≤ D → S xs → I xs W → W.heap[D]? = some (.deferred (some [])) → Q .normal { a with defers := { target := .collected D, args := #[] } :: a.defers } W)
    (hstop : ∀ (D : Nat) (c : Code) (pre : List α) (W : World), w.heap.size ≤ D → Sp pre → Ix c pre W → W.heap[D]? = some (.deferred (some [])) → c.wpIn F n P Q { a with defers := { target := .collected D, args := #[] } :: a.defers } W) :
    (Code.rangeFunc g ps assign body).wpIn F n P Q a w := by
  refine wpIn_rangeFunc fun fn hfn => ?_
  rw [hro]
  generalize hB : w.heap.size = B at *
  let rc : LoopState → Option Code → Loop := fun st pe => { state := st, pending := pe, fn, tmps := a.tmps, params := ps, assign, body, defers := B }
  have hst : ∀ st pe, (rc st pe).state = st := fun _ _ => rfl
  obtain ⟨Z, hZ⟩ : ∃ Z, (w.alloc (.deferred (some []))).alloc (.loop (rc .ready none)) = Z := ⟨_, rfl⟩
  have hzs : Z.heap.size = B + 2 := by rw [← hZ]; simp [hB]
  have hzr : Z.heap[B + 1]? = some (.loop (rc .ready none)) := by
    have := World.alloc_heap_new (w.alloc (.deferred (some []))) (.loop (rc .ready none))
    rw [World.size_alloc, hB] at this
    rw [← hZ]; exact this
  have hzd : Z.heap[B]? = some (.deferred (some [])) := by
    have := World.alloc_heap_new w (.deferred (some []))
    rw [hB] at this
    rw [← hZ]
    exact (Below.heap_alloc _ _ _ (by rw [World.size_alloc]; omega)).trans this
  have hzb : Below B w Z := by
    rw [← hZ]
    exact ((Below.refl B w).alloc (by omega) _).alloc (by rw [World.size_alloc]; omega) _
  have hz0 : I [] Z := by rw [← hZ]; exact hI.alloc _ (hI.alloc _ h0)
  -- the invariant with the two blocks of the loop
  let Jn : List α → World → Prop := fun pre X => I pre X ∧ X.heap[B + 1]? = some (.loop (rc .ready none)) ∧ X.heap[B]? = some (.deferred (some []))
  let Jd : List α → World → Prop := fun pre X => ∃ c, Ix c pre X ∧ X.heap[B + 1]? = some (.loop (rc .done (some c))) ∧ X.heap[B]? = some (.deferred (some []))
  have lift : ∀ {X : World} {row : Option Nat}, (∀ r, row = some r → Z.heap.size ≤ r ∧ ∃ o : Obj, X.heap[r]? = some o ∧ o.isCells = false) → ∀ r, row = some r → B ≤ r ∧ ∃ o : Obj, X.heap[r]? = some o ∧ o.isCells = false := fun h r e => by
    obtain ⟨k1, o, k2, k3⟩ := h r e
    exact ⟨by omega, o, k2, k3⟩
  refine ⟨B + 1, [{ target := .collected B, args := #[] }], Z, { target := .fn (.func gf) lb, args := #[.func (.yield (B + 1)) #[] #[]] }, Z, gf, #[.func (.yield (B + 1)) #[] #[]] ++ lb, Z, ?_, ?_, ?_, ?_, fun _ => h1, ?_⟩
  · have e := run_enterLoop_outer (P := P) (w := w) fn a.tmps ps assign body
    rw [hB] at e
    rw [← hZ]
    exact e
  · simp only [resolve, hg]
    simp [go_sem]
  · intro f' hf'; simp [Target.leads] at hf'; subst hf'; exact hFg
  · simp [invoke, go_sem, eg]
  have hcall := hseq Jn Jd Z (by rw [hB]; exact hzb) (by rw [hB, hzs]; exact Nat.le_refl _)
    (fun pre X Y row h hg' hr => ⟨hI pre X Y row h.1 hg' (lift hr), row_keeps hg' h.2.1 (fun r e => by have := (hr r e).1; omega), row_keeps hg' h.2.2 (fun r e => by have := (hr r e).1; omega)⟩)
    (fun pre X Y row h hg' hr => by
      obtain ⟨c, hc, k1, k2⟩ := h
      exact ⟨c, hIx c pre X Y row hc hg' (lift hr), row_keeps hg' k1 (fun r e => by have := (hr r e).1; omega), row_keeps hg' k2 (fun r e => by have := (hr r e).1; omega)⟩)
  rw [hB] at hcall
  refine (hcall ?_ ⟨hz0, hzr, hzd⟩).mono ?_
  · rintro pre x X ⟨hi, hr, hd⟩ hlen
    have hy := run_yield (P := P) (args := encs x) hr (hps x)
    refine ⟨fn, _, assign, body, hy, roundIn_of_wpIn hfn (hassign _ pre x X _ hi ?_)⟩
    intro a' Y hkf hkb hiy hax
    have hr1 := hkf.same _ _ (by omega) hr rfl
    have hd1 := hkf.same _ _ (Nat.le_refl _) hd rfl
    have hlt : B + 1 < Y.heap.size := (Array.getElem?_eq_some_iff.1 hr1).1
    refine ⟨_, run_beginRound hr1 rfl, ?_⟩
    have hr2 : (Y.putObj (B + 1) (.loop { rc .ready none with state := .busy })).heap[B + 1]? = some (.loop { rc .ready none with state := .busy }) := World.putObj_heap_same hlt
    have hd2 : (Y.putObj (B + 1) (.loop { rc .ready none with state := .busy })).heap[B]? = some (.deferred (some [])) := (World.putObj_heap_other (by omega)).trans hd1
    have hq2 : RoundKeeps nb Wr (B + 1) X (Y.putObj (B + 1) (.loop { rc .ready none with state := .busy })) := (hkb.round _).trans (RoundKeeps.put Y _ _ hr1 (by omega))
    have hq3 : RoundOthers B (B + 1) X (Y.putObj (B + 1) (.loop { rc .ready none with state := .busy })) := (RoundOthers.of_from hkf).trans (RoundOthers.put Y _)
    refine wpIn_mono (hbody _ pre x a' _ (by omega) ⟨_, hr2⟩ (hI.putObj _ hiy (by omega) hr1 rfl) ((hAx x a').putObj (s := ()) _ hax (by omega) hr1 rfl) hlen) ?_
    have fin : ∀ (jump : Option Code) (V : World), KeepsFrom B (Y.putObj (B + 1) (.loop { rc .ready none with state := .busy })) V →
        (Instr.endRound (B + 1) jump).run P V = .ok (.bool jump.isNone) (V.putObj (B + 1) (.loop (rc (if jump.isNone then .ready else .done) jump))) ∧
        V.heap[B + 1]? = some (.loop { rc .ready none with state := .busy }) ∧
        (V.putObj (B + 1) (.loop (rc (if jump.isNone then .ready else .done) jump))).heap[B + 1]? = some (.loop (rc (if jump.isNone then .ready else .done) jump)) ∧
        (V.putObj (B + 1) (.loop (rc (if jump.isNone then .ready else .done) jump))).heap[B]? = some (.deferred (some [])) := fun jump V hv => by
      have hr3 := hv.same _ _ (by omega) hr2 rfl
      exact ⟨run_endRound (P := P) jump hr3, hr3, World.putObj_heap_same (Array.getElem?_eq_some_iff.1 hr3).1, (World.putObj_heap_other (by omega)).trans (hv.same _ _ (Nat.le_refl _) hd2 rfl)⟩
    rintro e a3 V hp
    cases e with
    | normal =>
      obtain ⟨q1, q2, q3⟩ := hp
      obtain ⟨s1, s2, s3, s4⟩ := fin none V q1
      exact ⟨_, _, s1, .inl ⟨rfl, ⟨hI.putObj _ q3 (by omega) s2 rfl, s3, s4⟩, hq2.trans ((q2.round _).trans (RoundKeeps.put V _ _ s2 (by omega)))⟩⟩
    | ret =>
      obtain ⟨q1, q3⟩ := hp
      obtain ⟨s1, s2, s3, s4⟩ := fin (some .ret) V q1
      exact ⟨_, _, s1, .inr ⟨rfl, ⟨.ret, (hIx _).putObj _ q3 (by omega) s2 rfl, s3, s4⟩, hq3.trans ((RoundOthers.of_from q1).trans (RoundOthers.put V _))⟩⟩
    | exit id =>
      obtain ⟨q1, q3⟩ := hp
      obtain ⟨s1, s2, s3, s4⟩ := fin (some (.exit id)) V q1
      exact ⟨_, _, s1, .inr ⟨rfl, ⟨.exit id, (hIx _).putObj _ q3 (by omega) s2 rfl, s3, s4⟩, hq3.trans ((RoundOthers.of_from q1).trans (RoundOthers.put V _))⟩⟩
    | goto t =>
      obtain ⟨q1, q3⟩ := hp
      obtain ⟨s1, s2, s3, s4⟩ := fin (some (.goto t)) V q1
      exact ⟨_, _, s1, .inr ⟨rfl, ⟨.goto t, (hIx _).putObj _ q3 (by omega) s2 rfl, s3, s4⟩, hq3.trans ((RoundOthers.of_from q1).trans (RoundOthers.put V _))⟩⟩
    | panic ch => exact hp.elim
    | outgrown => exact hp.elim
  · rintro e V ⟨⟨v, rfl⟩, (⟨ys, hS, hi, hr, hd⟩ | ⟨pre, hSp, c, hi, hr, hd⟩)⟩
    · exact ⟨none, _, run_endLoop (P := P) hr (by simp [hst]), hdone _ ys _ (Nat.le_refl _) hS (hI.putObj _ hi (by omega) hr rfl) ((World.putObj_heap_other (by omega)).trans hd)⟩
    · exact ⟨some c, _, run_endLoop (P := P) hr (by simp [hst]), hstop _ c pre _ (Nat.le_refl _) hSp ((hIx c).putObj _ hi (by omega) hr rfl) ((World.putObj_heap_other (by omega)).trans hd)⟩
end Go.Proofs.YtamjllakfgphnaaGreatDoor
