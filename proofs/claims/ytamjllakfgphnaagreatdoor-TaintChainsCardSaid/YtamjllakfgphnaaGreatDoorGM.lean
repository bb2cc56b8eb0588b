/- A region that draws its order and ends in one operation for which all others come first: the others under one condition on the world, the last one by itself. -/
import Derived.Deep.RegionHeld
import Derived.Deep.RegionHeld3
import Derived.Test.YtamjllakfgphnaaGreatDoorProg
import Derived.WalkKit
import Derived.Lib.Hide
import Derived.Below
import Derived.Laws.OwnMore
import Derived.Deep.Draws
import Derived.Laws.Rows
import Derived.OwnWalk
import Derived.RegionTactic
import Derived.BigRegion
import Derived.StillTailTactics
import Derived.Deep.AppendLies
import Derived.Deep.LoopGhost
import Derived.Deep.QuietTactic
import Derived.BigQuiet
import Derived.IntWalk
import Derived.Deep.Slices
import Derived.ChangeArms
import Derived.Lib.SmallJoins
import Derived.Test.YtamjllakfgphnaaGreatDoorGA
import Derived.WalkLawsBesides
import Derived.WalkSpells
import Derived.Laws.StructEq
namespace Go.Proofs.YtamjllakfgphnaaGreatDoor
section
variable {P : Program} {ops : Array Oper} {Q : Exit → Go.Act → World → Prop} {md : Region.Mode} {st : Nat}
def aft (ops : Array Oper) (j : Nat) : Array Edge := ((ops[j]?).map (·.after)).getD #[]
/-- Nobody waits for st; everybody else is waited for by a later one. -/
def lastOk (md : Region.Mode) (ops : Array Oper) (st : Nat) : Bool :=
  decide (st < ops.size) && (List.range ops.size).all fun j =>
    ((aft ops j).toList.all fun e => !Region.binds md e || (decide (e.on < j) && !decide (e.on = st))) &&
    (decide (j = st) || (List.range ops.size).any fun k => decide (j < k) && (aft ops k).toList.any fun e => Region.binds md e && decide (e.on = j))
theorem aft_of {j : Nat} {o : Oper} (h : ops[j]? = some o) : aft ops j = o.after := by unfold aft; rw [h]; rfl
theorem last_spec (h : lastOk md ops st = true) : st < ops.size ∧ ∀ j, j < ops.size → (∀ e ∈ aft ops j, Region.binds md e = true → e.on < j ∧ e.on ≠ st) ∧ (j ≠ st → ∃ k, k < ops.size ∧ j < k ∧ ∃ e ∈ aft ops k, Region.binds md e = true ∧ e.on = j) := by
  unfold lastOk at h
  rw [Bool.and_eq_true, decide_eq_true_eq, List.all_eq_true] at h
  refine ⟨h.1, fun j hj => ?_⟩
  have h2 := h.2 j (List.mem_range.2 hj)
  rw [Bool.and_eq_true, List.all_eq_true, Bool.or_eq_true, decide_eq_true_eq, List.any_eq_true] at h2
  refine ⟨fun e he hb => ?_, fun hne => ?_⟩
  · have := h2.1 e (by simpa using he)
    rw [hb] at this
    simpa using this
  · rcases h2.2 with h3 | ⟨k, hk, h3⟩
    · exact absurd h3 hne
    · rw [Bool.and_eq_true, decide_eq_true_eq, List.any_eq_true] at h3
      obtain ⟨hjk, e, he, h4⟩ := h3
      rw [Bool.and_eq_true, decide_eq_true_eq] at h4
      exact ⟨k, List.mem_range.1 hk, hjk, e, by simpa using he, h4⟩
def Closed (md : Region.Mode) (ops : Array Oper) (listed : Array Bool) : Prop :=
  listed.size = ops.size ∧ ∀ k, k < ops.size → listed.getD k false = true → ∀ e ∈ aft ops k, Region.binds md e = true → listed.getD e.on false = true
theorem Closed.set {listed : Array Bool} {i : Nat} (h : Closed md ops listed) (hi : i ∈ Region.ready md ops listed) : Closed md ops (listed.setIfInBounds i true) := by
  refine ⟨by simp [h.1], fun k hk hl e he hb => ?_⟩
  by_cases hik : i = k
  · subst hik
    obtain ⟨_, o, ho, hall⟩ := mem_ready.1 hi
    rw [aft_of ho] at he
    exact getD_set_true (hall e he hb)
  · rw [getD_set_ne false hik] at hl
    exact getD_set_true (h.2 k hk hl e he hb)
theorem getD_true_false {listed : Array Bool} {j : Nat} (hj : j < listed.size) : listed.getD j true = listed.getD j false := by
  simp [Array.getD, hj]
theorem all_before (hl : lastOk md ops st = true) {listed : Array Bool} (hc : Closed md ops listed) (hr : st ∈ Region.ready md ops listed) : ∀ n j, j < ops.size → ops.size - j ≤ n → j ≠ st → listed.getD j false = true
  | 0, j, hj, hn, _ => by omega
  | n + 1, j, hj, hn, hne => by
    obtain ⟨k, hk, hjk, e, he, hb, rfl⟩ := ((last_spec hl).2 j hj).2 hne
    by_cases hks : k = st
    · subst hks
      obtain ⟨_, o, ho, hall⟩ := mem_ready.1 hr
      rw [aft_of ho] at he
      exact hall e he hb
    · exact hc.2 k hk (all_before hl hc hr n k hk (by omega) hks) e he hb
theorem all_listed (hl : lastOk md ops st = true) {listed : Array Bool} (hsz : listed.size = ops.size) (hr : ∀ j, j ≠ st → j ∉ Region.ready md ops listed) : ∀ j, j < ops.size → j ≠ st → listed.getD j false = true := by
  intro j
  induction j using Nat.strongRecOn with
  | _ j ih =>
    intro hj hne
    cases hlj : listed.getD j false with
    | true => rfl
    | false =>
      refine absurd ?_ (hr j hne)
      rw [mem_ready]
      refine ⟨by rw [getD_true_false (by omega)]; exact hlj, ops[j], Array.getElem?_eq_getElem hj, fun e he hb => ?_⟩
      have := ((last_spec hl).2 j hj).1 e (by rw [aft_of (Array.getElem?_eq_getElem hj)]; exact he) hb
      exact ih e.on this.1 (by omega) this.2
theorem ready_set (hl : lastOk md ops st = true) {listed : Array Bool} {j : Nat} (hne : j ≠ st) : j ∈ Region.ready md ops (listed.setIfInBounds st true) ↔ j ∈ Region.ready md ops listed := by
  rw [mem_ready, mem_ready, getD_set_ne true (Ne.symm hne)]
  refine and_congr Iff.rfl ⟨fun ⟨o, ho, h⟩ => ⟨o, ho, fun e he hb => ?_⟩, fun ⟨o, ho, h⟩ => ⟨o, ho, fun e he hb => getD_set_true (h e he hb)⟩⟩
  have hj : j < ops.size := (Array.getElem?_eq_some_iff.1 ho).1
  have := ((last_spec hl).2 j hj).1 e (by rw [aft_of ho]; exact he) hb
  rw [← getD_set_ne false (Ne.symm this.2)]
  exact h e he hb
/-- Behind all but the last one: the last one. -/
def LastQ (P : Program) (ops : Array Oper) (Q : Exit → Go.Act → World → Prop) (st : Nat) : Exit → Go.Act → World → Prop
  | .normal, a, w => wpOp P ops Q st (Q .normal) a w
  | e, a, w => Q e a w
theorem wpOp_lastQ {i : Nat} {K : Go.Act → World → Prop} {a : Go.Act} {w : World} (h : wpOp P ops (LastQ P ops Q st) i K a w) : wpOp P ops Q i K a w := by
  unfold wpOp at *
  split
  · simpa [*] using h
  · rename_i o ho
    simp only [ho] at h
    split
    · rename_i hw
      simp only [hw, if_true] at h
      rcases h with h | ⟨h1, a', w', h2⟩
      · left
        unfold Oper.wp at *
        generalize (execOp a.eval o).run P w = r at *
        cases r with
        | ok n w' =>
          cases n <;> simp only [Oper.upon] at h ⊢ <;>
            first
              | exact h
              | exact Calls.mono h (fun e w'' he => by cases e <;> exact he)
              | exact Rows.mono h (fun _ _ he => he)
        | halt x w' => cases x <;> simp only [Oper.upon] at h ⊢ <;> exact h
      · exact .inr ⟨h1, a', w', h2⟩
    · rename_i hw
      simp only [hw] at h
      exact h
theorem ready_nil {listed : Array Bool} (h : ∀ j, j < ops.size → listed.getD j false = true) (hsz : listed.size = ops.size) : Region.ready md ops listed = [] := by
  refine List.eq_nil_iff_forall_not_mem.2 fun j hj => ?_
  obtain ⟨h0, o, ho, _⟩ := mem_ready.1 hj
  have hlt : j < ops.size := (Array.getElem?_eq_some_iff.1 ho).1
  rw [getD_true_false (by omega), h j hlt] at h0
  cases h0
theorem wpAny_end {fuel : Nat} {listed : Array Bool} {a : Go.Act} {w : World} (hr : Region.ready md ops listed = []) (h : Q .normal a w) : wpAny P md ops Q fuel listed a w := by
  cases fuel with
  | zero => exact ⟨hr, h⟩
  | succ n => exact ⟨fun _ => h, by rw [hr]; simp⟩
theorem wpAny_last (hl : lastOk md ops st = true) : ∀ (fuel : Nat) (listed : Array Bool) (a : Go.Act) (w : World), Closed md ops listed → listed.getD st true = false →
    wpAny P md ops (LastQ P ops Q st) fuel (listed.setIfInBounds st true) a w → wpAny P md ops Q (fuel + 1) listed a w := by
  intro fuel
  induction fuel with
  | zero =>
    intro listed a w hc hs h
    have hstl := (last_spec hl).1
    have hall := all_listed hl (listed := listed) hc.1 (fun j hne hj => by
      have := (ready_set hl (listed := listed) hne).2 hj
      rw [h.1] at this; cases this)
    have hrdy : st ∈ Region.ready md ops listed := by
      rw [mem_ready]
      refine ⟨hs, ops[st], Array.getElem?_eq_getElem hstl, fun e he hb => ?_⟩
      have := ((last_spec hl).2 st hstl).1 e (by rw [aft_of (Array.getElem?_eq_getElem hstl)]; exact he) hb
      exact hall e.on (by omega) this.2
    refine ⟨fun h0 => (by rw [h0] at hrdy; cases hrdy), fun i hi => ?_⟩
    by_cases hne : i = st
    · subst hne
      refine wpOp_mono (fun a' w' h' => wpAny_end (ready_nil (fun j hj => ?_) (by simp [hc.1])) h') h.2
      by_cases hji : j = i
      · subst hji; simp [Array.getD, hc.1, hj]
      · rw [getD_set_ne false (Ne.symm hji)]; exact hall j hj hji
    · have := (ready_set hl (listed := listed) hne).2 hi
      rw [h.1] at this; cases this
  | succ fuel ih =>
    intro listed a w hc hs h
    have hstl := (last_spec hl).1
    have fin : st ∈ Region.ready md ops listed → wpOp P ops Q st (wpAny P md ops Q (fuel + 1) (listed.setIfInBounds st true)) a w := by
      intro hr
      have hall := fun j hj hne => all_before hl hc hr (ops.size - j) j hj (Nat.le_refl _) hne
      have hn : Region.ready md ops (listed.setIfInBounds st true) = [] := ready_nil (fun j hj => by
        by_cases hji : j = st
        · subst hji; simp [Array.getD, hc.1, hj]
        · rw [getD_set_ne false (Ne.symm hji)]; exact hall j hj hji) (by simp [hc.1])
      exact wpOp_mono (fun a' w' h' => wpAny_end hn h') (h.1 hn)
    refine ⟨fun h0 => ?_, fun i hi => ?_⟩
    · exfalso
      have hall := all_listed hl (listed := listed) hc.1 (fun j _ hj => by rw [h0] at hj; cases hj)
      have hrdy : st ∈ Region.ready md ops listed := by
        rw [mem_ready]
        refine ⟨hs, ops[st], Array.getElem?_eq_getElem hstl, fun e he hb => ?_⟩
        have := ((last_spec hl).2 st hstl).1 e (by rw [aft_of (Array.getElem?_eq_getElem hstl)]; exact he) hb
        exact hall e.on (by omega) this.2
      rw [h0] at hrdy; cases hrdy
    · by_cases hne : i = st
      · subst hne; exact fin hi
      · have h1 := h.2 i ((ready_set hl hne).2 hi)
        refine wpOp_mono (fun a' w' h' => ih _ a' w' (hc.set hi) (by rw [getD_set_ne true hne]; exact hs) ?_) (wpOp_lastQ h1)
        rw [Array.setIfInBounds_comm _ _ hne]
        exact h'
/-- The beginning. -/
theorem wp_region_last {S : World → Prop} {id : Nat} {a : Go.Act} {w : World} (st : Nat) (n : Nat) (hn : ops.size = n + 1) (hl : lastOk .any ops st = true) (hm : P.follows .mixedOrders = true) (hS : S w.drew)
    (h : S w.drew → wpAnyH P .any ops (LastQ P ops Q st) S n ((Array.replicate (n + 1) false).setIfInBounds st true) a w.drew) : (Code.region id ops true).wp P Q a w := by
  refine wp_region_any hm ?_
  rw [hn]
  have hc : Closed .any ops (Array.replicate (n + 1) false) := by
    refine ⟨by simp [hn], fun k hk hlk => ?_⟩
    rw [hn] at hk
    simp [Array.getD, hk] at hlk
  refine wpAny_last hl n _ a _ hc ?_ (wpAny_of_held _ _ _ _ (h hS))
  have := (last_spec hl).1
  rw [hn] at this
  simp [Array.getD, this]
theorem lastQ_step {o : Oper} {a : Go.Act} {w : World} (ho : ops[st]? = some o)
    (h : ∀ K' : Go.Act → World → Prop, (∀ a w, Q .normal a w → K' a w) → if Region.wanted o (yielded ops a.tmps) = true then Oper.wp P o a w K' Q else K' (a.put o.dst undef) w) : LastQ P ops Q st .normal a w :=
  wpOp_step ho h
end
end Go.Proofs.YtamjllakfgphnaaGreatDoor
/- A drawn region: the condition on the world may be made stronger on the way. -/
namespace Go.Proofs.YtamjllakfgphnaaGreatDoor
set_option linter.unusedVariables false
theorem wpAnyH_more {P : Program} {md : Region.Mode} {ops : Array Oper} {Q : Exit → Go.Act → World → Prop} {S S' : World → Prop} (hi : ∀ w, S' w → S w) : ∀ {fuel : Nat} {listed : Array Bool} {a : Go.Act} {w : World}, wpAnyH P md ops Q S' fuel listed a w → wpAnyH P md ops Q S fuel listed a w
  | 0, _, _, _, h => h
  | fuel + 1, _, _, _, h => ⟨h.1, fun i hr => wpOp_mono (fun a' w' h' => ⟨hi _ h'.1, wpAnyH_more hi h'.2⟩) (h.2 i hr)⟩
end Go.Proofs.YtamjllakfgphnaaGreatDoor
/- Words for memory: blocks known whole, slices that read as lists, what is kept. -/
namespace Go.Proofs.YtamjllakfgphnaaGreatDoor
open Go.RowKit
set_option linter.unusedSimpArgs false
set_option linter.unusedVariables false
def bs (l : Bs) : ByteArray := ⟨l.toArray⟩
theorem bs_list (l : Bs) : (bs l).data.toList = l := by simp [bs]
theorem bs_of (s : ByteArray) : bs s.data.toList = s := by cases s; simp [bs]
theorem bs_size (l : Bs) : (bs l).size = l.length := by simp [bs, ByteArray.size]
theorem bs_inj {a b : Bs} (h : bs a = bs b) : a = b := by have := congrArg (fun x => x.data.toList) h; simpa [bs_list] using this
theorem size_extract (s : ByteArray) (a b : Nat) (hb : b ≤ s.size) : (s.extract a b).size = b - a := by
  simp [ByteArray.size_extract]; omega
/-- A block that is known whole. -/
def Blk (w : World) (g : Nat) (t : TypeId) (cs : Array Value) : Prop := w.heap[g]? = some (.cells cs t (0, 0))
section
variable {w w' : World} {g : Nat} {t : TypeId} {cs : Array Value}
theorem Blk.lt (h : Blk w g t cs) : g < w.heap.size := (Array.getElem?_eq_some_iff.1 h).1
theorem Blk.cell (h : Blk w g t cs) (i : Nat) : w.cell? ⟨g, i, none⟩ = cs[i]? := cell_of_row w g i cs t (0, 0) h
theorem Blk.frozen (h : Blk w g t cs) (i : Nat) : w.frozen? ⟨g, i, none⟩ = false := by
  unfold Blk at h
  simp [World.frozen?, h]
theorem Blk.new (w : World) (t : TypeId) (cs : Array Value) : Blk (w.alloc (.cells cs t)) w.heap.size t cs := heap_alloc_new w _
theorem Blk.drew (h : Blk w g t cs) : Blk w.drew g t cs := h
theorem Blk.drewN (h : Blk w g t cs) (n : Nat) : Blk (w.drewN n) g t cs := h
theorem Blk.alloc (h : Blk w g t cs) (o : Obj) : Blk (w.alloc o) g t cs := (Below.heap_alloc w o g h.lt).trans h
theorem Blk.set_ (h : Blk w g t cs) (i : Nat) (u : Value) : Blk (w.setCell ⟨g, i, none⟩ u) g t (cs.setIfInBounds i u) := by
  unfold Blk at h ⊢
  simp [World.setCell, Array.getElem?_modify, h]
theorem Blk.far (h : Blk w g t cs) {p : Addr} (hp : g ≠ p.block) (u : Value) : Blk (w.setCell p u) g t cs := (Below.heap_setCell w p u g hp).trans h
theorem Blk.next {B : Nat} (h : Blk w g t cs) (hb : Below B w w') (hg : g < B) : Blk w' g t cs := (hb.block g hg).trans h
theorem Blk.grown {row : Option Nat} (h : Blk w g t cs) (hb : w.grownBy w' row) (hg : some g ≠ row) : Blk w' g t cs := (hb.block g h.lt hg).trans h
theorem own_blk_ne {base : Nat} {e : TypeId} {size n : Nat} {v : Value} {xs : List Value} (h : w.ownsRow base e size v n xs) (hg : Blk w g t cs) (hne : e ≠ t) : v.ownBlock ≠ some g := by
  rcases h.2 with ⟨rfl, _⟩ | ⟨g', cap, cur, rfl, _, hh, _⟩
  · simp [Value.ownBlock]
  · intro he
    have : g' = g := by simpa [Value.ownBlock] using he
    subst this
    unfold Blk at hg
    rw [hh] at hg
    injection hg with hg
    injection hg with _ ht
    exact hne ht
end
theorem only_drewN {a w : World} {row : Option Nat} (h : a.grownBy w row) (n : Nat) : a.grownBy (w.drewN n) row := ⟨h.os, h.tape, h.output, h.size, h.block⟩
theorem only_drew {a w : World} {row : Option Nat} (h : a.grownBy w row) : a.grownBy w.drew row := ⟨h.os, h.tape, h.output, h.size, h.block⟩
theorem only_alloc {a w : World} {row : Option Nat} (h : a.grownBy w row) (o : Obj) : a.grownBy (w.alloc o) row :=
  ⟨h.os, h.tape, h.output, Nat.le_trans h.size (by simp), fun i hi hne => (Below.heap_alloc w o i (Nat.lt_of_lt_of_le hi h.size)).trans (h.block i hi hne)⟩
theorem only_setCell {a w : World} {g : Nat} (h : a.grownBy w (some g)) {p : Addr} (hp : p.block = g ∨ a.heap.size ≤ p.block) (u : Value) : a.grownBy (w.setCell p u) (some g) :=
  ⟨h.os, h.tape, h.output, by simpa [World.setCell] using h.size, fun i hi hne => (Below.heap_setCell w p u i (by
    rintro rfl
    rcases hp with hp | hp
    · exact hne (by rw [hp])
    · omega)).trans (h.block i hi hne)⟩
theorem only_of_below {a w : World} (h : Below a.heap.size a w) (row : Option Nat) : a.grownBy w row := ⟨h.os, h.tape, h.output, h.size, fun i hi _ => h.block i hi⟩
theorem grown_trans {a b c : World} {row : Option Nat} (h : a.grownBy b row) (k : b.grownBy c row) : a.grownBy c row :=
  ⟨k.os.trans h.os, k.tape.trans h.tape, k.output.trans h.output, Nat.le_trans h.size k.size, fun i hi hne => (k.block i (Nat.lt_of_lt_of_le hi h.size) hne).trans (h.block i hi hne)⟩
/-- Behind an append to a row made behind the world a. -/
theorem only_row {a b c : World} {g : Nat} {row : Option Nat} (h : a.grownBy b (some g)) (k : b.grownBy c row) (hr : ∀ i, row = some i → a.heap.size ≤ i) : a.grownBy c (some g) :=
  ⟨k.os.trans h.os, k.tape.trans h.tape, k.output.trans h.output, Nat.le_trans h.size k.size, fun i hi hne => (k.block i (Nat.lt_of_lt_of_le hi h.size) (fun e => by have := hr i e.symm; omega)).trans (h.block i hi hne)⟩
theorem below_drewN {B : Nat} {a w : World} (h : Below B a w) (n : Nat) : Below B a (w.drewN n) := ⟨h.os, h.tape, h.output, h.size, h.block⟩
theorem bcell {W w1 : World} {B : Nat} (hb : Below B W w1) : (∀ b o, b < B → w1.cell? ⟨b, o, none⟩ = W.cell? ⟨b, o, none⟩) ∧ (∀ b o, b < B → w1.frozen? ⟨b, o, none⟩ = W.frozen? ⟨b, o, none⟩) :=
  ⟨fun b o h => hb.cell (p := ⟨b, o, none⟩) h, fun b o h => hb.frozen (p := ⟨b, o, none⟩) h⟩
theorem own_next {w w' : World} {base : Nat} {e : TypeId} {size : Nat} {v : Value} {n : Nat} {xs : List Value} (h : w.ownsRow base e size v n xs) (hb : Below w.heap.size w w') : w'.ownsRow base e size v n xs := by
  obtain ⟨h1, h2⟩ := h
  refine ⟨h1, ?_⟩
  rcases h2 with h2 | ⟨g, cap, cur, hv, hg, hh, r⟩
  · exact .inl h2
  · have hlt : g < w.heap.size := (Array.getElem?_eq_some_iff.1 hh).1
    exact .inr ⟨g, cap, cur, hv, hg, by rw [hb.block g hlt]; exact hh, r⟩
theorem own_ge {w : World} {base : Nat} {e : TypeId} {size : Nat} {v : Value} {n : Nat} {xs : List Value} (h : w.ownsRow base e size v n xs) {g : Nat} (hg : v.ownBlock = some g) : base ≤ g := by
  obtain ⟨_, ⟨rfl, _⟩ | ⟨g', cap', cur, rfl, hb, _⟩⟩ := h
  · simp [Value.ownBlock] at hg
  · simp [Value.ownBlock] at hg
    omega
theorem own_base {w : World} {base b0 : Nat} {e : TypeId} {size : Nat} {v : Value} {n : Nat} {xs : List Value} (h : w.ownsRow base e size v n xs) (hb : b0 ≤ base) : w.ownsRow b0 e size v n xs := by
  obtain ⟨h1, h2 | ⟨g, cap, cur, hv, hg, r⟩⟩ := h
  · exact ⟨h1, .inl h2⟩
  · exact ⟨h1, .inr ⟨g, cap, cur, hv, Nat.le_trans hb hg, r⟩⟩
theorem own_len {w : World} {base : Nat} {e : TypeId} {size : Nat} {v : Value} {n : Nat} {xs : List Value} (h : w.ownsRow base e size v n xs) : ∃ a c, v = .slice a n c ∧ n ≤ c := by
  obtain ⟨h1, ⟨rfl, rfl⟩ | ⟨g, cap, cur, rfl, _, _, hn, _⟩⟩ := h
  · exact ⟨none, 0, rfl, Nat.le_refl _⟩
  · exact ⟨_, _, rfl, hn⟩
/-- Two rows of different element types lie in different blocks. -/
theorem own_ne {w : World} {base base' : Nat} {e e' : TypeId} {size size' n n' : Nat} {v v' : Value} {xs xs' : List Value} (h : w.ownsRow base e size v n xs) (h' : w.ownsRow base' e' size' v' n' xs') (hne : e ≠ e') : v.ownBlock = none ∨ v.ownBlock ≠ v'.ownBlock := by
  rcases h.2 with ⟨rfl, _⟩ | ⟨g, cap, cur, rfl, _, hh, _⟩
  · exact .inl rfl
  · refine .inr fun he => ?_
    exact own_blk_ne h' hh (Ne.symm hne) he.symm
theorem newN (w : World) (cs : Array Value) (t : TypeId) (j : Nat) (u : Value) (h : cs.toList[j]? = some u) : (w.alloc (.cells cs t)).cell? ((⟨w.heap.size, 0, none⟩ : Addr).add j) = some u := by
  have e2 : ((⟨w.heap.size, 0, none⟩ : Addr).add j) = ⟨w.heap.size, j, none⟩ := by
    unfold Addr.add
    split
    · rename_i h; subst h; rfl
    · simp
  rw [e2, (Blk.new w t cs).cell j]
  simpa using h
theorem cell_far {w : World} {p q : Addr} {u : Value} (h : q.block ≠ p.block) : (w.setCell p u).cell? q = w.cell? q := World.cell?_of_block (Below.heap_setCell w p u q.block h)
/-- A slice of n elements of type e whose cells are xs. -/
def Rd (e : TypeId) (w : World) (v : Value) (n : Nat) (xs : List Value) : Prop :=
  ∃ A c, v = .slice A n c ∧ n ≤ c ∧ c ≤ maxLen ∧ ((n = 0 ∧ xs = []) ∨ ∃ b o cs fr, A = some ⟨b, o, none⟩ ∧ w.heap[b]? = some (.cells cs e fr) ∧ ∀ j u, xs[j]? = some u → cs[o + j]? = some u)
theorem Rd.kept {e : TypeId} {w w' : World} {v : Value} {n : Nat} {xs : List Value} {row : Option Nat} (h : Rd e w v n xs) (hg : w.grownBy w' row) (hne : ∀ g cs fr, row = some g → w.heap[g]? = some (.cells cs e fr) → False) : Rd e w' v n xs := by
  obtain ⟨A, c, hv, hc, hm, h0 | ⟨b, o, cs, fr, hA, hb, hx⟩⟩ := h
  · exact ⟨A, c, hv, hc, hm, .inl h0⟩
  · refine ⟨A, c, hv, hc, hm, .inr ⟨b, o, cs, fr, hA, ?_, hx⟩⟩
    rw [hg.block b (Array.getElem?_eq_some_iff.1 hb).1 (fun h => hne b cs fr h.symm hb)]
    exact hb
theorem Rd.next {e : TypeId} {w w' : World} {v : Value} {n : Nat} {xs : List Value} (h : Rd e w v n xs) (hb : Below w.heap.size w w') : Rd e w' v n xs :=
  h.kept (only_of_below hb none) (fun g cs fr h => by cases h)
theorem Rd.drewN {e : TypeId} {w : World} {v : Value} {n : Nat} {xs : List Value} (h : Rd e w v n xs) (k : Nat) : Rd e (w.drewN k) v n xs := h
theorem Rd.drew {e : TypeId} {w : World} {v : Value} {n : Nat} {xs : List Value} (h : Rd e w v n xs) : Rd e w.drew v n xs := h
/-- Behind an append to a row of another type. -/
theorem Rd.far {e e' : TypeId} {w w' : World} {v v' : Value} {n n' base size : Nat} {xs xs' : List Value} (h : Rd e w v n xs) (ho : w.ownsRow base e' size v' n' xs') (hg : w.grownBy w' v'.ownBlock) (hne : e ≠ e') : Rd e w' v n xs := by
  refine h.kept hg (fun g cs fr hr hh => ?_)
  rcases ho.2 with ⟨rfl, _⟩ | ⟨g', cap, cur, rfl, _, h2, _⟩
  · simp [Value.ownBlock] at hr
  · simp [Value.ownBlock] at hr
    subst hr
    rw [h2] at hh
    injection hh with hh
    injection hh with _ ht
    exact hne ht.symm
/-- Behind stores into a block of another type. -/
theorem Rd.blk {e t : TypeId} {w w' : World} {v : Value} {n g : Nat} {xs : List Value} {cs : Array Value} (h : Rd e w v n xs) (hb : Blk w g t cs) (hg : w.grownBy w' (some g)) (hne : e ≠ t) : Rd e w' v n xs := by
  refine h.kept hg (fun g' cs' fr hr hh => ?_)
  injection hr with hr
  subst hr
  unfold Blk at hb
  rw [hb] at hh
  injection hh with hh
  injection hh with _ ht
  exact hne ht.symm
theorem Rd.of_own {e : TypeId} {w : World} {v : Value} {n base size : Nat} {xs : List Value} (h : w.ownsRow base e size v n xs) : Rd e w v n xs := by
  obtain ⟨h1, ⟨rfl, rfl⟩ | ⟨g, cap, cur, rfl, _, hh, hn, hm, _, hx⟩⟩ := h
  · exact ⟨none, 0, rfl, Nat.le_refl _, Nat.zero_le _, .inl ⟨rfl, by simpa using h1⟩⟩
  · refine ⟨_, cap, rfl, hn, hm, .inr ⟨g, 0, cur, (0, 0), rfl, hh, fun j u hu => ?_⟩⟩
    rw [← hx] at hu
    rw [List.getElem?_take] at hu
    split at hu
    · simpa using hu
    · cases hu
theorem Rd.form {e : TypeId} {w : World} {v : Value} {n : Nat} {xs : List Value} (h : Rd e w v n xs) : ∃ A c, v = .slice A n c ∧ n ≤ c := by
  obtain ⟨A, c, hv, hc, _⟩ := h
  exact ⟨A, c, hv, hc⟩
/-- The address and the cells, where there is an element. -/
theorem Rd.at_ {e : TypeId} {w : World} {v : Value} {n : Nat} {xs : List Value} (h : Rd e w v n xs) (hn : 0 < n) : ∃ b o c, v = .slice (some ⟨b, o, none⟩) n c ∧ n ≤ c ∧ c ≤ maxLen ∧ b < w.heap.size ∧ ∀ j u, xs[j]? = some u → w.cell? ⟨b, o + j, none⟩ = some u := by
  obtain ⟨A, c, hv, hc, hm, h0 | ⟨b, o, cs, fr, hA, hb, hx⟩⟩ := h
  · omega
  · subst hA
    refine ⟨b, o, c, hv, hc, hm, (Array.getElem?_eq_some_iff.1 hb).1, fun j u hu => ?_⟩
    rw [cell_of_row w b (o + j) cs e fr hb]
    exact hx j u hu
/-- What is left behind the first k elements. -/
theorem Rd.cut {e : TypeId} {w : World} {A : Option Addr} {n c : Nat} {xs : List Value} (h : Rd e w (.slice A n c) n xs) (size k : Nat) (hk : k ≤ n) (hx : xs.length = n * size) : Rd e w (.slice (if c = k then A else A.map (·.add (k * size))) (n - k) (c - k)) (n - k) (xs.drop (k * size)) := by
  obtain ⟨A', c', hv, hc, hm, h0⟩ := h
  cases hv
  refine ⟨_, _, rfl, by omega, by omega, ?_⟩
  by_cases hkn : k = n
  · refine .inl ⟨by omega, ?_⟩
    subst hkn
    exact List.drop_eq_nil_of_le (by omega)
  · rcases h0 with ⟨h0, _⟩ | ⟨b, o, cs, fr, rfl, hb, hx'⟩
    · omega
    · rw [if_neg (by omega)]
      refine .inr ⟨b, o + k * size, cs, fr, ?_, hb, fun j u hu => ?_⟩
      · simp only [Option.map_some]
        unfold Addr.add
        split
        · rename_i h; rw [h]; rfl
        · rfl
      · rw [List.getElem?_drop] at hu
        rw [Nat.add_assoc]
        exact hx' _ u hu
/-- Blocks whose element type is not listed are as they were. -/
structure Kept (L : List TypeId) (w w' : World) : Prop where
  size : w.heap.size ≤ w'.heap.size
  block : ∀ (b : Nat) (cs : Array Value) (e : TypeId) (fr : Nat × Nat), w.heap[b]? = some (Obj.cells cs e fr) → L.contains e = false → w'.heap[b]? = some (Obj.cells cs e fr)
theorem Kept.refl (L : List TypeId) (w : World) : Kept L w w := ⟨Nat.le_refl _, fun _ _ _ _ h _ => h⟩
theorem Kept.trans {L : List TypeId} {a b c : World} (h : Kept L a b) (k : Kept L b c) : Kept L a c :=
  ⟨Nat.le_trans h.size k.size, fun i cs e fr h1 h2 => k.block i cs e fr (h.block i cs e fr h1 h2) h2⟩
theorem Kept.of_below {w w' : World} (L : List TypeId) (h : Below w.heap.size w w') : Kept L w w' :=
  ⟨h.size, fun b cs e fr h1 _ => by rw [h.block b (Array.getElem?_eq_some_iff.1 h1).1]; exact h1⟩
theorem Kept.of_blk {w w' : World} {g : Nat} {t : TypeId} {cs : Array Value} (L : List TypeId) (hb : Blk w g t cs) (h : w.grownBy w' (some g)) (ht : L.contains t = true) : Kept L w w' :=
  ⟨h.size, fun b cs' e fr h1 h2 => by
    rw [h.block b (Array.getElem?_eq_some_iff.1 h1).1 (fun he => by
      injection he with he
      subst he
      unfold Blk at hb
      rw [hb] at h1
      injection h1 with h1
      injection h1 with _ h3
      subst h3
      rw [ht] at h2; cases h2)]
    exact h1⟩
theorem Kept.of_own {w w' : World} {base e size n : Nat} {v : Value} {xs : List Value} (L : List TypeId) (ho : w.ownsRow base e size v n xs) (h : w.grownBy w' v.ownBlock) (ht : L.contains e = true) : Kept L w w' := by
  rcases ho.2 with ⟨rfl, _⟩ | ⟨g', cap, cur, rfl, _, h2, _⟩
  · exact ⟨h.size, fun b cs e' fr h1 _ => by rw [h.block b (Array.getElem?_eq_some_iff.1 h1).1 (by simp [Value.ownBlock])]; exact h1⟩
  · exact Kept.of_blk L (show Blk w g' e cur from h2) h ht
theorem Kept.drewN {L : List TypeId} {a b : World} (h : Kept L a b) (n : Nat) : Kept L a (b.drewN n) := ⟨h.size, h.block⟩
theorem Kept.drew {L : List TypeId} {a b : World} (h : Kept L a b) : Kept L a b.drew := ⟨h.size, h.block⟩
theorem Kept.alloc {L : List TypeId} {a b : World} (h : Kept L a b) (o : Obj) : Kept L a (b.alloc o) := h.trans (Kept.of_below L ((Below.refl _ _).alloc (Nat.le_refl _) o))
theorem Kept.mono {L L' : List TypeId} {a b : World} (h : Kept L a b) (hl : ∀ e, L'.contains e = false → L.contains e = false) : Kept L' a b := ⟨h.size, fun i cs e fr h1 h2 => h.block i cs e fr h1 (hl e h2)⟩
theorem Rd.keep {e : TypeId} {w w' : World} {v : Value} {n : Nat} {xs : List Value} {L : List TypeId} (h : Rd e w v n xs) (k : Kept L w w') (he : L.contains e = false) : Rd e w' v n xs := by
  obtain ⟨A, c, hv, hc, hm, h0 | ⟨b, o, cs, fr, hA, hb, hx⟩⟩ := h
  · exact ⟨A, c, hv, hc, hm, .inl h0⟩
  · exact ⟨A, c, hv, hc, hm, .inr ⟨b, o, cs, fr, hA, k.block b cs e fr hb he, hx⟩⟩
theorem own_keep {e : TypeId} {w w' : World} {v : Value} {n base size : Nat} {xs : List Value} {L : List TypeId} (h : w.ownsRow base e size v n xs) (k : Kept L w w') (he : L.contains e = false) : w'.ownsRow base e size v n xs := by
  obtain ⟨h1, h2 | ⟨g, cap, cur, hv, hg, hh, r⟩⟩ := h
  · exact ⟨h1, .inl h2⟩
  · exact ⟨h1, .inr ⟨g, cap, cur, hv, hg, k.block g cur e (0, 0) hh he, r⟩⟩
theorem Blk.keep {w w' : World} {g : Nat} {t : TypeId} {cs : Array Value} {L : List TypeId} (h : Blk w g t cs) (k : Kept L w w') (he : L.contains t = false) : Blk w' g t cs := k.block g cs t (0, 0) h he
section
variable {α β : Type}
/-- The cells of a row: f x v: the cells of the element x whose inner slices are v. -/
def rowC (f : α → β → List Value) : List α → List β → List Value
  | x :: l, v :: vs => f x v ++ rowC f l vs
  | _, _ => []
theorem rowC_snoc (f : α → β → List Value) : ∀ (l : List α) (vs : List β) (x : α) (v : β), vs.length = l.length → rowC f (l ++ [x]) (vs ++ [v]) = rowC f l vs ++ f x v
  | [], [], x, v, _ => by simp [rowC]
  | a :: l, b :: vs, x, v, h => by
    have := rowC_snoc f l vs x v (by simpa using h)
    simp [rowC, this]
  | [], b :: vs, _, _, h => by simp at h
  | a :: l, [], _, _, h => by simp at h
/-- Each element's inner slices. -/
def RowW (N : World → β → α → Prop) (w : World) (l : List α) (vs : List β) : Prop := vs.length = l.length ∧ ∀ (i : Nat) (x : α) (v : β), l[i]? = some x → vs[i]? = some v → N w v x
theorem RowW.nil (N : World → β → α → Prop) (w : World) : RowW N w [] [] := ⟨rfl, fun i x v h => by simp at h⟩
theorem RowW.imp {N : World → β → α → Prop} {w w' : World} {l : List α} {vs : List β} (h : RowW N w l vs) (hi : ∀ v x, N w v x → N w' v x) : RowW N w' l vs := ⟨h.1, fun i x v h1 h2 => hi _ _ (h.2 i x v h1 h2)⟩
theorem RowW.snoc {N : World → β → α → Prop} {w : World} {l : List α} {vs : List β} {x : α} {v : β} (h : RowW N w l vs) (hv : N w v x) : RowW N w (l ++ [x]) (vs ++ [v]) := by
  refine ⟨by simp [h.1], fun i x' v' h1 h2 => ?_⟩
  rcases Nat.lt_trichotomy i l.length with hi | hi | hi
  · rw [List.getElem?_append_left hi] at h1
    rw [List.getElem?_append_left (by rw [h.1]; exact hi)] at h2
    exact h.2 i x' v' h1 h2
  · subst hi
    rw [List.getElem?_append_right (Nat.le_refl _)] at h1
    rw [← h.1, List.getElem?_append_right (Nat.le_refl _)] at h2
    simp at h1 h2
    subst h1 h2
    exact hv
  · rw [List.getElem?_eq_none (by simp; omega)] at h1
    cases h1
/-- A row of the call's own. -/
def RowOwn (e : TypeId) (size : Nat) (f : α → β → List Value) (N : World → β → α → Prop) (w : World) (base : Nat) (v : Value) (l : List α) : Prop := ∃ vs, RowW N w l vs ∧ w.ownsRow base e size v l.length (rowC f l vs)
/-- A slice that reads so. -/
def RowRd (e : TypeId) (f : α → β → List Value) (N : World → β → α → Prop) (w : World) (v : Value) (l : List α) : Prop := ∃ vs, RowW N w l vs ∧ Rd e w v l.length (rowC f l vs)
variable {e : TypeId} {size base : Nat} {f : α → β → List Value} {N : World → β → α → Prop} {w w' : World} {v : Value} {l : List α} {L : List TypeId}
theorem RowOwn.nil : RowOwn e size f N w base (.slice none 0 0) [] := ⟨[], RowW.nil N w, World.ownsRow_nil _ _ _ _⟩
theorem RowRd.nil : RowRd e f N w (.slice none 0 0) [] := ⟨[], RowW.nil N w, ⟨none, 0, rfl, Nat.le_refl _, Nat.zero_le _, .inl ⟨rfl, rfl⟩⟩⟩
theorem RowOwn.rd (h : RowOwn e size f N w base v l) : RowRd e f N w v l := by
  obtain ⟨vs, h1, h2⟩ := h
  exact ⟨vs, h1, Rd.of_own h2⟩
theorem RowOwn.keep (h : RowOwn e size f N w base v l) (k : Kept L w w') (he : L.contains e = false) (hN : ∀ v x, N w v x → N w' v x) : RowOwn e size f N w' base v l := by
  obtain ⟨vs, h1, h2⟩ := h
  exact ⟨vs, h1.imp hN, own_keep h2 k he⟩
theorem RowRd.keep (h : RowRd e f N w v l) (k : Kept L w w') (he : L.contains e = false) (hN : ∀ v x, N w v x → N w' v x) : RowRd e f N w' v l := by
  obtain ⟨vs, h1, h2⟩ := h
  exact ⟨vs, h1.imp hN, h2.keep k he⟩
theorem RowRd.form (h : RowRd e f N w v l) : ∃ A c, v = .slice A l.length c ∧ l.length ≤ c := by
  obtain ⟨vs, _, h2⟩ := h
  exact h2.form
theorem rowC_get (f : α → β → List Value) (size : Nat) (hf : ∀ x v, (f x v).length = size) : ∀ (l : List α) (vs : List β), vs.length = l.length → ∀ (i : Nat) (x : α) (v : β) (j : Nat), l[i]? = some x → vs[i]? = some v → j < size → (rowC f l vs)[i * size + j]? = (f x v)[j]?
  | [], _, _, i, x, v, j, h, _, _ => by simp at h
  | a :: l, [], h, _, _, _, _, _, _, _ => by simp at h
  | a :: l, b :: vs, h, 0, x, v, j, h1, h2, hj => by
    simp at h1 h2
    subst h1 h2
    simp only [rowC, Nat.zero_mul, Nat.zero_add]
    rw [List.getElem?_append_left (by rw [hf]; exact hj)]
  | a :: l, b :: vs, h, i + 1, x, v, j, h1, h2, hj => by
    have := rowC_get f size hf l vs (by simpa using h) i x v j (by simpa using h1) (by simpa using h2) hj
    simp only [rowC]
    rw [List.getElem?_append_right (by rw [hf, Nat.add_mul]; omega), hf, ← this]
    congr 1
    rw [Nat.add_mul]; omega
theorem rowC_len (f : α → β → List Value) (size : Nat) (hf : ∀ x v, (f x v).length = size) : ∀ (l : List α) (vs : List β), vs.length = l.length → (rowC f l vs).length = l.length * size
  | [], [], _ => by simp [rowC]
  | [], b :: vs, h => by simp at h
  | a :: l, [], h => by simp at h
  | a :: l, b :: vs, h => by
    have := rowC_len f size hf l vs (by simpa using h)
    simp only [rowC, List.length_append, hf, this, List.length_cons, Nat.add_mul]; omega
theorem rowC_drop (f : α → β → List Value) (size : Nat) (hf : ∀ x v, (f x v).length = size) (a : α) (l : List α) (b : β) (vs : List β) : (rowC f (a :: l) (b :: vs)).drop size = rowC f l vs := by
  simp only [rowC]
  rw [List.drop_append_of_le_length (by rw [hf]; exact Nat.le_refl _), List.drop_eq_nil_of_le (by rw [hf]; exact Nat.le_refl _), List.nil_append]
/-- The cells of one element. -/
theorem RowRd.at_ (h : RowRd e f N w v l) (hf : ∀ x u, (f x u).length = size) {i : Nat} {x : α} (hx : l[i]? = some x) : ∃ b o c u, v = .slice (some ⟨b, o, none⟩) l.length c ∧ l.length ≤ c ∧ b < w.heap.size ∧ N w u x ∧ ∀ j y, (f x u)[j]? = some y → w.cell? ⟨b, o + (i * size + j), none⟩ = some y := by
  obtain ⟨vs, h1, h2⟩ := h
  have hi : i < l.length := by
    rcases Nat.lt_or_ge i l.length with h | h
    · exact h
    · rw [List.getElem?_eq_none h] at hx; cases hx
  have hiv : i < vs.length := by rw [h1.1]; exact hi
  obtain ⟨b, o, c, hv, hc, _, hb, hcell⟩ := h2.at_ (by omega)
  refine ⟨b, o, c, vs[i], hv, hc, hb, h1.2 i x _ hx (List.getElem?_eq_getElem hiv), fun j y hy => ?_⟩
  have hj : j < size := by
    rcases Nat.lt_or_ge j size with h | h
    · exact h
    · rw [List.getElem?_eq_none (by rw [hf]; exact h)] at hy; cases hy
  exact hcell _ _ ((rowC_get f size hf l vs h1.1 i x _ j hx (List.getElem?_eq_getElem hiv) hj).trans hy)
/-- Without the first element. -/
theorem RowRd.tail {A : Option Addr} {n c : Nat} {a : α} (h : RowRd e f N w (.slice A n c) (a :: l)) (hf : ∀ x u, (f x u).length = size) : RowRd e f N w (.slice (if c = 1 then A else A.map (·.add size)) (n - 1) (c - 1)) l := by
  obtain ⟨vs, h1, h2⟩ := h
  match vs, h1 with
  | [], h1 => exact absurd h1.1 (by simp)
  | b :: vs, h1 =>
    obtain ⟨A', c', hv, hc, hm, h0⟩ := id h2
    injection hv with hA hn hcc
    subst hn
    refine ⟨vs, ⟨by simpa using h1.1, fun i x v hx hv => h1.2 (i + 1) x v (by simpa using hx) (by simpa using hv)⟩, ?_⟩
    have := Rd.cut h2 size 1 (by simp) (by rw [rowC_len f size hf _ _ h1.1])
    rw [Nat.one_mul, rowC_drop f size hf] at this
    exact this
theorem RowRd.next (h : RowRd e f N w v l) (hb : Below w.heap.size w w') (hN : ∀ v x, N w v x → N w' v x) : RowRd e f N w' v l := h.keep (Kept.of_below [] hb) rfl hN
end
end Go.Proofs.YtamjllakfgphnaaGreatDoor
/- Words for memory: appends from slices that read as cells; arguments with depth. -/
namespace Go.Proofs.YtamjllakfgphnaaGreatDoor
open Go.RowKit Go.Deep
set_option linter.unusedSimpArgs false
set_option linter.unusedVariables false
theorem add_off (b o j : Nat) : ((⟨b, o, none⟩ : Addr).add j) = ⟨b, o + j, none⟩ := by
  unfold Addr.add
  split
  · rename_i h; subst h; rfl
  · rfl
theorem run_append_rd {P : Program} (w : World) (base : Nat) (t ty e : TypeId) (i : TypeInfo) (z : Value) (size bytes : Nat) (ht : P.underlying t = some (.slice e)) (hi : P.info? e = some i) (hz : i.zero = some z)
    (hsize : i.size = size) (hby : i.bytes = bytes) (hzs : z.cells.size = size) (hsz : 0 < size)
    (v : Value) (n : Nat) (xs : List Value) (hown : w.ownsRow base e size v n xs) (x : Value) (m : Nat) (news : List Value) (hr : Rd e w x m news) (hl : news.length = m * size) (h1 : ∀ u ∈ news, u.oneCell' = true)
    (h63 : n + m ≤ maxLen) (hbytes : (n + m) * bytes ≤ 140737488355328) (hbase : base ≤ w.heap.size) :
    ∃ ao cap w', (Builtin.append_ #[t, t] ty #[v, x]).run P w = .ok (.slice ao (n + m) cap) w' ∧ w'.ownsRow base e size (.slice ao (n + m) cap) (n + m) (xs ++ news) ∧ w.grownBy w' v.ownBlock := by
  have fin : ∀ (ad : Addr) (c : Nat), (∀ j u, news[j]? = some u → w.cell? (ad.add j) = some u) →
      ∃ ao cap w', (Builtin.append_ #[t, t] ty #[v, .slice (some ad) m c]).run P w = .ok (.slice ao (n + m) cap) w' ∧ w'.ownsRow base e size (.slice ao (n + m) cap) (n + m) (xs ++ news) ∧ w.grownBy w' v.ownBlock := by
    intro ad c hc
    obtain ⟨v', w', hrun, h2, h3, _, _⟩ := run_append_own_at (P := P) w base t ty e i z size bytes ht hi hz hsize hby hzs hsz v n xs hown ad m c news hl hc h1 h63 hbytes hbase
    obtain ⟨a, cc, rfl, _⟩ := own_len h2
    exact ⟨a, cc, w', hrun, h2, h3⟩
  obtain ⟨A, c, rfl, hc, hm, ⟨rfl, rfl⟩ | ⟨b, o, cs, fr, rfl, hb, hx⟩⟩ := hr
  · cases A with
    | some ad => exact fin ad c (fun j u h => by simp at h)
    | none =>
      obtain ⟨a, cc, rfl, hle⟩ := own_len hown
      refine ⟨a, cc, w, ?_, by simpa using hown, World.grownBy.refl w _⟩
      rcases hown.2 with ⟨h2, rfl⟩ | ⟨g, cap, cur, h2, _, _, hnc, _⟩
      · cases h2
        simp [Builtin.append_, run_underlying ht, sizeOf, typeInfo, hi, Builtin.lenOf, Builtin.firstCells]
      · cases h2
        simp [Builtin.append_, run_underlying ht, sizeOf, typeInfo, hi, Builtin.lenOf, Builtin.firstCells, hnc, storeCells]
  · refine fin _ c (fun j u h => ?_)
    rw [add_off, cell_of_row w b (o + j) cs e fr hb]
    exact hx j u h
theorem wp_append_rd {P : Program} (w : World) {o : Oper} {a : Go.Act} {K : Go.Act → World → Prop} {Q : Exit → Go.Act → World → Prop} (s x : Operand) (t : TypeId)
    (ho : o.op = .call { callee := .builtin .append, args := #[s, x], argTypes := #[t, t] })
    (base : Nat) (e : TypeId) (i : TypeInfo) (z : Value) (size bytes : Nat) (ht : P.underlying t = some (.slice e)) (hi : P.info? e = some i) (hz : i.zero = some z)
    (hsize : i.size = size) (hby : i.bytes = bytes) (hzs : z.cells.size = size) (hsz : 0 < size)
    (v : Value) (n : Nat) (xs : List Value) (hs : a.eval s = v) (hown : w.ownsRow base e size v n xs)
    (xv : Value) (m : Nat) (news : List Value) (hx : a.eval x = xv) (hr : Rd e w xv m news) (hl : news.length = m * size) (h1 : ∀ u ∈ news, u.oneCell' = true)
    (h63 : n + m ≤ maxLen) (hbytes : (n + m) * bytes ≤ 140737488355328) (hbase : base ≤ w.heap.size)
    (h : ∀ ao cap w', w'.ownsRow base e size (.slice ao (n + m) cap) (n + m) (xs ++ news) → w.grownBy w' v.ownBlock → K (a.put o.dst (.slice ao (n + m) cap)) w') : o.wp P a w K Q := by
  obtain ⟨ao, cap, w', hrun, h2, h3⟩ := run_append_rd (P := P) w base t o.type e i z size bytes ht hi hz hsize hby hzs hsz v n xs hown xv m news hr hl h1 h63 hbytes hbase
  unfold Oper.wp execOp
  simp only [ho, resolve, invoke, builtin, Sem.run_bind, Sem.run_pure, Result.andThen_ok, List.map_toArray, List.map_cons, List.map_nil, hs, hx, hrun]
  exact h ao cap w' h2 h3
theorem wpList_append_rd {P : Program} (w : World) {ops : Array Oper} {rest : List Oper} {o : Oper} {a : Go.Act} {Q : Exit → Go.Act → World → Prop} (hgd : o.guard = none) (s x : Operand) (t : TypeId)
    (ho : o.op = .call { callee := .builtin .append, args := #[s, x], argTypes := #[t, t] })
    (base : Nat) (e : TypeId) (i : TypeInfo) (z : Value) (size bytes : Nat) (ht : P.underlying t = some (.slice e)) (hi : P.info? e = some i) (hz : i.zero = some z)
    (hsize : i.size = size) (hby : i.bytes = bytes) (hzs : z.cells.size = size) (hsz : 0 < size)
    (v : Value) (n : Nat) (xs : List Value) (hs : a.eval s = v) (hown : w.ownsRow base e size v n xs)
    (xv : Value) (m : Nat) (news : List Value) (hx : a.eval x = xv) (hr : Rd e w xv m news) (hl : news.length = m * size) (h1 : ∀ u ∈ news, u.oneCell' = true)
    (h63 : n + m ≤ maxLen) (hbytes : (n + m) * bytes ≤ 140737488355328) (hbase : base ≤ w.heap.size)
    (h : ∀ ao cap w', w'.ownsRow base e size (.slice ao (n + m) cap) (n + m) (xs ++ news) → w.grownBy w' v.ownBlock → wpList P ops Q rest (a.put o.dst (.slice ao (n + m) cap)) w') : wpList P ops Q (o :: rest) a w :=
  wpList_plain hgd fun _ hK => wp_append_rd w s x t ho base e i z size bytes ht hi hz hsize hby hzs hsz v n xs hs hown xv m news hx hr hl h1 h63 hbytes hbase fun ao cap w' h2 h3 => hK _ _ (h ao cap w' h2 h3)
theorem step_append_rd {P : Program} (w : World) {ops : Array Oper} {o : Oper} {a : Go.Act} {K : Go.Act → World → Prop} {Q : Exit → Go.Act → World → Prop} {E : Prop} (hgd : o.guard = none) (s x : Operand) (t : TypeId)
    (ho : o.op = .call { callee := .builtin .append, args := #[s, x], argTypes := #[t, t] })
    (base : Nat) (e : TypeId) (i : TypeInfo) (z : Value) (size bytes : Nat) (ht : P.underlying t = some (.slice e)) (hi : P.info? e = some i) (hz : i.zero = some z)
    (hsize : i.size = size) (hby : i.bytes = bytes) (hzs : z.cells.size = size) (hsz : 0 < size)
    (v : Value) (n : Nat) (xs : List Value) (hs : a.eval s = v) (hown : w.ownsRow base e size v n xs)
    (xv : Value) (m : Nat) (news : List Value) (hx : a.eval x = xv) (hr : Rd e w xv m news) (hl : news.length = m * size) (h1 : ∀ u ∈ news, u.oneCell' = true)
    (h63 : n + m ≤ maxLen) (hbytes : (n + m) * bytes ≤ 140737488355328) (hbase : base ≤ w.heap.size)
    (h : ∀ ao cap w', w'.ownsRow base e size (.slice ao (n + m) cap) (n + m) (xs ++ news) → w.grownBy w' v.ownBlock → K (a.put o.dst (.slice ao (n + m) cap)) w') :
    if Region.wanted o (yielded ops a.tmps) = true then Oper.wp P o a w K Q else E := by
  have hw : Region.wanted o (yielded ops a.tmps) = true := by simp [Region.wanted, hgd]
  rw [if_pos hw]
  exact wp_append_rd w s x t ho base e i z size bytes ht hi hz hsize hby hzs hsz v n xs hs hown xv m news hx hr hl h1 h63 hbytes hbase h
/-- A slice of one new element. -/
theorem own_new (w : World) (base : Nat) (e : TypeId) (size : Nat) (cs : List Value) (hl : cs.length = size) (hb : base ≤ w.heap.size) : (w.alloc (.cells cs.toArray e)).ownsRow base e size (.slice (some ⟨w.heap.size, 0, none⟩) 1 1) 1 cs := by
  refine ⟨by omega, .inr ⟨w.heap.size, 1, cs.toArray, rfl, hb, heap_alloc_new w _, Nat.le_refl _, by unfold maxLen; omega, by simp [hl], ?_⟩⟩
  simp
  rw [← hl, List.take_length]
/-- Nothing is appended but one block of the call's own grows: all that was is as it was. -/
theorem below_own {B : Nat} {a w w' : World} {base e size n : Nat} {v : Value} {xs : List Value} (h : Below B a w) (ho : w.ownsRow base e size v n xs) (k : w.grownBy w' v.ownBlock) (hb : B ≤ base) (hB : B ≤ w.heap.size) : Below B a w' :=
  ⟨k.os.trans h.os, k.tape.trans h.tape, k.output.trans h.output, Nat.le_trans h.size k.size, fun i hi => (k.block i (Nat.lt_of_lt_of_le hi hB) (by
    intro e
    have := own_ge ho e.symm
    omega)).trans (h.block i hi)⟩
/-- An element is appended to a row of the call's own. -/
theorem RowOwn.push {α β : Type} {e : TypeId} {size base : Nat} {f : α → β → List Value} {N : World → β → α → Prop} {W w1 : World} {l : List α} {vs : List β} {v' : Value} {x : α} {u : β}
    (h2 : RowW N W l vs) (hown : w1.ownsRow base e size v' (l.length + 1) (rowC f l vs ++ f x u)) (imp : ∀ v x, N W v x → N w1 v x) (hu : N w1 u x) : RowOwn e size f N w1 base v' (l ++ [x]) := by
  refine ⟨vs ++ [u], (h2.imp imp).snoc hu, ?_⟩
  rw [rowC_snoc _ _ _ _ _ h2.1, List.length_append]
  exact hown
/-- A slice of n elements whose cells are xs, in whatever block below B. -/
def Ra (B : Nat) (w : World) (v : Value) (n : Nat) (xs : List Value) : Prop :=
  ∃ A c, v = .slice A n c ∧ n ≤ c ∧ c ≤ maxLen ∧ ((n = 0 ∧ xs = []) ∨ ∃ b o, A = some ⟨b, o, none⟩ ∧ b < B ∧ ∀ j u, xs[j]? = some u → w.cell? ⟨b, o + j, none⟩ = some u)
theorem Ra.below {B : Nat} {w w' : World} {v : Value} {n : Nat} {xs : List Value} (h : Ra B w v n xs) (hb : Below B w w') : Ra B w' v n xs := by
  obtain ⟨A, c, hv, hc, hm, h0 | ⟨b, o, hA, hlt, hx⟩⟩ := h
  · exact ⟨A, c, hv, hc, hm, .inl h0⟩
  · exact ⟨A, c, hv, hc, hm, .inr ⟨b, o, hA, hlt, fun j u hu => (hb.cell (p := ⟨b, o + j, none⟩) hlt).trans (hx j u hu)⟩⟩
theorem Ra.at_ {B : Nat} {w : World} {v : Value} {n : Nat} {xs : List Value} (h : Ra B w v n xs) (hn : 0 < n) : ∃ b o c, v = .slice (some ⟨b, o, none⟩) n c ∧ n ≤ c ∧ c ≤ maxLen ∧ b < B ∧ ∀ j u, xs[j]? = some u → w.cell? ⟨b, o + j, none⟩ = some u := by
  obtain ⟨A, c, hv, hc, hm, h0 | ⟨b, o, hA, hlt, hx⟩⟩ := h
  · omega
  · subst hA
    exact ⟨b, o, c, hv, hc, hm, hlt, hx⟩
theorem Ra.form {B : Nat} {w : World} {v : Value} {n : Nat} {xs : List Value} (h : Ra B w v n xs) : ∃ A c, v = .slice A n c ∧ n ≤ c ∧ c ≤ maxLen := by
  obtain ⟨A, c, hv, hc, hm, _⟩ := h
  exact ⟨A, c, hv, hc, hm⟩
section
variable {α β : Type}
/-- A slice that came in, element by element. -/
def RowRa (f : α → β → List Value) (N : World → β → α → Prop) (B : Nat) (w : World) (v : Value) (l : List α) : Prop := ∃ vs, RowW N w l vs ∧ Ra B w v l.length (rowC f l vs)
variable {f : α → β → List Value} {N : World → β → α → Prop} {B : Nat} {w w' : World} {v : Value} {l : List α}
theorem RowRa.below (h : RowRa f N B w v l) (hb : Below B w w') (hN : ∀ v x, N w v x → N w' v x) : RowRa f N B w' v l := by
  obtain ⟨vs, h1, h2⟩ := h
  exact ⟨vs, h1.imp hN, h2.below hb⟩
theorem RowRa.form (h : RowRa f N B w v l) : ∃ A c, v = .slice A l.length c ∧ l.length ≤ c ∧ c ≤ maxLen := by
  obtain ⟨vs, h1, h2⟩ := h
  exact h2.form
/-- The cells of one element. -/
theorem RowRa.at_ {size : Nat} (h : RowRa f N B w v l) (hf : ∀ x u, (f x u).length = size) (h0 : 0 < l.length) : ∃ b o c, v = .slice (some ⟨b, o, none⟩) l.length c ∧ l.length ≤ c ∧ c ≤ maxLen ∧ b < B ∧ ∀ i (hi : i < l.length), ∃ u, N w u l[i] ∧ ∀ j y, (f l[i] u)[j]? = some y → w.cell? ⟨b, o + (i * size + j), none⟩ = some y := by
  obtain ⟨vs, h1, h2⟩ := h
  obtain ⟨b, o, c, hv, hc, hm, hb, hcell⟩ := h2.at_ h0
  refine ⟨b, o, c, hv, hc, hm, hb, fun i hi => ?_⟩
  have hiv : i < vs.length := by rw [h1.1]; exact hi
  refine ⟨vs[i], h1.2 i _ _ (List.getElem?_eq_getElem hi) (List.getElem?_eq_getElem hiv), fun j y hy => ?_⟩
  have hj : j < size := by
    rcases Nat.lt_or_ge j size with h | h
    · exact h
    · rw [List.getElem?_eq_none (by rw [hf]; exact h)] at hy; cases hy
  exact hcell _ _ ((rowC_get f size hf l vs h1.1 i _ _ j (List.getElem?_eq_getElem hi) (List.getElem?_eq_getElem hiv) hj).trans hy)
end
section
variable {α β H : Type} [Inhabited α] [Inhabited β] {enc : TypeId × Value → H} {P : Program} {w : World} {base : Nat} {spare : Nat → Bool} {held : Bool}
theorem open_row {f : α → β → List Value} {N : World → β → α → Prop} {size : Nat} (hf : ∀ x u, (f x u).length = size) (hs : 0 < size) {t e : TypeId} (ht : P.underlying t = some (.slice e)) (ce : P.cellsOf e = size)
    (hE : ∀ n cs y, DataW.trod enc P w base spare held n e cs = some y → cs.length = size → ∃ x u, cs = f x u ∧ N w u x)
    {fuel : Nat} {v : Value} {x : DataW H × List MemPlace} (h : DataW.trod enc P w base spare held fuel t [v] = some x) : ∃ l : List α, RowRa f N w.heap.size w v l := by
  rcases open_slice ht h with ⟨h0, _⟩ | ⟨a, len, cap, m, n, D, Pl, h0, hb, hl, hm, hmm, _, hx⟩
  · injection h0 with h0
    subst h0
    exact ⟨[], [], RowW.nil N w, none, 0, rfl, Nat.le_refl _, Nat.zero_le _, .inl ⟨rfl, rfl⟩⟩
  injection h0 with h0
  subst h0
  have hlm : len ≤ m := by rw [hmm]; split <;> omega
  have each : ∀ i, i < len → ∃ q : α × β, N w q.2 q.1 ∧ ∀ j y, (f q.1 q.2)[j]? = some y → w.cell? ((a.add (i * size)).add j) = some y := by
    intro i hi
    obtain ⟨cs', h1, h2⟩ := hx i (by omega)
    rw [ce] at h1
    obtain ⟨_, hlen, hcell⟩ := World.cells?_some h1
    obtain ⟨x, u, hcs, hN⟩ := hE _ _ _ h2 hlen
    refine ⟨(x, u), hN, fun j y hy => ?_⟩
    have hj : j < size := by
      rcases Nat.lt_or_ge j size with h | h
      · exact h
      · rw [List.getElem?_eq_none (by rw [hf]; exact h)] at hy; cases hy
    have := hcell j hj
    rw [this, hcs]
    exact hy
  obtain ⟨q, hq⟩ := choose_lt each
  let xs : List α := (List.range len).map fun i => (q i).1
  let us : List β := (List.range len).map fun i => (q i).2
  have lx : xs.length = len := by simp [xs]
  have lu : us.length = xs.length := by simp [xs, us]
  have gx : ∀ i, i < len → xs[i]? = some (q i).1 := fun i hi => by simp [xs, hi]
  have gu : ∀ i, i < len → us[i]? = some (q i).2 := fun i hi => by simp [us, hi]
  have hw : RowW N w xs us := by
    refine ⟨lu, fun i x u h1 h2 => ?_⟩
    have hi : i < len := by
      rcases Nat.lt_or_ge i len with h | h
      · exact h
      · rw [List.getElem?_eq_none (by omega)] at h1; cases h1
    rw [gx i hi] at h1
    rw [gu i hi] at h2
    cases h1; cases h2
    exact (hq i hi).1
  refine ⟨xs, us, hw, some a, cap, by rw [lx], by omega, hm, ?_⟩
  rcases Nat.eq_zero_or_pos len with h0 | h0
  · left
    refine ⟨by omega, ?_⟩
    have : xs = [] := List.length_eq_zero_iff.1 (by omega)
    rw [this]; rfl
  right
  have hcell : ∀ j u, (rowC f xs us)[j]? = some u → w.cell? (a.add j) = some u := by
    intro j u hu
    have hlen := rowC_len f size hf xs us lu
    have hj : j < len * size := by
      rcases Nat.lt_or_ge j (len * size) with h | h
      · exact h
      · rw [List.getElem?_eq_none (by rw [hlen, lx]; exact h)] at hu; cases hu
    have hi : j / size < len := (Nat.div_lt_iff_lt_mul hs).2 hj
    have hr : j % size < size := Nat.mod_lt _ hs
    have hjj : j / size * size + j % size = j := Nat.div_add_mod' j size
    have h3 := rowC_get f size hf xs us lu (j / size) _ _ (j % size) (gx _ hi) (gu _ hi) hr
    rw [hjj, hu] at h3
    have h4 := (hq _ hi).2 (j % size) u h3.symm
    rw [add_add, hjj] at h4
    exact h4
  have hfirst : ∃ u, w.cell? a = some u := by
    have hlen := rowC_len f size hf xs us lu
    have hpos : 0 < (rowC f xs us).length := by rw [hlen, lx]; exact Nat.mul_pos h0 hs
    exact ⟨_, hcell 0 _ (List.getElem?_eq_getElem hpos)⟩
  obtain ⟨u0, hu0⟩ := hfirst
  have hspot : a.spot = none ∧ a.block < w.heap.size := by
    unfold World.cell? at hu0
    split at hu0
    · rename_i hh
      refine ⟨?_, (Array.getElem?_eq_some_iff.1 hh).1⟩
      cases hs' : a.spot with
      | none => rfl
      | some k => rw [hs'] at hu0; simp at hu0
    · cases hu0
  obtain ⟨b, o, sp⟩ := a
  obtain ⟨hsp, hbl⟩ := hspot
  simp only at hsp hbl
  subst hsp
  refine ⟨b, o, rfl, hbl, fun j u hu => ?_⟩
  have := hcell j u hu
  rwa [add_off] at this
end
end Go.Proofs.YtamjllakfgphnaaGreatDoor
/- Words for memory: names, changes, keys, actions, versions as values. -/
namespace Go.Proofs.YtamjllakfgphnaaGreatDoor
open Go.RowKit
set_option linter.unusedSimpArgs false
set_option linter.unusedVariables false
def nmA (n : Nm) : Array Value := #[.int .i64 n.kind, .string (bs n.owner), .int .i64 n.num, .int .i64 n.idx, .string (bs n.text)]
def nmV (n : Nm) : Value := .agg (nmA n)
def nmC (n : Nm) : List Value := [.int .i64 n.kind, .string (bs n.owner), .int .i64 n.num, .int .i64 n.idx, .string (bs n.text)]
/-- The cells of a change. -/
def chC (c : Ch) : List Value := [.int .i64 c.name.kind, .string (bs c.name.owner), .int .i64 c.name.num, .int .i64 c.name.idx, .string (bs c.name.text), .string (bs c.value), .bool c.absent]
def chV (c : Ch) : Value := .agg #[.int .i64 c.name.kind, .string (bs c.name.owner), .int .i64 c.name.num, .int .i64 c.name.idx, .string (bs c.name.text), .string (bs c.value), .bool c.absent]
def kyC (k : Ky) : List Value := [.int .i64 k.tick, .int .i64 k.cls, .int .i64 k.num, .string (bs k.lin)]
def kyV (k : Ky) : Value := .agg #[.int .i64 k.tick, .int .i64 k.cls, .int .i64 k.num, .string (bs k.lin)]
def veC (v : Ver) : List Value := [.int .i64 v.idx, .string (bs v.value), .bool v.absent]
def veV (v : Ver) : Value := .agg #[.int .i64 v.idx, .string (bs v.value), .bool v.absent]
end Go.Proofs.YtamjllakfgphnaaGreatDoor
/- Words for memory: search trees. -/
namespace Go.Proofs.YtamjllakfgphnaaGreatDoor
open Go.RowKit
set_option linter.unusedSimpArgs false
set_option linter.unusedVariables false
abbrev T46 := Tr Nm Bs
def byT (t : T46) : Nat := t.by_ List.length
/-- The cells of a node. -/
def ndA (pl pr : Option Addr) (k : Nm) (v : Bs) (h s y : Nat) : Array Value :=
  #[.pointer pl, .pointer pr, .int .i64 k.kind, .string (bs k.owner), .int .i64 k.num, .int .i64 k.idx, .string (bs k.text), .string (bs v), .int .i64 (h : Int), .int .i64 (s : Int), .int .i64 (y : Int)]
def NdAt (w : World) (b : Nat) (pl pr : Option Addr) (k : Nm) (v : Bs) (h s y : Nat) : Prop := Blk w b 143 (ndA pl pr k v h s y)
/-- A tree in memory. -/
def TrAt (w : World) : Option Addr → T46 → Prop
  | p, .nil => p = none
  | p, .node l k v r => ∃ b pl pr, p = some ⟨b, 0, none⟩ ∧ NdAt w b pl pr k v (Tr.ht (.node l k v r)) (Tr.sz (.node l k v r)) (byT (.node l k v r)) ∧ TrAt w pl l ∧ TrAt w pr r
/-- Small enough for the sums. -/
def TrSm (t : T46) : Prop := t.sz ≤ 100000 ∧ byT t ≤ 10000000000
theorem TrAt.keep {w w' : World} {L : List TypeId} (k : Kept L w w') (he : L.contains 143 = false) : ∀ {p : Option Addr} {t : T46}, TrAt w p t → TrAt w' p t
  | p, .nil, h => h
  | p, .node l a v r, ⟨b, pl, pr, e, h1, h2, h3⟩ => ⟨b, pl, pr, e, Blk.keep h1 k he, TrAt.keep k he h2, TrAt.keep k he h3⟩
theorem TrAt.next {w w' : World} (hb : Below w.heap.size w w') {p : Option Addr} {t : T46} (h : TrAt w p t) : TrAt w' p t := TrAt.keep (Kept.of_below [] hb) rfl h
theorem TrAt.drew {w : World} {p : Option Addr} {t : T46} (h : TrAt w p t) : TrAt w.drew p t := TrAt.keep (Kept.drew (Kept.refl [] w)) rfl h
theorem TrAt.drewN {w : World} {p : Option Addr} {t : T46} (h : TrAt w p t) (n : Nat) : TrAt (w.drewN n) p t := TrAt.keep (Kept.drewN (Kept.refl [] w) n) rfl h
theorem NdAt.drewN {w : World} {b : Nat} {pl pr : Option Addr} {k : Nm} {v : Bs} {h s y : Nat} (hn : NdAt w b pl pr k v h s y) (n : Nat) : NdAt (w.drewN n) b pl pr k v h s y := hn
theorem TrSm.left {l r : T46} {k : Nm} {v : Bs} (h : TrSm (.node l k v r)) : TrSm l := by
  obtain ⟨h1, h2⟩ := h
  unfold byT at h2
  simp only [Tr.sz, Tr.by_] at h1 h2
  exact ⟨by omega, by unfold byT; omega⟩
theorem TrSm.right {l r : T46} {k : Nm} {v : Bs} (h : TrSm (.node l k v r)) : TrSm r := by
  obtain ⟨h1, h2⟩ := h
  unfold byT at h2
  simp only [Tr.sz, Tr.by_] at h1 h2
  exact ⟨by omega, by unfold byT; omega⟩
theorem TrSm.val {l r : T46} {k : Nm} {v : Bs} (h : TrSm (.node l k v r)) : v.length ≤ 10000000000 := by
  obtain ⟨h1, h2⟩ := h
  unfold byT at h2
  simp only [Tr.by_] at h2
  omega
theorem TrSm.ht {t : T46} (h : TrSm t) : t.ht ≤ 100000 := Nat.le_trans (Tr.ht_sz t) h.1
theorem ht_pos {t : T46} : 0 < t.ht ↔ t ≠ .nil := by
  cases t with
  | nil => simp [Tr.ht]
  | node l k v r => simp [Tr.ht]; omega
end Go.Proofs.YtamjllakfgphnaaGreatDoor
/- Walks of layer 46: comparing numbers, texts and names. -/
namespace Go.Proofs.YtamjllakfgphnaaGreatDoor
open Go.RowKit
set_option linter.unusedSimpArgs false
set_option linter.unusedVariables false
theorem nan_i (n : Int) (w : World) : Calls Tryz.prog 135 #[.int .i64 n] w fun e w' => e = .returned (.bool false) ∧ w = w' := by
  go_enter Tryz.func135, Tryz.ntmps135
  go_wp2
  go_ret
  exact ⟨rfl, rfl⟩
theorem nan_s (s : ByteArray) (w : World) : Calls Tryz.prog 136 #[.string s] w fun e w' => e = .returned (.bool false) ∧ w = w' := by
  go_enter Tryz.func136, Tryz.ntmps136
  go_wp2
  go_ret
  exact ⟨rfl, rfl⟩
theorem blt_eq : ∀ a b : Bs, Op.bytesLess a b = blt a b
  | a, [] => by cases a <;> rfl
  | [], _ :: _ => rfl
  | x :: a, y :: b => by simp only [Op.bytesLess, blt, blt_eq a b]
theorem cmp_i (a b : Int) (w : World) : Calls Tryz.prog 99 #[.int .i64 a, .int .i64 b] w fun e w' => e = .returned (.int .i64 (cmpI a b)) ∧ w = w' := by
  by_cases h1 : a < b
  · rw [show cmpI a b = -1 by unfold cmpI; rw [if_pos h1]]
    go_enter Tryz.func99, Tryz.ntmps99
    go_wp2_with (go_at_call 135; refine (nan_i _ _).mono ?_; rintro e w' ⟨rfl, rfl⟩)
    go_ret
    exact ⟨rfl, rfl⟩
  · by_cases h2 : b < a
    · rw [show cmpI a b = 1 by unfold cmpI; rw [if_neg h1, if_pos h2]]
      go_enter Tryz.func99, Tryz.ntmps99
      go_wp2_with (go_at_call 135; refine (nan_i _ _).mono ?_; rintro e w' ⟨rfl, rfl⟩)
      go_ret
      exact ⟨rfl, rfl⟩
    · rw [show cmpI a b = 0 by unfold cmpI; rw [if_neg h1, if_neg h2]]
      go_enter Tryz.func99, Tryz.ntmps99
      go_wp2_with (go_at_call 135; refine (nan_i _ _).mono ?_; rintro e w' ⟨rfl, rfl⟩)
      go_ret
      exact ⟨rfl, rfl⟩
theorem bs_toList (a : Bs) : (bs a).toList = a := by rw [Lib.toList_data, bs_list]
theorem less_bs (a b : Bs) : Op.bytesLess (bs a).toList (bs b).toList = blt a b := by rw [bs_toList, bs_toList, blt_eq]
theorem eq_bs (a b : Bs) : ((bs a).toList == (bs b).toList) = (a == b) := by rw [bs_toList, bs_toList]
theorem cmp_s (a b : Bs) (w : World) : Calls Tryz.prog 101 #[.string (bs a), .string (bs b)] w fun e w' => e = .returned (.int .i64 (cmpS a b)) ∧ w = w' := by
  have l1 := less_bs a b
  have l2 := eq_bs a b
  have l3 : blt a b = false → (a == b) = !blt b a := fun h => by
    cases h2 : blt b a with
    | true => simp; rintro rfl; rw [blt_irrefl] at h2; cases h2
    | false => simp [blt_tri h h2]
  unfold cmpS
  generalize bs a = x at *
  generalize bs b = y at *
  cases h1 : blt a b with
  | true =>
    rw [h1] at l1
    clear l2 l3 h1
    simp only [if_true]
    go_enter Tryz.func101, Tryz.ntmps101
    go_wp2_with (go_at_call 136; refine (nan_s _ _).mono ?_; rintro e w' ⟨rfl, rfl⟩)
    go_ret
    exact ⟨rfl, rfl⟩
  | false =>
    rw [h1] at l1
    rw [l3 h1] at l2
    clear h1 l3
    cases h2 : blt b a with
    | true =>
      rw [h2] at l2
      clear h2
      simp only [Bool.not_true, Bool.not_false] at l2
      simp only [Bool.false_eq_true, if_true, if_false]
      go_enter Tryz.func101, Tryz.ntmps101
      go_wp2_with (go_at_call 136; refine (nan_s _ _).mono ?_; rintro e w' ⟨rfl, rfl⟩)
      go_ret
      exact ⟨rfl, rfl⟩
    | false =>
      rw [h2] at l2
      clear h2
      simp only [Bool.not_true, Bool.not_false] at l2
      simp only [Bool.false_eq_true, if_true, if_false]
      go_enter Tryz.func101, Tryz.ntmps101
      go_wp2_with (go_at_call 136; refine (nan_s _ _).mono ?_; rintro e w' ⟨rfl, rfl⟩)
      go_ret
      exact ⟨rfl, rfl⟩
theorem or_3 (a b c : Int) (w : World) (A : Nat) (h0 : w.cell? ⟨A, 0, none⟩ = some (.int .i64 a)) (h1 : w.cell? ⟨A, 1, none⟩ = some (.int .i64 b)) (h2 : w.cell? ⟨A, 2, none⟩ = some (.int .i64 c)) : Calls Tryz.prog 100 #[.slice (some ⟨A, 0, none⟩) 3 3] w fun e w' => e = .returned (.int .i64 (or3 a b c)) ∧ w = w' := by
  have hc : Hid (or3 a b c = if a ≠ 0 then a else if b ≠ 0 then b else c) := Lib.hid rfl
  go_enter Tryz.func100, Tryz.ntmps100
  go_wp2
  go_loop [8] (fun i => ∃ k : Nat, k ≤ 3 ∧ i = .int .i64 k ∧ (0 < k → a = 0) ∧ (1 < k → b = 0) ∧ (2 < k → c = 0)) (fun i => 3 - (intOf i).toNat)
  case atStart => exact ⟨0, by omega, rfl, by omega, by omega, by omega⟩
  case round =>
    obtain ⟨k, hk, rfl, p0, p1, p2⟩ := hrel
    have hcases : k = 0 ∨ k = 1 ∨ k = 2 ∨ k = 3 := by omega
    rcases hcases with rfl | rfl | rfl | rfl
    · clear p0 p1 p2 hk
      by_cases ha : a = 0
      · have e1 : (a != 0) = false := by simp [ha]
        go_wp2
        go_round
        case rel => exact ⟨1, by omega, rfl, fun _ => ha, by omega, by omega⟩
        case measure => simp [intOf]
      · have e1 : (a != 0) = true := by simp [ha]
        go_wp2
        go_ret
        exact ⟨by rw [hc.out, if_pos ha]; rfl, rfl⟩
    · have ha := p0 (by omega)
      clear p0 p1 p2 hk
      by_cases hb : b = 0
      · have e1 : (b != 0) = false := by simp [hb]
        have HA := Lib.hid ha
        clear ha
        go_wp2
        go_round
        case rel => exact ⟨2, by omega, rfl, fun _ => HA.out, fun _ => hb, by omega⟩
        case measure => simp [intOf]
      · have e1 : (b != 0) = true := by simp [hb]
        have HA := Lib.hid ha
        clear ha
        go_wp2
        go_ret
        exact ⟨by rw [hc.out, if_neg (by simp [HA.out]), if_pos hb]; rfl, rfl⟩
    · have HA := Lib.hid (p0 (by omega))
      have HB := Lib.hid (p1 (by omega))
      clear p0 p1 p2 hk
      by_cases hcc : c = 0
      · have e1 : (c != 0) = false := by simp [hcc]
        go_wp2
        go_round
        case rel => exact ⟨3, by omega, rfl, fun _ => HA.out, fun _ => HB.out, fun _ => hcc⟩
        case measure => simp [intOf]
      · have e1 : (c != 0) = true := by simp [hcc]
        go_wp2
        go_ret
        exact ⟨by rw [hc.out, if_neg (by simp [HA.out]), if_neg (by simp [HB.out])]; rfl, rfl⟩
    · have HA := Lib.hid (p0 (by omega))
      have HB := Lib.hid (p1 (by omega))
      have HC := Lib.hid (p2 (by omega))
      clear p0 p1 p2 hk
      go_wp2
      go_ret
      exact ⟨by rw [hc.out, if_neg (by simp [HA.out]), if_neg (by simp [HB.out]), HC.out]; rfl, rfl⟩
end Go.Proofs.YtamjllakfgphnaaGreatDoor
/- Walks of layer 46: Compare of names. -/
namespace Go.Proofs.YtamjllakfgphnaaGreatDoor
open Go.RowKit
set_option linter.unusedSimpArgs false
set_option linter.unusedVariables false
theorem lin_same (s : ByteArray) (w : World) : Calls Tryz.prog 91 #[.string s, .string s] w fun e w' => e = .returned (.int .i64 0) ∧ w = w' := by
  have e0 : (s.toList == s.toList) = true := by simp
  go_enter Tryz.func91, Tryz.ntmps91
  go_wp2
  go_ret
  exact ⟨rfl, rfl⟩
theorem compare_kind (a b : Nm) (w : World) (h : cmpI a.kind b.kind ≠ 0) : Calls Tryz.prog 57 #[nmV a, nmV b] w fun e w' => e = .returned (.int .i64 (cmpN a b)) ∧ Below w.heap.size w w' := by
  have e : cmpN a b = cmpI a.kind b.kind := by unfold cmpN; rw [if_pos h]
  rw [e]
  clear e
  have hk := cmp_i a.kind b.kind
  generalize cmpI a.kind b.kind = c at *
  have HK := Lib.hid hk
  clear hk
  have e1 : (c != 0) = true := by simpa using h
  obtain ⟨k, o, n, i, t⟩ := a
  obtain ⟨k', o', n', i', t'⟩ := b
  unfold nmV nmA
  simp only at HK ⊢
  clear h
  go_enter Tryz.func57, Tryz.ntmps57
  go_wp2_with (go_at_call 99; refine (HK.out _).mono ?_; rintro e w' ⟨rfl, rfl⟩)
  go_ret
  exact ⟨rfl, ((Below.refl _ _).alloc (Nat.le_refl _) _).alloc (by simp) _⟩
theorem still_of {P : Program} {f : FuncId} {args : Array Value} {w : World} {v : Value} (h : Calls P f args w fun e w' => e = .returned v ∧ w = w') : Calls P f args w fun e w' => e = .returned v ∧ w' = w := h.mono fun _ _ h => ⟨h.1, h.2.symm⟩
set_option maxRecDepth 100000 in
theorem compare_rest (a b : Nm) (w : World) (ho : a.owner = b.owner) (h : cmpI a.kind b.kind = 0) : Calls Tryz.prog 57 #[nmV a, nmV b] w fun e w' => e = .returned (.int .i64 (cmpN a b)) ∧ Below w.heap.size w w' := by
  have e : cmpN a b = or3 (cmpI a.num b.num) (cmpI a.idx b.idx) (cmpS a.text b.text) := by unfold cmpN; rw [if_neg (by simpa using h)]
  rw [e]
  clear e
  have HK : Hid (∀ w, Calls Tryz.prog 99 #[.int .i64 a.kind, .int .i64 b.kind] w fun e w' => e = .returned (.int .i64 0) ∧ w = w') := Lib.hid (h ▸ cmp_i a.kind b.kind)
  have HN := Lib.hid (cmp_i a.num b.num)
  have HI := Lib.hid (cmp_i a.idx b.idx)
  have HT := Lib.hid (cmp_s a.text b.text)
  have HO := Lib.hid (lin_same (bs a.owner))
  obtain ⟨k, o, n, i, t⟩ := a
  obtain ⟨k', o', n', i', t'⟩ := b
  simp only at ho
  subst ho
  unfold nmV nmA
  simp only at HK HN HI HT HO ⊢
  clear h
  generalize cmpI n n' = c1 at *
  generalize cmpI i i' = c2 at *
  generalize cmpS t t' = c3 at *
  go_enter Tryz.func57, Tryz.ntmps57
  go_wp2_with (first | (go_at_call 99; refine (HK.out _).mono ?_; rintro e w' ⟨rfl, rfl⟩) | (go_at_call 91; refine (HO.out _).mono ?_; rintro e w' ⟨rfl, rfl⟩))
  have hb : Below w.heap.size w ((w.alloc (.cells #[.int .i64 k, .string (bs o), .int .i64 n, .int .i64 i, .string (bs t)] 26)).alloc (.cells #[.int .i64 k', .string (bs o), .int .i64 n', .int .i64 i', .string (bs t')] 26)) := ((Below.refl _ _).alloc (Nat.le_refl _) _).alloc (by simp) _
  have b0 := (Blk.new w 26 #[.int .i64 k, .string (bs o), .int .i64 n, .int .i64 i, .string (bs t)]).alloc (.cells #[.int .i64 k', .string (bs o), .int .i64 n', .int .i64 i', .string (bs t')] 26)
  have b1 := Blk.new (w.alloc (.cells #[.int .i64 k, .string (bs o), .int .i64 n, .int .i64 i, .string (bs t)] 26)) 26 #[.int .i64 k', .string (bs o), .int .i64 n', .int .i64 i', .string (bs t')]
  rw [World.size_alloc] at b1
  have x2 := b0.cell 2
  have x3 := b0.cell 3
  have x4 := b0.cell 4
  have y2 := b1.cell 2
  have y3 := b1.cell 3
  have y4 := b1.cell 4
  simp only [List.getElem?_toArray, List.getElem?_cons_zero, List.getElem?_cons_succ] at x2 x3 x4 y2 y3 y4
  clear b0 b1
  have HB := Lib.hid hb
  clear hb
  generalize ((w.alloc (.cells #[.int .i64 k, .string (bs o), .int .i64 n, .int .i64 i, .string (bs t)] 26)).alloc (.cells #[.int .i64 k', .string (bs o), .int .i64 n', .int .i64 i', .string (bs t')] 26)) = W at *
  refine wp_region_still_tail 15 (by kernel_rfl) (by kernel_rfl) ?_
  simp only [List.take_succ_cons, List.take_zero, List.drop_succ_cons, List.drop_zero]
  iterate 4 still_step
  still_call (still_of (HN.out _))
  iterate 4 still_step
  still_call (still_of (HI.out _))
  iterate 4 still_step
  still_call (still_of (HT.out _))
  refine wpStill_nil ?_
  clear HK HN HI HT HO x2 x3 x4 y2 y3 y4
  show wpList _ _ _ _ _ W.drew
  have z := Blk.new W.drew 3 #[.int .i64 c1, .int .i64 c2, .int .i64 c3]
  go_wp2_with fail
  refine (or_3 c1 c2 c3 _ W.heap.size (z.cell 0) (z.cell 1) (z.cell 2)).mono ?_
  clear z
  rintro e w' ⟨rfl, rfl⟩
  go_wp2
  go_ret
  exact ⟨rfl, (HB.out.drew.alloc (by simpa using HB.out.size) _)⟩
theorem compare_is (a b : Nm) (w : World) (ho : a.owner = b.owner) : Calls Tryz.prog 57 #[nmV a, nmV b] w fun e w' => e = .returned (.int .i64 (cmpN a b)) ∧ Below w.heap.size w w' := by
  by_cases h : cmpI a.kind b.kind = 0
  · exact compare_rest a b w ho h
  · exact compare_kind a b w h
end Go.Proofs.YtamjllakfgphnaaGreatDoor
/- Words for layer 46: equality of structs. -/
namespace Go.Proofs.YtamjllakfgphnaaGreatDoor
open Go.RowKit
set_option linter.unusedSimpArgs false
set_option linter.unusedVariables false
theorem bs_tl (a : Bs) : (bs a).toList = a := bs_toList a
theorem beq_dec {α : Type} [BEq α] [LawfulBEq α] (a b : α) [Decidable (a = b)] : (a == b) = decide (a = b) := by by_cases h : a = b <;> simp [h]
theorem bool_dec (a b : Prop) [Decidable a] [Decidable b] : decide (a ∧ b) = (decide a && decide b) := by by_cases a <;> by_cases b <;> simp [*]
set_option maxRecDepth 100000 in
theorem eqNm (a0 b0 : Int) (a1 b1 : ByteArray) (a2 b2 : Int) (a3 b3 : Int) (a4 b4 : ByteArray) (w : World) : (Op.equalIn 10000 26 (.agg #[.int .i64 a0, .string a1, .int .i64 a2, .int .i64 a3, .string a4]) (.agg #[.int .i64 b0, .string b1, .int .i64 b2, .int .i64 b3, .string b4])).run Tryz.prog w = .ok (a0 == b0 && a1.toList == b1.toList && a2 == b2 && a3 == b3 && a4.toList == b4.toList) w := by
  have u1 := Tryz.underlying3
  have u2 := Tryz.underlying9
  have u3 := Tryz.underlying4
  have u4 := Tryz.underlying22
  have hS : Tryz.prog.underlying 26 = some (.struct (Tryz.prog.fieldsOf 26)) := by kernel_rfl
  have hp : Tryz.prog.stoodInHeld 26 = false := by kernel_rfl
  rw [show (10000 : Nat) = 9999 + 1 from rfl, run_equalIn_agg w 9999 26 _ _ hS hp]
  simp only [Program.fieldsOf, Tryz.underlying26]
  go_simp
  by_cases h0 : a0 = b0 <;> by_cases h1 : a1.toList = b1.toList <;> by_cases h2 : a2 = b2 <;> by_cases h3 : a3 = b3 <;> by_cases h4 : a4.toList = b4.toList <;> simp [h0, h1, h2, h3, h4]
theorem guardNm : Tryz.prog.eqGuardType Tryz.prog.depth 26 = false := by kernel_rfl
theorem eqlNm (p q : Nm) (b : Bool) (hb : decide (p = q) = b) (w : World) : (binOp .eql 26 (nmV p) (nmV q)).run Tryz.prog w = .ok (.bool b) w := by
  subst hb
  obtain ⟨k, o, n, i, t⟩ := p; obtain ⟨k2, o2, n2, i2, t2⟩ := q; unfold nmV nmA
  rw [run_eql_struct, eqNm]
  simp [bs_tl, bool_dec, beq_dec, Bool.and_assoc]
theorem neqNm (p q : Nm) (b : Bool) (hb : decide (p = q) = b) (w : World) : (binOp .neq 26 (nmV p) (nmV q)).run Tryz.prog w = .ok (.bool (!b)) w := by
  subst hb
  obtain ⟨k, o, n, i, t⟩ := p; obtain ⟨k2, o2, n2, i2, t2⟩ := q; unfold nmV nmA
  rw [run_neq_struct, eqNm]
  simp [bs_tl, bool_dec, beq_dec, Bool.and_assoc]
set_option maxRecDepth 100000 in
theorem eqNm9 (a0 b0 : Int) (a1 b1 : ByteArray) (a2 b2 : Int) (a3 b3 : Int) (a4 b4 : ByteArray) (w : World) : (Op.equalIn 9999 26 (.agg #[.int .i64 a0, .string a1, .int .i64 a2, .int .i64 a3, .string a4]) (.agg #[.int .i64 b0, .string b1, .int .i64 b2, .int .i64 b3, .string b4])).run Tryz.prog w = .ok (a0 == b0 && a1.toList == b1.toList && a2 == b2 && a3 == b3 && a4.toList == b4.toList) w := by
  have u1 := Tryz.underlying3
  have u2 := Tryz.underlying9
  have u3 := Tryz.underlying4
  have u4 := Tryz.underlying22
  have hS : Tryz.prog.underlying 26 = some (.struct (Tryz.prog.fieldsOf 26)) := by kernel_rfl
  have hp : Tryz.prog.stoodInHeld 26 = false := by kernel_rfl
  rw [show (9999 : Nat) = 9998 + 1 from rfl, run_equalIn_agg w 9998 26 _ _ hS hp]
  simp only [Program.fieldsOf, Tryz.underlying26]
  go_simp
  by_cases h0 : a0 = b0 <;> by_cases h1 : a1.toList = b1.toList <;> by_cases h2 : a2 = b2 <;> by_cases h3 : a3 = b3 <;> by_cases h4 : a4.toList = b4.toList <;> simp [h0, h1, h2, h3, h4]
set_option maxRecDepth 100000 in
theorem eqVe (a0 b0 : Int) (a1 b1 : ByteArray) (a2 b2 : Bool) (w : World) : (Op.equalIn 10000 68 (.agg #[.int .i64 a0, .string a1, .bool a2]) (.agg #[.int .i64 b0, .string b1, .bool b2])).run Tryz.prog w = .ok (a0 == b0 && a1.toList == b1.toList && a2 == b2) w := by
  have u1 := Tryz.underlying3
  have u2 := Tryz.underlying9
  have u3 := Tryz.underlying4
  have u4 := Tryz.underlying22
  have hS : Tryz.prog.underlying 68 = some (.struct (Tryz.prog.fieldsOf 68)) := by kernel_rfl
  have hp : Tryz.prog.stoodInHeld 68 = false := by kernel_rfl
  rw [show (10000 : Nat) = 9999 + 1 from rfl, run_equalIn_agg w 9999 68 _ _ hS hp]
  simp only [Program.fieldsOf, Tryz.underlying68]
  go_simp
  by_cases h0 : a0 = b0 <;> by_cases h1 : a1.toList = b1.toList <;> by_cases h2 : a2 = b2 <;> simp [h0, h1, h2]
theorem guardVe : Tryz.prog.eqGuardType Tryz.prog.depth 68 = false := by kernel_rfl
theorem eqlVe (p q : Ver) (b : Bool) (hb : decide (p = q) = b) (w : World) : (binOp .eql 68 (veV p) (veV q)).run Tryz.prog w = .ok (.bool b) w := by
  subst hb
  obtain ⟨k, o, n⟩ := p; obtain ⟨k2, o2, n2⟩ := q; unfold veV
  rw [run_eql_struct, eqVe]
  simp [bs_tl, bool_dec, beq_dec, Bool.and_assoc]
theorem neqVe (p q : Ver) (b : Bool) (hb : decide (p = q) = b) (w : World) : (binOp .neq 68 (veV p) (veV q)).run Tryz.prog w = .ok (.bool (!b)) w := by
  subst hb
  obtain ⟨k, o, n⟩ := p; obtain ⟨k2, o2, n2⟩ := q; unfold veV
  rw [run_neq_struct, eqVe]
  simp [bs_tl, bool_dec, beq_dec, Bool.and_assoc]
set_option maxRecDepth 100000 in
theorem eqKy (a0 b0 : Int) (a1 b1 : Int) (a2 b2 : Int) (a3 b3 : ByteArray) (w : World) : (Op.equalIn 10000 74 (.agg #[.int .i64 a0, .int .i64 a1, .int .i64 a2, .string a3]) (.agg #[.int .i64 b0, .int .i64 b1, .int .i64 b2, .string b3])).run Tryz.prog w = .ok (a0 == b0 && a1 == b1 && a2 == b2 && a3.toList == b3.toList) w := by
  have u1 := Tryz.underlying3
  have u2 := Tryz.underlying9
  have u3 := Tryz.underlying4
  have u4 := Tryz.underlying22
  have hS : Tryz.prog.underlying 74 = some (.struct (Tryz.prog.fieldsOf 74)) := by kernel_rfl
  have hp : Tryz.prog.stoodInHeld 74 = false := by kernel_rfl
  rw [show (10000 : Nat) = 9999 + 1 from rfl, run_equalIn_agg w 9999 74 _ _ hS hp]
  simp only [Program.fieldsOf, Tryz.underlying74]
  go_simp
  by_cases h0 : a0 = b0 <;> by_cases h1 : a1 = b1 <;> by_cases h2 : a2 = b2 <;> by_cases h3 : a3.toList = b3.toList <;> simp [h0, h1, h2, h3]
theorem guardKy : Tryz.prog.eqGuardType Tryz.prog.depth 74 = false := by kernel_rfl
theorem eqlKy (p q : Ky) (b : Bool) (hb : decide (p = q) = b) (w : World) : (binOp .eql 74 (kyV p) (kyV q)).run Tryz.prog w = .ok (.bool b) w := by
  subst hb
  obtain ⟨k, o, n, i⟩ := p; obtain ⟨k2, o2, n2, i2⟩ := q; unfold kyV
  rw [run_eql_struct, eqKy]
  simp [bs_tl, bool_dec, beq_dec, Bool.and_assoc]
theorem neqKy (p q : Ky) (b : Bool) (hb : decide (p = q) = b) (w : World) : (binOp .neq 74 (kyV p) (kyV q)).run Tryz.prog w = .ok (.bool (!b)) w := by
  subst hb
  obtain ⟨k, o, n, i⟩ := p; obtain ⟨k2, o2, n2, i2⟩ := q; unfold kyV
  rw [run_neq_struct, eqKy]
  simp [bs_tl, bool_dec, beq_dec, Bool.and_assoc]
set_option maxRecDepth 100000 in
theorem eqCh (a0 b0 : Int) (a1 b1 : ByteArray) (a2 b2 : Int) (a3 b3 : Int) (a4 b4 : ByteArray) (a5 b5 : ByteArray) (a6 b6 : Bool) (w : World) : (Op.equalIn 10000 105 (.agg #[.int .i64 a0, .string a1, .int .i64 a2, .int .i64 a3, .string a4, .string a5, .bool a6]) (.agg #[.int .i64 b0, .string b1, .int .i64 b2, .int .i64 b3, .string b4, .string b5, .bool b6])).run Tryz.prog w = .ok (a0 == b0 && a1.toList == b1.toList && a2 == b2 && a3 == b3 && a4.toList == b4.toList && a5.toList == b5.toList && a6 == b6) w := by
  have u1 := Tryz.underlying3
  have u2 := Tryz.underlying9
  have u3 := Tryz.underlying4
  have u4 := Tryz.underlying22
  have hS : Tryz.prog.underlying 105 = some (.struct (Tryz.prog.fieldsOf 105)) := by kernel_rfl
  have hp : Tryz.prog.stoodInHeld 105 = false := by kernel_rfl
  have hN := eqNm9 a0 b0 a1 b1 a2 b2 a3 b3 a4 b4 w
  rw [show (10000 : Nat) = 9999 + 1 from rfl, run_equalIn_agg w 9999 105 _ _ hS hp]
  simp only [Program.fieldsOf, Tryz.underlying105]
  go_simp
  by_cases h0 : a0 = b0 <;> by_cases h1 : a1.toList = b1.toList <;> by_cases h2 : a2 = b2 <;> by_cases h3 : a3 = b3 <;> by_cases h4 : a4.toList = b4.toList <;> by_cases h5 : a5.toList = b5.toList <;> by_cases h6 : a6 = b6 <;> simp [h0, h1, h2, h3, h4, h5, h6]
theorem guardCh : Tryz.prog.eqGuardType Tryz.prog.depth 105 = false := by kernel_rfl
theorem eqlCh (p q : Ch) (b : Bool) (hb : decide (p = q) = b) (w : World) : (binOp .eql 105 (chV p) (chV q)).run Tryz.prog w = .ok (.bool b) w := by
  subst hb
  obtain ⟨⟨k, o, n, i, t⟩, v, a⟩ := p; obtain ⟨⟨k2, o2, n2, i2, t2⟩, v2, a2⟩ := q; unfold chV
  rw [run_eql_struct, eqCh]
  simp [bs_tl, bool_dec, beq_dec, Bool.and_assoc]
theorem neqCh (p q : Ch) (b : Bool) (hb : decide (p = q) = b) (w : World) : (binOp .neq 105 (chV p) (chV q)).run Tryz.prog w = .ok (.bool (!b)) w := by
  subst hb
  obtain ⟨⟨k, o, n, i, t⟩, v, a⟩ := p; obtain ⟨⟨k2, o2, n2, i2, t2⟩, v2, a2⟩ := q; unfold chV
  rw [run_neq_struct, eqCh]
  simp [bs_tl, bool_dec, beq_dec, Bool.and_assoc]
end Go.Proofs.YtamjllakfgphnaaGreatDoor
