/- Walks and plain facts of the earlier laws, packed: GM, GS, GB. -/
import Derived.Deep.RegionHeld
import Derived.Deep.RegionHeld3
import Derived.Test.YtmjkcanjfjfkfaaProg
import Derived.WalkKit
import Derived.Lib.Hide
import Derived.Below
import Derived.Laws.OwnMore
import Derived.Deep.Draws
import Derived.Laws.Rows
import Derived.OwnWalk
import Derived.RegionTactic
import Derived.BigRegion
import Derived.StillTailTactics
import Derived.Deep.AppendLies
import Derived.Deep.LoopGhost
import Derived.Deep.QuietTactic
import Derived.BigQuiet
import Derived.IntWalk
import Derived.Deep.Slices
import Derived.ChangeArms
import Derived.Lib.SmallJoins
import Derived.WalkLawsBesides
import Derived.WalkSpells
import Derived.Laws.StructEq
import Derived.Deep.DrawnRows
import Derived.Test.YtmjkcanjfjfkfaaB1
namespace Go.Proofs.Ytmjkcanjfjfkfaa
section
variable {P : Program} {ops : Array Oper} {Q : Exit → Go.Act → World → Prop} {md : Region.Mode} {st : Nat}
def aft (ops : Array Oper) (j : Nat) : Array Edge := ((ops[j]?).map (·.after)).getD #[]
def lastOk (md : Region.Mode) (ops : Array Oper) (st : Nat) : Bool :=
  decide (st < ops.size) && (List.range ops.size).all fun j =>
    ((aft ops j).toList.all fun e => !Region.binds md e || (decide (e.on < j) && !decide (e.on = st))) &&
    (decide (j = st) || (List.range ops.size).any fun k => decide (j < k) && (aft ops k).toList.any fun e => Region.binds md e && decide (e.on = j))
theorem aft_of {j : Nat} {o : Oper} (h : ops[j]? = some o) : aft ops j = o.after := by unfold aft; rw [h]; rfl
theorem last_spec (h : lastOk md ops st = true) : st < ops.size ∧ ∀ j, j < ops.size → (∀ e ∈ aft ops j, Region.binds md e = true → e.on < j ∧ e.on ≠ st) ∧ (j ≠ st → ∃ k, k < ops.size ∧ j < k ∧ ∃ e ∈ aft ops k, Region.binds md e = true ∧ e.on = j) := by
  unfold lastOk at h
  rw [Bool.and_eq_true, decide_eq_true_eq, List.all_eq_true] at h
  refine ⟨h.1, fun j hj => ?_⟩
  have h2 := h.2 j (List.mem_range.2 hj)
  rw [Bool.and_eq_true, List.all_eq_true, Bool.or_eq_true, decide_eq_true_eq, List.any_eq_true] at h2
  refine ⟨fun e he hb => ?_, fun hne => ?_⟩
  · have := h2.1 e (by simpa using he)
    rw [hb] at this
    simpa using this
  · rcases h2.2 with h3 | ⟨k, hk, h3⟩
    · exact absurd h3 hne
    · rw [Bool.and_eq_true, decide_eq_true_eq, List.any_eq_true] at h3
      obtain ⟨hjk, e, he, h4⟩ := h3
      rw [Bool.and_eq_true, decide_eq_true_eq] at h4
      exact ⟨k, List.mem_range.1 hk, hjk, e, by simpa using he, h4⟩
def Closed (md : Region.Mode) (ops : Array Oper) (listed : Array Bool) : Prop :=
  listed.size = ops.size ∧ ∀ k, k < ops.size → listed.getD k false = true → ∀ e ∈ aft ops k, Region.binds md e = true → listed.getD e.on false = true
theorem Closed.set {listed : Array Bool} {i : Nat} (h : Closed md ops listed) (hi : i ∈ Region.ready md ops listed) : Closed md ops (listed.setIfInBounds i true) := by
  refine ⟨by simp [h.1], fun k hk hl e he hb => ?_⟩
  by_cases hik : i = k
  · subst hik
    obtain ⟨_, o, ho, hall⟩ := mem_ready.1 hi
    rw [aft_of ho] at he
    exact getD_set_true (hall e he hb)
  · rw [getD_set_ne false hik] at hl
    exact getD_set_true (h.2 k hk hl e he hb)
theorem getD_true_false {listed : Array Bool} {j : Nat} (hj : j < listed.size) : listed.getD j true = listed.getD j false := by
  simp [Array.getD, hj]
theorem all_before (hl : lastOk md ops st = true) {listed : Array Bool} (hc : Closed md ops listed) (hr : st ∈ Region.ready md ops listed) : ∀ n j, j < ops.size → ops.size - j ≤ n → j ≠ st → listed.getD j false = true
  | 0, j, hj, hn, _ => by omega
  | n + 1, j, hj, hn, hne => by
    obtain ⟨k, hk, hjk, e, he, hb, rfl⟩ := ((last_spec hl).2 j hj).2 hne
    by_cases hks : k = st
    · subst hks
      obtain ⟨_, o, ho, hall⟩ := mem_ready.1 hr
      rw [aft_of ho] at he
      exact hall e he hb
    · exact hc.2 k hk (all_before hl hc hr n k hk (by omega) hks) e he hb
theorem all_listed (hl : lastOk md ops st = true) {listed : Array Bool} (hsz : listed.size = ops.size) (hr : ∀ j, j ≠ st → j ∉ Region.ready md ops listed) : ∀ j, j < ops.size → j ≠ st → listed.getD j false = true := by
  intro j
  induction j using Nat.strongRecOn with
  | _ j ih =>
    intro hj hne
    cases hlj : listed.getD j false with
    | true => rfl
    | false =>
      refine absurd ?_ (hr j hne)
      rw [mem_ready]
      refine ⟨by rw [getD_true_false (by omega)]; exact hlj, ops[j], Array.getElem?_eq_getElem hj, fun e he hb => ?_⟩
      have := ((last_spec hl).2 j hj).1 e (by rw [aft_of (Array.getElem?_eq_getElem hj)]; exact he) hb
      exact ih e.on this.1 (by omega) this.2
theorem ready_set (hl : lastOk md ops st = true) {listed : Array Bool} {j : Nat} (hne : j ≠ st) : j ∈ Region.ready md ops (listed.setIfInBounds st true) ↔ j ∈ Region.ready md ops listed := by
  rw [mem_ready, mem_ready, getD_set_ne true (Ne.symm hne)]
  refine and_congr Iff.rfl ⟨fun ⟨o, ho, h⟩ => ⟨o, ho, fun e he hb => ?_⟩, fun ⟨o, ho, h⟩ => ⟨o, ho, fun e he hb => getD_set_true (h e he hb)⟩⟩
  have hj : j < ops.size := (Array.getElem?_eq_some_iff.1 ho).1
  have := ((last_spec hl).2 j hj).1 e (by rw [aft_of ho]; exact he) hb
  rw [← getD_set_ne false (Ne.symm this.2)]
  exact h e he hb
def LastQ (P : Program) (ops : Array Oper) (Q : Exit → Go.Act → World → Prop) (st : Nat) : Exit → Go.Act → World → Prop
  | .normal, a, w => wpOp P ops Q st (Q .normal) a w
  | e, a, w => Q e a w
theorem wpOp_lastQ {i : Nat} {K : Go.Act → World → Prop} {a : Go.Act} {w : World} (h : wpOp P ops (LastQ P ops Q st) i K a w) : wpOp P ops Q i K a w := by
  unfold wpOp at *
  split
  · simpa [*] using h
  · rename_i o ho
    simp only [ho] at h
    split
    · rename_i hw
      simp only [hw, if_true] at h
      rcases h with h | ⟨h1, a', w', h2⟩
      · left
        unfold Oper.wp at *
        generalize (execOp a.eval o).run P w = r at *
        cases r with
        | ok n w' =>
          cases n <;> simp only [Oper.upon] at h ⊢ <;>
            first
              | exact h
              | exact Calls.mono h (fun e w'' he => by cases e <;> exact he)
              | exact Rows.mono h (fun _ _ he => he)
        | halt x w' => cases x <;> simp only [Oper.upon] at h ⊢ <;> exact h
      · exact .inr ⟨h1, a', w', h2⟩
    · rename_i hw
      simp only [hw] at h
      exact h
theorem ready_nil {listed : Array Bool} (h : ∀ j, j < ops.size → listed.getD j false = true) (hsz : listed.size = ops.size) : Region.ready md ops listed = [] := by
  refine List.eq_nil_iff_forall_not_mem.2 fun j hj => ?_
  obtain ⟨h0, o, ho, _⟩ := mem_ready.1 hj
  have hlt : j < ops.size := (Array.getElem?_eq_some_iff.1 ho).1
  rw [getD_true_false (by omega), h j hlt] at h0
  cases h0
theorem wpAny_end {fuel : Nat} {listed : Array Bool} {a : Go.Act} {w : World} (hr : Region.ready md ops listed = []) (h : Q .normal a w) : wpAny P md ops Q fuel listed a w := by
  cases fuel with
  | zero => exact ⟨hr, h⟩
  | succ n => exact ⟨fun _ => h, by rw [hr]; simp⟩
theorem wpAny_last (hl : lastOk md ops st = true) : ∀ (fuel : Nat) (listed : Array Bool) (a : Go.Act) (w : World), Closed md ops listed → listed.getD st true = false →
    wpAny P md ops (LastQ P ops Q st) fuel (listed.setIfInBounds st true) a w → wpAny P md ops Q (fuel + 1) listed a w := by
  intro fuel
  induction fuel with
  | zero =>
    intro listed a w hc hs h
    have hstl := (last_spec hl).1
    have hall := all_listed hl (listed := listed) hc.1 (fun j hne hj => by
      have := (ready_set hl (listed := listed) hne).2 hj
      rw [h.1] at this; cases this)
    have hrdy : st ∈ Region.ready md ops listed := by
      rw [mem_ready]
      refine ⟨hs, ops[st], Array.getElem?_eq_getElem hstl, fun e he hb => ?_⟩
      have := ((last_spec hl).2 st hstl).1 e (by rw [aft_of (Array.getElem?_eq_getElem hstl)]; exact he) hb
      exact hall e.on (by omega) this.2
    refine ⟨fun h0 => (by rw [h0] at hrdy; cases hrdy), fun i hi => ?_⟩
    by_cases hne : i = st
    · subst hne
      refine wpOp_mono (fun a' w' h' => wpAny_end (ready_nil (fun j hj => ?_) (by simp [hc.1])) h') h.2
      by_cases hji : j = i
      · subst hji; simp [Array.getD, hc.1, hj]
      · rw [getD_set_ne false (Ne.symm hji)]; exact hall j hj hji
    · have := (ready_set hl (listed := listed) hne).2 hi
      rw [h.1] at this; cases this
  | succ fuel ih =>
    intro listed a w hc hs h
    have hstl := (last_spec hl).1
    have fin : st ∈ Region.ready md ops listed → wpOp P ops Q st (wpAny P md ops Q (fuel + 1) (listed.setIfInBounds st true)) a w := by
      intro hr
      have hall := fun j hj hne => all_before hl hc hr (ops.size - j) j hj (Nat.le_refl _) hne
      have hn : Region.ready md ops (listed.setIfInBounds st true) = [] := ready_nil (fun j hj => by
        by_cases hji : j = st
        · subst hji; simp [Array.getD, hc.1, hj]
        · rw [getD_set_ne false (Ne.symm hji)]; exact hall j hj hji) (by simp [hc.1])
      exact wpOp_mono (fun a' w' h' => wpAny_end hn h') (h.1 hn)
    refine ⟨fun h0 => ?_, fun i hi => ?_⟩
    · exfalso
      have hall := all_listed hl (listed := listed) hc.1 (fun j _ hj => by rw [h0] at hj; cases hj)
      have hrdy : st ∈ Region.ready md ops listed := by
        rw [mem_ready]
        refine ⟨hs, ops[st], Array.getElem?_eq_getElem hstl, fun e he hb => ?_⟩
        have := ((last_spec hl).2 st hstl).1 e (by rw [aft_of (Array.getElem?_eq_getElem hstl)]; exact he) hb
        exact hall e.on (by omega) this.2
      rw [h0] at hrdy; cases hrdy
    · by_cases hne : i = st
      · subst hne; exact fin hi
      · have h1 := h.2 i ((ready_set hl hne).2 hi)
        refine wpOp_mono (fun a' w' h' => ih _ a' w' (hc.set hi) (by rw [getD_set_ne true hne]; exact hs) ?_) (wpOp_lastQ h1)
        rw [Array.setIfInBounds_comm _ _ hne]
        exact h'
theorem wp_region_last {S : World → Prop} {id : Nat} {a : Go.Act} {w : World} (st : Nat) (n : Nat) (hn : ops.size = n + 1) (hl : lastOk .any ops st = true) (hm : P.follows .mixedOrders = true) (hS : S w.drew)
    (h : S w.drew → wpAnyH P .any ops (LastQ P ops Q st) S n ((Array.replicate (n + 1) false).setIfInBounds st true) a w.drew) : (Code.region id ops true).wp P Q a w := by
  refine wp_region_any hm ?_
  rw [hn]
  have hc : Closed .any ops (Array.replicate (n + 1) false) := by
    refine ⟨by simp [hn], fun k hk hlk => ?_⟩
    rw [hn] at hk
    simp [Array.getD, hk] at hlk
  refine wpAny_last hl n _ a _ hc ?_ (wpAny_of_held _ _ _ _ (h hS))
  have := (last_spec hl).1
  rw [hn] at this
  simp [Array.getD, this]
theorem lastQ_step {o : Oper} {a : Go.Act} {w : World} (ho : ops[st]? = some o)
    (h : ∀ K' : Go.Act → World → Prop, (∀ a w, Q .normal a w → K' a w) → if Region.wanted o (yielded ops a.tmps) = true then Oper.wp P o a w K' Q else K' (a.put o.dst undef) w) : LastQ P ops Q st .normal a w :=
  wpOp_step ho h
end
end Go.Proofs.Ytmjkcanjfjfkfaa
namespace Go.Proofs.Ytmjkcanjfjfkfaa
set_option linter.unusedVariables false
end Go.Proofs.Ytmjkcanjfjfkfaa
namespace Go.Proofs.Ytmjkcanjfjfkfaa
open Go.RowKit
set_option linter.unusedSimpArgs false
set_option linter.unusedVariables false
def bs (l : Bs) : ByteArray := ⟨l.toArray⟩
theorem bs_list (l : Bs) : (bs l).data.toList = l := by simp [bs]
theorem bs_inj {a b : Bs} (h : bs a = bs b) : a = b := by have := congrArg (fun x => x.data.toList) h; simpa [bs_list] using this
def Blk (w : World) (g : Nat) (t : TypeId) (cs : Array Value) : Prop := w.heap[g]? = some (.cells cs t (0, 0))
section
variable {w w' : World} {g : Nat} {t : TypeId} {cs : Array Value}
theorem Blk.lt (h : Blk w g t cs) : g < w.heap.size := (Array.getElem?_eq_some_iff.1 h).1
theorem Blk.cell (h : Blk w g t cs) (i : Nat) : w.cell? ⟨g, i, none⟩ = cs[i]? := cell_of_row w g i cs t (0, 0) h
theorem Blk.frozen (h : Blk w g t cs) (i : Nat) : w.frozen? ⟨g, i, none⟩ = false := by
  unfold Blk at h
  simp [World.frozen?, h]
theorem Blk.new (w : World) (t : TypeId) (cs : Array Value) : Blk (w.alloc (.cells cs t)) w.heap.size t cs := heap_alloc_new w _
theorem Blk.drew (h : Blk w g t cs) : Blk w.drew g t cs := h
theorem Blk.drewN (h : Blk w g t cs) (n : Nat) : Blk (w.drewN n) g t cs := h
theorem Blk.alloc (h : Blk w g t cs) (o : Obj) : Blk (w.alloc o) g t cs := (Below.heap_alloc w o g h.lt).trans h
theorem Blk.set_ (h : Blk w g t cs) (i : Nat) (u : Value) : Blk (w.setCell ⟨g, i, none⟩ u) g t (cs.setIfInBounds i u) := by
  unfold Blk at h ⊢
  simp [World.setCell, Array.getElem?_modify, h]
theorem Blk.far (h : Blk w g t cs) {p : Addr} (hp : g ≠ p.block) (u : Value) : Blk (w.setCell p u) g t cs := (Below.heap_setCell w p u g hp).trans h
theorem Blk.next {B : Nat} (h : Blk w g t cs) (hb : Below B w w') (hg : g < B) : Blk w' g t cs := (hb.block g hg).trans h
theorem Blk.grown {row : Option Nat} (h : Blk w g t cs) (hb : w.grownBy w' row) (hg : some g ≠ row) : Blk w' g t cs := (hb.block g h.lt hg).trans h
theorem own_blk_ne {base : Nat} {e : TypeId} {size n : Nat} {v : Value} {xs : List Value} (h : w.ownsRow base e size v n xs) (hg : Blk w g t cs) (hne : e ≠ t) : v.ownBlock ≠ some g := by
  rcases h.2 with ⟨rfl, _⟩ | ⟨g', cap, cur, rfl, _, hh, _⟩
  · simp [Value.ownBlock]
  · intro he
    have : g' = g := by simpa [Value.ownBlock] using he
    subst this
    unfold Blk at hg
    rw [hh] at hg
    injection hg with hg
    injection hg with _ ht
    exact hne ht
end
theorem only_drewN {a w : World} {row : Option Nat} (h : a.grownBy w row) (n : Nat) : a.grownBy (w.drewN n) row := ⟨h.os, h.tape, h.output, h.size, h.block⟩
theorem only_drew {a w : World} {row : Option Nat} (h : a.grownBy w row) : a.grownBy w.drew row := ⟨h.os, h.tape, h.output, h.size, h.block⟩
theorem only_setCell {a w : World} {g : Nat} (h : a.grownBy w (some g)) {p : Addr} (hp : p.block = g ∨ a.heap.size ≤ p.block) (u : Value) : a.grownBy (w.setCell p u) (some g) :=
  ⟨h.os, h.tape, h.output, by simpa [World.setCell] using h.size, fun i hi hne => (Below.heap_setCell w p u i (by
    rintro rfl
    rcases hp with hp | hp
    · exact hne (by rw [hp])
    · omega)).trans (h.block i hi hne)⟩
theorem only_of_below {a w : World} (h : Below a.heap.size a w) (row : Option Nat) : a.grownBy w row := ⟨h.os, h.tape, h.output, h.size, fun i hi _ => h.block i hi⟩
theorem grown_trans {a b c : World} {row : Option Nat} (h : a.grownBy b row) (k : b.grownBy c row) : a.grownBy c row :=
  ⟨k.os.trans h.os, k.tape.trans h.tape, k.output.trans h.output, Nat.le_trans h.size k.size, fun i hi hne => (k.block i (Nat.lt_of_lt_of_le hi h.size) hne).trans (h.block i hi hne)⟩
theorem below_drewN {B : Nat} {a w : World} (h : Below B a w) (n : Nat) : Below B a (w.drewN n) := ⟨h.os, h.tape, h.output, h.size, h.block⟩
theorem own_next {w w' : World} {base : Nat} {e : TypeId} {size : Nat} {v : Value} {n : Nat} {xs : List Value} (h : w.ownsRow base e size v n xs) (hb : Below w.heap.size w w') : w'.ownsRow base e size v n xs := by
  obtain ⟨h1, h2⟩ := h
  refine ⟨h1, ?_⟩
  rcases h2 with h2 | ⟨g, cap, cur, hv, hg, hh, r⟩
  · exact .inl h2
  · have hlt : g < w.heap.size := (Array.getElem?_eq_some_iff.1 hh).1
    exact .inr ⟨g, cap, cur, hv, hg, by rw [hb.block g hlt]; exact hh, r⟩
theorem own_ge {w : World} {base : Nat} {e : TypeId} {size : Nat} {v : Value} {n : Nat} {xs : List Value} (h : w.ownsRow base e size v n xs) {g : Nat} (hg : v.ownBlock = some g) : base ≤ g := by
  obtain ⟨_, ⟨rfl, _⟩ | ⟨g', cap', cur, rfl, hb, _⟩⟩ := h
  · simp [Value.ownBlock] at hg
  · simp [Value.ownBlock] at hg
    omega
theorem own_base {w : World} {base b0 : Nat} {e : TypeId} {size : Nat} {v : Value} {n : Nat} {xs : List Value} (h : w.ownsRow base e size v n xs) (hb : b0 ≤ base) : w.ownsRow b0 e size v n xs := by
  obtain ⟨h1, h2 | ⟨g, cap, cur, hv, hg, r⟩⟩ := h
  · exact ⟨h1, .inl h2⟩
  · exact ⟨h1, .inr ⟨g, cap, cur, hv, Nat.le_trans hb hg, r⟩⟩
theorem own_len {w : World} {base : Nat} {e : TypeId} {size : Nat} {v : Value} {n : Nat} {xs : List Value} (h : w.ownsRow base e size v n xs) : ∃ a c, v = .slice a n c ∧ n ≤ c := by
  obtain ⟨h1, ⟨rfl, rfl⟩ | ⟨g, cap, cur, rfl, _, _, hn, _⟩⟩ := h
  · exact ⟨none, 0, rfl, Nat.le_refl _⟩
  · exact ⟨_, _, rfl, hn⟩
theorem newN (w : World) (cs : Array Value) (t : TypeId) (j : Nat) (u : Value) (h : cs.toList[j]? = some u) : (w.alloc (.cells cs t)).cell? ((⟨w.heap.size, 0, none⟩ : Addr).add j) = some u := by
  have e2 : ((⟨w.heap.size, 0, none⟩ : Addr).add j) = ⟨w.heap.size, j, none⟩ := by
    unfold Addr.add
    split
    · rename_i h; subst h; rfl
    · simp
  rw [e2, (Blk.new w t cs).cell j]
  simpa using h
def Rd (e : TypeId) (w : World) (v : Value) (n : Nat) (xs : List Value) : Prop :=
  ∃ A c, v = .slice A n c ∧ n ≤ c ∧ c ≤ maxLen ∧ ((n = 0 ∧ xs = []) ∨ ∃ b o cs fr, A = some ⟨b, o, none⟩ ∧ w.heap[b]? = some (.cells cs e fr) ∧ ∀ j u, xs[j]? = some u → cs[o + j]? = some u)
theorem Rd.kept {e : TypeId} {w w' : World} {v : Value} {n : Nat} {xs : List Value} {row : Option Nat} (h : Rd e w v n xs) (hg : w.grownBy w' row) (hne : ∀ g cs fr, row = some g → w.heap[g]? = some (.cells cs e fr) → False) : Rd e w' v n xs := by
  obtain ⟨A, c, hv, hc, hm, h0 | ⟨b, o, cs, fr, hA, hb, hx⟩⟩ := h
  · exact ⟨A, c, hv, hc, hm, .inl h0⟩
  · refine ⟨A, c, hv, hc, hm, .inr ⟨b, o, cs, fr, hA, ?_, hx⟩⟩
    rw [hg.block b (Array.getElem?_eq_some_iff.1 hb).1 (fun h => hne b cs fr h.symm hb)]
    exact hb
theorem Rd.next {e : TypeId} {w w' : World} {v : Value} {n : Nat} {xs : List Value} (h : Rd e w v n xs) (hb : Below w.heap.size w w') : Rd e w' v n xs :=
  h.kept (only_of_below hb none) (fun g cs fr h => by cases h)
theorem Rd.drewN {e : TypeId} {w : World} {v : Value} {n : Nat} {xs : List Value} (h : Rd e w v n xs) (k : Nat) : Rd e (w.drewN k) v n xs := h
theorem Rd.drew {e : TypeId} {w : World} {v : Value} {n : Nat} {xs : List Value} (h : Rd e w v n xs) : Rd e w.drew v n xs := h
theorem Rd.far {e e' : TypeId} {w w' : World} {v v' : Value} {n n' base size : Nat} {xs xs' : List Value} (h : Rd e w v n xs) (ho : w.ownsRow base e' size v' n' xs') (hg : w.grownBy w' v'.ownBlock) (hne : e ≠ e') : Rd e w' v n xs := by
  refine h.kept hg (fun g cs fr hr hh => ?_)
  rcases ho.2 with ⟨rfl, _⟩ | ⟨g', cap, cur, rfl, _, h2, _⟩
  · simp [Value.ownBlock] at hr
  · simp [Value.ownBlock] at hr
    subst hr
    rw [h2] at hh
    injection hh with hh
    injection hh with _ ht
    exact hne ht.symm
theorem Rd.blk {e t : TypeId} {w w' : World} {v : Value} {n g : Nat} {xs : List Value} {cs : Array Value} (h : Rd e w v n xs) (hb : Blk w g t cs) (hg : w.grownBy w' (some g)) (hne : e ≠ t) : Rd e w' v n xs := by
  refine h.kept hg (fun g' cs' fr hr hh => ?_)
  injection hr with hr
  subst hr
  unfold Blk at hb
  rw [hb] at hh
  injection hh with hh
  injection hh with _ ht
  exact hne ht.symm
theorem Rd.of_own {e : TypeId} {w : World} {v : Value} {n base size : Nat} {xs : List Value} (h : w.ownsRow base e size v n xs) : Rd e w v n xs := by
  obtain ⟨h1, ⟨rfl, rfl⟩ | ⟨g, cap, cur, rfl, _, hh, hn, hm, _, hx⟩⟩ := h
  · exact ⟨none, 0, rfl, Nat.le_refl _, Nat.zero_le _, .inl ⟨rfl, by simpa using h1⟩⟩
  · refine ⟨_, cap, rfl, hn, hm, .inr ⟨g, 0, cur, (0, 0), rfl, hh, fun j u hu => ?_⟩⟩
    rw [← hx] at hu
    rw [List.getElem?_take] at hu
    split at hu
    · simpa using hu
    · cases hu
theorem Rd.form {e : TypeId} {w : World} {v : Value} {n : Nat} {xs : List Value} (h : Rd e w v n xs) : ∃ A c, v = .slice A n c ∧ n ≤ c := by
  obtain ⟨A, c, hv, hc, _⟩ := h
  exact ⟨A, c, hv, hc⟩
theorem Rd.at_ {e : TypeId} {w : World} {v : Value} {n : Nat} {xs : List Value} (h : Rd e w v n xs) (hn : 0 < n) : ∃ b o c, v = .slice (some ⟨b, o, none⟩) n c ∧ n ≤ c ∧ c ≤ maxLen ∧ b < w.heap.size ∧ ∀ j u, xs[j]? = some u → w.cell? ⟨b, o + j, none⟩ = some u := by
  obtain ⟨A, c, hv, hc, hm, h0 | ⟨b, o, cs, fr, hA, hb, hx⟩⟩ := h
  · omega
  · subst hA
    refine ⟨b, o, c, hv, hc, hm, (Array.getElem?_eq_some_iff.1 hb).1, fun j u hu => ?_⟩
    rw [cell_of_row w b (o + j) cs e fr hb]
    exact hx j u hu
theorem Rd.cut {e : TypeId} {w : World} {A : Option Addr} {n c : Nat} {xs : List Value} (h : Rd e w (.slice A n c) n xs) (size k : Nat) (hk : k ≤ n) (hx : xs.length = n * size) : Rd e w (.slice (if c = k then A else A.map (·.add (k * size))) (n - k) (c - k)) (n - k) (xs.drop (k * size)) := by
  obtain ⟨A', c', hv, hc, hm, h0⟩ := h
  cases hv
  refine ⟨_, _, rfl, by omega, by omega, ?_⟩
  by_cases hkn : k = n
  · refine .inl ⟨by omega, ?_⟩
    subst hkn
    exact List.drop_eq_nil_of_le (by omega)
  · rcases h0 with ⟨h0, _⟩ | ⟨b, o, cs, fr, rfl, hb, hx'⟩
    · omega
    · rw [if_neg (by omega)]
      refine .inr ⟨b, o + k * size, cs, fr, ?_, hb, fun j u hu => ?_⟩
      · simp only [Option.map_some]
        unfold Addr.add
        split
        · rename_i h; rw [h]; rfl
        · rfl
      · rw [List.getElem?_drop] at hu
        rw [Nat.add_assoc]
        exact hx' _ u hu
structure Kept (L : List TypeId) (w w' : World) : Prop where
  size : w.heap.size ≤ w'.heap.size
  block : ∀ (b : Nat) (cs : Array Value) (e : TypeId) (fr : Nat × Nat), w.heap[b]? = some (Obj.cells cs e fr) → L.contains e = false → w'.heap[b]? = some (Obj.cells cs e fr)
theorem Kept.refl (L : List TypeId) (w : World) : Kept L w w := ⟨Nat.le_refl _, fun _ _ _ _ h _ => h⟩
theorem Kept.trans {L : List TypeId} {a b c : World} (h : Kept L a b) (k : Kept L b c) : Kept L a c :=
  ⟨Nat.le_trans h.size k.size, fun i cs e fr h1 h2 => k.block i cs e fr (h.block i cs e fr h1 h2) h2⟩
theorem Kept.of_below {w w' : World} (L : List TypeId) (h : Below w.heap.size w w') : Kept L w w' :=
  ⟨h.size, fun b cs e fr h1 _ => by rw [h.block b (Array.getElem?_eq_some_iff.1 h1).1]; exact h1⟩
theorem Kept.of_blk {w w' : World} {g : Nat} {t : TypeId} {cs : Array Value} (L : List TypeId) (hb : Blk w g t cs) (h : w.grownBy w' (some g)) (ht : L.contains t = true) : Kept L w w' :=
  ⟨h.size, fun b cs' e fr h1 h2 => by
    rw [h.block b (Array.getElem?_eq_some_iff.1 h1).1 (fun he => by
      injection he with he
      subst he
      unfold Blk at hb
      rw [hb] at h1
      injection h1 with h1
      injection h1 with _ h3
      subst h3
      rw [ht] at h2; cases h2)]
    exact h1⟩
theorem Kept.of_own {w w' : World} {base e size n : Nat} {v : Value} {xs : List Value} (L : List TypeId) (ho : w.ownsRow base e size v n xs) (h : w.grownBy w' v.ownBlock) (ht : L.contains e = true) : Kept L w w' := by
  rcases ho.2 with ⟨rfl, _⟩ | ⟨g', cap, cur, rfl, _, h2, _⟩
  · exact ⟨h.size, fun b cs e' fr h1 _ => by rw [h.block b (Array.getElem?_eq_some_iff.1 h1).1 (by simp [Value.ownBlock])]; exact h1⟩
  · exact Kept.of_blk L (show Blk w g' e cur from h2) h ht
theorem Kept.drewN {L : List TypeId} {a b : World} (h : Kept L a b) (n : Nat) : Kept L a (b.drewN n) := ⟨h.size, h.block⟩
theorem Kept.drew {L : List TypeId} {a b : World} (h : Kept L a b) : Kept L a b.drew := ⟨h.size, h.block⟩
theorem Kept.alloc {L : List TypeId} {a b : World} (h : Kept L a b) (o : Obj) : Kept L a (b.alloc o) := h.trans (Kept.of_below L ((Below.refl _ _).alloc (Nat.le_refl _) o))
theorem Kept.mono {L L' : List TypeId} {a b : World} (h : Kept L a b) (hl : ∀ e, L'.contains e = false → L.contains e = false) : Kept L' a b := ⟨h.size, fun i cs e fr h1 h2 => h.block i cs e fr h1 (hl e h2)⟩
theorem Rd.keep {e : TypeId} {w w' : World} {v : Value} {n : Nat} {xs : List Value} {L : List TypeId} (h : Rd e w v n xs) (k : Kept L w w') (he : L.contains e = false) : Rd e w' v n xs := by
  obtain ⟨A, c, hv, hc, hm, h0 | ⟨b, o, cs, fr, hA, hb, hx⟩⟩ := h
  · exact ⟨A, c, hv, hc, hm, .inl h0⟩
  · exact ⟨A, c, hv, hc, hm, .inr ⟨b, o, cs, fr, hA, k.block b cs e fr hb he, hx⟩⟩
theorem own_keep {e : TypeId} {w w' : World} {v : Value} {n base size : Nat} {xs : List Value} {L : List TypeId} (h : w.ownsRow base e size v n xs) (k : Kept L w w') (he : L.contains e = false) : w'.ownsRow base e size v n xs := by
  obtain ⟨h1, h2 | ⟨g, cap, cur, hv, hg, hh, r⟩⟩ := h
  · exact ⟨h1, .inl h2⟩
  · exact ⟨h1, .inr ⟨g, cap, cur, hv, hg, k.block g cur e (0, 0) hh he, r⟩⟩
theorem Blk.keep {w w' : World} {g : Nat} {t : TypeId} {cs : Array Value} {L : List TypeId} (h : Blk w g t cs) (k : Kept L w w') (he : L.contains t = false) : Blk w' g t cs := k.block g cs t (0, 0) h he
section
variable {α β : Type}
def rowC (f : α → β → List Value) : List α → List β → List Value
  | x :: l, v :: vs => f x v ++ rowC f l vs
  | _, _ => []
def RowW (N : World → β → α → Prop) (w : World) (l : List α) (vs : List β) : Prop := vs.length = l.length ∧ ∀ (i : Nat) (x : α) (v : β), l[i]? = some x → vs[i]? = some v → N w v x
theorem RowW.nil (N : World → β → α → Prop) (w : World) : RowW N w [] [] := ⟨rfl, fun i x v h => by simp at h⟩
theorem RowW.imp {N : World → β → α → Prop} {w w' : World} {l : List α} {vs : List β} (h : RowW N w l vs) (hi : ∀ v x, N w v x → N w' v x) : RowW N w' l vs := ⟨h.1, fun i x v h1 h2 => hi _ _ (h.2 i x v h1 h2)⟩
theorem RowW.snoc {N : World → β → α → Prop} {w : World} {l : List α} {vs : List β} {x : α} {v : β} (h : RowW N w l vs) (hv : N w v x) : RowW N w (l ++ [x]) (vs ++ [v]) := by
  refine ⟨by simp [h.1], fun i x' v' h1 h2 => ?_⟩
  rcases Nat.lt_trichotomy i l.length with hi | hi | hi
  · rw [List.getElem?_append_left hi] at h1
    rw [List.getElem?_append_left (by rw [h.1]; exact hi)] at h2
    exact h.2 i x' v' h1 h2
  · subst hi
    rw [List.getElem?_append_right (Nat.le_refl _)] at h1
    rw [← h.1, List.getElem?_append_right (Nat.le_refl _)] at h2
    simp at h1 h2
    subst h1 h2
    exact hv
  · rw [List.getElem?_eq_none (by simp; omega)] at h1
    cases h1
def RowRd (e : TypeId) (f : α → β → List Value) (N : World → β → α → Prop) (w : World) (v : Value) (l : List α) : Prop := ∃ vs, RowW N w l vs ∧ Rd e w v l.length (rowC f l vs)
variable {e : TypeId} {size base : Nat} {f : α → β → List Value} {N : World → β → α → Prop} {w w' : World} {v : Value} {l : List α} {L : List TypeId}
theorem RowRd.nil : RowRd e f N w (.slice none 0 0) [] := ⟨[], RowW.nil N w, ⟨none, 0, rfl, Nat.le_refl _, Nat.zero_le _, .inl ⟨rfl, rfl⟩⟩⟩
theorem RowRd.keep (h : RowRd e f N w v l) (k : Kept L w w') (he : L.contains e = false) (hN : ∀ v x, N w v x → N w' v x) : RowRd e f N w' v l := by
  obtain ⟨vs, h1, h2⟩ := h
  exact ⟨vs, h1.imp hN, h2.keep k he⟩
theorem RowRd.form (h : RowRd e f N w v l) : ∃ A c, v = .slice A l.length c ∧ l.length ≤ c := by
  obtain ⟨vs, _, h2⟩ := h
  exact h2.form
theorem rowC_get (f : α → β → List Value) (size : Nat) (hf : ∀ x v, (f x v).length = size) : ∀ (l : List α) (vs : List β), vs.length = l.length → ∀ (i : Nat) (x : α) (v : β) (j : Nat), l[i]? = some x → vs[i]? = some v → j < size → (rowC f l vs)[i * size + j]? = (f x v)[j]?
  | [], _, _, i, x, v, j, h, _, _ => by simp at h
  | a :: l, [], h, _, _, _, _, _, _, _ => by simp at h
  | a :: l, b :: vs, h, 0, x, v, j, h1, h2, hj => by
    simp at h1 h2
    subst h1 h2
    simp only [rowC, Nat.zero_mul, Nat.zero_add]
    rw [List.getElem?_append_left (by rw [hf]; exact hj)]
  | a :: l, b :: vs, h, i + 1, x, v, j, h1, h2, hj => by
    have := rowC_get f size hf l vs (by simpa using h) i x v j (by simpa using h1) (by simpa using h2) hj
    simp only [rowC]
    rw [List.getElem?_append_right (by rw [hf, Nat.add_mul]; omega), hf, ← this]
    congr 1
    rw [Nat.add_mul]; omega
theorem rowC_len (f : α → β → List Value) (size : Nat) (hf : ∀ x v, (f x v).length = size) : ∀ (l : List α) (vs : List β), vs.length = l.length → (rowC f l vs).length = l.length * size
  | [], [], _ => by simp [rowC]
  | [], b :: vs, h => by simp at h
  | a :: l, [], h => by simp at h
  | a :: l, b :: vs, h => by
    have := rowC_len f size hf l vs (by simpa using h)
    simp only [rowC, List.length_append, hf, this, List.length_cons, Nat.add_mul]; omega
theorem rowC_drop (f : α → β → List Value) (size : Nat) (hf : ∀ x v, (f x v).length = size) (a : α) (l : List α) (b : β) (vs : List β) : (rowC f (a :: l) (b :: vs)).drop size = rowC f l vs := by
  simp only [rowC]
  rw [List.drop_append_of_le_length (by rw [hf]; exact Nat.le_refl _), List.drop_eq_nil_of_le (by rw [hf]; exact Nat.le_refl _), List.nil_append]
theorem RowRd.at_ (h : RowRd e f N w v l) (hf : ∀ x u, (f x u).length = size) {i : Nat} {x : α} (hx : l[i]? = some x) : ∃ b o c u, v = .slice (some ⟨b, o, none⟩) l.length c ∧ l.length ≤ c ∧ b < w.heap.size ∧ N w u x ∧ ∀ j y, (f x u)[j]? = some y → w.cell? ⟨b, o + (i * size + j), none⟩ = some y := by
  obtain ⟨vs, h1, h2⟩ := h
  have hi : i < l.length := by
    rcases Nat.lt_or_ge i l.length with h | h
    · exact h
    · rw [List.getElem?_eq_none h] at hx; cases hx
  have hiv : i < vs.length := by rw [h1.1]; exact hi
  obtain ⟨b, o, c, hv, hc, _, hb, hcell⟩ := h2.at_ (by omega)
  refine ⟨b, o, c, vs[i], hv, hc, hb, h1.2 i x _ hx (List.getElem?_eq_getElem hiv), fun j y hy => ?_⟩
  have hj : j < size := by
    rcases Nat.lt_or_ge j size with h | h
    · exact h
    · rw [List.getElem?_eq_none (by rw [hf]; exact h)] at hy; cases hy
  exact hcell _ _ ((rowC_get f size hf l vs h1.1 i x _ j hx (List.getElem?_eq_getElem hiv) hj).trans hy)
theorem RowRd.tail {A : Option Addr} {n c : Nat} {a : α} (h : RowRd e f N w (.slice A n c) (a :: l)) (hf : ∀ x u, (f x u).length = size) : RowRd e f N w (.slice (if c = 1 then A else A.map (·.add size)) (n - 1) (c - 1)) l := by
  obtain ⟨vs, h1, h2⟩ := h
  match vs, h1 with
  | [], h1 => exact absurd h1.1 (by simp)
  | b :: vs, h1 =>
    obtain ⟨A', c', hv, hc, hm, h0⟩ := id h2
    injection hv with hA hn hcc
    subst hn
    refine ⟨vs, ⟨by simpa using h1.1, fun i x v hx hv => h1.2 (i + 1) x v (by simpa using hx) (by simpa using hv)⟩, ?_⟩
    have := Rd.cut h2 size 1 (by simp) (by rw [rowC_len f size hf _ _ h1.1])
    rw [Nat.one_mul, rowC_drop f size hf] at this
    exact this
theorem RowRd.next (h : RowRd e f N w v l) (hb : Below w.heap.size w w') (hN : ∀ v x, N w v x → N w' v x) : RowRd e f N w' v l := h.keep (Kept.of_below [] hb) rfl hN
end
end Go.Proofs.Ytmjkcanjfjfkfaa
namespace Go.Proofs.Ytmjkcanjfjfkfaa
open Go.RowKit Go.Deep
set_option linter.unusedSimpArgs false
set_option linter.unusedVariables false
theorem add_off (b o j : Nat) : ((⟨b, o, none⟩ : Addr).add j) = ⟨b, o + j, none⟩ := by
  unfold Addr.add
  split
  · rename_i h; subst h; rfl
  · rfl
theorem run_append_rd {P : Program} (w : World) (base : Nat) (t ty e : TypeId) (i : TypeInfo) (z : Value) (size bytes : Nat) (ht : P.underlying t = some (.slice e)) (hi : P.info? e = some i) (hz : i.zero = some z)
    (hsize : i.size = size) (hby : i.bytes = bytes) (hzs : z.cells.size = size) (hsz : 0 < size)
    (v : Value) (n : Nat) (xs : List Value) (hown : w.ownsRow base e size v n xs) (x : Value) (m : Nat) (news : List Value) (hr : Rd e w x m news) (hl : news.length = m * size) (h1 : ∀ u ∈ news, u.oneCell' = true)
    (h63 : n + m ≤ maxLen) (hbytes : (n + m) * bytes ≤ 140737488355328) (hbase : base ≤ w.heap.size) :
    ∃ ao cap w', (Builtin.append_ #[t, t] ty #[v, x]).run P w = .ok (.slice ao (n + m) cap) w' ∧ w'.ownsRow base e size (.slice ao (n + m) cap) (n + m) (xs ++ news) ∧ w.grownBy w' v.ownBlock := by
  have fin : ∀ (ad : Addr) (c : Nat), (∀ j u, news[j]? = some u → w.cell? (ad.add j) = some u) →
      ∃ ao cap w', (Builtin.append_ #[t, t] ty #[v, .slice (some ad) m c]).run P w = .ok (.slice ao (n + m) cap) w' ∧ w'.ownsRow base e size (.slice ao (n + m) cap) (n + m) (xs ++ news) ∧ w.grownBy w' v.ownBlock := by
    intro ad c hc
    obtain ⟨v', w', hrun, h2, h3, _, _⟩ := run_append_own_at (P := P) w base t ty e i z size bytes ht hi hz hsize hby hzs hsz v n xs hown ad m c news hl hc h1 h63 hbytes hbase
    obtain ⟨a, cc, rfl, _⟩ := own_len h2
    exact ⟨a, cc, w', hrun, h2, h3⟩
  obtain ⟨A, c, rfl, hc, hm, ⟨rfl, rfl⟩ | ⟨b, o, cs, fr, rfl, hb, hx⟩⟩ := hr
  · cases A with
    | some ad => exact fin ad c (fun j u h => by simp at h)
    | none =>
      obtain ⟨a, cc, rfl, hle⟩ := own_len hown
      refine ⟨a, cc, w, ?_, by simpa using hown, World.grownBy.refl w _⟩
      rcases hown.2 with ⟨h2, rfl⟩ | ⟨g, cap, cur, h2, _, _, hnc, _⟩
      · cases h2
        simp [Builtin.append_, run_underlying ht, sizeOf, typeInfo, hi, Builtin.lenOf, Builtin.firstCells]
      · cases h2
        simp [Builtin.append_, run_underlying ht, sizeOf, typeInfo, hi, Builtin.lenOf, Builtin.firstCells, hnc, storeCells]
  · refine fin _ c (fun j u h => ?_)
    rw [add_off, cell_of_row w b (o + j) cs e fr hb]
    exact hx j u h
theorem wp_append_rd {P : Program} (w : World) {o : Oper} {a : Go.Act} {K : Go.Act → World → Prop} {Q : Exit → Go.Act → World → Prop} (s x : Operand) (t : TypeId)
    (ho : o.op = .call { callee := .builtin .append, args := #[s, x], argTypes := #[t, t] })
    (base : Nat) (e : TypeId) (i : TypeInfo) (z : Value) (size bytes : Nat) (ht : P.underlying t = some (.slice e)) (hi : P.info? e = some i) (hz : i.zero = some z)
    (hsize : i.size = size) (hby : i.bytes = bytes) (hzs : z.cells.size = size) (hsz : 0 < size)
    (v : Value) (n : Nat) (xs : List Value) (hs : a.eval s = v) (hown : w.ownsRow base e size v n xs)
    (xv : Value) (m : Nat) (news : List Value) (hx : a.eval x = xv) (hr : Rd e w xv m news) (hl : news.length = m * size) (h1 : ∀ u ∈ news, u.oneCell' = true)
    (h63 : n + m ≤ maxLen) (hbytes : (n + m) * bytes ≤ 140737488355328) (hbase : base ≤ w.heap.size)
    (h : ∀ ao cap w', w'.ownsRow base e size (.slice ao (n + m) cap) (n + m) (xs ++ news) → w.grownBy w' v.ownBlock → K (a.put o.dst (.slice ao (n + m) cap)) w') : o.wp P a w K Q := by
  obtain ⟨ao, cap, w', hrun, h2, h3⟩ := run_append_rd (P := P) w base t o.type e i z size bytes ht hi hz hsize hby hzs hsz v n xs hown xv m news hr hl h1 h63 hbytes hbase
  unfold Oper.wp execOp
  simp only [ho, resolve, invoke, builtin, Sem.run_bind, Sem.run_pure, Result.andThen_ok, List.map_toArray, List.map_cons, List.map_nil, hs, hx, hrun]
  exact h ao cap w' h2 h3
theorem wpList_append_rd {P : Program} (w : World) {ops : Array Oper} {rest : List Oper} {o : Oper} {a : Go.Act} {Q : Exit → Go.Act → World → Prop} (hgd : o.guard = none) (s x : Operand) (t : TypeId)
    (ho : o.op = .call { callee := .builtin .append, args := #[s, x], argTypes := #[t, t] })
    (base : Nat) (e : TypeId) (i : TypeInfo) (z : Value) (size bytes : Nat) (ht : P.underlying t = some (.slice e)) (hi : P.info? e = some i) (hz : i.zero = some z)
    (hsize : i.size = size) (hby : i.bytes = bytes) (hzs : z.cells.size = size) (hsz : 0 < size)
    (v : Value) (n : Nat) (xs : List Value) (hs : a.eval s = v) (hown : w.ownsRow base e size v n xs)
    (xv : Value) (m : Nat) (news : List Value) (hx : a.eval x = xv) (hr : Rd e w xv m news) (hl : news.length = m * size) (h1 : ∀ u ∈ news, u.oneCell' = true)
    (h63 : n + m ≤ maxLen) (hbytes : (n + m) * bytes ≤ 140737488355328) (hbase : base ≤ w.heap.size)
    (h : ∀ ao cap w', w'.ownsRow base e size (.slice ao (n + m) cap) (n + m) (xs ++ news) → w.grownBy w' v.ownBlock → wpList P ops Q rest (a.put o.dst (.slice ao (n + m) cap)) w') : wpList P ops Q (o :: rest) a w :=
  wpList_plain hgd fun _ hK => wp_append_rd w s x t ho base e i z size bytes ht hi hz hsize hby hzs hsz v n xs hs hown xv m news hx hr hl h1 h63 hbytes hbase fun ao cap w' h2 h3 => hK _ _ (h ao cap w' h2 h3)
theorem own_new (w : World) (base : Nat) (e : TypeId) (size : Nat) (cs : List Value) (hl : cs.length = size) (hb : base ≤ w.heap.size) : (w.alloc (.cells cs.toArray e)).ownsRow base e size (.slice (some ⟨w.heap.size, 0, none⟩) 1 1) 1 cs := by
  refine ⟨by omega, .inr ⟨w.heap.size, 1, cs.toArray, rfl, hb, heap_alloc_new w _, Nat.le_refl _, by unfold maxLen; omega, by simp [hl], ?_⟩⟩
  simp
  rw [← hl, List.take_length]
theorem below_own {B : Nat} {a w w' : World} {base e size n : Nat} {v : Value} {xs : List Value} (h : Below B a w) (ho : w.ownsRow base e size v n xs) (k : w.grownBy w' v.ownBlock) (hb : B ≤ base) (hB : B ≤ w.heap.size) : Below B a w' :=
  ⟨k.os.trans h.os, k.tape.trans h.tape, k.output.trans h.output, Nat.le_trans h.size k.size, fun i hi => (k.block i (Nat.lt_of_lt_of_le hi hB) (by
    intro e
    have := own_ge ho e.symm
    omega)).trans (h.block i hi)⟩
section
variable {α β : Type}
variable {f : α → β → List Value} {N : World → β → α → Prop} {B : Nat} {w w' : World} {v : Value} {l : List α}
end
section
variable {α β H : Type} [Inhabited α] [Inhabited β] {enc : TypeId × Value → H} {P : Program} {w : World} {base : Nat} {spare : Nat → Bool} {held : Bool}
end
end Go.Proofs.Ytmjkcanjfjfkfaa
namespace Go.Proofs.Ytmjkcanjfjfkfaa
open Go.RowKit
set_option linter.unusedSimpArgs false
set_option linter.unusedVariables false
def nmA (n : Nm) : Array Value := #[.int .i64 n.kind, .string (bs n.owner), .int .i64 n.num, .int .i64 n.idx, .string (bs n.text)]
def nmV (n : Nm) : Value := .agg (nmA n)
def nmC (n : Nm) : List Value := [.int .i64 n.kind, .string (bs n.owner), .int .i64 n.num, .int .i64 n.idx, .string (bs n.text)]
def chC (c : Ch) : List Value := [.int .i64 c.name.kind, .string (bs c.name.owner), .int .i64 c.name.num, .int .i64 c.name.idx, .string (bs c.name.text), .string (bs c.value), .bool c.absent]
def chV (c : Ch) : Value := .agg #[.int .i64 c.name.kind, .string (bs c.name.owner), .int .i64 c.name.num, .int .i64 c.name.idx, .string (bs c.name.text), .string (bs c.value), .bool c.absent]
def kyC (k : Ky) : List Value := [.int .i64 k.tick, .int .i64 k.cls, .int .i64 k.num, .string (bs k.lin)]
def kyV (k : Ky) : Value := .agg #[.int .i64 k.tick, .int .i64 k.cls, .int .i64 k.num, .string (bs k.lin)]
end Go.Proofs.Ytmjkcanjfjfkfaa
namespace Go.Proofs.Ytmjkcanjfjfkfaa
open Go.RowKit
set_option linter.unusedSimpArgs false
set_option linter.unusedVariables false
end Go.Proofs.Ytmjkcanjfjfkfaa
namespace Go.Proofs.Ytmjkcanjfjfkfaa
open Go.RowKit
set_option linter.unusedSimpArgs false
set_option linter.unusedVariables false
theorem nan_i (n : Int) (w : World) : Calls Try.prog 69 #[.int .i64 n] w fun e w' => e = .returned (.bool false) ∧ w = w' := by
  go_enter Try.func69, Try.ntmps69
  go_wp2
  go_ret
  exact ⟨rfl, rfl⟩
theorem nan_s (s : ByteArray) (w : World) : Calls Try.prog 73 #[.string s] w fun e w' => e = .returned (.bool false) ∧ w = w' := by
  go_enter Try.func73, Try.ntmps73
  go_wp2
  go_ret
  exact ⟨rfl, rfl⟩
theorem blt_eq : ∀ a b : Bs, Op.bytesLess a b = blt a b
  | a, [] => by cases a <;> rfl
  | [], _ :: _ => rfl
  | x :: a, y :: b => by simp only [Op.bytesLess, blt, blt_eq a b]
theorem cmp_i (a b : Int) (w : World) : Calls Try.prog 57 #[.int .i64 a, .int .i64 b] w fun e w' => e = .returned (.int .i64 (cmpI a b)) ∧ w = w' := by
  by_cases h1 : a < b
  · rw [show cmpI a b = -1 by unfold cmpI; rw [if_pos h1]]
    go_enter Try.func57, Try.ntmps57
    go_wp2_with (go_at_call 69; refine (nan_i _ _).mono ?_; rintro e w' ⟨rfl, rfl⟩)
    go_ret
    exact ⟨rfl, rfl⟩
  · by_cases h2 : b < a
    · rw [show cmpI a b = 1 by unfold cmpI; rw [if_neg h1, if_pos h2]]
      go_enter Try.func57, Try.ntmps57
      go_wp2_with (go_at_call 69; refine (nan_i _ _).mono ?_; rintro e w' ⟨rfl, rfl⟩)
      go_ret
      exact ⟨rfl, rfl⟩
    · rw [show cmpI a b = 0 by unfold cmpI; rw [if_neg h1, if_neg h2]]
      go_enter Try.func57, Try.ntmps57
      go_wp2_with (go_at_call 69; refine (nan_i _ _).mono ?_; rintro e w' ⟨rfl, rfl⟩)
      go_ret
      exact ⟨rfl, rfl⟩
theorem bs_toList (a : Bs) : (bs a).toList = a := by rw [Lib.toList_data, bs_list]
theorem less_bs (a b : Bs) : Op.bytesLess (bs a).toList (bs b).toList = blt a b := by rw [bs_toList, bs_toList, blt_eq]
theorem eq_bs (a b : Bs) : ((bs a).toList == (bs b).toList) = (a == b) := by rw [bs_toList, bs_toList]
theorem cmp_s (a b : Bs) (w : World) : Calls Try.prog 60 #[.string (bs a), .string (bs b)] w fun e w' => e = .returned (.int .i64 (cmpS a b)) ∧ w = w' := by
  have l1 := less_bs a b
  have l2 := eq_bs a b
  have l3 : blt a b = false → (a == b) = !blt b a := fun h => by
    cases h2 : blt b a with
    | true => simp; rintro rfl; rw [blt_irrefl] at h2; cases h2
    | false => simp [blt_tri h h2]
  unfold cmpS
  generalize bs a = x at *
  generalize bs b = y at *
  cases h1 : blt a b with
  | true =>
    rw [h1] at l1
    clear l2 l3 h1
    simp only [if_true]
    go_enter Try.func60, Try.ntmps60
    go_wp2_with (go_at_call 73; refine (nan_s _ _).mono ?_; rintro e w' ⟨rfl, rfl⟩)
    go_ret
    exact ⟨rfl, rfl⟩
  | false =>
    rw [h1] at l1
    rw [l3 h1] at l2
    clear h1 l3
    cases h2 : blt b a with
    | true =>
      rw [h2] at l2
      clear h2
      simp only [Bool.not_true, Bool.not_false] at l2
      simp only [Bool.false_eq_true, if_true, if_false]
      go_enter Try.func60, Try.ntmps60
      go_wp2_with (go_at_call 73; refine (nan_s _ _).mono ?_; rintro e w' ⟨rfl, rfl⟩)
      go_ret
      exact ⟨rfl, rfl⟩
    | false =>
      rw [h2] at l2
      clear h2
      simp only [Bool.not_true, Bool.not_false] at l2
      simp only [Bool.false_eq_true, if_true, if_false]
      go_enter Try.func60, Try.ntmps60
      go_wp2_with (go_at_call 73; refine (nan_s _ _).mono ?_; rintro e w' ⟨rfl, rfl⟩)
      go_ret
      exact ⟨rfl, rfl⟩
theorem or_3 (a b c : Int) (w : World) (A : Nat) (h0 : w.cell? ⟨A, 0, none⟩ = some (.int .i64 a)) (h1 : w.cell? ⟨A, 1, none⟩ = some (.int .i64 b)) (h2 : w.cell? ⟨A, 2, none⟩ = some (.int .i64 c)) : Calls Try.prog 59 #[.slice (some ⟨A, 0, none⟩) 3 3] w fun e w' => e = .returned (.int .i64 (or3 a b c)) ∧ w = w' := by
  have hc : Hid (or3 a b c = if a ≠ 0 then a else if b ≠ 0 then b else c) := Lib.hid rfl
  go_enter Try.func59, Try.ntmps59
  go_wp2
  go_loop [8] (fun i => ∃ k : Nat, k ≤ 3 ∧ i = .int .i64 k ∧ (0 < k → a = 0) ∧ (1 < k → b = 0) ∧ (2 < k → c = 0)) (fun i => 3 - (intOf i).toNat)
  case atStart => exact ⟨0, by omega, rfl, by omega, by omega, by omega⟩
  case round =>
    obtain ⟨k, hk, rfl, p0, p1, p2⟩ := hrel
    have hcases : k = 0 ∨ k = 1 ∨ k = 2 ∨ k = 3 := by omega
    rcases hcases with rfl | rfl | rfl | rfl
    · clear p0 p1 p2 hk
      by_cases ha : a = 0
      · have e1 : (a != 0) = false := by simp [ha]
        go_wp2
        go_round
        case rel => exact ⟨1, by omega, rfl, fun _ => ha, by omega, by omega⟩
        case measure => simp [intOf]
      · have e1 : (a != 0) = true := by simp [ha]
        go_wp2
        go_ret
        exact ⟨by rw [hc.out, if_pos ha]; rfl, rfl⟩
    · have ha := p0 (by omega)
      clear p0 p1 p2 hk
      by_cases hb : b = 0
      · have e1 : (b != 0) = false := by simp [hb]
        have HA := Lib.hid ha
        clear ha
        go_wp2
        go_round
        case rel => exact ⟨2, by omega, rfl, fun _ => HA.out, fun _ => hb, by omega⟩
        case measure => simp [intOf]
      · have e1 : (b != 0) = true := by simp [hb]
        have HA := Lib.hid ha
        clear ha
        go_wp2
        go_ret
        exact ⟨by rw [hc.out, if_neg (by simp [HA.out]), if_pos hb]; rfl, rfl⟩
    · have HA := Lib.hid (p0 (by omega))
      have HB := Lib.hid (p1 (by omega))
      clear p0 p1 p2 hk
      by_cases hcc : c = 0
      · have e1 : (c != 0) = false := by simp [hcc]
        go_wp2
        go_round
        case rel => exact ⟨3, by omega, rfl, fun _ => HA.out, fun _ => HB.out, fun _ => hcc⟩
        case measure => simp [intOf]
      · have e1 : (c != 0) = true := by simp [hcc]
        go_wp2
        go_ret
        exact ⟨by rw [hc.out, if_neg (by simp [HA.out]), if_neg (by simp [HB.out])]; rfl, rfl⟩
    · have HA := Lib.hid (p0 (by omega))
      have HB := Lib.hid (p1 (by omega))
      have HC := Lib.hid (p2 (by omega))
      clear p0 p1 p2 hk
      go_wp2
      go_ret
      exact ⟨by rw [hc.out, if_neg (by simp [HA.out]), if_neg (by simp [HB.out]), HC.out]; rfl, rfl⟩
end Go.Proofs.Ytmjkcanjfjfkfaa
namespace Go.Proofs.Ytmjkcanjfjfkfaa
open Go.RowKit
set_option linter.unusedSimpArgs false
set_option linter.unusedVariables false
theorem lin_same (s : ByteArray) (w : World) : Calls Try.prog 58 #[.string s, .string s] w fun e w' => e = .returned (.int .i64 0) ∧ w = w' := by
  have e0 : (s.toList == s.toList) = true := by simp
  go_enter Try.func58, Try.ntmps58
  go_wp2
  go_ret
  exact ⟨rfl, rfl⟩
theorem still_of {P : Program} {f : FuncId} {args : Array Value} {w : World} {v : Value} (h : Calls P f args w fun e w' => e = .returned v ∧ w = w') : Calls P f args w fun e w' => e = .returned v ∧ w' = w := h.mono fun _ _ h => ⟨h.1, h.2.symm⟩
end Go.Proofs.Ytmjkcanjfjfkfaa
namespace Go.Proofs.Ytmjkcanjfjfkfaa
open Go.RowKit
set_option linter.unusedSimpArgs false
set_option linter.unusedVariables false
theorem bs_tl (a : Bs) : (bs a).toList = a := bs_toList a
theorem beq_dec {α : Type} [BEq α] [LawfulBEq α] (a b : α) [Decidable (a = b)] : (a == b) = decide (a = b) := by by_cases h : a = b <;> simp [h]
theorem bool_dec (a b : Prop) [Decidable a] [Decidable b] : decide (a ∧ b) = (decide a && decide b) := by by_cases a <;> by_cases b <;> simp [*]
set_option maxRecDepth 100000 in
theorem eqNm (a0 b0 : Int) (a1 b1 : ByteArray) (a2 b2 : Int) (a3 b3 : Int) (a4 b4 : ByteArray) (w : World) : (Op.equalIn 10000 41 (.agg #[.int .i64 a0, .string a1, .int .i64 a2, .int .i64 a3, .string a4]) (.agg #[.int .i64 b0, .string b1, .int .i64 b2, .int .i64 b3, .string b4])).run Try.prog w = .ok (a0 == b0 && a1.toList == b1.toList && a2 == b2 && a3 == b3 && a4.toList == b4.toList) w := by
  have u1 := Try.underlying3
  have u2 := Try.underlying9
  have u3 := Try.underlying4
  have u4 := Try.underlying39
  have hS : Try.prog.underlying 41 = some (.struct (Try.prog.fieldsOf 41)) := by kernel_rfl
  have hp : Try.prog.stoodInHeld 41 = false := by kernel_rfl
  rw [show (10000 : Nat) = 9999 + 1 from rfl, run_equalIn_agg w 9999 41 _ _ hS hp]
  simp only [Program.fieldsOf, Try.underlying41]
  go_simp
  by_cases h0 : a0 = b0 <;> by_cases h1 : a1.toList = b1.toList <;> by_cases h2 : a2 = b2 <;> by_cases h3 : a3 = b3 <;> by_cases h4 : a4.toList = b4.toList <;> simp [h0, h1, h2, h3, h4]
theorem guardNm : Try.prog.eqGuardType Try.prog.depth 41 = false := by kernel_rfl
theorem eqlNm (p q : Nm) (b : Bool) (hb : decide (p = q) = b) (w : World) : (binOp .eql 41 (nmV p) (nmV q)).run Try.prog w = .ok (.bool b) w := by
  subst hb
  obtain ⟨k, o, n, i, t⟩ := p; obtain ⟨k2, o2, n2, i2, t2⟩ := q; unfold nmV nmA
  rw [run_eql_struct, eqNm]
  simp [bs_tl, bool_dec, beq_dec, Bool.and_assoc]
theorem neqNm (p q : Nm) (b : Bool) (hb : decide (p = q) = b) (w : World) : (binOp .neq 41 (nmV p) (nmV q)).run Try.prog w = .ok (.bool (!b)) w := by
  subst hb
  obtain ⟨k, o, n, i, t⟩ := p; obtain ⟨k2, o2, n2, i2, t2⟩ := q; unfold nmV nmA
  rw [run_neq_struct, eqNm]
  simp [bs_tl, bool_dec, beq_dec, Bool.and_assoc]
set_option maxRecDepth 100000 in
theorem eqNm9 (a0 b0 : Int) (a1 b1 : ByteArray) (a2 b2 : Int) (a3 b3 : Int) (a4 b4 : ByteArray) (w : World) : (Op.equalIn 9999 41 (.agg #[.int .i64 a0, .string a1, .int .i64 a2, .int .i64 a3, .string a4]) (.agg #[.int .i64 b0, .string b1, .int .i64 b2, .int .i64 b3, .string b4])).run Try.prog w = .ok (a0 == b0 && a1.toList == b1.toList && a2 == b2 && a3 == b3 && a4.toList == b4.toList) w := by
  have u1 := Try.underlying3
  have u2 := Try.underlying9
  have u3 := Try.underlying4
  have u4 := Try.underlying39
  have hS : Try.prog.underlying 41 = some (.struct (Try.prog.fieldsOf 41)) := by kernel_rfl
  have hp : Try.prog.stoodInHeld 41 = false := by kernel_rfl
  rw [show (9999 : Nat) = 9998 + 1 from rfl, run_equalIn_agg w 9998 41 _ _ hS hp]
  simp only [Program.fieldsOf, Try.underlying41]
  go_simp
  by_cases h0 : a0 = b0 <;> by_cases h1 : a1.toList = b1.toList <;> by_cases h2 : a2 = b2 <;> by_cases h3 : a3 = b3 <;> by_cases h4 : a4.toList = b4.toList <;> simp [h0, h1, h2, h3, h4]
set_option maxRecDepth 100000 in
theorem eqKy (a0 b0 : Int) (a1 b1 : Int) (a2 b2 : Int) (a3 b3 : ByteArray) (w : World) : (Op.equalIn 10000 56 (.agg #[.int .i64 a0, .int .i64 a1, .int .i64 a2, .string a3]) (.agg #[.int .i64 b0, .int .i64 b1, .int .i64 b2, .string b3])).run Try.prog w = .ok (a0 == b0 && a1 == b1 && a2 == b2 && a3.toList == b3.toList) w := by
  have u1 := Try.underlying3
  have u2 := Try.underlying9
  have u3 := Try.underlying4
  have u4 := Try.underlying39
  have hS : Try.prog.underlying 56 = some (.struct (Try.prog.fieldsOf 56)) := by kernel_rfl
  have hp : Try.prog.stoodInHeld 56 = false := by kernel_rfl
  rw [show (10000 : Nat) = 9999 + 1 from rfl, run_equalIn_agg w 9999 56 _ _ hS hp]
  simp only [Program.fieldsOf, Try.underlying56]
  go_simp
  by_cases h0 : a0 = b0 <;> by_cases h1 : a1 = b1 <;> by_cases h2 : a2 = b2 <;> by_cases h3 : a3.toList = b3.toList <;> simp [h0, h1, h2, h3]
theorem eqlKy (p q : Ky) (b : Bool) (hb : decide (p = q) = b) (w : World) : (binOp .eql 56 (kyV p) (kyV q)).run Try.prog w = .ok (.bool b) w := by
  subst hb
  obtain ⟨k, o, n, i⟩ := p; obtain ⟨k2, o2, n2, i2⟩ := q; unfold kyV
  rw [run_eql_struct, eqKy]
  simp [bs_tl, bool_dec, beq_dec, Bool.and_assoc]
theorem neqKy (p q : Ky) (b : Bool) (hb : decide (p = q) = b) (w : World) : (binOp .neq 56 (kyV p) (kyV q)).run Try.prog w = .ok (.bool (!b)) w := by
  subst hb
  obtain ⟨k, o, n, i⟩ := p; obtain ⟨k2, o2, n2, i2⟩ := q; unfold kyV
  rw [run_neq_struct, eqKy]
  simp [bs_tl, bool_dec, beq_dec, Bool.and_assoc]
set_option maxRecDepth 100000 in
theorem eqCh (a0 b0 : Int) (a1 b1 : ByteArray) (a2 b2 : Int) (a3 b3 : Int) (a4 b4 : ByteArray) (a5 b5 : ByteArray) (a6 b6 : Bool) (w : World) : (Op.equalIn 10000 87 (.agg #[.int .i64 a0, .string a1, .int .i64 a2, .int .i64 a3, .string a4, .string a5, .bool a6]) (.agg #[.int .i64 b0, .string b1, .int .i64 b2, .int .i64 b3, .string b4, .string b5, .bool b6])).run Try.prog w = .ok (a0 == b0 && a1.toList == b1.toList && a2 == b2 && a3 == b3 && a4.toList == b4.toList && a5.toList == b5.toList && a6 == b6) w := by
  have u1 := Try.underlying3
  have u2 := Try.underlying9
  have u3 := Try.underlying4
  have u4 := Try.underlying39
  have hS : Try.prog.underlying 87 = some (.struct (Try.prog.fieldsOf 87)) := by kernel_rfl
  have hp : Try.prog.stoodInHeld 87 = false := by kernel_rfl
  have hN := eqNm9 a0 b0 a1 b1 a2 b2 a3 b3 a4 b4 w
  rw [show (10000 : Nat) = 9999 + 1 from rfl, run_equalIn_agg w 9999 87 _ _ hS hp]
  simp only [Program.fieldsOf, Try.underlying87]
  go_simp
  by_cases h0 : a0 = b0 <;> by_cases h1 : a1.toList = b1.toList <;> by_cases h2 : a2 = b2 <;> by_cases h3 : a3 = b3 <;> by_cases h4 : a4.toList = b4.toList <;> by_cases h5 : a5.toList = b5.toList <;> by_cases h6 : a6 = b6 <;> simp [h0, h1, h2, h3, h4, h5, h6]
theorem eqlCh (p q : Ch) (b : Bool) (hb : decide (p = q) = b) (w : World) : (binOp .eql 87 (chV p) (chV q)).run Try.prog w = .ok (.bool b) w := by
  subst hb
  obtain ⟨⟨k, o, n, i, t⟩, v, a⟩ := p; obtain ⟨⟨k2, o2, n2, i2, t2⟩, v2, a2⟩ := q; unfold chV
  rw [run_eql_struct, eqCh]
  simp [bs_tl, bool_dec, beq_dec, Bool.and_assoc]
theorem neqCh (p q : Ch) (b : Bool) (hb : decide (p = q) = b) (w : World) : (binOp .neq 87 (chV p) (chV q)).run Try.prog w = .ok (.bool (!b)) w := by
  subst hb
  obtain ⟨⟨k, o, n, i, t⟩, v, a⟩ := p; obtain ⟨⟨k2, o2, n2, i2, t2⟩, v2, a2⟩ := q; unfold chV
  rw [run_neq_struct, eqCh]
  simp [bs_tl, bool_dec, beq_dec, Bool.and_assoc]
end Go.Proofs.Ytmjkcanjfjfkfaa
namespace Go.Proofs.Ytmjkcanjfjfkfaa
open Go.RowKit
set_option linter.unusedSimpArgs false
set_option linter.unusedVariables false
end Go.Proofs.Ytmjkcanjfjfkfaa
namespace Go.Proofs.Ytmjkcanjfjfkfaa
open Go.RowKit
set_option linter.unusedSimpArgs false
set_option linter.unusedVariables false
end Go.Proofs.Ytmjkcanjfjfkfaa
namespace Go.Proofs.Ytmjkcanjfjfkfaa
open Go.RowKit
set_option linter.unusedSimpArgs false
set_option linter.unusedVariables false
section
variable {α : Type} {f : α → List Value} {s : Nat}
theorem fm_len (hf : ∀ x, (f x).length = s) : ∀ l : List α, (l.flatMap f).length = l.length * s
  | [] => by simp
  | a :: l => by rw [List.flatMap_cons, List.length_append, hf, fm_len hf l, List.length_cons, Nat.add_mul]; omega
theorem fm_get (hf : ∀ x, (f x).length = s) : ∀ (l : List α) (k : Nat) (hk : k < l.length) (j : Nat), j < s → (l.flatMap f)[k * s + j]? = (f l[k])[j]?
  | [], k, hk, _, _ => by simp at hk
  | a :: l, 0, hk, j, hj => by
    rw [List.flatMap_cons, Nat.zero_mul, Nat.zero_add, List.getElem?_append_left (by rw [hf]; exact hj)]
    rfl
  | a :: l, k + 1, hk, j, hj => by
    have := fm_get hf l k (by simpa using hk) j hj
    rw [List.flatMap_cons, List.getElem?_append_right (by rw [hf, Nat.add_mul]; omega), hf, show (k + 1) * s + j - s = k * s + j by rw [Nat.add_mul]; omega, this]
    simp
def RdP (e : TypeId) (f : α → List Value) (w : World) (v : Value) (l : List α) : Prop := Rd e w v l.length (l.flatMap f)
variable {e : TypeId} {w w' : World} {v : Value} {l : List α}
theorem RdP.keep {L : List TypeId} (h : RdP e f w v l) (k : Kept L w w') (he : L.contains e = false) : RdP e f w' v l := Rd.keep h k he
theorem RdP.next (h : RdP e f w v l) (hb : Below w.heap.size w w') : RdP e f w' v l := Rd.next h hb
theorem RdP.drew (h : RdP e f w v l) : RdP e f w.drew v l := h
theorem RdP.drewN (h : RdP e f w v l) (n : Nat) : RdP e f (w.drewN n) v l := h
theorem RdP.form (h : RdP e f w v l) : ∃ A c, v = .slice A l.length c ∧ l.length ≤ c := Rd.form h
theorem RdP.nil : RdP e f w (.slice none 0 0) [] := ⟨none, 0, rfl, Nat.le_refl _, Nat.zero_le _, .inl ⟨rfl, rfl⟩⟩
theorem RdP.at_ {A : Option Addr} {n c : Nat} (h : RdP e f w (.slice A n c) l) (hf : ∀ x, (f x).length = s) {k : Nat} (hk : k < l.length) : ∃ b o, A = some ⟨b, o, none⟩ ∧ b < w.heap.size ∧ ∀ j y, (f l[k])[j]? = some y → w.cell? ⟨b, o + (k * s + j), none⟩ = some y := by
  obtain ⟨b, o, c', hv, hc, _, hb, hcell⟩ := Rd.at_ h (by omega)
  injection hv with hA _ _
  refine ⟨b, o, hA, hb, fun j y hy => ?_⟩
  have hj : j < s := by
    rcases Nat.lt_or_ge j s with h | h
    · exact h
    · rw [List.getElem?_eq_none (by rw [hf]; exact h)] at hy; cases hy
  exact hcell _ _ ((fm_get hf l k hk j hj).trans hy)
def OwnP (e : TypeId) (s : Nat) (f : α → List Value) (w : World) (base : Nat) (v : Value) (l : List α) : Prop := w.ownsRow base e s v l.length (l.flatMap f)
variable {base : Nat}
theorem OwnP.next (h : OwnP e s f w base v l) (hb : Below w.heap.size w w') : OwnP e s f w' base v l := own_next h hb
theorem OwnP.nil : OwnP e s f w base (.slice none 0 0) [] := World.ownsRow_nil _ _ _ _
theorem OwnP.snoc {x : α} (h : w.ownsRow base e s v (l.length + 1) (l.flatMap f ++ f x)) : OwnP e s f w base v (l ++ [x]) := by
  unfold OwnP
  rw [List.length_append, List.flatMap_append]
  simpa using h
end
theorem chC_len (c : Ch) : (chC c).length = 7 := rfl
theorem nmC_len (c : Nm) : (nmC c).length = 5 := rfl
abbrev RdCh (w : World) (v : Value) (l : List Ch) : Prop := RdP 87 chC w v l
abbrev RdNm (w : World) (v : Value) (l : List Nm) : Prop := RdP 41 nmC w v l
theorem RdCh.piece {w : World} {A : Option Addr} {n c : Nat} {l : List Ch} (h : RdCh w (.slice A n c) l) {k : Nat} (hk : k < l.length) : ∃ b o, A = some ⟨b, o, none⟩ ∧ b < w.heap.size ∧
    w.cell? ⟨b, o + k * 7, none⟩ = some (.int .i64 l[k].name.kind) ∧ w.cell? ⟨b, o + k * 7 + 1, none⟩ = some (.string (bs l[k].name.owner)) ∧ w.cell? ⟨b, o + k * 7 + 2, none⟩ = some (.int .i64 l[k].name.num) ∧ w.cell? ⟨b, o + k * 7 + 3, none⟩ = some (.int .i64 l[k].name.idx) ∧ w.cell? ⟨b, o + k * 7 + 4, none⟩ = some (.string (bs l[k].name.text)) ∧ w.cell? ⟨b, o + k * 7 + 5, none⟩ = some (.string (bs l[k].value)) ∧ w.cell? ⟨b, o + k * 7 + 6, none⟩ = some (.bool l[k].absent) := by
  obtain ⟨b, o, e, hb, hc⟩ := RdP.at_ h chC_len hk
  exact ⟨b, o, e, hb, hc 0 _ rfl, hc 1 _ rfl, hc 2 _ rfl, hc 3 _ rfl, hc 4 _ rfl, hc 5 _ rfl, hc 6 _ rfl⟩
theorem RdNm.piece {w : World} {A : Option Addr} {n c : Nat} {l : List Nm} (h : RdNm w (.slice A n c) l) {k : Nat} (hk : k < l.length) : ∃ b o, A = some ⟨b, o, none⟩ ∧ b < w.heap.size ∧
    w.cell? ⟨b, o + k * 5, none⟩ = some (.int .i64 l[k].kind) ∧ w.cell? ⟨b, o + k * 5 + 1, none⟩ = some (.string (bs l[k].owner)) ∧ w.cell? ⟨b, o + k * 5 + 2, none⟩ = some (.int .i64 l[k].num) ∧ w.cell? ⟨b, o + k * 5 + 3, none⟩ = some (.int .i64 l[k].idx) ∧ w.cell? ⟨b, o + k * 5 + 4, none⟩ = some (.string (bs l[k].text)) := by
  obtain ⟨b, o, e, hb, hc⟩ := RdP.at_ h nmC_len hk
  exact ⟨b, o, e, hb, hc 0 _ rfl, hc 1 _ rfl, hc 2 _ rfl, hc 3 _ rfl, hc 4 _ rfl⟩
end Go.Proofs.Ytmjkcanjfjfkfaa
namespace Go.Proofs.Ytmjkcanjfjfkfaa
open Go.RowKit
set_option linter.unusedSimpArgs false
set_option linter.unusedVariables false
end Go.Proofs.Ytmjkcanjfjfkfaa
namespace Go.Proofs.Ytmjkcanjfjfkfaa
open Go.RowKit
set_option linter.unusedSimpArgs false
set_option linter.unusedVariables false
attribute [local go_sem ↓] Go.wp_at_zero Go.wp_at_succ
end Go.Proofs.Ytmjkcanjfjfkfaa
namespace Go.Proofs.Ytmjkcanjfjfkfaa
open Go.RowKit
set_option linter.unusedSimpArgs false
set_option linter.unusedVariables false
end Go.Proofs.Ytmjkcanjfjfkfaa
namespace Go.Proofs.Ytmjkcanjfjfkfaa
open Go.RowKit
set_option linter.unusedSimpArgs false
set_option linter.unusedVariables false
attribute [local go_sem ↓] Go.wp_at_zero Go.wp_at_succ
end Go.Proofs.Ytmjkcanjfjfkfaa
namespace Go.Proofs.Ytmjkcanjfjfkfaa
set_option linter.unusedVariables false
def AcR (a : Ac) : Prop := KyR a.key ∧ (∀ c ∈ a.reads, ChR c) ∧ (∀ c ∈ a.writes, ChR c) ∧ a.reads.length ≤ 10 ∧ a.writes.length ≤ 10
end Go.Proofs.Ytmjkcanjfjfkfaa
namespace Go.Proofs.Ytmjkcanjfjfkfaa
set_option linter.unusedVariables false
theorem filt_len (l : List Ch) (n : Nm) : (l.filter fun c => c.name == n).length ≤ l.length := List.length_filter_le _ _
theorem vers_len (n : Nm) : ∀ (i : Nat) (l : List Ac), (∀ a ∈ l, a.writes.length ≤ 10) → (vers n i l).length ≤ l.length * 10
  | i, [], _ => by simp [vers]
  | i, a :: l, h => by
    have h1 := vers_len n (i + 1) l fun b hb => h b (by simp [hb])
    have h2 := h a (by simp)
    have h3 := filt_len a.writes n
    simp only [vers, List.length_append, List.length_map, List.length_cons]
    omega
end Go.Proofs.Ytmjkcanjfjfkfaa
namespace Go.Proofs.Ytmjkcanjfjfkfaa
set_option linter.unusedVariables false
end Go.Proofs.Ytmjkcanjfjfkfaa
namespace Go.Proofs.Ytmjkcanjfjfkfaa
set_option linter.unusedVariables false
end Go.Proofs.Ytmjkcanjfjfkfaa
namespace Go.Proofs.Ytmjkcanjfjfkfaa
set_option linter.unusedVariables false
section
variable {α : Type}
end
end Go.Proofs.Ytmjkcanjfjfkfaa
namespace Go.Proofs.Ytmjkcanjfjfkfaa
set_option linter.unusedVariables false
end Go.Proofs.Ytmjkcanjfjfkfaa
namespace Go.Proofs.Ytmjkcanjfjfkfaa
set_option linter.unusedVariables false
end Go.Proofs.Ytmjkcanjfjfkfaa
namespace Go.Proofs.Ytmjkcanjfjfkfaa
set_option linter.unusedVariables false
section
variable {α β γ : Type} [DecidableEq γ]
end
end Go.Proofs.Ytmjkcanjfjfkfaa
namespace Go.Proofs.Ytmjkcanjfjfkfaa
set_option linter.unusedVariables false
end Go.Proofs.Ytmjkcanjfjfkfaa
