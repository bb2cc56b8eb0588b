/- Walks and plain facts of the earlier laws, packed: what the new texts need besides. -/
import Derived.Test.YtmjkcanjfjfkfaaB11
-- GM
namespace Go.Proofs.Ytmjkcanjfjfkfaa
section
variable {P : Program} {ops : Array Oper} {Q : Exit → Go.Act → World → Prop} {md : Region.Mode} {st : Nat}
end
end Go.Proofs.Ytmjkcanjfjfkfaa
namespace Go.Proofs.Ytmjkcanjfjfkfaa
set_option linter.unusedVariables false
theorem wpAnyH_more {P : Program} {md : Region.Mode} {ops : Array Oper} {Q : Exit → Go.Act → World → Prop} {S S' : World → Prop} (hi : ∀ w, S' w → S w) : ∀ {fuel : Nat} {listed : Array Bool} {a : Go.Act} {w : World}, wpAnyH P md ops Q S' fuel listed a w → wpAnyH P md ops Q S fuel listed a w
  | 0, _, _, _, h => h
  | fuel + 1, _, _, _, h => ⟨h.1, fun i hr => wpOp_mono (fun a' w' h' => ⟨hi _ h'.1, wpAnyH_more hi h'.2⟩) (h.2 i hr)⟩
end Go.Proofs.Ytmjkcanjfjfkfaa
namespace Go.Proofs.Ytmjkcanjfjfkfaa
open Go.RowKit
set_option linter.unusedSimpArgs false
set_option linter.unusedVariables false
theorem bs_size (l : Bs) : (bs l).size = l.length := by simp [bs, ByteArray.size]
section
variable {w w' : World} {g : Nat} {t : TypeId} {cs : Array Value}
end
theorem only_alloc {a w : World} {row : Option Nat} (h : a.grownBy w row) (o : Obj) : a.grownBy (w.alloc o) row :=
  ⟨h.os, h.tape, h.output, Nat.le_trans h.size (by simp), fun i hi hne => (Below.heap_alloc w o i (Nat.lt_of_lt_of_le hi h.size)).trans (h.block i hi hne)⟩
theorem only_row {a b c : World} {g : Nat} {row : Option Nat} (h : a.grownBy b (some g)) (k : b.grownBy c row) (hr : ∀ i, row = some i → a.heap.size ≤ i) : a.grownBy c (some g) :=
  ⟨k.os.trans h.os, k.tape.trans h.tape, k.output.trans h.output, Nat.le_trans h.size k.size, fun i hi hne => (k.block i (Nat.lt_of_lt_of_le hi h.size) (fun e => by have := hr i e.symm; omega)).trans (h.block i hi hne)⟩
theorem bcell {W w1 : World} {B : Nat} (hb : Below B W w1) : (∀ b o, b < B → w1.cell? ⟨b, o, none⟩ = W.cell? ⟨b, o, none⟩) ∧ (∀ b o, b < B → w1.frozen? ⟨b, o, none⟩ = W.frozen? ⟨b, o, none⟩) :=
  ⟨fun b o h => hb.cell (p := ⟨b, o, none⟩) h, fun b o h => hb.frozen (p := ⟨b, o, none⟩) h⟩
theorem own_ne {w : World} {base base' : Nat} {e e' : TypeId} {size size' n n' : Nat} {v v' : Value} {xs xs' : List Value} (h : w.ownsRow base e size v n xs) (h' : w.ownsRow base' e' size' v' n' xs') (hne : e ≠ e') : v.ownBlock = none ∨ v.ownBlock ≠ v'.ownBlock := by
  rcases h.2 with ⟨rfl, _⟩ | ⟨g, cap, cur, rfl, _, hh, _⟩
  · exact .inl rfl
  · refine .inr fun he => ?_
    exact own_blk_ne h' hh (Ne.symm hne) he.symm
theorem cell_far {w : World} {p q : Addr} {u : Value} (h : q.block ≠ p.block) : (w.setCell p u).cell? q = w.cell? q := World.cell?_of_block (Below.heap_setCell w p u q.block h)
section
variable {α β : Type}
theorem rowC_snoc (f : α → β → List Value) : ∀ (l : List α) (vs : List β) (x : α) (v : β), vs.length = l.length → rowC f (l ++ [x]) (vs ++ [v]) = rowC f l vs ++ f x v
  | [], [], x, v, _ => by simp [rowC]
  | a :: l, b :: vs, x, v, h => by
    have := rowC_snoc f l vs x v (by simpa using h)
    simp [rowC, this]
  | [], b :: vs, _, _, h => by simp at h
  | a :: l, [], _, _, h => by simp at h
variable {e : TypeId} {size base : Nat} {f : α → β → List Value} {N : World → β → α → Prop} {w w' : World} {v : Value} {l : List α} {L : List TypeId}
end
end Go.Proofs.Ytmjkcanjfjfkfaa
namespace Go.Proofs.Ytmjkcanjfjfkfaa
open Go.RowKit Go.Deep
set_option linter.unusedSimpArgs false
set_option linter.unusedVariables false
theorem step_append_rd {P : Program} (w : World) {ops : Array Oper} {o : Oper} {a : Go.Act} {K : Go.Act → World → Prop} {Q : Exit → Go.Act → World → Prop} {E : Prop} (hgd : o.guard = none) (s x : Operand) (t : TypeId)
    (ho : o.op = .call { callee := .builtin .append, args := #[s, x], argTypes := #[t, t] })
    (base : Nat) (e : TypeId) (i : TypeInfo) (z : Value) (size bytes : Nat) (ht : P.underlying t = some (.slice e)) (hi : P.info? e = some i) (hz : i.zero = some z)
    (hsize : i.size = size) (hby : i.bytes = bytes) (hzs : z.cells.size = size) (hsz : 0 < size)
    (v : Value) (n : Nat) (xs : List Value) (hs : a.eval s = v) (hown : w.ownsRow base e size v n xs)
    (xv : Value) (m : Nat) (news : List Value) (hx : a.eval x = xv) (hr : Rd e w xv m news) (hl : news.length = m * size) (h1 : ∀ u ∈ news, u.oneCell' = true)
    (h63 : n + m ≤ maxLen) (hbytes : (n + m) * bytes ≤ 140737488355328) (hbase : base ≤ w.heap.size)
    (h : ∀ ao cap w', w'.ownsRow base e size (.slice ao (n + m) cap) (n + m) (xs ++ news) → w.grownBy w' v.ownBlock → K (a.put o.dst (.slice ao (n + m) cap)) w') :
    if Region.wanted o (yielded ops a.tmps) = true then Oper.wp P o a w K Q else E := by
  have hw : Region.wanted o (yielded ops a.tmps) = true := by simp [Region.wanted, hgd]
  rw [if_pos hw]
  exact wp_append_rd w s x t ho base e i z size bytes ht hi hz hsize hby hzs hsz v n xs hs hown xv m news hx hr hl h1 h63 hbytes hbase h
def Ra (B : Nat) (w : World) (v : Value) (n : Nat) (xs : List Value) : Prop :=
  ∃ A c, v = .slice A n c ∧ n ≤ c ∧ c ≤ maxLen ∧ ((n = 0 ∧ xs = []) ∨ ∃ b o, A = some ⟨b, o, none⟩ ∧ b < B ∧ ∀ j u, xs[j]? = some u → w.cell? ⟨b, o + j, none⟩ = some u)
theorem Ra.below {B : Nat} {w w' : World} {v : Value} {n : Nat} {xs : List Value} (h : Ra B w v n xs) (hb : Below B w w') : Ra B w' v n xs := by
  obtain ⟨A, c, hv, hc, hm, h0 | ⟨b, o, hA, hlt, hx⟩⟩ := h
  · exact ⟨A, c, hv, hc, hm, .inl h0⟩
  · exact ⟨A, c, hv, hc, hm, .inr ⟨b, o, hA, hlt, fun j u hu => (hb.cell (p := ⟨b, o + j, none⟩) hlt).trans (hx j u hu)⟩⟩
theorem Ra.at_ {B : Nat} {w : World} {v : Value} {n : Nat} {xs : List Value} (h : Ra B w v n xs) (hn : 0 < n) : ∃ b o c, v = .slice (some ⟨b, o, none⟩) n c ∧ n ≤ c ∧ c ≤ maxLen ∧ b < B ∧ ∀ j u, xs[j]? = some u → w.cell? ⟨b, o + j, none⟩ = some u := by
  obtain ⟨A, c, hv, hc, hm, h0 | ⟨b, o, hA, hlt, hx⟩⟩ := h
  · omega
  · subst hA
    exact ⟨b, o, c, hv, hc, hm, hlt, hx⟩
theorem Ra.form {B : Nat} {w : World} {v : Value} {n : Nat} {xs : List Value} (h : Ra B w v n xs) : ∃ A c, v = .slice A n c ∧ n ≤ c ∧ c ≤ maxLen := by
  obtain ⟨A, c, hv, hc, hm, _⟩ := h
  exact ⟨A, c, hv, hc, hm⟩
section
variable {α β : Type}
def RowRa (f : α → β → List Value) (N : World → β → α → Prop) (B : Nat) (w : World) (v : Value) (l : List α) : Prop := ∃ vs, RowW N w l vs ∧ Ra B w v l.length (rowC f l vs)
variable {f : α → β → List Value} {N : World → β → α → Prop} {B : Nat} {w w' : World} {v : Value} {l : List α}
theorem RowRa.below (h : RowRa f N B w v l) (hb : Below B w w') (hN : ∀ v x, N w v x → N w' v x) : RowRa f N B w' v l := by
  obtain ⟨vs, h1, h2⟩ := h
  exact ⟨vs, h1.imp hN, h2.below hb⟩
theorem RowRa.form (h : RowRa f N B w v l) : ∃ A c, v = .slice A l.length c ∧ l.length ≤ c ∧ c ≤ maxLen := by
  obtain ⟨vs, h1, h2⟩ := h
  exact h2.form
theorem RowRa.at_ {size : Nat} (h : RowRa f N B w v l) (hf : ∀ x u, (f x u).length = size) (h0 : 0 < l.length) : ∃ b o c, v = .slice (some ⟨b, o, none⟩) l.length c ∧ l.length ≤ c ∧ c ≤ maxLen ∧ b < B ∧ ∀ i (hi : i < l.length), ∃ u, N w u l[i] ∧ ∀ j y, (f l[i] u)[j]? = some y → w.cell? ⟨b, o + (i * size + j), none⟩ = some y := by
  obtain ⟨vs, h1, h2⟩ := h
  obtain ⟨b, o, c, hv, hc, hm, hb, hcell⟩ := h2.at_ h0
  refine ⟨b, o, c, hv, hc, hm, hb, fun i hi => ?_⟩
  have hiv : i < vs.length := by rw [h1.1]; exact hi
  refine ⟨vs[i], h1.2 i _ _ (List.getElem?_eq_getElem hi) (List.getElem?_eq_getElem hiv), fun j y hy => ?_⟩
  have hj : j < size := by
    rcases Nat.lt_or_ge j size with h | h
    · exact h
    · rw [List.getElem?_eq_none (by rw [hf]; exact h)] at hy; cases hy
  exact hcell _ _ ((rowC_get f size hf l vs h1.1 i _ _ j (List.getElem?_eq_getElem hi) (List.getElem?_eq_getElem hiv) hj).trans hy)
end
section
variable {α β H : Type} [Inhabited α] [Inhabited β] {enc : TypeId × Value → H} {P : Program} {w : World} {base : Nat} {spare : Nat → Bool} {held : Bool}
theorem open_row {f : α → β → List Value} {N : World → β → α → Prop} {size : Nat} (hf : ∀ x u, (f x u).length = size) (hs : 0 < size) {t e : TypeId} (ht : P.underlying t = some (.slice e)) (ce : P.cellsOf e = size)
    (hE : ∀ n cs y, DataW.trod enc P w base spare held n e cs = some y → cs.length = size → ∃ x u, cs = f x u ∧ N w u x)
    {fuel : Nat} {v : Value} {x : DataW H × List MemPlace} (h : DataW.trod enc P w base spare held fuel t [v] = some x) : ∃ l : List α, RowRa f N w.heap.size w v l := by
  rcases open_slice ht h with ⟨h0, _⟩ | ⟨a, len, cap, m, n, D, Pl, h0, hb, hl, hm, hmm, _, hx⟩
  · injection h0 with h0
    subst h0
    exact ⟨[], [], RowW.nil N w, none, 0, rfl, Nat.le_refl _, Nat.zero_le _, .inl ⟨rfl, rfl⟩⟩
  injection h0 with h0
  subst h0
  have hlm : len ≤ m := by rw [hmm]; split <;> omega
  have each : ∀ i, i < len → ∃ q : α × β, N w q.2 q.1 ∧ ∀ j y, (f q.1 q.2)[j]? = some y → w.cell? ((a.add (i * size)).add j) = some y := by
    intro i hi
    obtain ⟨cs', h1, h2⟩ := hx i (by omega)
    rw [ce] at h1
    obtain ⟨_, hlen, hcell⟩ := World.cells?_some h1
    obtain ⟨x, u, hcs, hN⟩ := hE _ _ _ h2 hlen
    refine ⟨(x, u), hN, fun j y hy => ?_⟩
    have hj : j < size := by
      rcases Nat.lt_or_ge j size with h | h
      · exact h
      · rw [List.getElem?_eq_none (by rw [hf]; exact h)] at hy; cases hy
    have := hcell j hj
    rw [this, hcs]
    exact hy
  obtain ⟨q, hq⟩ := choose_lt each
  let xs : List α := (List.range len).map fun i => (q i).1
  let us : List β := (List.range len).map fun i => (q i).2
  have lx : xs.length = len := by simp [xs]
  have lu : us.length = xs.length := by simp [xs, us]
  have gx : ∀ i, i < len → xs[i]? = some (q i).1 := fun i hi => by simp [xs, hi]
  have gu : ∀ i, i < len → us[i]? = some (q i).2 := fun i hi => by simp [us, hi]
  have hw : RowW N w xs us := by
    refine ⟨lu, fun i x u h1 h2 => ?_⟩
    have hi : i < len := by
      rcases Nat.lt_or_ge i len with h | h
      · exact h
      · rw [List.getElem?_eq_none (by omega)] at h1; cases h1
    rw [gx i hi] at h1
    rw [gu i hi] at h2
    cases h1; cases h2
    exact (hq i hi).1
  refine ⟨xs, us, hw, some a, cap, by rw [lx], by omega, hm, ?_⟩
  rcases Nat.eq_zero_or_pos len with h0 | h0
  · left
    refine ⟨by omega, ?_⟩
    have : xs = [] := List.length_eq_zero_iff.1 (by omega)
    rw [this]; rfl
  right
  have hcell : ∀ j u, (rowC f xs us)[j]? = some u → w.cell? (a.add j) = some u := by
    intro j u hu
    have hlen := rowC_len f size hf xs us lu
    have hj : j < len * size := by
      rcases Nat.lt_or_ge j (len * size) with h | h
      · exact h
      · rw [List.getElem?_eq_none (by rw [hlen, lx]; exact h)] at hu; cases hu
    have hi : j / size < len := (Nat.div_lt_iff_lt_mul hs).2 hj
    have hr : j % size < size := Nat.mod_lt _ hs
    have hjj : j / size * size + j % size = j := Nat.div_add_mod' j size
    have h3 := rowC_get f size hf xs us lu (j / size) _ _ (j % size) (gx _ hi) (gu _ hi) hr
    rw [hjj, hu] at h3
    have h4 := (hq _ hi).2 (j % size) u h3.symm
    rw [add_add, hjj] at h4
    exact h4
  have hfirst : ∃ u, w.cell? a = some u := by
    have hlen := rowC_len f size hf xs us lu
    have hpos : 0 < (rowC f xs us).length := by rw [hlen, lx]; exact Nat.mul_pos h0 hs
    exact ⟨_, hcell 0 _ (List.getElem?_eq_getElem hpos)⟩
  obtain ⟨u0, hu0⟩ := hfirst
  have hspot : a.spot = none ∧ a.block < w.heap.size := by
    unfold World.cell? at hu0
    split at hu0
    · rename_i hh
      refine ⟨?_, (Array.getElem?_eq_some_iff.1 hh).1⟩
      cases hs' : a.spot with
      | none => rfl
      | some k => rw [hs'] at hu0; simp at hu0
    · cases hu0
  obtain ⟨b, o, sp⟩ := a
  obtain ⟨hsp, hbl⟩ := hspot
  simp only at hsp hbl
  subst hsp
  refine ⟨b, o, rfl, hbl, fun j u hu => ?_⟩
  have := hcell j u hu
  rwa [add_off] at this
end
end Go.Proofs.Ytmjkcanjfjfkfaa
namespace Go.Proofs.Ytmjkcanjfjfkfaa
open Go.RowKit
set_option linter.unusedSimpArgs false
set_option linter.unusedVariables false
end Go.Proofs.Ytmjkcanjfjfkfaa
namespace Go.Proofs.Ytmjkcanjfjfkfaa
open Go.RowKit
set_option linter.unusedSimpArgs false
set_option linter.unusedVariables false
end Go.Proofs.Ytmjkcanjfjfkfaa
namespace Go.Proofs.Ytmjkcanjfjfkfaa
open Go.RowKit
set_option linter.unusedSimpArgs false
set_option linter.unusedVariables false
end Go.Proofs.Ytmjkcanjfjfkfaa
namespace Go.Proofs.Ytmjkcanjfjfkfaa
open Go.RowKit
set_option linter.unusedSimpArgs false
set_option linter.unusedVariables false
end Go.Proofs.Ytmjkcanjfjfkfaa
namespace Go.Proofs.Ytmjkcanjfjfkfaa
open Go.RowKit
set_option linter.unusedSimpArgs false
set_option linter.unusedVariables false
end Go.Proofs.Ytmjkcanjfjfkfaa
-- GB
namespace Go.Proofs.Ytmjkcanjfjfkfaa
set_option linter.unusedVariables false
end Go.Proofs.Ytmjkcanjfjfkfaa
namespace Go.Proofs.Ytmjkcanjfjfkfaa
set_option linter.unusedVariables false
def appR (l : List Ac) (a : Ac) : Int := if okAc a then (match l.getLast? with | none => 0 | some b => if cmpK b.key a.key < 0 then 0 else 32) else 3
end Go.Proofs.Ytmjkcanjfjfkfaa
namespace Go.Proofs.Ytmjkcanjfjfkfaa
set_option linter.unusedVariables false
end Go.Proofs.Ytmjkcanjfjfkfaa
namespace Go.Proofs.Ytmjkcanjfjfkfaa
set_option linter.unusedVariables false
end Go.Proofs.Ytmjkcanjfjfkfaa
namespace Go.Proofs.Ytmjkcanjfjfkfaa
set_option linter.unusedVariables false
section
variable {α : Type}
def conR (f : Nat → α → Bool) : Nat → List α → Nat
  | i, [] => i
  | i, a :: l => if f i a then i else conR f (i + 1) l
theorem conR_stop {f : Nat → α → Bool} : ∀ {l : List α} {i k : Nat}, (∀ j (hj : j < l.length), j < k → f (i + j) l[j] = false) → ∀ hk : k < l.length, f (i + k) l[k] = true → conR f i l = i + k
  | [], i, k, _, hk, _ => by simp at hk
  | a :: l, i, 0, h, hk, ht => by
    simp only [List.getElem_cons_zero, Nat.add_zero] at ht ⊢
    unfold conR
    rw [if_pos ht]
  | a :: l, i, k + 1, h, hk, ht => by
    have h0 := h 0 (by simp) (by omega)
    simp only [List.getElem_cons_zero, Nat.add_zero] at h0
    unfold conR
    rw [h0, if_neg (by simp)]
    have := conR_stop (f := f) (l := l) (i := i + 1) (k := k) (fun j hj hjk => by
      have := h (j + 1) (by simpa using hj) (by omega)
      rw [List.getElem_cons_succ] at this
      rw [← this]; congr 1; omega) (by simpa using hk) (by
      rw [List.getElem_cons_succ] at ht
      rw [← ht]; congr 1; omega)
    rw [this]; omega
end
theorem any_stop {α : Type} {f : α → Bool} {l : List α} {m : Nat} (hm : m < l.length) (h : f l[m] = true) : l.any f = true := List.any_eq_true.2 ⟨l[m], List.getElem_mem hm, h⟩
end Go.Proofs.Ytmjkcanjfjfkfaa
namespace Go.Proofs.Ytmjkcanjfjfkfaa
set_option linter.unusedVariables false
theorem filter_take {α : Type} (f : α → Bool) (l : List α) (k : Nat) (hk : k < l.length) : (l.take (k + 1)).filter f = (l.take k).filter f ++ if f l[k] then [l[k]] else [] := by
  rw [List.take_succ_eq_append_getElem hk, List.filter_append]
  congr 1
  simp only [List.filter_cons, List.filter_nil]
end Go.Proofs.Ytmjkcanjfjfkfaa
namespace Go.Proofs.Ytmjkcanjfjfkfaa
set_option linter.unusedVariables false
end Go.Proofs.Ytmjkcanjfjfkfaa
namespace Go.Proofs.Ytmjkcanjfjfkfaa
set_option linter.unusedVariables false
def sumN : List Nat → Nat
  | [] => 0
  | a :: l => a + sumN l
theorem sumN_add {α : Type} (f g : α → Nat) : ∀ l : List α, sumN (l.map fun x => f x + g x) = sumN (l.map f) + sumN (l.map g)
  | [] => rfl
  | a :: l => by
    simp only [List.map_cons, sumN]
    rw [sumN_add f g l]; omega
theorem sumN_zero {α : Type} (f : α → Nat) : ∀ l : List α, (∀ x ∈ l, f x = 0) → sumN (l.map f) = 0
  | [], _ => rfl
  | a :: l, h => by
    simp only [List.map_cons, sumN]
    rw [sumN_zero f l fun x hx => h x (by simp [hx]), h a (by simp)]
section
variable {α β γ : Type} [DecidableEq γ]
theorem sum_one (g : β → γ) (c : γ) : ∀ vs : List β, (vs.map g).Nodup → c ∈ vs.map g → sumN (vs.map fun v => if c = g v then 1 else 0) = 1
  | [], _, h => by simp at h
  | v :: vs, hn, hc => by
    simp only [List.map_cons, List.nodup_cons] at hn
    simp only [List.map_cons, sumN]
    by_cases h : c = g v
    · rw [if_pos h]
      rw [sumN_zero]
      intro x hx
      rw [if_neg]
      intro e
      apply hn.1
      rw [← h, e]
      exact List.mem_map_of_mem hx
    · rw [if_neg h]
      simp only [List.map_cons, List.mem_cons] at hc
      rw [sum_one g c vs hn.2 (hc.resolve_left h)]
theorem sum_filter (f : α → γ) (g : β → γ) (vs : List β) (hn : (vs.map g).Nodup) : ∀ xs : List α, (∀ x ∈ xs, f x ∈ vs.map g) → sumN (vs.map fun v => (xs.filter fun x => decide (f x = g v)).length) = xs.length
  | [], _ => by
    simp only [List.filter_nil, List.length_nil]
    exact sumN_zero _ _ fun _ _ => rfl
  | x :: xs, h => by
    have ih := sum_filter f g vs hn xs fun y hy => h y (by simp [hy])
    have h1 := sum_one g (f x) vs hn (h x (by simp))
    have e : (fun v => ((x :: xs).filter fun x => decide (f x = g v)).length) = fun v => (if f x = g v then 1 else 0) + (xs.filter fun x => decide (f x = g v)).length := by
      funext v
      rw [List.filter_cons]
      by_cases hx : f x = g v
      · simp [hx]; omega
      · simp [hx]
    rw [e, sumN_add, ih, h1]
    simp; omega
end
end Go.Proofs.Ytmjkcanjfjfkfaa
namespace Go.Proofs.Ytmjkcanjfjfkfaa
set_option linter.unusedVariables false
end Go.Proofs.Ytmjkcanjfjfkfaa
-- GV
namespace Go.Proofs.Ytmjkcanjfjfkfaa
open Go.RowKit
set_option linter.unusedSimpArgs false
set_option linter.unusedVariables false
end Go.Proofs.Ytmjkcanjfjfkfaa
namespace Go.Proofs.Ytmjkcanjfjfkfaa
open Go.RowKit
set_option linter.unusedSimpArgs false
set_option linter.unusedVariables false
end Go.Proofs.Ytmjkcanjfjfkfaa
namespace Go.Proofs.Ytmjkcanjfjfkfaa
open Go.RowKit
set_option linter.unusedSimpArgs false
set_option linter.unusedVariables false
end Go.Proofs.Ytmjkcanjfjfkfaa
namespace Go.Proofs.Ytmjkcanjfjfkfaa
open Go.RowKit Go.MapKept Go.ChangeMaps
set_option linter.unusedSimpArgs false
set_option linter.unusedVariables false
section
variable {κ ν : Type} [DecidableEq κ]
end
end Go.Proofs.Ytmjkcanjfjfkfaa
namespace Go.Proofs.Ytmjkcanjfjfkfaa
open Go.RowKit Go.MapKept Go.ChangeMaps
set_option linter.unusedSimpArgs false
set_option linter.unusedVariables false
theorem step_put_nm (w : World) {ops : Array Oper} {o : Oper} {a : Go.Act} {K : Go.Act → World → Prop} {Q : Exit → Go.Act → World → Prop} {X : Prop} (hg : o.guard = none) (m x v : Operand) (t : TypeId) (hop : o.op = Op.mapUpdate t m x v) {E : TypeId}
    (ht : Try.prog.underlying t = some (.map 41 E)) (b : Nat) (ents : List (Nm × Value)) (hm : a.eval m = .map (some b)) (h : MapAt w b ents) (n : Nm) (hx : a.eval x = nmV n) (u : Value) (hv : a.eval v = u)
    (hK : ∀ w', MapAt w' b (putM n u ents) → w.grownBy w' (some b) → K (a.put o.dst undef) w') : if Region.wanted o (yielded ops a.tmps) = true then Oper.wp Try.prog o a w K Q else X := by
  have hw : Region.wanted o (yielded ops a.tmps) = true := by simp [Region.wanted, hg]
  rw [if_pos hw]
  obtain ⟨w', hrun, h1, h2⟩ := map_put h n u ht
  unfold Oper.wp
  simp [execOp, hop, hm, hx, hv, hrun, Result.andThen]
  exact hK w' h1 h2
section
variable {α : Type} {f : α → List Value} {s : Nat} {e : TypeId}
end
end Go.Proofs.Ytmjkcanjfjfkfaa
namespace Go.Proofs.Ytmjkcanjfjfkfaa
open Go.RowKit Go.MapKept Go.ChangeMaps
set_option linter.unusedSimpArgs false
set_option linter.unusedVariables false
section
variable {w w' w0 : World} {F G : Nat → Prop} {g : Nat} {pb : Option Addr} {va vk : Value} {pl : Option Addr} {bw br : Nat} {s0 sl : St} {la : List Ac} {lk : List St} {Dw : Nm → List Ver} {Dr : Nm → List Int}
end
end Go.Proofs.Ytmjkcanjfjfkfaa
namespace Go.Proofs.Ytmjkcanjfjfkfaa
open Go.RowKit Go.MapKept Go.ChangeMaps
set_option linter.unusedSimpArgs false
set_option linter.unusedVariables false
section
variable {w w' w0 : World} {F G : Nat → Prop} {g : Nat} {pb : Option Addr} {va vk : Value} {pl : Option Addr} {bw br : Nat} {s0 sl : St} {la : List Ac} {lk : List St} {Dw : Nm → List Ver} {Dr : Nm → List Int}
end
end Go.Proofs.Ytmjkcanjfjfkfaa
-- GR
namespace Go.Proofs.Ytmjkcanjfjfkfaa
open Go.RowKit
set_option linter.unusedSimpArgs false
set_option linter.unusedVariables false
attribute [local go_sem ↓] Go.wp_at_zero Go.wp_at_succ
theorem far7 {w : World} {cb : Nat} {q : Addr} {u0 u1 u2 u3 u4 u5 u6 : Value} (h : q.block ≠ cb) : (((((((w.setCell ⟨cb, 0, none⟩ u0).setCell ⟨cb, 1, none⟩ u1).setCell ⟨cb, 2, none⟩ u2).setCell ⟨cb, 3, none⟩ u3).setCell ⟨cb, 4, none⟩ u4).setCell ⟨cb, 5, none⟩ u5).setCell ⟨cb, 6, none⟩ u6).cell? q = w.cell? q := by
  repeat rw [cell_far (by exact h)]
end Go.Proofs.Ytmjkcanjfjfkfaa
-- M18
namespace Go.Proofs.Ytmjkcanjfjfkfaa
open Go.RowKit Go.MapKept Go.ChangeMaps
set_option linter.unusedSimpArgs false
set_option linter.unusedVariables false
theorem wpList_ins_nmI (w : World) {ops : Array Oper} {rest : List Oper} {o : Oper} {a : Go.Act} {Q : Exit → Go.Act → World → Prop} (hg : o.guard = none) (m x v : Operand) (t : TypeId) (hop : o.op = Op.insert t m x v) {E : TypeId}
    (ht : Try.prog.underlying t = some (.map 3 E)) (b : Nat) (ents : List (Int × Value)) (hm : a.eval m = .map (some b)) (h : MapAtI w b ents) (n : Int) (hx : a.eval x = ikV n) (u : Value) (hv : a.eval v = u)
    (hK : ∀ w', MapAtI w' b (putM n u ents) → w.grownBy w' (some b) → wpList Try.prog ops Q rest (a.put o.dst undef) w') : wpList Try.prog ops Q (o :: rest) a w := by
  refine wpList_plain hg fun K' hK' => ?_
  obtain ⟨w', hrun, h1, h2⟩ := map_putI h n u ht
  unfold Oper.wp
  simp [execOp, hop, hm, hx, hv, hrun, Result.andThen]
  exact hK' _ _ (hK w' h1 h2)
end Go.Proofs.Ytmjkcanjfjfkfaa
-- M20
namespace Go.Proofs.Ytmjkcanjfjfkfaa
open Go.RowKit Go.MapKept Go.ChangeMaps
set_option linter.unusedSimpArgs false
set_option linter.unusedVariables false
section
variable (w : World) {ops : Array Oper} {rest : List Oper} {o : Oper} {a : Go.Act} {Q : Exit → Go.Act → World → Prop}
end
section
variable {α : Type} {f : α → List Value} {s : Nat} {e : TypeId}
end
theorem delM_look {κ ν : Type} [DecidableEq κ] {n m : κ} (hm : m ≠ n) : ∀ {l : List (κ × ν)}, lookM m (delM n l) = lookM m l
  | [] => rfl
  | (a, v) :: l => by
    simp only [delM]
    split
    · rename_i e
      simp only [lookM]
      rw [if_neg (fun e2 => hm (e2.symm.trans e))]
    · simp only [lookM]
      rw [delM_look hm]
end Go.Proofs.Ytmjkcanjfjfkfaa
-- Q5
namespace Go.Proofs.Ytmjkcanjfjfkfaa
set_option linter.unusedSimpArgs false
set_option linter.unusedVariables false
theorem asc_ext : ∀ {a b : List Int}, a.Pairwise (· < ·) → b.Pairwise (· < ·) → (∀ x, x ∈ a ↔ x ∈ b) → a = b
  | [], [], _, _, _ => rfl
  | [], y :: b, _, _, h => by have := (h y).2 (by simp); cases this
  | x :: a, [], _, _, h => by have := (h x).1 (by simp); cases this
  | x :: a, y :: b, ha, hb, h => by
    rw [List.pairwise_cons] at ha hb
    have hxy : x = y := by
      rcases List.mem_cons.1 ((h x).1 (by simp)) with e | hx
      · exact e
      · rcases List.mem_cons.1 ((h y).2 (by simp)) with e | hy
        · exact e.symm
        · have := hb.1 x hx; have := ha.1 y hy; omega
    subst hxy
    rw [asc_ext ha.2 hb.2 fun z => ?_]
    have hz := h z
    simp only [List.mem_cons] at hz
    constructor
    · intro hm
      rcases hz.1 (.inr hm) with e | e
      · subst e; have := ha.1 _ hm; omega
      · exact e
    · intro hm
      rcases hz.2 (.inr hm) with e | e
      · subst e; have := hb.1 _ hm; omega
      · exact e
def prK (ks : List Ky) (i : Int) : Option Bs := match ks[i.toNat]? with
  | some k => if k.cls = 0 then none else some k.lin
  | none => none
def trn (ks : List Ky) (m : Bs) : List Int := ((List.range ks.length).filter fun (i : Nat) => prK ks (i : Int) == some m).map fun (i : Nat) => (i : Int)
theorem trn_mem {ks : List Ky} {m : Bs} {j : Int} : j ∈ trn ks m ↔ 0 ≤ j ∧ j < (ks.length : Int) ∧ prK ks j = some m := by
  unfold trn
  simp only [List.mem_map, List.mem_filter, List.mem_range, beq_iff_eq]
  constructor
  · rintro ⟨i, ⟨h1, h2⟩, rfl⟩
    exact ⟨by omega, by omega, h2⟩
  · rintro ⟨h1, h2, h3⟩
    refine ⟨j.toNat, ⟨by omega, ?_⟩, by omega⟩
    rw [show ((j.toNat : Nat) : Int) = j by omega]
    exact h3
theorem trn_len (ks : List Ky) (m : Bs) : (trn ks m).length ≤ ks.length := by
  unfold trn
  rw [List.length_map]
  exact Nat.le_trans (List.length_filter_le _ _) (by simp)
end Go.Proofs.Ytmjkcanjfjfkfaa
-- M22
namespace Go.Proofs.Ytmjkcanjfjfkfaa
open Go.RowKit Go.MapKept Go.ChangeMaps
set_option linter.unusedSimpArgs false
set_option linter.unusedVariables false
theorem set_mid2 {α : Type} (A : List α) (x y : α) (k n : Nat) (hA : A.length = k) (hk : k < n) : (A ++ List.replicate (n - k) x).set k y = (A ++ [y]) ++ List.replicate (n - (k + 1)) x := by
  rw [show n - k = (n - (k + 1)) + 1 by omega, List.replicate_succ, List.set_append_right _ _ (by omega)]
  simp [hA]
end Go.Proofs.Ytmjkcanjfjfkfaa
