/- Walks and plain facts, packed: GA, GM. -/
import Derived.Deep.RegionHeld
import Derived.Deep.RegionHeld3
import Derived.Test.YtamjllakfgphnaaGreatDoorProg
import Derived.WalkKit
import Derived.Lib.Hide
import Derived.Below
import Derived.Laws.OwnMore
import Derived.Deep.Draws
import Derived.Laws.Rows
import Derived.OwnWalk
import Derived.RegionTactic
import Derived.BigRegion
import Derived.StillTailTactics
import Derived.Deep.AppendLies
import Derived.Deep.LoopGhost
import Derived.Deep.QuietTactic
import Derived.BigQuiet
import Derived.IntWalk
import Derived.Deep.Slices
import Derived.ChangeArms
import Derived.Lib.SmallJoins
import Derived.WalkLawsBesides
import Derived.WalkSpells
import Derived.Laws.StructEq
namespace Go.Proofs.YtamjllakfgphnaaGreatDoor
theorem tk {P : Program} {ops : Array Oper} {Q : Exit → Go.Act → World → Prop} {md : Region.Mode} {S : World → Prop} (i : Nat) {oi : Oper} {v : Value} {fuel : Nat} {listed : Array Bool} {a : Go.Act} {w : World} (hi : ops[i]? = some oi) (hc : (Region.noSelect ops && (Region.free md ops listed i && ((Region.ready md ops listed).contains i && Region.wanted oi (yielded ops a.tmps)))) = true) (hQ : ∀ c (a : Go.Act) w, Q (.panic c) (a.put oi.dst v) w → Q (.panic c) a w) (hv : ∀ w, S w → (execOp a.eval oi).run P w = .ok (.value v) w) (hS : S w) (h : wpAnyH P md ops Q S fuel (listed.setIfInBounds i true) (a.put oi.dst v) w) : wpAnyH P md ops Q S (fuel + 1) listed a w := by
  simp only [Bool.and_eq_true] at hc
  exact wpAnyH_take hi hc.1 hc.2.1 hc.2.2.1 hQ (Or.inl ⟨hc.2.2.2, hv⟩) hS h
theorem pB {α : Type} {l : List α} {i : Nat} {a : α} : l.toArray.setIfInBounds i a = (l.set i a).toArray := by simp
theorem pC {α : Type} {l : List α} {a b : α} : (a :: l).set 0 b = b :: l := rfl
theorem pD {α : Type} {l : List α} {a b : α} {n : Nat} : (a :: l).set (n + 1) b = a :: l.set n b := rfl
theorem qB {α : Type} {l : List α} {i : Nat} : l.toArray[i]? = l[i]? := by simp
theorem qC {α : Type} {l : List α} {a : α} : (a :: l)[0]? = some a := rfl
theorem qD {α : Type} {l : List α} {a : α} {n : Nat} : (a :: l)[n + 1]? = l[n]? := rfl
end Go.Proofs.YtamjllakfgphnaaGreatDoor
namespace Go.Proofs.YtamjllakfgphnaaGreatDoor
set_option linter.unusedVariables false
structure COrd {κ : Type} (c : κ → κ → Int) (S : κ → Prop) : Prop where
  eq : ∀ {a b}, S a → S b → (c a b = 0 ↔ a = b)
  anti : ∀ {a b}, S a → S b → (c a b < 0 ↔ 0 < c b a)
  trans : ∀ {a b d}, S a → S b → S d → c a b < 0 → c b d < 0 → c a d < 0
inductive Tr (κ ν : Type) where
  | nil : Tr κ ν
  | node (l : Tr κ ν) (k : κ) (v : ν) (r : Tr κ ν) : Tr κ ν
namespace Tr
variable {κ ν : Type}
def ht : Tr κ ν → Nat | nil => 0 | node l _ _ r => 1 + max l.ht r.ht
def sz : Tr κ ν → Nat | nil => 0 | node l _ _ r => 1 + l.sz + r.sz
def by_ (f : ν → Nat) : Tr κ ν → Nat | nil => 0 | node l _ v r => f v + l.by_ f + r.by_ f
def flat : Tr κ ν → List (κ × ν) | nil => [] | node l k v r => l.flat ++ (k, v) :: r.flat
def bal (l : Tr κ ν) (k : κ) (v : ν) (r : Tr κ ν) : Tr κ ν :=
  if r.ht + 1 < l.ht then
    match l with
    | nil => node nil k v r
    | node ll lk lv lr =>
      if lr.ht ≤ ll.ht then node ll lk lv (node lr k v r)
      else match lr with
        | nil => node (node ll lk lv nil) k v r
        | node a m mv b => node (node ll lk lv a) m mv (node b k v r)
  else if l.ht + 1 < r.ht then
    match r with
    | nil => node l k v nil
    | node rl rk rv rr =>
      if rl.ht ≤ rr.ht then node (node l k v rl) rk rv rr
      else match rl with
        | nil => node l k v (node nil rk rv rr)
        | node a m mv b => node (node l k v a) m mv (node b rk rv rr)
  else node l k v r
theorem flat_bal (l : Tr κ ν) (k : κ) (v : ν) (r : Tr κ ν) : (bal l k v r).flat = l.flat ++ (k, v) :: r.flat := by
  unfold bal
  split
  · cases l with
    | nil => rfl
    | node ll lk lv lr =>
      simp only
      split
      · simp [flat]
      · cases lr with
        | nil => simp [flat]
        | node a m mv b => simp [flat]
  · split
    · cases r with
      | nil => rfl
      | node rl rk rv rr =>
        simp only
        split
        · simp [flat]
        · cases rl with
          | nil => simp [flat]
          | node a m mv b => simp [flat]
    · rfl
theorem sz_flat : ∀ t : Tr κ ν, t.sz = t.flat.length
  | nil => rfl
  | node l k v r => by simp [sz, flat, sz_flat l, sz_flat r]; omega
theorem by_flat (f : ν → Nat) : ∀ t : Tr κ ν, t.by_ f = (t.flat.map fun p => f p.2).sum
  | nil => rfl
  | node l k v r => by simp [by_, flat, by_flat f l, by_flat f r]; omega
theorem ht_sz : ∀ t : Tr κ ν, t.ht ≤ t.sz
  | nil => Nat.le_refl _
  | node l k v r => by have := ht_sz l; have := ht_sz r; simp [ht, sz]; omega
variable (c : κ → κ → Int)
def with_ (k : κ) (v : ν) : Tr κ ν → Tr κ ν
  | nil => node nil k v nil
  | node l a x r => if c k a < 0 then bal (l.with_ k v) a x r else if 0 < c k a then bal l a x (r.with_ k v) else node l k v r
def first : Tr κ ν → Option (κ × ν)
  | nil => none
  | node nil k v _ => some (k, v)
  | node (node a b d e) _ _ _ => first (node a b d e)
def rest : Tr κ ν → Tr κ ν
  | nil => nil
  | node nil _ _ r => r
  | node (node a b d e) k v r => bal (rest (node a b d e)) k v r
def without (k : κ) : Tr κ ν → Tr κ ν
  | nil => nil
  | node l a x r => if c k a < 0 then bal (l.without k) a x r else if 0 < c k a then bal l a x (r.without k) else
    match r.first with
    | none => l
    | some (m, y) => bal l m y (r.without m)
def find (k : κ) : Tr κ ν → Option ν
  | nil => none
  | node l a x r => if c k a = 0 then some x else if c k a < 0 then l.find k else r.find k
end Tr
section
variable {κ ν : Type} (c : κ → κ → Int)
def ins (k : κ) (v : ν) : List (κ × ν) → List (κ × ν)
  | [] => [(k, v)]
  | (a, x) :: l => if c k a < 0 then (k, v) :: (a, x) :: l else if 0 < c k a then (a, x) :: ins k v l else (k, v) :: l
def del (k : κ) : List (κ × ν) → List (κ × ν)
  | [] => []
  | (a, x) :: l => if c k a = 0 then l else (a, x) :: del k l
def look (k : κ) : List (κ × ν) → Option ν
  | [] => none
  | (a, x) :: l => if c k a = 0 then some x else look k l
def Srt (S : κ → Prop) (l : List (κ × ν)) : Prop := l.Pairwise (fun p q => c p.1 q.1 < 0) ∧ ∀ p ∈ l, S p.1
variable {c} {S : κ → Prop}
theorem COrd.flip (O : COrd c S) {a b : κ} (ha : S a) (hb : S b) (h : c a b < 0) : 0 < c b a := (O.anti ha hb).1 h
theorem COrd.ne (O : COrd c S) {a b : κ} (ha : S a) (hb : S b) (h : c a b ≠ 0) : a ≠ b := fun e => h ((O.eq ha hb).2 e)
theorem COrd.refl (O : COrd c S) {a : κ} (ha : S a) : c a a = 0 := (O.eq ha ha).2 rfl
theorem Srt.left {l r : List (κ × ν)} (h : Srt c S (l ++ r)) : Srt c S l := ⟨(List.pairwise_append.1 h.1).1, fun p hp => h.2 p (List.mem_append_left _ hp)⟩
theorem Srt.right {l r : List (κ × ν)} (h : Srt c S (l ++ r)) : Srt c S r := ⟨(List.pairwise_append.1 h.1).2.1, fun p hp => h.2 p (List.mem_append_right _ hp)⟩
theorem Srt.tail {p : κ × ν} {r : List (κ × ν)} (h : Srt c S (p :: r)) : Srt c S r := ⟨(List.pairwise_cons.1 h.1).2, fun q hq => h.2 q (List.mem_cons_of_mem _ hq)⟩
theorem Srt.lt {l : List (κ × ν)} {p : κ × ν} {r : List (κ × ν)} (h : Srt c S (l ++ p :: r)) : ∀ q ∈ l, c q.1 p.1 < 0 := fun q hq => (List.pairwise_append.1 h.1).2.2 q hq p (List.mem_cons_self ..)
theorem Srt.gt {p : κ × ν} {r : List (κ × ν)} (h : Srt c S (p :: r)) : ∀ q ∈ r, c p.1 q.1 < 0 := (List.pairwise_cons.1 h.1).1
theorem ins_left (O : COrd c S) {k : κ} (hk : S k) (v : ν) {p : κ × ν} (hp : S p.1) (r : List (κ × ν)) (h : c k p.1 < 0) : ∀ l : List (κ × ν), Srt c S (l ++ p :: r) → ins c k v (l ++ p :: r) = ins c k v l ++ p :: r
  | [], hs => by simp [ins, h]
  | q :: l, hs => by
    have hq := hs.2 q (by simp)
    simp only [List.cons_append, ins]
    split
    · rfl
    split
    · rw [ins_left O hk v hp r h l hs.tail]; rfl
    · rfl
theorem ins_right (O : COrd c S) {k : κ} (hk : S k) (v : ν) {p : κ × ν} (hp : S p.1) (r : List (κ × ν)) (h : 0 < c k p.1) : ∀ l : List (κ × ν), Srt c S (l ++ p :: r) → ins c k v (l ++ p :: r) = l ++ p :: ins c k v r
  | [], hs => by
    have e : ¬ c k p.1 < 0 := by omega
    simp only [List.nil_append, ins, if_neg e, if_pos h]
  | q :: l, hs => by
    have hq := hs.2 q (by simp)
    have h1 : c q.1 p.1 < 0 := hs.lt (l := q :: l) q (by simp)
    have h2 : c p.1 k < 0 := (O.anti hp hk).2 h
    have h3 := O.flip hq hk (O.trans hq hp hk h1 h2)
    have e : ¬ c k q.1 < 0 := by omega
    simp only [List.cons_append, ins, if_neg e, if_pos h3]
    rw [ins_right O hk v hp r h l hs.tail]
theorem ins_mid (O : COrd c S) {k : κ} (hk : S k) (v : ν) {p : κ × ν} (hp : S p.1) (r : List (κ × ν)) (h : c k p.1 = 0) : ∀ l : List (κ × ν), Srt c S (l ++ p :: r) → ins c k v (l ++ p :: r) = l ++ (k, v) :: r
  | [], hs => by
    have e1 : ¬ c k p.1 < 0 := by omega
    have e2 : ¬ 0 < c k p.1 := by omega
    simp only [List.nil_append, ins, if_neg e1, if_neg e2]
  | q :: l, hs => by
    have hq := hs.2 q (by simp)
    have h1 : c q.1 p.1 < 0 := hs.lt (l := q :: l) q (by simp)
    obtain rfl := (O.eq hk hp).1 h
    have h3 := O.flip hq hk h1
    have e : ¬ c p.1 q.1 < 0 := by omega
    simp only [List.cons_append, ins, if_neg e, if_pos h3]
    rw [ins_mid O hk v hp r h l hs.tail]
theorem flat_with (O : COrd c S) {k : κ} (hk : S k) (v : ν) : ∀ t : Tr κ ν, Srt c S t.flat → (t.with_ c k v).flat = ins c k v t.flat
  | .nil, _ => rfl
  | .node l a x r, hs => by
    have ha : S a := hs.2 (a, x) (by simp [Tr.flat])
    simp only [Tr.flat] at hs ⊢
    simp only [Tr.with_]
    split
    · rename_i h
      rw [Tr.flat_bal, flat_with O hk v l hs.left, ins_left O hk v (p := (a, x)) ha _ h _ hs]
    split
    · rename_i h
      rw [Tr.flat_bal, flat_with O hk v r hs.right.tail, ins_right O hk v (p := (a, x)) ha _ h _ hs]
    · rw [ins_mid O hk v (p := (a, x)) ha _ (show c k a = 0 by omega) _ hs]; rfl
theorem mem_ins {k : κ} {v : ν} {q : κ × ν} : ∀ l : List (κ × ν), q ∈ ins c k v l → q = (k, v) ∨ q ∈ l
  | [], h => by simp [ins] at h; exact .inl h
  | p :: l, h => by
    simp only [ins] at h
    split at h
    · rcases List.mem_cons.1 h with h | h
      · exact .inl h
      · exact .inr h
    split at h
    · rcases List.mem_cons.1 h with h | h
      · exact .inr (by simp [h])
      · rcases mem_ins l h with h | h
        · exact .inl h
        · exact .inr (List.mem_cons_of_mem _ h)
    · rcases List.mem_cons.1 h with h | h
      · exact .inl h
      · exact .inr (List.mem_cons_of_mem _ h)
theorem srt_ins (O : COrd c S) {k : κ} (hk : S k) (v : ν) : ∀ l : List (κ × ν), Srt c S l → Srt c S (ins c k v l)
  | [], h => ⟨by simp [ins], by simp [ins]; exact hk⟩
  | p :: l, h => by
    have hp : S p.1 := h.2 p (by simp)
    simp only [ins]
    split
    · rename_i h1
      refine ⟨List.pairwise_cons.2 ⟨fun q hq => ?_, h.1⟩, fun q hq => ?_⟩
      · rcases List.mem_cons.1 hq with rfl | hq
        · exact h1
        · exact O.trans hk hp (h.2 q (List.mem_cons_of_mem _ hq)) h1 (h.gt q hq)
      · rcases List.mem_cons.1 hq with rfl | hq
        · exact hk
        · exact h.2 q hq
    split
    · rename_i h1 h2
      have ih := srt_ins O hk v l h.tail
      refine ⟨List.pairwise_cons.2 ⟨fun q hq => ?_, ih.1⟩, fun q hq => ?_⟩
      · rcases mem_ins l hq with rfl | hq
        · exact (O.anti hp hk).2 h2
        · exact h.gt q hq
      · rcases List.mem_cons.1 hq with rfl | hq
        · exact hp
        · exact ih.2 q hq
    · rename_i h1 h2
      obtain rfl : k = p.1 := (O.eq hk hp).1 (by omega)
      exact ⟨List.pairwise_cons.2 ⟨fun q hq => h.gt q hq, h.tail.1⟩, fun q hq => by
        rcases List.mem_cons.1 hq with rfl | hq
        · exact hk
        · exact h.2 q (List.mem_cons_of_mem _ hq)⟩
theorem look_left (O : COrd c S) {k : κ} (hk : S k) {p : κ × ν} (hp : S p.1) (r : List (κ × ν)) (h : c k p.1 < 0) : ∀ l : List (κ × ν), Srt c S (l ++ p :: r) → look c k (l ++ p :: r) = look c k l
  | [], hs => by
    have h0 : ∀ q ∈ p :: r, c k q.1 ≠ 0 := fun q hq => by
      rcases List.mem_cons.1 hq with rfl | hq
      · omega
      · have := O.trans hk hp (hs.2 q (by simp [hq])) h (Srt.gt (by simpa using hs) q hq)
        omega
    have : ∀ l : List (κ × ν), (∀ q ∈ l, c k q.1 ≠ 0) → look c k l = none := fun l => by
      induction l with
      | nil => intro _; rfl
      | cons q l ih => intro h; simp only [look]; rw [if_neg (h q (by simp)), ih fun q hq => h q (by simp [hq])]
    rw [List.nil_append, this _ h0]; rfl
  | q :: l, hs => by
    simp only [List.cons_append, look]
    rw [look_left O hk hp r h l hs.tail]
theorem look_right (O : COrd c S) {k : κ} (hk : S k) {p : κ × ν} (hp : S p.1) (r : List (κ × ν)) (h : 0 < c k p.1) : ∀ l : List (κ × ν), Srt c S (l ++ p :: r) → look c k (l ++ p :: r) = look c k r
  | [], hs => by simp only [List.nil_append, look]; rw [if_neg (by omega)]
  | q :: l, hs => by
    have hq := hs.2 q (by simp)
    have h1 : c q.1 p.1 < 0 := hs.lt (l := q :: l) q (by simp)
    have h2 : c p.1 k < 0 := (O.anti hp hk).2 h
    have h3 := O.flip hq hk (O.trans hq hp hk h1 h2)
    simp only [List.cons_append, look]
    rw [if_neg (by omega), look_right O hk hp r h l hs.tail]
theorem look_mid (O : COrd c S) {k : κ} (hk : S k) {p : κ × ν} (hp : S p.1) (r : List (κ × ν)) (h : c k p.1 = 0) : ∀ l : List (κ × ν), Srt c S (l ++ p :: r) → look c k (l ++ p :: r) = some p.2
  | [], hs => by simp only [List.nil_append, look]; rw [if_pos h]
  | q :: l, hs => by
    have hq := hs.2 q (by simp)
    have h1 : c q.1 p.1 < 0 := hs.lt (l := q :: l) q (by simp)
    obtain rfl := (O.eq hk hp).1 h
    have h3 := O.flip hq hk h1
    simp only [List.cons_append, look]
    rw [if_neg (by omega), look_mid O hk hp r h l hs.tail]
theorem find_look (O : COrd c S) {k : κ} (hk : S k) : ∀ t : Tr κ ν, Srt c S t.flat → t.find c k = look c k t.flat
  | .nil, _ => rfl
  | .node l a x r, hs => by
    have ha : S a := hs.2 (a, x) (by simp [Tr.flat])
    simp only [Tr.flat] at hs ⊢
    simp only [Tr.find]
    split
    · rename_i h; rw [look_mid O hk (p := (a, x)) ha _ h _ hs]
    split
    · rename_i h1 h; rw [look_left O hk (p := (a, x)) ha _ h _ hs, find_look O hk l hs.left]
    · rename_i h1 h; rw [look_right O hk (p := (a, x)) ha _ (show 0 < c k a by omega) _ hs, find_look O hk r hs.right.tail]
theorem del_left (O : COrd c S) {k : κ} (hk : S k) {p : κ × ν} (hp : S p.1) (r : List (κ × ν)) (h : c k p.1 < 0) : ∀ l : List (κ × ν), Srt c S (l ++ p :: r) → del c k (l ++ p :: r) = del c k l ++ p :: r
  | [], hs => by
    have h0 : ∀ q ∈ p :: r, c k q.1 ≠ 0 := fun q hq => by
      rcases List.mem_cons.1 hq with rfl | hq
      · omega
      · have := O.trans hk hp (hs.2 q (by simp [hq])) h (Srt.gt (by simpa using hs) q hq)
        omega
    have : ∀ l : List (κ × ν), (∀ q ∈ l, c k q.1 ≠ 0) → del c k l = l := fun l => by
      induction l with
      | nil => intro _; rfl
      | cons q l ih => intro h; simp only [del]; rw [if_neg (h q (by simp)), ih fun q hq => h q (by simp [hq])]
    rw [List.nil_append, this _ h0]; rfl
  | q :: l, hs => by
    simp only [List.cons_append, del]
    split
    · rfl
    · rw [del_left O hk hp r h l hs.tail]; rfl
theorem del_right (O : COrd c S) {k : κ} (hk : S k) {p : κ × ν} (hp : S p.1) (r : List (κ × ν)) (h : 0 < c k p.1) : ∀ l : List (κ × ν), Srt c S (l ++ p :: r) → del c k (l ++ p :: r) = l ++ p :: del c k r
  | [], hs => by simp only [List.nil_append, del]; rw [if_neg (by omega)]
  | q :: l, hs => by
    have hq := hs.2 q (by simp)
    have h1 : c q.1 p.1 < 0 := hs.lt (l := q :: l) q (by simp)
    have h2 : c p.1 k < 0 := (O.anti hp hk).2 h
    have h3 := O.flip hq hk (O.trans hq hp hk h1 h2)
    simp only [List.cons_append, del]
    rw [if_neg (by omega), del_right O hk hp r h l hs.tail]
theorem del_mid (O : COrd c S) {k : κ} (hk : S k) {p : κ × ν} (hp : S p.1) (r : List (κ × ν)) (h : c k p.1 = 0) : ∀ l : List (κ × ν), Srt c S (l ++ p :: r) → del c k (l ++ p :: r) = l ++ r
  | [], hs => by simp only [List.nil_append, del]; rw [if_pos h]
  | q :: l, hs => by
    have hq := hs.2 q (by simp)
    have h1 : c q.1 p.1 < 0 := hs.lt (l := q :: l) q (by simp)
    obtain rfl := (O.eq hk hp).1 h
    have h3 := O.flip hq hk h1
    simp only [List.cons_append, del]
    rw [if_neg (by omega), del_mid O hk hp r h l hs.tail]
theorem first_flat : ∀ t : Tr κ ν, t.first = t.flat.head?
  | .nil => rfl
  | .node .nil k v r => rfl
  | .node (.node a b d e) k v r => by
    rw [Tr.first, first_flat (.node a b d e)]
    simp only [Tr.flat]
    cases a.flat <;> rfl
theorem flat_without (O : COrd c S) : ∀ (t : Tr κ ν) {k : κ}, S k → Srt c S t.flat → (t.without c k).flat = del c k t.flat
  | .nil, _, _, _ => rfl
  | .node l a x r, k, hk, hs => by
    have ha : S a := hs.2 (a, x) (by simp [Tr.flat])
    simp only [Tr.flat] at hs ⊢
    simp only [Tr.without]
    split
    · rename_i h
      rw [Tr.flat_bal, flat_without O l hk hs.left, del_left O hk (p := (a, x)) ha _ h _ hs]
    split
    · rename_i h
      rw [Tr.flat_bal, flat_without O r hk hs.right.tail, del_right O hk (p := (a, x)) ha _ h _ hs]
    · rw [del_mid O hk (p := (a, x)) ha _ (show c k a = 0 by omega) _ hs]
      have hf := first_flat r
      cases hr : r.flat with
      | nil => rw [hr] at hf; simp only [hf, List.head?_nil]; simp
      | cons q r' =>
        rw [hr] at hf
        simp only [hf, List.head?_cons]
        have hq : S q.1 := hs.2 q (by simp [hr])
        rw [Tr.flat_bal, flat_without O r hq hs.right.tail, hr]
        simp only [del, O.refl hq, if_true]
theorem mem_del {k : κ} {q : κ × ν} : ∀ l : List (κ × ν), q ∈ del c k l → q ∈ l
  | [], h => h
  | p :: l, h => by
    simp only [del] at h
    split at h
    · exact List.mem_cons_of_mem _ h
    · rcases List.mem_cons.1 h with h | h
      · simp [h]
      · exact List.mem_cons_of_mem _ (mem_del l h)
theorem srt_del {k : κ} : ∀ l : List (κ × ν), Srt c S l → Srt c S (del c k l)
  | [], h => h
  | p :: l, h => by
    simp only [del]
    split
    · exact h.tail
    · have ih := srt_del (k := k) l h.tail
      exact ⟨List.pairwise_cons.2 ⟨fun q hq => h.gt q (mem_del l hq), ih.1⟩, fun q hq => by
        rcases List.mem_cons.1 hq with e | hq
        · rw [e]; exact h.2 p (by simp)
        · exact ih.2 q hq⟩
theorem length_del {k : κ} : ∀ l : List (κ × ν), (del c k l).length ≤ l.length
  | [] => Nat.le_refl _
  | p :: l => by simp only [del]; split; · simp
                 have := length_del (k := k) l; simp; omega
end
end Go.Proofs.YtamjllakfgphnaaGreatDoor
namespace Go.Proofs.YtamjllakfgphnaaGreatDoor
set_option linter.unusedVariables false
abbrev Bs := List UInt8
structure Nm where
  kind : Int
  owner : Bs
  num : Int
  idx : Int
  text : Bs
deriving DecidableEq
def cmpI (a b : Int) : Int := if a < b then -1 else if b < a then 1 else 0
def blt : Bs → Bs → Bool
  | _, [] => false
  | [], _ :: _ => true
  | a :: x, b :: y => a < b || (a == b && blt x y)
def cmpS (a b : Bs) : Int := if blt a b then -1 else if blt b a then 1 else 0
def or3 (a b c : Int) : Int := if a ≠ 0 then a else if b ≠ 0 then b else c
def cmpN (a b : Nm) : Int := if cmpI a.kind b.kind ≠ 0 then cmpI a.kind b.kind else or3 (cmpI a.num b.num) (cmpI a.idx b.idx) (cmpS a.text b.text)
theorem cmpI_eq {a b : Int} : cmpI a b = 0 ↔ a = b := by unfold cmpI; split <;> try split
                                                         all_goals omega
theorem cmpI_lt {a b : Int} : cmpI a b < 0 ↔ a < b := by unfold cmpI; split <;> try split
                                                         all_goals omega
theorem cmpI_gt {a b : Int} : 0 < cmpI a b ↔ b < a := by unfold cmpI; split <;> try split
                                                         all_goals omega
theorem blt_irrefl : ∀ a : Bs, blt a a = false
  | [] => rfl
  | x :: a => by simp [blt, blt_irrefl a, UInt8.lt_irrefl]
theorem blt_asymm : ∀ {a b : Bs}, blt a b = true → blt b a = false
  | _, [], h => by simp [blt] at h
  | [], _ :: _, _ => rfl
  | x :: a, y :: b, h => by
    simp only [blt, Bool.or_eq_true, decide_eq_true_eq, Bool.and_eq_true, beq_iff_eq] at h
    rcases h with h | ⟨rfl, h⟩
    · have h1 : ¬ y < x := fun h2 => UInt8.lt_irrefl x (UInt8.lt_trans h h2)
      have h2 : (y == x) = false := by rw [beq_eq_false_iff_ne]; rintro rfl; exact UInt8.lt_irrefl _ h
      simp [blt, h1, h2]
    · simp [blt, blt_asymm h, UInt8.lt_irrefl]
theorem blt_tri : ∀ {a b : Bs}, blt a b = false → blt b a = false → a = b
  | [], [], _, _ => rfl
  | [], _ :: _, h, _ => by simp [blt] at h
  | _ :: _, [], _, h => by simp [blt] at h
  | x :: a, y :: b, h1, h2 => by
    simp only [blt, Bool.or_eq_false_iff, decide_eq_false_iff_not, Bool.and_eq_false_iff, beq_eq_false_iff_ne] at h1 h2
    have e : x = y := UInt8.le_antisymm (UInt8.not_lt.1 h2.1) (UInt8.not_lt.1 h1.1)
    subst e
    rw [blt_tri (h1.2.resolve_left (by simp)) (h2.2.resolve_left (by simp))]
theorem blt_trans : ∀ {a b c : Bs}, blt a b = true → blt b c = true → blt a c = true
  | _, [], _, h, _ => by simp [blt] at h
  | _, _ :: _, [], _, h => by simp [blt] at h
  | [], _ :: _, _ :: _, _, _ => rfl
  | x :: a, y :: b, z :: c, h1, h2 => by
    simp only [blt, Bool.or_eq_true, decide_eq_true_eq, Bool.and_eq_true, beq_iff_eq] at h1 h2 ⊢
    rcases h1 with h1 | ⟨rfl, h1⟩
    · rcases h2 with h2 | ⟨rfl, h2⟩
      · exact .inl (UInt8.lt_trans h1 h2)
      · exact .inl h1
    · rcases h2 with h2 | ⟨rfl, h2⟩
      · exact .inl h2
      · exact .inr ⟨rfl, blt_trans h1 h2⟩
theorem cmpS_lt {a b : Bs} : cmpS a b < 0 ↔ blt a b = true := by
  unfold cmpS
  cases h1 : blt a b with
  | true => simp
  | false => cases h2 : blt b a <;> simp
theorem cmpS_gt {a b : Bs} : 0 < cmpS a b ↔ blt b a = true := by
  unfold cmpS
  cases h1 : blt a b with
  | true => simp [blt_asymm h1]
  | false => cases h2 : blt b a <;> simp
def OwnE (n : Nm) : Prop := n.owner = []
theorem cmpN_lt {a b : Nm} : cmpN a b < 0 ↔ a.kind < b.kind ∨ (a.kind = b.kind ∧ (a.num < b.num ∨ (a.num = b.num ∧ (a.idx < b.idx ∨ (a.idx = b.idx ∧ blt a.text b.text = true))))) := by
  have k1 := cmpI_eq (a := a.kind) (b := b.kind)
  have k2 := cmpI_lt (a := a.kind) (b := b.kind)
  have n1 := cmpI_eq (a := a.num) (b := b.num)
  have n2 := cmpI_lt (a := a.num) (b := b.num)
  have i1 := cmpI_eq (a := a.idx) (b := b.idx)
  have i2 := cmpI_lt (a := a.idx) (b := b.idx)
  unfold cmpN or3
  rw [← cmpS_lt]
  split
  · rename_i h; rw [k2]; omega
  split
  · rename_i h h'; rw [n2]; omega
  split
  · rename_i h h' h''; rw [i2]; omega
  · rename_i h h' h''
    have e1 : a.kind = b.kind := by omega
    have e2 : a.num = b.num := by omega
    have e3 : a.idx = b.idx := by omega
    simp [e1, e2, e3]
theorem cmpN_gt {a b : Nm} : 0 < cmpN a b ↔ b.kind < a.kind ∨ (a.kind = b.kind ∧ (b.num < a.num ∨ (a.num = b.num ∧ (b.idx < a.idx ∨ (a.idx = b.idx ∧ blt b.text a.text = true))))) := by
  have k1 := cmpI_eq (a := a.kind) (b := b.kind)
  have k2 := cmpI_gt (a := a.kind) (b := b.kind)
  have n1 := cmpI_eq (a := a.num) (b := b.num)
  have n2 := cmpI_gt (a := a.num) (b := b.num)
  have i1 := cmpI_eq (a := a.idx) (b := b.idx)
  have i2 := cmpI_gt (a := a.idx) (b := b.idx)
  unfold cmpN or3
  rw [← cmpS_gt]
  split
  · rename_i h; rw [k2]; omega
  split
  · rename_i h h'; rw [n2]; omega
  split
  · rename_i h h' h''; rw [i2]; omega
  · rename_i h h' h''
    have e1 : a.kind = b.kind := by omega
    have e2 : a.num = b.num := by omega
    have e3 : a.idx = b.idx := by omega
    simp [e1, e2, e3]
theorem cmpN_eq {a b : Nm} (h : a.owner = b.owner) : cmpN a b = 0 ↔ a = b := by
  constructor
  · intro h0
    have h1 := fun x => Int.ne_of_lt (cmpN_lt.2 x) h0
    have h2 := fun x => Int.ne_of_gt (cmpN_gt.2 x) h0
    have e1 : a.kind = b.kind := by
      rcases Int.lt_trichotomy a.kind b.kind with x | x | x
      · exact (h1 (.inl x)).elim
      · exact x
      · exact (h2 (.inl x)).elim
    have e2 : a.num = b.num := by
      rcases Int.lt_trichotomy a.num b.num with x | x | x
      · exact (h1 (.inr ⟨e1, .inl x⟩)).elim
      · exact x
      · exact (h2 (.inr ⟨e1, .inl x⟩)).elim
    have e3 : a.idx = b.idx := by
      rcases Int.lt_trichotomy a.idx b.idx with x | x | x
      · exact (h1 (.inr ⟨e1, .inr ⟨e2, .inl x⟩⟩)).elim
      · exact x
      · exact (h2 (.inr ⟨e1, .inr ⟨e2, .inl x⟩⟩)).elim
    have e4 : a.text = b.text := by
      refine blt_tri ?_ ?_
      · exact Bool.eq_false_iff.2 fun x => (h1 (.inr ⟨e1, .inr ⟨e2, .inr ⟨e3, x⟩⟩⟩)).elim
      · exact Bool.eq_false_iff.2 fun x => (h2 (.inr ⟨e1, .inr ⟨e2, .inr ⟨e3, x⟩⟩⟩)).elim
    cases a; cases b; simp_all
  · rintro rfl
    have h1 : ¬ cmpN a a < 0 := fun h => by have := cmpN_lt.1 h; simp [blt_irrefl] at this
    have h2 : ¬ 0 < cmpN a a := fun h => by have := cmpN_gt.1 h; simp [blt_irrefl] at this
    omega
theorem ordN : COrd cmpN OwnE where
  eq ha hb := cmpN_eq (ha.trans hb.symm)
  anti {a b} ha hb := by
    rw [cmpN_lt, cmpN_gt]
    constructor
    · rintro (h | ⟨h, h' | ⟨h', h'' | ⟨h'', h4⟩⟩⟩)
      · exact .inl h
      · exact .inr ⟨h.symm, .inl h'⟩
      · exact .inr ⟨h.symm, .inr ⟨h'.symm, .inl h''⟩⟩
      · exact .inr ⟨h.symm, .inr ⟨h'.symm, .inr ⟨h''.symm, h4⟩⟩⟩
    · rintro (h | ⟨h, h' | ⟨h', h'' | ⟨h'', h4⟩⟩⟩)
      · exact .inl h
      · exact .inr ⟨h.symm, .inl h'⟩
      · exact .inr ⟨h.symm, .inr ⟨h'.symm, .inl h''⟩⟩
      · exact .inr ⟨h.symm, .inr ⟨h'.symm, .inr ⟨h''.symm, h4⟩⟩⟩
  trans {a b d} ha hb hd := by
    rw [cmpN_lt, cmpN_lt, cmpN_lt]
    rintro (h | ⟨h, h' | ⟨h', h'' | ⟨h'', h4⟩⟩⟩) (g | ⟨g, g' | ⟨g', g'' | ⟨g'', g4⟩⟩⟩)
    all_goals first
      | (left; omega)
      | (right; refine ⟨by omega, ?_⟩; left; omega)
      | (right; refine ⟨by omega, ?_⟩; right; refine ⟨by omega, ?_⟩; left; omega)
      | (right; refine ⟨by omega, ?_⟩; right; refine ⟨by omega, ?_⟩; right; exact ⟨by omega, blt_trans h4 g4⟩)
end Go.Proofs.YtamjllakfgphnaaGreatDoor
namespace Go.Proofs.YtamjllakfgphnaaGreatDoor
set_option linter.unusedVariables false
section
variable {κ : Type} (c : κ → κ → Int)
def insU (x : κ) : List κ → List κ
  | [] => [x]
  | a :: l => if c x a < 0 then x :: a :: l else if 0 < c x a then a :: insU x l else a :: l
def sortU (l : List κ) : List κ := l.foldr (insU c) []
def Strict (l : List κ) : Prop := l.Pairwise (fun a b => c a b < 0)
def Weak (l : List κ) : Prop := l.Pairwise (fun a b => c a b ≤ 0)
variable {c} {S : κ → Prop}
theorem mem_insU (O : COrd c S) {x : κ} (hx : S x) {y : κ} : ∀ l : List κ, (∀ a ∈ l, S a) → (y ∈ insU c x l ↔ y = x ∨ y ∈ l)
  | [], _ => by simp [insU]
  | a :: l, h => by
    have ha : S a := h a (by simp)
    have ih := mem_insU O hx (y := y) l fun b hb => h b (by simp [hb])
    simp only [insU]
    split
    · simp
    split
    · simp only [List.mem_cons, ih]
      constructor
      · rintro (h | h | h)
        · exact .inr (.inl h)
        · exact .inl h
        · exact .inr (.inr h)
      · rintro (h | h | h)
        · exact .inr (.inl h)
        · exact .inl h
        · exact .inr (.inr h)
    · obtain rfl : x = a := (O.eq hx ha).1 (by omega)
      simp
theorem mem_sortU (O : COrd c S) {y : κ} : ∀ l : List κ, (∀ a ∈ l, S a) → (y ∈ sortU c l ↔ y ∈ l)
  | [], _ => by simp [sortU]
  | a :: l, h => by
    have ih := fun z => mem_sortU O (y := z) l fun b hb => h b (by simp [hb])
    show y ∈ insU c a (sortU c l) ↔ _
    rw [mem_insU O (h a (by simp)) _ fun b hb => h b (by simp [(ih b).1 hb]), ih y]
    simp
theorem strict_insU (O : COrd c S) {x : κ} (hx : S x) : ∀ l : List κ, (∀ a ∈ l, S a) → Strict c l → Strict c (insU c x l)
  | [], _, _ => by simp [insU, Strict]
  | a :: l, h, hs => by
    have ha : S a := h a (by simp)
    have hl : ∀ b ∈ l, S b := fun b hb => h b (by simp [hb])
    have h1 := List.pairwise_cons.1 hs
    simp only [insU]
    split
    · rename_i hxa
      refine List.pairwise_cons.2 ⟨fun b hb => ?_, hs⟩
      rcases List.mem_cons.1 hb with rfl | hb
      · exact hxa
      · exact O.trans hx ha (hl b hb) hxa (h1.1 b hb)
    split
    · rename_i hxa
      refine List.pairwise_cons.2 ⟨fun b hb => ?_, strict_insU O hx l hl h1.2⟩
      rcases (mem_insU O hx l hl).1 hb with rfl | hb
      · exact (O.anti ha hx).2 hxa
      · exact h1.1 b hb
    · exact hs
theorem strict_sortU (O : COrd c S) : ∀ l : List κ, (∀ a ∈ l, S a) → Strict c (sortU c l)
  | [], _ => by simp [sortU, Strict]
  | a :: l, h => by
    have hl : ∀ b ∈ l, S b := fun b hb => h b (by simp [hb])
    exact strict_insU O (h a (by simp)) _ (fun b hb => hl b ((mem_sortU O l hl).1 hb)) (strict_sortU O l hl)
theorem strict_ext (O : COrd c S) : ∀ {l l' : List κ}, (∀ a ∈ l, S a) → Strict c l → Strict c l' → (∀ a, a ∈ l ↔ a ∈ l') → l = l'
  | [], [], _, _, _, _ => rfl
  | [], b :: l', _, _, _, h => by have := (h b).2 (by simp); simp at this
  | a :: l, [], _, _, _, h => by have := (h a).1 (by simp); simp at this
  | a :: l, b :: l', hS, h1, h2, h => by
    have p1 := List.pairwise_cons.1 h1
    have p2 := List.pairwise_cons.1 h2
    have hS' : ∀ x ∈ b :: l', S x := fun x hx => hS x ((h x).2 hx)
    have ha := hS a (by simp)
    have hb := hS' b (by simp)
    have e : a = b := by
      rcases List.mem_cons.1 ((h a).1 (by simp)) with e | h3
      · exact e
      rcases List.mem_cons.1 ((h b).2 (by simp)) with e | h4
      · exact e.symm
      have h5 := p2.1 a h3
      have h6 := p1.1 b h4
      have := (O.anti hb ha).1 h5
      omega
    subst e
    refine congrArg _ (strict_ext O (fun x hx => hS x (by simp [hx])) p1.2 p2.2 fun x => ⟨fun hx => ?_, fun hx => ?_⟩)
    · rcases List.mem_cons.1 ((h x).1 (by simp [hx])) with rfl | h3
      · have := p1.1 x hx; rw [O.refl ha] at this; omega
      · exact h3
    · rcases List.mem_cons.1 ((h x).2 (by simp [hx])) with rfl | h3
      · have := p2.1 x hx; rw [O.refl ha] at this; omega
      · exact h3
theorem sortU_strict (O : COrd c S) {l : List κ} (hS : ∀ a ∈ l, S a) (h : Strict c l) : sortU c l = l :=
  strict_ext O (fun a ha => hS a ((mem_sortU O l hS).1 ha)) (strict_sortU O l hS) h fun a => mem_sortU O l hS
theorem sortU_perm (O : COrd c S) {l l' : List κ} (hS : ∀ a ∈ l, S a) (h : l'.Perm l) : sortU c l' = sortU c l := by
  have hS' : ∀ a ∈ l', S a := fun a ha => hS a (h.mem_iff.1 ha)
  refine strict_ext O (fun a ha => hS' a ((mem_sortU O l' hS').1 ha)) (strict_sortU O l' hS') (strict_sortU O l hS) fun a => ?_
  rw [mem_sortU O l' hS', mem_sortU O l hS, h.mem_iff]
theorem strict_of_weak (O : COrd c S) {l : List κ} (hS : ∀ a ∈ l, S a) (h : Weak c l) (hn : l.Nodup) : Strict c l := by
  induction l with
  | nil => exact List.Pairwise.nil
  | cons a l ih =>
    have h1 := List.pairwise_cons.1 h
    have h2 := List.nodup_cons.1 hn
    refine List.pairwise_cons.2 ⟨fun b hb => ?_, ih (fun x hx => hS x (by simp [hx])) h1.2 h2.2⟩
    have h3 := h1.1 b hb
    have h4 : c a b ≠ 0 := fun e => h2.1 ((O.eq (hS a (by simp)) (hS b (by simp [hb]))).1 e ▸ hb)
    omega
def compact [DecidableEq κ] : List κ → List κ
  | [] => []
  | a :: l => match l with
    | [] => [a]
    | b :: r => if a = b then compact (b :: r) else a :: compact (b :: r)
end
end Go.Proofs.YtamjllakfgphnaaGreatDoor
namespace Go.Proofs.YtamjllakfgphnaaGreatDoor
set_option linter.unusedVariables false
structure Ch where
  name : Nm
  value : Bs
  absent : Bool
deriving DecidableEq
structure Ky where
  tick : Int
  cls : Int
  num : Int
  lin : Bs
deriving DecidableEq
structure Ac where
  key : Ky
  reads : List Ch
  writes : List Ch
deriving DecidableEq
structure Ver where
  idx : Int
  value : Bs
  absent : Bool
deriving DecidableEq
abbrev St := List (Nm × Bs)
def obT : Nm := ⟨13, [], 1, 0, []⟩
def obC : Nm := ⟨15, [], 0, 0, []⟩
def obP : Nm := ⟨16, [], 2, 0, []⟩
def obA : Nm := ⟨17, [], 0, 0, [97]⟩
def obB : Nm := ⟨17, [], 0, 0, [98]⟩
def obE : Nm := ⟨20, [], 0, 0, []⟩
def objs : List Nm := [obT, obC, obP, obA, obB, obE]
def IsOb (n : Nm) : Prop := n ∈ objs
theorem IsOb.own {n : Nm} (h : IsOb n) : OwnE n := by
  unfold IsOb objs at h
  simp only [List.mem_cons, List.not_mem_nil, or_false] at h
  rcases h with rfl | rfl | rfl | rfl | rfl | rfl <;> rfl
theorem ordO : COrd cmpN IsOb where
  eq ha hb := ordN.eq ha.own hb.own
  anti ha hb := ordN.anti ha.own hb.own
  trans ha hb hd := ordN.trans ha.own hb.own hd.own
def app1 (s : St) (c : Ch) : St := if c.absent then del cmpN c.name s else ins cmpN c.name c.value s
def appS (s : St) (l : List Ch) : St := l.foldl app1 s
def StOk (s : St) : Prop := Srt cmpN IsOb s
theorem app1_ok {s : St} {c : Ch} (h : StOk s) (hc : IsOb c.name) : StOk (app1 s c) := by
  unfold app1
  split
  · exact srt_del s h
  · exact srt_ins ordO hc _ s h
theorem srt_nodup {s : St} (h : StOk s) : (s.map Prod.fst).Nodup := by
  unfold List.Nodup
  rw [List.pairwise_map]
  refine h.1.imp_of_mem ?_
  intro a b ha hb hab e
  have := ordO.refl (h.2 a ha)
  rw [← e, this] at hab
  omega
theorem nodup_len {α : Type} [BEq α] [LawfulBEq α] : ∀ {l l' : List α}, l.Nodup → l ⊆ l' → l.length ≤ l'.length
  | [], _, _, _ => Nat.zero_le _
  | a :: l, l', h, hs => by
    have h1 := List.nodup_cons.1 h
    have ha : a ∈ l' := hs (by simp)
    have ih := nodup_len (l := l) (l' := l'.erase a) h1.2 (fun x hx => (List.mem_erase_of_ne (fun e => h1.1 (by rw [← e]; exact hx))).2 (hs (by simp [hx])))
    rw [List.length_erase_of_mem ha] at ih
    have : 0 < l'.length := List.length_pos_of_mem ha
    simp; omega
theorem st_six {s : St} (h : StOk s) : s.length ≤ 6 := by
  have h1 := srt_nodup h
  have h2 : (s.map Prod.fst) ⊆ objs := by
    intro n hn
    obtain ⟨p, hp, rfl⟩ := List.mem_map.1 hn
    exact h.2 p hp
  have := nodup_len h1 h2
  simpa [objs] using this
def okN (n : Nm) : Bool := decide (n ∈ objs)
def okCh (c : Ch) : Bool := okN c.name && decide (c.value.length ≤ 65536) && !(c.absent && !c.value.isEmpty)
def ordCh : List Ch → Bool
  | [] => true
  | c :: l => okCh c && (match l with | [] => true | d :: _ => decide (cmpN c.name d.name < 0)) && ordCh l
def okKy (k : Ky) : Bool := decide (0 ≤ k.tick) && (decide (k.cls = 2) || decide (1 ≤ k.num))
def okAc (a : Ac) : Bool := okKy a.key && ordCh a.reads && ordCh a.writes
def or4 (a b c d : Int) : Int := if or3 a b c ≠ 0 then or3 a b c else d
def cmpK (a b : Ky) : Int := or4 (cmpI a.tick b.tick) (cmpI a.cls b.cls) (cmpI a.num b.num) (cmpS a.lin b.lin)
def lin5 : List Bs := [[], [49], [50], [50, 46, 49], [51]]
def KyR (k : Ky) : Prop := (-1 ≤ k.tick ∧ k.tick ≤ 100) ∧ k.lin ∈ lin5 ∧ ((k.cls = 0 ∧ 1 ≤ k.num ∧ k.num ≤ 256 ∧ k.lin = []) ∨ (k.cls = 2 ∧ k.num = 0 ∧ k.lin ≠ []))
def vers (n : Nm) : Nat → List Ac → List Ver
  | _, [] => []
  | i, a :: l => ((a.writes.filter fun c => c.name == n).map fun c => ⟨i, c.value, c.absent⟩) ++ vers n (i + 1) l
def rdrs (n : Nm) : Nat → List Ac → List Int
  | _, [] => []
  | i, a :: l => ((a.reads.filter fun c => c.name == n).map fun _ => (i : Int)) ++ rdrs n (i + 1) l
def ver0 (s : St) (n : Nm) : Ver := ⟨-1, (look cmpN n s).getD [], (look cmpN n s).isNone⟩
def verL (s : St) (l : List Ac) (n : Nm) : List Ver := ver0 s n :: vers n 0 l
def befr (index : Int) : Ver → List Ver → Ver
  | v, [] => v
  | v, u :: l => befr index (if u.idx < index then u else v) l
theorem vers_snoc (n : Nm) (a : Ac) : ∀ (i : Nat) (l : List Ac), vers n i (l ++ [a]) = vers n i l ++ (a.writes.filter fun c => c.name == n).map fun c => ⟨((i + l.length : Nat) : Int), c.value, c.absent⟩
  | i, [] => by simp [vers]
  | i, b :: l => by
    have ih := vers_snoc n a (i + 1) l
    simp only [List.cons_append, vers, ih, List.append_assoc, List.length_cons]
    rw [show i + 1 + l.length = i + (l.length + 1) by omega]
theorem rdrs_snoc (n : Nm) (a : Ac) : ∀ (i : Nat) (l : List Ac), rdrs n i (l ++ [a]) = rdrs n i l ++ (a.reads.filter fun c => c.name == n).map fun _ => ((i + l.length : Nat) : Int)
  | i, [] => by simp [rdrs]
  | i, b :: l => by
    have ih := rdrs_snoc n a (i + 1) l
    simp only [List.cons_append, rdrs, ih, List.append_assoc, List.length_cons]
    rw [show i + 1 + l.length = i + (l.length + 1) by omega]
theorem vers_idx (n : Nm) : ∀ (i : Nat) (l : List Ac), ∀ v ∈ vers n i l, (i : Int) ≤ v.idx ∧ v.idx < i + l.length
  | i, [], v, h => by simp [vers] at h
  | i, a :: l, v, h => by
    simp only [vers, List.mem_append, List.mem_map] at h
    rcases h with ⟨c, _, rfl⟩ | h
    · simp; omega
    · have := vers_idx n (i + 1) l v h
      simp at this ⊢
      omega
theorem ord_nodup : ∀ {l : List Ch}, ordCh l = true → l.Pairwise (fun a b => cmpN a.name b.name < 0) ∧ ∀ c ∈ l, okCh c = true
  | [], _ => ⟨List.Pairwise.nil, by simp⟩
  | c :: l, h => by
    simp only [ordCh, Bool.and_eq_true] at h
    obtain ⟨⟨h1, h2⟩, h3⟩ := h
    obtain ⟨ih1, ih2⟩ := ord_nodup h3
    refine ⟨List.pairwise_cons.2 ⟨?_, ih1⟩, fun d hd => ?_⟩
    · cases l with
      | nil => intro d hd; simp at hd
      | cons d r =>
        simp only [decide_eq_true_eq] at h2
        have o : ∀ x : Ch, okCh x = true → IsOb x.name := fun x hx => by
          simp only [okCh, okN, Bool.and_eq_true, decide_eq_true_eq] at hx
          exact hx.1.1
        intro e he
        rcases List.mem_cons.1 he with rfl | he
        · exact h2
        · exact ordO.trans (o c h1) (o d (ih2 d (by simp))) (o e (ih2 e (by simp [he]))) h2 ((List.pairwise_cons.1 ih1).1 e he)
    · rcases List.mem_cons.1 hd with rfl | hd
      · exact h1
      · exact ih2 d hd
theorem okCh_ob {x : Ch} (hx : okCh x = true) : IsOb x.name := by
  simp only [okCh, okN, Bool.and_eq_true, decide_eq_true_eq] at hx
  exact hx.1.1
theorem ord_one {l : List Ch} (h : ordCh l = true) (n : Nm) : (l.filter fun c => c.name == n).length ≤ 1 := by
  obtain ⟨h1, h2⟩ := ord_nodup h
  have h3 : (l.filter fun c => c.name == n).Pairwise (fun a b => cmpN a.name b.name < 0) := h1.filter _
  cases hl : l.filter fun c => c.name == n with
  | nil => simp
  | cons a r =>
    cases r with
    | nil => simp
    | cons b r =>
      have ha : a ∈ l.filter fun c => c.name == n := by rw [hl]; simp
      have hb : b ∈ l.filter fun c => c.name == n := by rw [hl]; simp
      rw [List.mem_filter] at ha hb
      have e1 : a.name = n := by simpa using ha.2
      have e2 : b.name = n := by simpa using hb.2
      rw [hl] at h3
      have := (List.pairwise_cons.1 h3).1 b (by simp)
      have r0 := ordO.refl (okCh_ob (h2 a ha.1))
      rw [e2, ← e1, r0] at this
      omega
end Go.Proofs.YtamjllakfgphnaaGreatDoor
namespace Go.Proofs.YtamjllakfgphnaaGreatDoor
set_option linter.unusedVariables false
def Inc (l : List Ver) : Prop := l.Pairwise (fun a b => a.idx < b.idx)
theorem befr_append (i : Int) : ∀ (v : Ver) (l r : List Ver), befr i v (l ++ r) = befr i (befr i v l) r
  | v, [], r => rfl
  | v, u :: l, r => by simp only [List.cons_append, befr]; exact befr_append i _ l r
theorem befr_stay (i : Int) : ∀ (v : Ver) (l : List Ver), (∀ u ∈ l, i ≤ u.idx) → befr i v l = v
  | v, [], _ => rfl
  | v, u :: l, h => by
    have := h u (by simp)
    simp only [befr]
    rw [if_neg (by omega)]
    exact befr_stay i v l fun x hx => h x (by simp [hx])
theorem befr_last (i : Int) : ∀ (v : Ver) (l : List Ver), (∀ u ∈ l, u.idx < i) → befr i v l = (v :: l).getLast (by simp)
  | v, [], _ => rfl
  | v, u :: l, h => by
    simp only [befr]
    rw [if_pos (h u (by simp)), befr_last i u l fun x hx => h x (by simp [hx])]
    simp
theorem vers_inc (n : Nm) : ∀ (i : Nat) (l : List Ac), (∀ a ∈ l, ordCh a.writes = true) → Inc (vers n i l)
  | i, [], _ => List.Pairwise.nil
  | i, a :: l, h => by
    simp only [vers]
    refine List.pairwise_append.2 ⟨?_, vers_inc n (i + 1) l fun b hb => h b (by simp [hb]), ?_⟩
    · have := ord_one (h a (by simp)) n
      generalize (a.writes.filter fun c => c.name == n) = f at this ⊢
      match f, this with
      | [], _ => simp
      | [c], _ => simp
      | c :: d :: r, h => simp at h
    · intro x hx y hy
      obtain ⟨c, _, rfl⟩ := List.mem_map.1 hx
      have := vers_idx n (i + 1) l y hy
      simp at this ⊢
      omega
def srch (l : List Ver) (i : Int) : Nat := (l.takeWhile fun v => decide (v.idx < i)).length
theorem srch_le (l : List Ver) (i : Int) : srch l i ≤ l.length := (List.takeWhile_prefix _).length_le
theorem srch_split {l : List Ver} (h : Inc l) (i : Int) : (∀ u ∈ l.take (srch l i), u.idx < i) ∧ ∀ u ∈ l.drop (srch l i), i ≤ u.idx := by
  induction l with
  | nil => simp [srch]
  | cons a l ih =>
    have h1 := List.pairwise_cons.1 h
    obtain ⟨ih1, ih2⟩ := ih h1.2
    unfold srch
    by_cases ha : a.idx < i
    · rw [List.takeWhile_cons_of_pos (by simpa using ha)]
      simp only [List.length_cons, List.take_succ_cons, List.drop_succ_cons]
      refine ⟨fun u hu => ?_, ih2⟩
      rcases List.mem_cons.1 hu with rfl | hu
      · exact ha
      · exact ih1 u hu
    · rw [List.takeWhile_cons_of_neg (by simpa using ha)]
      simp only [List.length_nil, List.take_zero, List.drop_zero]
      refine ⟨by simp, fun u hu => ?_⟩
      rcases List.mem_cons.1 hu with rfl | hu
      · omega
      · have := h1.1 u hu; omega
theorem found_eq (v0 : Ver) {l : List Ver} (h : Inc l) (i : Int) : befr i v0 l = if 0 < srch l i then l.getD (srch l i - 1) v0 else v0 := by
  obtain ⟨h1, h2⟩ := srch_split h i
  have e : befr i v0 l = befr i v0 (l.take (srch l i) ++ l.drop (srch l i)) := by rw [List.take_append_drop]
  rw [e, befr_append, befr_stay i _ _ h2, befr_last i _ _ h1]
  have hle := srch_le l i
  split
  · rename_i hp
    have hne : l.take (srch l i) ≠ [] := by
      intro he
      have := congrArg List.length he
      rw [List.length_take, List.length_nil] at this
      omega
    rw [List.getLast_cons hne, List.getLast_eq_getElem]
    simp only [List.length_take, List.getElem_take, Nat.min_eq_left hle]
    have hll : srch l i - 1 < l.length := by omega
    rw [List.getD_eq_getElem?_getD, List.getElem?_eq_getElem hll, Option.getD_some]
  · rename_i hp
    have : srch l i = 0 := by omega
    simp [this]
end Go.Proofs.YtamjllakfgphnaaGreatDoor
namespace Go.Proofs.YtamjllakfgphnaaGreatDoor
set_option linter.unusedVariables false
section
variable {κ : Type} {c : κ → κ → Int} {S : κ → Prop}
theorem COrd.wtrans (O : COrd c S) {a b d : κ} (ha : S a) (hb : S b) (hd : S d) (h1 : c a b ≤ 0) (h2 : c b d ≤ 0) : c a d ≤ 0 := by
  by_cases e1 : c a b = 0
  · rw [(O.eq ha hb).1 e1]; exact h2
  by_cases e2 : c b d = 0
  · rw [← (O.eq hb hd).1 e2]; exact h1
  · exact Int.le_of_lt (O.trans ha hb hd (by omega) (by omega))
theorem COrd.le_of_not (O : COrd c S) {a b : κ} (ha : S a) (hb : S b) (h : ¬ c a b < 0) : c b a ≤ 0 := by
  have := O.anti ha hb
  by_cases e : 0 < c b a
  · exact absurd (this.2 e) h
  · omega
theorem weak_exit (O : COrd c S) {p0 p2 : List κ} {x y : κ} (hS : ∀ a ∈ p0 ++ [y] ++ x :: p2, S a) (hw : Weak c (p0 ++ [y] ++ p2)) (hx : ∀ e ∈ p2, c x e < 0) (hc : ¬ c x y < 0) : Weak c (p0 ++ [y] ++ x :: p2) := by
  have sx : S x := hS x (by simp)
  have sy : S y := hS y (by simp)
  obtain ⟨h1, h2, h3⟩ := List.pairwise_append.1 hw
  have hyx := O.le_of_not sx sy hc
  refine List.pairwise_append.2 ⟨h1, List.pairwise_cons.2 ⟨fun e he => Int.le_of_lt (hx e he), h2⟩, fun a ha b hb => ?_⟩
  rcases List.mem_cons.1 hb with rfl | hb
  · rcases List.mem_append.1 ha with ha | ha
    · exact O.wtrans (hS a (by simp [ha])) sy sx ((List.pairwise_append.1 h1).2.2 a ha y (by simp)) hyx
    · simp at ha; rw [ha]; exact hyx
  · exact h3 a ha b hb
end
theorem take_mid {α : Type} (p1 p2 r : List α) (x : α) (k : Nat) (h : p1.length + p2.length = k) : (p1 ++ x :: p2 ++ r).take (k + 1) = p1 ++ x :: p2 := by
  have : (p1 ++ x :: p2).length = k + 1 := by simp; omega
  rw [← this, List.take_left]
end Go.Proofs.YtamjllakfgphnaaGreatDoor
namespace Go.Proofs.YtamjllakfgphnaaGreatDoor
set_option linter.unusedVariables false
structure It where
  which : Int
  value : Bs
  absent : Bool
structure Act where
  wait : Int
  num : Int
  reads : List It
  writes : List It
  spoil : Int
def hit (i : Nat) (it : It) : Bool := it.which % 6 == (i : Int)
end Go.Proofs.YtamjllakfgphnaaGreatDoor
namespace Go.Proofs.YtamjllakfgphnaaGreatDoor
set_option linter.unusedVariables false
end Go.Proofs.YtamjllakfgphnaaGreatDoor
namespace Go.Proofs.YtamjllakfgphnaaGreatDoor
set_option linter.unusedVariables false
def badN : Nm := ⟨99, [], 0, 0, []⟩
def ChR (c : Ch) : Prop := (IsOb c.name ∨ c.name = badN) ∧ c.value.length ≤ 65537
theorem ChR.own {c : Ch} (h : ChR c) : c.name.owner = [] := by
  rcases h.1 with h | h
  · exact h.own
  · rw [h]; rfl
def OrdTo (l : List Ch) (k : Nat) : Prop := ∀ j (hj : j < l.length), j < k → okCh l[j] = true ∧ ∀ m, (e : j = m + 1) → cmpN (l[m]'(by omega)).name l[j].name < 0
theorem ordCh_of : ∀ {l : List Ch}, OrdTo l l.length → ordCh l = true
  | [], _ => rfl
  | [c], h => by
    have := (h 0 (by simp) (by simp)).1
    simp only [List.getElem_cons_zero] at this
    simp [ordCh, this]
  | c :: d :: l, h => by
    have h0 := (h 0 (by simp) (by simp)).1
    have h1 := (h 1 (by simp) (by simp)).2 0 rfl
    simp only [List.getElem_cons_zero, List.getElem_cons_succ] at h0 h1
    have ih := ordCh_of (l := d :: l) (fun j hj hk => by
      have h2 := h (j + 1) (by simpa using hj) (by simpa using hj)
      refine ⟨by simpa using h2.1, fun m e => ?_⟩
      have h3 := h2.2 (m + 1) (by omega)
      simpa using h3)
    unfold ordCh
    simp [h0, h1, ih]
theorem ordCh_get : ∀ {l : List Ch}, ordCh l = true → OrdTo l l.length
  | [], _ => fun j hj => by simp at hj
  | [c], h => fun j hj _ => by
    have e : j = 0 := by simpa using hj
    subst e
    simp [ordCh] at h
    exact ⟨h, fun m e => by omega⟩
  | c :: d :: l, h => fun j hj _ => by
    rw [ordCh] at h
    simp only [Bool.and_eq_true, decide_eq_true_eq] at h
    obtain ⟨⟨h1, h2⟩, h3⟩ := h
    have ih := ordCh_get h3
    cases j with
    | zero => exact ⟨h1, fun m e => by omega⟩
    | succ j =>
      have hj2 : j < (d :: l).length := by simpa using hj
      have h4 := ih j hj2 hj2
      refine ⟨by simpa using h4.1, fun m e => ?_⟩
      have em : m = j := by omega
      subst em
      cases m with
      | zero => simpa using h2
      | succ m => simpa using h4.2 m rfl
theorem ordCh_bad {l : List Ch} {k : Nat} (hk : k < l.length) (h : okCh l[k] = false) : ordCh l = false := by
  cases ho : ordCh l with
  | false => rfl
  | true =>
    have := (ordCh_get ho k hk hk).1
    rw [h] at this
    cases this
theorem ordCh_bad2 {l : List Ch} {m : Nat} (hk : m + 1 < l.length) (h : 0 ≤ cmpN l[m].name l[m + 1].name) : ordCh l = false := by
  cases ho : ordCh l with
  | false => rfl
  | true =>
    have := (ordCh_get ho (m + 1) hk hk).2 m rfl
    omega
theorem OrdTo.next {l : List Ch} {k : Nat} (h : OrdTo l k) (hk : k < l.length) (h1 : okCh l[k] = true) (h2 : ∀ m, (e : k = m + 1) → cmpN (l[m]'(by omega)).name l[k].name < 0) : OrdTo l (k + 1) := by
  intro j hj hjk
  by_cases e : j = k
  · subst e; exact ⟨h1, h2⟩
  · exact h j hj (by omega)
theorem okCh_parts {c : Ch} (h1 : IsOb c.name) (h2 : c.value.length ≤ 65536) (h3 : c.absent = true → c.value = []) : okCh c = true := by
  unfold okCh okN
  have h4 : decide (c.name ∈ objs) = true := decide_eq_true h1
  rw [h4, decide_eq_true h2]
  cases ha : c.absent with
  | false => rfl
  | true => rw [h3 ha]; rfl
theorem okCh_no1 {c : Ch} (h : ¬ IsOb c.name) : okCh c = false := by
  unfold okCh okN
  have h4 : decide (c.name ∈ objs) = false := decide_eq_false h
  rw [h4]; rfl
theorem okCh_no2 {c : Ch} (h : 65536 < c.value.length) : okCh c = false := by
  unfold okCh
  rw [decide_eq_false (by omega : ¬ c.value.length ≤ 65536)]
  simp
theorem okCh_no3 {c : Ch} (h : c.absent = true) (h2 : c.value ≠ []) : okCh c = false := by
  unfold okCh
  have : c.value.isEmpty = false := by
    cases e : c.value with
    | nil => exact absurd e h2
    | cons a l => rfl
  rw [h, this]
  simp
end Go.Proofs.YtamjllakfgphnaaGreatDoor
namespace Go.Proofs.YtamjllakfgphnaaGreatDoor
section
variable {P : Program} {ops : Array Oper} {Q : Exit → Go.Act → World → Prop} {md : Region.Mode} {st : Nat}
def aft (ops : Array Oper) (j : Nat) : Array Edge := ((ops[j]?).map (·.after)).getD #[]
def lastOk (md : Region.Mode) (ops : Array Oper) (st : Nat) : Bool :=
  decide (st < ops.size) && (List.range ops.size).all fun j =>
    ((aft ops j).toList.all fun e => !Region.binds md e || (decide (e.on < j) && !decide (e.on = st))) &&
    (decide (j = st) || (List.range ops.size).any fun k => decide (j < k) && (aft ops k).toList.any fun e => Region.binds md e && decide (e.on = j))
theorem aft_of {j : Nat} {o : Oper} (h : ops[j]? = some o) : aft ops j = o.after := by unfold aft; rw [h]; rfl
theorem last_spec (h : lastOk md ops st = true) : st < ops.size ∧ ∀ j, j < ops.size → (∀ e ∈ aft ops j, Region.binds md e = true → e.on < j ∧ e.on ≠ st) ∧ (j ≠ st → ∃ k, k < ops.size ∧ j < k ∧ ∃ e ∈ aft ops k, Region.binds md e = true ∧ e.on = j) := by
  unfold lastOk at h
  rw [Bool.and_eq_true, decide_eq_true_eq, List.all_eq_true] at h
  refine ⟨h.1, fun j hj => ?_⟩
  have h2 := h.2 j (List.mem_range.2 hj)
  rw [Bool.and_eq_true, List.all_eq_true, Bool.or_eq_true, decide_eq_true_eq, List.any_eq_true] at h2
  refine ⟨fun e he hb => ?_, fun hne => ?_⟩
  · have := h2.1 e (by simpa using he)
    rw [hb] at this
    simpa using this
  · rcases h2.2 with h3 | ⟨k, hk, h3⟩
    · exact absurd h3 hne
    · rw [Bool.and_eq_true, decide_eq_true_eq, List.any_eq_true] at h3
      obtain ⟨hjk, e, he, h4⟩ := h3
      rw [Bool.and_eq_true, decide_eq_true_eq] at h4
      exact ⟨k, List.mem_range.1 hk, hjk, e, by simpa using he, h4⟩
def Closed (md : Region.Mode) (ops : Array Oper) (listed : Array Bool) : Prop :=
  listed.size = ops.size ∧ ∀ k, k < ops.size → listed.getD k false = true → ∀ e ∈ aft ops k, Region.binds md e = true → listed.getD e.on false = true
theorem Closed.set {listed : Array Bool} {i : Nat} (h : Closed md ops listed) (hi : i ∈ Region.ready md ops listed) : Closed md ops (listed.setIfInBounds i true) := by
  refine ⟨by simp [h.1], fun k hk hl e he hb => ?_⟩
  by_cases hik : i = k
  · subst hik
    obtain ⟨_, o, ho, hall⟩ := mem_ready.1 hi
    rw [aft_of ho] at he
    exact getD_set_true (hall e he hb)
  · rw [getD_set_ne false hik] at hl
    exact getD_set_true (h.2 k hk hl e he hb)
theorem getD_true_false {listed : Array Bool} {j : Nat} (hj : j < listed.size) : listed.getD j true = listed.getD j false := by
  simp [Array.getD, hj]
theorem all_before (hl : lastOk md ops st = true) {listed : Array Bool} (hc : Closed md ops listed) (hr : st ∈ Region.ready md ops listed) : ∀ n j, j < ops.size → ops.size - j ≤ n → j ≠ st → listed.getD j false = true
  | 0, j, hj, hn, _ => by omega
  | n + 1, j, hj, hn, hne => by
    obtain ⟨k, hk, hjk, e, he, hb, rfl⟩ := ((last_spec hl).2 j hj).2 hne
    by_cases hks : k = st
    · subst hks
      obtain ⟨_, o, ho, hall⟩ := mem_ready.1 hr
      rw [aft_of ho] at he
      exact hall e he hb
    · exact hc.2 k hk (all_before hl hc hr n k hk (by omega) hks) e he hb
theorem all_listed (hl : lastOk md ops st = true) {listed : Array Bool} (hsz : listed.size = ops.size) (hr : ∀ j, j ≠ st → j ∉ Region.ready md ops listed) : ∀ j, j < ops.size → j ≠ st → listed.getD j false = true := by
  intro j
  induction j using Nat.strongRecOn with
  | _ j ih =>
    intro hj hne
    cases hlj : listed.getD j false with
    | true => rfl
    | false =>
      refine absurd ?_ (hr j hne)
      rw [mem_ready]
      refine ⟨by rw [getD_true_false (by omega)]; exact hlj, ops[j], Array.getElem?_eq_getElem hj, fun e he hb => ?_⟩
      have := ((last_spec hl).2 j hj).1 e (by rw [aft_of (Array.getElem?_eq_getElem hj)]; exact he) hb
      exact ih e.on this.1 (by omega) this.2
theorem ready_set (hl : lastOk md ops st = true) {listed : Array Bool} {j : Nat} (hne : j ≠ st) : j ∈ Region.ready md ops (listed.setIfInBounds st true) ↔ j ∈ Region.ready md ops listed := by
  rw [mem_ready, mem_ready, getD_set_ne true (Ne.symm hne)]
  refine and_congr Iff.rfl ⟨fun ⟨o, ho, h⟩ => ⟨o, ho, fun e he hb => ?_⟩, fun ⟨o, ho, h⟩ => ⟨o, ho, fun e he hb => getD_set_true (h e he hb)⟩⟩
  have hj : j < ops.size := (Array.getElem?_eq_some_iff.1 ho).1
  have := ((last_spec hl).2 j hj).1 e (by rw [aft_of ho]; exact he) hb
  rw [← getD_set_ne false (Ne.symm this.2)]
  exact h e he hb
def LastQ (P : Program) (ops : Array Oper) (Q : Exit → Go.Act → World → Prop) (st : Nat) : Exit → Go.Act → World → Prop
  | .normal, a, w => wpOp P ops Q st (Q .normal) a w
  | e, a, w => Q e a w
theorem wpOp_lastQ {i : Nat} {K : Go.Act → World → Prop} {a : Go.Act} {w : World} (h : wpOp P ops (LastQ P ops Q st) i K a w) : wpOp P ops Q i K a w := by
  unfold wpOp at *
  split
  · simpa [*] using h
  · rename_i o ho
    simp only [ho] at h
    split
    · rename_i hw
      simp only [hw, if_true] at h
      rcases h with h | ⟨h1, a', w', h2⟩
      · left
        unfold Oper.wp at *
        generalize (execOp a.eval o).run P w = r at *
        cases r with
        | ok n w' =>
          cases n <;> simp only [Oper.upon] at h ⊢ <;>
            first
              | exact h
              | exact Calls.mono h (fun e w'' he => by cases e <;> exact he)
              | exact Rows.mono h (fun _ _ he => he)
        | halt x w' => cases x <;> simp only [Oper.upon] at h ⊢ <;> exact h
      · exact .inr ⟨h1, a', w', h2⟩
    · rename_i hw
      simp only [hw] at h
      exact h
theorem ready_nil {listed : Array Bool} (h : ∀ j, j < ops.size → listed.getD j false = true) (hsz : listed.size = ops.size) : Region.ready md ops listed = [] := by
  refine List.eq_nil_iff_forall_not_mem.2 fun j hj => ?_
  obtain ⟨h0, o, ho, _⟩ := mem_ready.1 hj
  have hlt : j < ops.size := (Array.getElem?_eq_some_iff.1 ho).1
  rw [getD_true_false (by omega), h j hlt] at h0
  cases h0
theorem wpAny_end {fuel : Nat} {listed : Array Bool} {a : Go.Act} {w : World} (hr : Region.ready md ops listed = []) (h : Q .normal a w) : wpAny P md ops Q fuel listed a w := by
  cases fuel with
  | zero => exact ⟨hr, h⟩
  | succ n => exact ⟨fun _ => h, by rw [hr]; simp⟩
theorem wpAny_last (hl : lastOk md ops st = true) : ∀ (fuel : Nat) (listed : Array Bool) (a : Go.Act) (w : World), Closed md ops listed → listed.getD st true = false →
    wpAny P md ops (LastQ P ops Q st) fuel (listed.setIfInBounds st true) a w → wpAny P md ops Q (fuel + 1) listed a w := by
  intro fuel
  induction fuel with
  | zero =>
    intro listed a w hc hs h
    have hstl := (last_spec hl).1
    have hall := all_listed hl (listed := listed) hc.1 (fun j hne hj => by
      have := (ready_set hl (listed := listed) hne).2 hj
      rw [h.1] at this; cases this)
    have hrdy : st ∈ Region.ready md ops listed := by
      rw [mem_ready]
      refine ⟨hs, ops[st], Array.getElem?_eq_getElem hstl, fun e he hb => ?_⟩
      have := ((last_spec hl).2 st hstl).1 e (by rw [aft_of (Array.getElem?_eq_getElem hstl)]; exact he) hb
      exact hall e.on (by omega) this.2
    refine ⟨fun h0 => (by rw [h0] at hrdy; cases hrdy), fun i hi => ?_⟩
    by_cases hne : i = st
    · subst hne
      refine wpOp_mono (fun a' w' h' => wpAny_end (ready_nil (fun j hj => ?_) (by simp [hc.1])) h') h.2
      by_cases hji : j = i
      · subst hji; simp [Array.getD, hc.1, hj]
      · rw [getD_set_ne false (Ne.symm hji)]; exact hall j hj hji
    · have := (ready_set hl (listed := listed) hne).2 hi
      rw [h.1] at this; cases this
  | succ fuel ih =>
    intro listed a w hc hs h
    have hstl := (last_spec hl).1
    have fin : st ∈ Region.ready md ops listed → wpOp P ops Q st (wpAny P md ops Q (fuel + 1) (listed.setIfInBounds st true)) a w := by
      intro hr
      have hall := fun j hj hne => all_before hl hc hr (ops.size - j) j hj (Nat.le_refl _) hne
      have hn : Region.ready md ops (listed.setIfInBounds st true) = [] := ready_nil (fun j hj => by
        by_cases hji : j = st
        · subst hji; simp [Array.getD, hc.1, hj]
        · rw [getD_set_ne false (Ne.symm hji)]; exact hall j hj hji) (by simp [hc.1])
      exact wpOp_mono (fun a' w' h' => wpAny_end hn h') (h.1 hn)
    refine ⟨fun h0 => ?_, fun i hi => ?_⟩
    · exfalso
      have hall := all_listed hl (listed := listed) hc.1 (fun j _ hj => by rw [h0] at hj; cases hj)
      have hrdy : st ∈ Region.ready md ops listed := by
        rw [mem_ready]
        refine ⟨hs, ops[st], Array.getElem?_eq_getElem hstl, fun e he hb => ?_⟩
        have := ((last_spec hl).2 st hstl).1 e (by rw [aft_of (Array.getElem?_eq_getElem hstl)]; exact he) hb
        exact hall e.on (by omega) this.2
      rw [h0] at hrdy; cases hrdy
    · by_cases hne : i = st
      · subst hne; exact fin hi
      · have h1 := h.2 i ((ready_set hl hne).2 hi)
        refine wpOp_mono (fun a' w' h' => ih _ a' w' (hc.set hi) (by rw [getD_set_ne true hne]; exact hs) ?_) (wpOp_lastQ h1)
        rw [Array.setIfInBounds_comm _ _ hne]
        exact h'
theorem wp_region_last {S : World → Prop} {id : Nat} {a : Go.Act} {w : World} (st : Nat) (n : Nat) (hn : ops.size = n + 1) (hl : lastOk .any ops st = true) (hm : P.follows .mixedOrders = true) (hS : S w.drew)
    (h : S w.drew → wpAnyH P .any ops (LastQ P ops Q st) S n ((Array.replicate (n + 1) false).setIfInBounds st true) a w.drew) : (Code.region id ops true).wp P Q a w := by
  refine wp_region_any hm ?_
  rw [hn]
  have hc : Closed .any ops (Array.replicate (n + 1) false) := by
    refine ⟨by simp [hn], fun k hk hlk => ?_⟩
    rw [hn] at hk
    simp [Array.getD, hk] at hlk
  refine wpAny_last hl n _ a _ hc ?_ (wpAny_of_held _ _ _ _ (h hS))
  have := (last_spec hl).1
  rw [hn] at this
  simp [Array.getD, this]
theorem lastQ_step {o : Oper} {a : Go.Act} {w : World} (ho : ops[st]? = some o)
    (h : ∀ K' : Go.Act → World → Prop, (∀ a w, Q .normal a w → K' a w) → if Region.wanted o (yielded ops a.tmps) = true then Oper.wp P o a w K' Q else K' (a.put o.dst undef) w) : LastQ P ops Q st .normal a w :=
  wpOp_step ho h
end
end Go.Proofs.YtamjllakfgphnaaGreatDoor
namespace Go.Proofs.YtamjllakfgphnaaGreatDoor
set_option linter.unusedVariables false
theorem wpAnyH_more {P : Program} {md : Region.Mode} {ops : Array Oper} {Q : Exit → Go.Act → World → Prop} {S S' : World → Prop} (hi : ∀ w, S' w → S w) : ∀ {fuel : Nat} {listed : Array Bool} {a : Go.Act} {w : World}, wpAnyH P md ops Q S' fuel listed a w → wpAnyH P md ops Q S fuel listed a w
  | 0, _, _, _, h => h
  | fuel + 1, _, _, _, h => ⟨h.1, fun i hr => wpOp_mono (fun a' w' h' => ⟨hi _ h'.1, wpAnyH_more hi h'.2⟩) (h.2 i hr)⟩
end Go.Proofs.YtamjllakfgphnaaGreatDoor
namespace Go.Proofs.YtamjllakfgphnaaGreatDoor
open Go.RowKit
set_option linter.unusedSimpArgs false
set_option linter.unusedVariables false
def bs (l : Bs) : ByteArray := ⟨l.toArray⟩
theorem bs_list (l : Bs) : (bs l).data.toList = l := by simp [bs]
theorem bs_of (s : ByteArray) : bs s.data.toList = s := by cases s; simp [bs]
theorem bs_size (l : Bs) : (bs l).size = l.length := by simp [bs, ByteArray.size]
theorem bs_inj {a b : Bs} (h : bs a = bs b) : a = b := by have := congrArg (fun x => x.data.toList) h; simpa [bs_list] using this
def Blk (w : World) (g : Nat) (t : TypeId) (cs : Array Value) : Prop := w.heap[g]? = some (.cells cs t (0, 0))
section
variable {w w' : World} {g : Nat} {t : TypeId} {cs : Array Value}
theorem Blk.lt (h : Blk w g t cs) : g < w.heap.size := (Array.getElem?_eq_some_iff.1 h).1
theorem Blk.cell (h : Blk w g t cs) (i : Nat) : w.cell? ⟨g, i, none⟩ = cs[i]? := cell_of_row w g i cs t (0, 0) h
theorem Blk.frozen (h : Blk w g t cs) (i : Nat) : w.frozen? ⟨g, i, none⟩ = false := by
  unfold Blk at h
  simp [World.frozen?, h]
theorem Blk.new (w : World) (t : TypeId) (cs : Array Value) : Blk (w.alloc (.cells cs t)) w.heap.size t cs := heap_alloc_new w _
theorem Blk.drew (h : Blk w g t cs) : Blk w.drew g t cs := h
theorem Blk.drewN (h : Blk w g t cs) (n : Nat) : Blk (w.drewN n) g t cs := h
theorem Blk.alloc (h : Blk w g t cs) (o : Obj) : Blk (w.alloc o) g t cs := (Below.heap_alloc w o g h.lt).trans h
theorem Blk.set_ (h : Blk w g t cs) (i : Nat) (u : Value) : Blk (w.setCell ⟨g, i, none⟩ u) g t (cs.setIfInBounds i u) := by
  unfold Blk at h ⊢
  simp [World.setCell, Array.getElem?_modify, h]
theorem Blk.far (h : Blk w g t cs) {p : Addr} (hp : g ≠ p.block) (u : Value) : Blk (w.setCell p u) g t cs := (Below.heap_setCell w p u g hp).trans h
theorem Blk.next {B : Nat} (h : Blk w g t cs) (hb : Below B w w') (hg : g < B) : Blk w' g t cs := (hb.block g hg).trans h
theorem Blk.grown {row : Option Nat} (h : Blk w g t cs) (hb : w.grownBy w' row) (hg : some g ≠ row) : Blk w' g t cs := (hb.block g h.lt hg).trans h
theorem own_blk_ne {base : Nat} {e : TypeId} {size n : Nat} {v : Value} {xs : List Value} (h : w.ownsRow base e size v n xs) (hg : Blk w g t cs) (hne : e ≠ t) : v.ownBlock ≠ some g := by
  rcases h.2 with ⟨rfl, _⟩ | ⟨g', cap, cur, rfl, _, hh, _⟩
  · simp [Value.ownBlock]
  · intro he
    have : g' = g := by simpa [Value.ownBlock] using he
    subst this
    unfold Blk at hg
    rw [hh] at hg
    injection hg with hg
    injection hg with _ ht
    exact hne ht
end
theorem only_drewN {a w : World} {row : Option Nat} (h : a.grownBy w row) (n : Nat) : a.grownBy (w.drewN n) row := ⟨h.os, h.tape, h.output, h.size, h.block⟩
theorem only_drew {a w : World} {row : Option Nat} (h : a.grownBy w row) : a.grownBy w.drew row := ⟨h.os, h.tape, h.output, h.size, h.block⟩
theorem only_setCell {a w : World} {g : Nat} (h : a.grownBy w (some g)) {p : Addr} (hp : p.block = g ∨ a.heap.size ≤ p.block) (u : Value) : a.grownBy (w.setCell p u) (some g) :=
  ⟨h.os, h.tape, h.output, by simpa [World.setCell] using h.size, fun i hi hne => (Below.heap_setCell w p u i (by
    rintro rfl
    rcases hp with hp | hp
    · exact hne (by rw [hp])
    · omega)).trans (h.block i hi hne)⟩
theorem only_of_below {a w : World} (h : Below a.heap.size a w) (row : Option Nat) : a.grownBy w row := ⟨h.os, h.tape, h.output, h.size, fun i hi _ => h.block i hi⟩
theorem grown_trans {a b c : World} {row : Option Nat} (h : a.grownBy b row) (k : b.grownBy c row) : a.grownBy c row :=
  ⟨k.os.trans h.os, k.tape.trans h.tape, k.output.trans h.output, Nat.le_trans h.size k.size, fun i hi hne => (k.block i (Nat.lt_of_lt_of_le hi h.size) hne).trans (h.block i hi hne)⟩
theorem below_drewN {B : Nat} {a w : World} (h : Below B a w) (n : Nat) : Below B a (w.drewN n) := ⟨h.os, h.tape, h.output, h.size, h.block⟩
theorem bcell {W w1 : World} {B : Nat} (hb : Below B W w1) : (∀ b o, b < B → w1.cell? ⟨b, o, none⟩ = W.cell? ⟨b, o, none⟩) ∧ (∀ b o, b < B → w1.frozen? ⟨b, o, none⟩ = W.frozen? ⟨b, o, none⟩) :=
  ⟨fun b o h => hb.cell (p := ⟨b, o, none⟩) h, fun b o h => hb.frozen (p := ⟨b, o, none⟩) h⟩
theorem own_next {w w' : World} {base : Nat} {e : TypeId} {size : Nat} {v : Value} {n : Nat} {xs : List Value} (h : w.ownsRow base e size v n xs) (hb : Below w.heap.size w w') : w'.ownsRow base e size v n xs := by
  obtain ⟨h1, h2⟩ := h
  refine ⟨h1, ?_⟩
  rcases h2 with h2 | ⟨g, cap, cur, hv, hg, hh, r⟩
  · exact .inl h2
  · have hlt : g < w.heap.size := (Array.getElem?_eq_some_iff.1 hh).1
    exact .inr ⟨g, cap, cur, hv, hg, by rw [hb.block g hlt]; exact hh, r⟩
theorem own_ge {w : World} {base : Nat} {e : TypeId} {size : Nat} {v : Value} {n : Nat} {xs : List Value} (h : w.ownsRow base e size v n xs) {g : Nat} (hg : v.ownBlock = some g) : base ≤ g := by
  obtain ⟨_, ⟨rfl, _⟩ | ⟨g', cap', cur, rfl, hb, _⟩⟩ := h
  · simp [Value.ownBlock] at hg
  · simp [Value.ownBlock] at hg
    omega
theorem own_base {w : World} {base b0 : Nat} {e : TypeId} {size : Nat} {v : Value} {n : Nat} {xs : List Value} (h : w.ownsRow base e size v n xs) (hb : b0 ≤ base) : w.ownsRow b0 e size v n xs := by
  obtain ⟨h1, h2 | ⟨g, cap, cur, hv, hg, r⟩⟩ := h
  · exact ⟨h1, .inl h2⟩
  · exact ⟨h1, .inr ⟨g, cap, cur, hv, Nat.le_trans hb hg, r⟩⟩
theorem own_len {w : World} {base : Nat} {e : TypeId} {size : Nat} {v : Value} {n : Nat} {xs : List Value} (h : w.ownsRow base e size v n xs) : ∃ a c, v = .slice a n c ∧ n ≤ c := by
  obtain ⟨h1, ⟨rfl, rfl⟩ | ⟨g, cap, cur, rfl, _, _, hn, _⟩⟩ := h
  · exact ⟨none, 0, rfl, Nat.le_refl _⟩
  · exact ⟨_, _, rfl, hn⟩
theorem newN (w : World) (cs : Array Value) (t : TypeId) (j : Nat) (u : Value) (h : cs.toList[j]? = some u) : (w.alloc (.cells cs t)).cell? ((⟨w.heap.size, 0, none⟩ : Addr).add j) = some u := by
  have e2 : ((⟨w.heap.size, 0, none⟩ : Addr).add j) = ⟨w.heap.size, j, none⟩ := by
    unfold Addr.add
    split
    · rename_i h; subst h; rfl
    · simp
  rw [e2, (Blk.new w t cs).cell j]
  simpa using h
def Rd (e : TypeId) (w : World) (v : Value) (n : Nat) (xs : List Value) : Prop :=
  ∃ A c, v = .slice A n c ∧ n ≤ c ∧ c ≤ maxLen ∧ ((n = 0 ∧ xs = []) ∨ ∃ b o cs fr, A = some ⟨b, o, none⟩ ∧ w.heap[b]? = some (.cells cs e fr) ∧ ∀ j u, xs[j]? = some u → cs[o + j]? = some u)
theorem Rd.kept {e : TypeId} {w w' : World} {v : Value} {n : Nat} {xs : List Value} {row : Option Nat} (h : Rd e w v n xs) (hg : w.grownBy w' row) (hne : ∀ g cs fr, row = some g → w.heap[g]? = some (.cells cs e fr) → False) : Rd e w' v n xs := by
  obtain ⟨A, c, hv, hc, hm, h0 | ⟨b, o, cs, fr, hA, hb, hx⟩⟩ := h
  · exact ⟨A, c, hv, hc, hm, .inl h0⟩
  · refine ⟨A, c, hv, hc, hm, .inr ⟨b, o, cs, fr, hA, ?_, hx⟩⟩
    rw [hg.block b (Array.getElem?_eq_some_iff.1 hb).1 (fun h => hne b cs fr h.symm hb)]
    exact hb
theorem Rd.next {e : TypeId} {w w' : World} {v : Value} {n : Nat} {xs : List Value} (h : Rd e w v n xs) (hb : Below w.heap.size w w') : Rd e w' v n xs :=
  h.kept (only_of_below hb none) (fun g cs fr h => by cases h)
theorem Rd.drewN {e : TypeId} {w : World} {v : Value} {n : Nat} {xs : List Value} (h : Rd e w v n xs) (k : Nat) : Rd e (w.drewN k) v n xs := h
theorem Rd.drew {e : TypeId} {w : World} {v : Value} {n : Nat} {xs : List Value} (h : Rd e w v n xs) : Rd e w.drew v n xs := h
theorem Rd.far {e e' : TypeId} {w w' : World} {v v' : Value} {n n' base size : Nat} {xs xs' : List Value} (h : Rd e w v n xs) (ho : w.ownsRow base e' size v' n' xs') (hg : w.grownBy w' v'.ownBlock) (hne : e ≠ e') : Rd e w' v n xs := by
  refine h.kept hg (fun g cs fr hr hh => ?_)
  rcases ho.2 with ⟨rfl, _⟩ | ⟨g', cap, cur, rfl, _, h2, _⟩
  · simp [Value.ownBlock] at hr
  · simp [Value.ownBlock] at hr
    subst hr
    rw [h2] at hh
    injection hh with hh
    injection hh with _ ht
    exact hne ht.symm
theorem Rd.blk {e t : TypeId} {w w' : World} {v : Value} {n g : Nat} {xs : List Value} {cs : Array Value} (h : Rd e w v n xs) (hb : Blk w g t cs) (hg : w.grownBy w' (some g)) (hne : e ≠ t) : Rd e w' v n xs := by
  refine h.kept hg (fun g' cs' fr hr hh => ?_)
  injection hr with hr
  subst hr
  unfold Blk at hb
  rw [hb] at hh
  injection hh with hh
  injection hh with _ ht
  exact hne ht.symm
theorem Rd.of_own {e : TypeId} {w : World} {v : Value} {n base size : Nat} {xs : List Value} (h : w.ownsRow base e size v n xs) : Rd e w v n xs := by
  obtain ⟨h1, ⟨rfl, rfl⟩ | ⟨g, cap, cur, rfl, _, hh, hn, hm, _, hx⟩⟩ := h
  · exact ⟨none, 0, rfl, Nat.le_refl _, Nat.zero_le _, .inl ⟨rfl, by simpa using h1⟩⟩
  · refine ⟨_, cap, rfl, hn, hm, .inr ⟨g, 0, cur, (0, 0), rfl, hh, fun j u hu => ?_⟩⟩
    rw [← hx] at hu
    rw [List.getElem?_take] at hu
    split at hu
    · simpa using hu
    · cases hu
theorem Rd.form {e : TypeId} {w : World} {v : Value} {n : Nat} {xs : List Value} (h : Rd e w v n xs) : ∃ A c, v = .slice A n c ∧ n ≤ c := by
  obtain ⟨A, c, hv, hc, _⟩ := h
  exact ⟨A, c, hv, hc⟩
theorem Rd.at_ {e : TypeId} {w : World} {v : Value} {n : Nat} {xs : List Value} (h : Rd e w v n xs) (hn : 0 < n) : ∃ b o c, v = .slice (some ⟨b, o, none⟩) n c ∧ n ≤ c ∧ c ≤ maxLen ∧ b < w.heap.size ∧ ∀ j u, xs[j]? = some u → w.cell? ⟨b, o + j, none⟩ = some u := by
  obtain ⟨A, c, hv, hc, hm, h0 | ⟨b, o, cs, fr, hA, hb, hx⟩⟩ := h
  · omega
  · subst hA
    refine ⟨b, o, c, hv, hc, hm, (Array.getElem?_eq_some_iff.1 hb).1, fun j u hu => ?_⟩
    rw [cell_of_row w b (o + j) cs e fr hb]
    exact hx j u hu
theorem Rd.cut {e : TypeId} {w : World} {A : Option Addr} {n c : Nat} {xs : List Value} (h : Rd e w (.slice A n c) n xs) (size k : Nat) (hk : k ≤ n) (hx : xs.length = n * size) : Rd e w (.slice (if c = k then A else A.map (·.add (k * size))) (n - k) (c - k)) (n - k) (xs.drop (k * size)) := by
  obtain ⟨A', c', hv, hc, hm, h0⟩ := h
  cases hv
  refine ⟨_, _, rfl, by omega, by omega, ?_⟩
  by_cases hkn : k = n
  · refine .inl ⟨by omega, ?_⟩
    subst hkn
    exact List.drop_eq_nil_of_le (by omega)
  · rcases h0 with ⟨h0, _⟩ | ⟨b, o, cs, fr, rfl, hb, hx'⟩
    · omega
    · rw [if_neg (by omega)]
      refine .inr ⟨b, o + k * size, cs, fr, ?_, hb, fun j u hu => ?_⟩
      · simp only [Option.map_some]
        unfold Addr.add
        split
        · rename_i h; rw [h]; rfl
        · rfl
      · rw [List.getElem?_drop] at hu
        rw [Nat.add_assoc]
        exact hx' _ u hu
structure Kept (L : List TypeId) (w w' : World) : Prop where
  size : w.heap.size ≤ w'.heap.size
  block : ∀ (b : Nat) (cs : Array Value) (e : TypeId) (fr : Nat × Nat), w.heap[b]? = some (Obj.cells cs e fr) → L.contains e = false → w'.heap[b]? = some (Obj.cells cs e fr)
theorem Kept.refl (L : List TypeId) (w : World) : Kept L w w := ⟨Nat.le_refl _, fun _ _ _ _ h _ => h⟩
theorem Kept.trans {L : List TypeId} {a b c : World} (h : Kept L a b) (k : Kept L b c) : Kept L a c :=
  ⟨Nat.le_trans h.size k.size, fun i cs e fr h1 h2 => k.block i cs e fr (h.block i cs e fr h1 h2) h2⟩
theorem Kept.of_below {w w' : World} (L : List TypeId) (h : Below w.heap.size w w') : Kept L w w' :=
  ⟨h.size, fun b cs e fr h1 _ => by rw [h.block b (Array.getElem?_eq_some_iff.1 h1).1]; exact h1⟩
theorem Kept.of_blk {w w' : World} {g : Nat} {t : TypeId} {cs : Array Value} (L : List TypeId) (hb : Blk w g t cs) (h : w.grownBy w' (some g)) (ht : L.contains t = true) : Kept L w w' :=
  ⟨h.size, fun b cs' e fr h1 h2 => by
    rw [h.block b (Array.getElem?_eq_some_iff.1 h1).1 (fun he => by
      injection he with he
      subst he
      unfold Blk at hb
      rw [hb] at h1
      injection h1 with h1
      injection h1 with _ h3
      subst h3
      rw [ht] at h2; cases h2)]
    exact h1⟩
theorem Kept.of_own {w w' : World} {base e size n : Nat} {v : Value} {xs : List Value} (L : List TypeId) (ho : w.ownsRow base e size v n xs) (h : w.grownBy w' v.ownBlock) (ht : L.contains e = true) : Kept L w w' := by
  rcases ho.2 with ⟨rfl, _⟩ | ⟨g', cap, cur, rfl, _, h2, _⟩
  · exact ⟨h.size, fun b cs e' fr h1 _ => by rw [h.block b (Array.getElem?_eq_some_iff.1 h1).1 (by simp [Value.ownBlock])]; exact h1⟩
  · exact Kept.of_blk L (show Blk w g' e cur from h2) h ht
theorem Kept.drewN {L : List TypeId} {a b : World} (h : Kept L a b) (n : Nat) : Kept L a (b.drewN n) := ⟨h.size, h.block⟩
theorem Kept.drew {L : List TypeId} {a b : World} (h : Kept L a b) : Kept L a b.drew := ⟨h.size, h.block⟩
theorem Kept.alloc {L : List TypeId} {a b : World} (h : Kept L a b) (o : Obj) : Kept L a (b.alloc o) := h.trans (Kept.of_below L ((Below.refl _ _).alloc (Nat.le_refl _) o))
theorem Kept.mono {L L' : List TypeId} {a b : World} (h : Kept L a b) (hl : ∀ e, L'.contains e = false → L.contains e = false) : Kept L' a b := ⟨h.size, fun i cs e fr h1 h2 => h.block i cs e fr h1 (hl e h2)⟩
theorem Rd.keep {e : TypeId} {w w' : World} {v : Value} {n : Nat} {xs : List Value} {L : List TypeId} (h : Rd e w v n xs) (k : Kept L w w') (he : L.contains e = false) : Rd e w' v n xs := by
  obtain ⟨A, c, hv, hc, hm, h0 | ⟨b, o, cs, fr, hA, hb, hx⟩⟩ := h
  · exact ⟨A, c, hv, hc, hm, .inl h0⟩
  · exact ⟨A, c, hv, hc, hm, .inr ⟨b, o, cs, fr, hA, k.block b cs e fr hb he, hx⟩⟩
theorem own_keep {e : TypeId} {w w' : World} {v : Value} {n base size : Nat} {xs : List Value} {L : List TypeId} (h : w.ownsRow base e size v n xs) (k : Kept L w w') (he : L.contains e = false) : w'.ownsRow base e size v n xs := by
  obtain ⟨h1, h2 | ⟨g, cap, cur, hv, hg, hh, r⟩⟩ := h
  · exact ⟨h1, .inl h2⟩
  · exact ⟨h1, .inr ⟨g, cap, cur, hv, hg, k.block g cur e (0, 0) hh he, r⟩⟩
theorem Blk.keep {w w' : World} {g : Nat} {t : TypeId} {cs : Array Value} {L : List TypeId} (h : Blk w g t cs) (k : Kept L w w') (he : L.contains t = false) : Blk w' g t cs := k.block g cs t (0, 0) h he
section
variable {α β : Type}
def rowC (f : α → β → List Value) : List α → List β → List Value
  | x :: l, v :: vs => f x v ++ rowC f l vs
  | _, _ => []
theorem rowC_snoc (f : α → β → List Value) : ∀ (l : List α) (vs : List β) (x : α) (v : β), vs.length = l.length → rowC f (l ++ [x]) (vs ++ [v]) = rowC f l vs ++ f x v
  | [], [], x, v, _ => by simp [rowC]
  | a :: l, b :: vs, x, v, h => by
    have := rowC_snoc f l vs x v (by simpa using h)
    simp [rowC, this]
  | [], b :: vs, _, _, h => by simp at h
  | a :: l, [], _, _, h => by simp at h
def RowW (N : World → β → α → Prop) (w : World) (l : List α) (vs : List β) : Prop := vs.length = l.length ∧ ∀ (i : Nat) (x : α) (v : β), l[i]? = some x → vs[i]? = some v → N w v x
theorem RowW.nil (N : World → β → α → Prop) (w : World) : RowW N w [] [] := ⟨rfl, fun i x v h => by simp at h⟩
theorem RowW.imp {N : World → β → α → Prop} {w w' : World} {l : List α} {vs : List β} (h : RowW N w l vs) (hi : ∀ v x, N w v x → N w' v x) : RowW N w' l vs := ⟨h.1, fun i x v h1 h2 => hi _ _ (h.2 i x v h1 h2)⟩
theorem RowW.snoc {N : World → β → α → Prop} {w : World} {l : List α} {vs : List β} {x : α} {v : β} (h : RowW N w l vs) (hv : N w v x) : RowW N w (l ++ [x]) (vs ++ [v]) := by
  refine ⟨by simp [h.1], fun i x' v' h1 h2 => ?_⟩
  rcases Nat.lt_trichotomy i l.length with hi | hi | hi
  · rw [List.getElem?_append_left hi] at h1
    rw [List.getElem?_append_left (by rw [h.1]; exact hi)] at h2
    exact h.2 i x' v' h1 h2
  · subst hi
    rw [List.getElem?_append_right (Nat.le_refl _)] at h1
    rw [← h.1, List.getElem?_append_right (Nat.le_refl _)] at h2
    simp at h1 h2
    subst h1 h2
    exact hv
  · rw [List.getElem?_eq_none (by simp; omega)] at h1
    cases h1
def RowOwn (e : TypeId) (size : Nat) (f : α → β → List Value) (N : World → β → α → Prop) (w : World) (base : Nat) (v : Value) (l : List α) : Prop := ∃ vs, RowW N w l vs ∧ w.ownsRow base e size v l.length (rowC f l vs)
def RowRd (e : TypeId) (f : α → β → List Value) (N : World → β → α → Prop) (w : World) (v : Value) (l : List α) : Prop := ∃ vs, RowW N w l vs ∧ Rd e w v l.length (rowC f l vs)
variable {e : TypeId} {size base : Nat} {f : α → β → List Value} {N : World → β → α → Prop} {w w' : World} {v : Value} {l : List α} {L : List TypeId}
theorem RowOwn.nil : RowOwn e size f N w base (.slice none 0 0) [] := ⟨[], RowW.nil N w, World.ownsRow_nil _ _ _ _⟩
theorem RowRd.nil : RowRd e f N w (.slice none 0 0) [] := ⟨[], RowW.nil N w, ⟨none, 0, rfl, Nat.le_refl _, Nat.zero_le _, .inl ⟨rfl, rfl⟩⟩⟩
theorem RowOwn.rd (h : RowOwn e size f N w base v l) : RowRd e f N w v l := by
  obtain ⟨vs, h1, h2⟩ := h
  exact ⟨vs, h1, Rd.of_own h2⟩
theorem RowOwn.keep (h : RowOwn e size f N w base v l) (k : Kept L w w') (he : L.contains e = false) (hN : ∀ v x, N w v x → N w' v x) : RowOwn e size f N w' base v l := by
  obtain ⟨vs, h1, h2⟩ := h
  exact ⟨vs, h1.imp hN, own_keep h2 k he⟩
theorem RowRd.keep (h : RowRd e f N w v l) (k : Kept L w w') (he : L.contains e = false) (hN : ∀ v x, N w v x → N w' v x) : RowRd e f N w' v l := by
  obtain ⟨vs, h1, h2⟩ := h
  exact ⟨vs, h1.imp hN, h2.keep k he⟩
theorem RowRd.form (h : RowRd e f N w v l) : ∃ A c, v = .slice A l.length c ∧ l.length ≤ c := by
  obtain ⟨vs, _, h2⟩ := h
  exact h2.form
theorem rowC_get (f : α → β → List Value) (size : Nat) (hf : ∀ x v, (f x v).length = size) : ∀ (l : List α) (vs : List β), vs.length = l.length → ∀ (i : Nat) (x : α) (v : β) (j : Nat), l[i]? = some x → vs[i]? = some v → j < size → (rowC f l vs)[i * size + j]? = (f x v)[j]?
  | [], _, _, i, x, v, j, h, _, _ => by simp at h
  | a :: l, [], h, _, _, _, _, _, _, _ => by simp at h
  | a :: l, b :: vs, h, 0, x, v, j, h1, h2, hj => by
    simp at h1 h2
    subst h1 h2
    simp only [rowC, Nat.zero_mul, Nat.zero_add]
    rw [List.getElem?_append_left (by rw [hf]; exact hj)]
  | a :: l, b :: vs, h, i + 1, x, v, j, h1, h2, hj => by
    have := rowC_get f size hf l vs (by simpa using h) i x v j (by simpa using h1) (by simpa using h2) hj
    simp only [rowC]
    rw [List.getElem?_append_right (by rw [hf, Nat.add_mul]; omega), hf, ← this]
    congr 1
    rw [Nat.add_mul]; omega
theorem rowC_len (f : α → β → List Value) (size : Nat) (hf : ∀ x v, (f x v).length = size) : ∀ (l : List α) (vs : List β), vs.length = l.length → (rowC f l vs).length = l.length * size
  | [], [], _ => by simp [rowC]
  | [], b :: vs, h => by simp at h
  | a :: l, [], h => by simp at h
  | a :: l, b :: vs, h => by
    have := rowC_len f size hf l vs (by simpa using h)
    simp only [rowC, List.length_append, hf, this, List.length_cons, Nat.add_mul]; omega
theorem rowC_drop (f : α → β → List Value) (size : Nat) (hf : ∀ x v, (f x v).length = size) (a : α) (l : List α) (b : β) (vs : List β) : (rowC f (a :: l) (b :: vs)).drop size = rowC f l vs := by
  simp only [rowC]
  rw [List.drop_append_of_le_length (by rw [hf]; exact Nat.le_refl _), List.drop_eq_nil_of_le (by rw [hf]; exact Nat.le_refl _), List.nil_append]
theorem RowRd.at_ (h : RowRd e f N w v l) (hf : ∀ x u, (f x u).length = size) {i : Nat} {x : α} (hx : l[i]? = some x) : ∃ b o c u, v = .slice (some ⟨b, o, none⟩) l.length c ∧ l.length ≤ c ∧ b < w.heap.size ∧ N w u x ∧ ∀ j y, (f x u)[j]? = some y → w.cell? ⟨b, o + (i * size + j), none⟩ = some y := by
  obtain ⟨vs, h1, h2⟩ := h
  have hi : i < l.length := by
    rcases Nat.lt_or_ge i l.length with h | h
    · exact h
    · rw [List.getElem?_eq_none h] at hx; cases hx
  have hiv : i < vs.length := by rw [h1.1]; exact hi
  obtain ⟨b, o, c, hv, hc, _, hb, hcell⟩ := h2.at_ (by omega)
  refine ⟨b, o, c, vs[i], hv, hc, hb, h1.2 i x _ hx (List.getElem?_eq_getElem hiv), fun j y hy => ?_⟩
  have hj : j < size := by
    rcases Nat.lt_or_ge j size with h | h
    · exact h
    · rw [List.getElem?_eq_none (by rw [hf]; exact h)] at hy; cases hy
  exact hcell _ _ ((rowC_get f size hf l vs h1.1 i x _ j hx (List.getElem?_eq_getElem hiv) hj).trans hy)
theorem RowRd.tail {A : Option Addr} {n c : Nat} {a : α} (h : RowRd e f N w (.slice A n c) (a :: l)) (hf : ∀ x u, (f x u).length = size) : RowRd e f N w (.slice (if c = 1 then A else A.map (·.add size)) (n - 1) (c - 1)) l := by
  obtain ⟨vs, h1, h2⟩ := h
  match vs, h1 with
  | [], h1 => exact absurd h1.1 (by simp)
  | b :: vs, h1 =>
    obtain ⟨A', c', hv, hc, hm, h0⟩ := id h2
    injection hv with hA hn hcc
    subst hn
    refine ⟨vs, ⟨by simpa using h1.1, fun i x v hx hv => h1.2 (i + 1) x v (by simpa using hx) (by simpa using hv)⟩, ?_⟩
    have := Rd.cut h2 size 1 (by simp) (by rw [rowC_len f size hf _ _ h1.1])
    rw [Nat.one_mul, rowC_drop f size hf] at this
    exact this
theorem RowRd.next (h : RowRd e f N w v l) (hb : Below w.heap.size w w') (hN : ∀ v x, N w v x → N w' v x) : RowRd e f N w' v l := h.keep (Kept.of_below [] hb) rfl hN
end
end Go.Proofs.YtamjllakfgphnaaGreatDoor
namespace Go.Proofs.YtamjllakfgphnaaGreatDoor
open Go.RowKit Go.Deep
set_option linter.unusedSimpArgs false
set_option linter.unusedVariables false
theorem add_off (b o j : Nat) : ((⟨b, o, none⟩ : Addr).add j) = ⟨b, o + j, none⟩ := by
  unfold Addr.add
  split
  · rename_i h; subst h; rfl
  · rfl
theorem run_append_rd {P : Program} (w : World) (base : Nat) (t ty e : TypeId) (i : TypeInfo) (z : Value) (size bytes : Nat) (ht : P.underlying t = some (.slice e)) (hi : P.info? e = some i) (hz : i.zero = some z)
    (hsize : i.size = size) (hby : i.bytes = bytes) (hzs : z.cells.size = size) (hsz : 0 < size)
    (v : Value) (n : Nat) (xs : List Value) (hown : w.ownsRow base e size v n xs) (x : Value) (m : Nat) (news : List Value) (hr : Rd e w x m news) (hl : news.length = m * size) (h1 : ∀ u ∈ news, u.oneCell' = true)
    (h63 : n + m ≤ maxLen) (hbytes : (n + m) * bytes ≤ 140737488355328) (hbase : base ≤ w.heap.size) :
    ∃ ao cap w', (Builtin.append_ #[t, t] ty #[v, x]).run P w = .ok (.slice ao (n + m) cap) w' ∧ w'.ownsRow base e size (.slice ao (n + m) cap) (n + m) (xs ++ news) ∧ w.grownBy w' v.ownBlock := by
  have fin : ∀ (ad : Addr) (c : Nat), (∀ j u, news[j]? = some u → w.cell? (ad.add j) = some u) →
      ∃ ao cap w', (Builtin.append_ #[t, t] ty #[v, .slice (some ad) m c]).run P w = .ok (.slice ao (n + m) cap) w' ∧ w'.ownsRow base e size (.slice ao (n + m) cap) (n + m) (xs ++ news) ∧ w.grownBy w' v.ownBlock := by
    intro ad c hc
    obtain ⟨v', w', hrun, h2, h3, _, _⟩ := run_append_own_at (P := P) w base t ty e i z size bytes ht hi hz hsize hby hzs hsz v n xs hown ad m c news hl hc h1 h63 hbytes hbase
    obtain ⟨a, cc, rfl, _⟩ := own_len h2
    exact ⟨a, cc, w', hrun, h2, h3⟩
  obtain ⟨A, c, rfl, hc, hm, ⟨rfl, rfl⟩ | ⟨b, o, cs, fr, rfl, hb, hx⟩⟩ := hr
  · cases A with
    | some ad => exact fin ad c (fun j u h => by simp at h)
    | none =>
      obtain ⟨a, cc, rfl, hle⟩ := own_len hown
      refine ⟨a, cc, w, ?_, by simpa using hown, World.grownBy.refl w _⟩
      rcases hown.2 with ⟨h2, rfl⟩ | ⟨g, cap, cur, h2, _, _, hnc, _⟩
      · cases h2
        simp [Builtin.append_, run_underlying ht, sizeOf, typeInfo, hi, Builtin.lenOf, Builtin.firstCells]
      · cases h2
        simp [Builtin.append_, run_underlying ht, sizeOf, typeInfo, hi, Builtin.lenOf, Builtin.firstCells, hnc, storeCells]
  · refine fin _ c (fun j u h => ?_)
    rw [add_off, cell_of_row w b (o + j) cs e fr hb]
    exact hx j u h
theorem wp_append_rd {P : Program} (w : World) {o : Oper} {a : Go.Act} {K : Go.Act → World → Prop} {Q : Exit → Go.Act → World → Prop} (s x : Operand) (t : TypeId)
    (ho : o.op = .call { callee := .builtin .append, args := #[s, x], argTypes := #[t, t] })
    (base : Nat) (e : TypeId) (i : TypeInfo) (z : Value) (size bytes : Nat) (ht : P.underlying t = some (.slice e)) (hi : P.info? e = some i) (hz : i.zero = some z)
    (hsize : i.size = size) (hby : i.bytes = bytes) (hzs : z.cells.size = size) (hsz : 0 < size)
    (v : Value) (n : Nat) (xs : List Value) (hs : a.eval s = v) (hown : w.ownsRow base e size v n xs)
    (xv : Value) (m : Nat) (news : List Value) (hx : a.eval x = xv) (hr : Rd e w xv m news) (hl : news.length = m * size) (h1 : ∀ u ∈ news, u.oneCell' = true)
    (h63 : n + m ≤ maxLen) (hbytes : (n + m) * bytes ≤ 140737488355328) (hbase : base ≤ w.heap.size)
    (h : ∀ ao cap w', w'.ownsRow base e size (.slice ao (n + m) cap) (n + m) (xs ++ news) → w.grownBy w' v.ownBlock → K (a.put o.dst (.slice ao (n + m) cap)) w') : o.wp P a w K Q := by
  obtain ⟨ao, cap, w', hrun, h2, h3⟩ := run_append_rd (P := P) w base t o.type e i z size bytes ht hi hz hsize hby hzs hsz v n xs hown xv m news hr hl h1 h63 hbytes hbase
  unfold Oper.wp execOp
  simp only [ho, resolve, invoke, builtin, Sem.run_bind, Sem.run_pure, Result.andThen_ok, List.map_toArray, List.map_cons, List.map_nil, hs, hx, hrun]
  exact h ao cap w' h2 h3
theorem wpList_append_rd {P : Program} (w : World) {ops : Array Oper} {rest : List Oper} {o : Oper} {a : Go.Act} {Q : Exit → Go.Act → World → Prop} (hgd : o.guard = none) (s x : Operand) (t : TypeId)
    (ho : o.op = .call { callee := .builtin .append, args := #[s, x], argTypes := #[t, t] })
    (base : Nat) (e : TypeId) (i : TypeInfo) (z : Value) (size bytes : Nat) (ht : P.underlying t = some (.slice e)) (hi : P.info? e = some i) (hz : i.zero = some z)
    (hsize : i.size = size) (hby : i.bytes = bytes) (hzs : z.cells.size = size) (hsz : 0 < size)
    (v : Value) (n : Nat) (xs : List Value) (hs : a.eval s = v) (hown : w.ownsRow base e size v n xs)
    (xv : Value) (m : Nat) (news : List Value) (hx : a.eval x = xv) (hr : Rd e w xv m news) (hl : news.length = m * size) (h1 : ∀ u ∈ news, u.oneCell' = true)
    (h63 : n + m ≤ maxLen) (hbytes : (n + m) * bytes ≤ 140737488355328) (hbase : base ≤ w.heap.size)
    (h : ∀ ao cap w', w'.ownsRow base e size (.slice ao (n + m) cap) (n + m) (xs ++ news) → w.grownBy w' v.ownBlock → wpList P ops Q rest (a.put o.dst (.slice ao (n + m) cap)) w') : wpList P ops Q (o :: rest) a w :=
  wpList_plain hgd fun _ hK => wp_append_rd w s x t ho base e i z size bytes ht hi hz hsize hby hzs hsz v n xs hs hown xv m news hx hr hl h1 h63 hbytes hbase fun ao cap w' h2 h3 => hK _ _ (h ao cap w' h2 h3)
theorem step_append_rd {P : Program} (w : World) {ops : Array Oper} {o : Oper} {a : Go.Act} {K : Go.Act → World → Prop} {Q : Exit → Go.Act → World → Prop} {E : Prop} (hgd : o.guard = none) (s x : Operand) (t : TypeId)
    (ho : o.op = .call { callee := .builtin .append, args := #[s, x], argTypes := #[t, t] })
    (base : Nat) (e : TypeId) (i : TypeInfo) (z : Value) (size bytes : Nat) (ht : P.underlying t = some (.slice e)) (hi : P.info? e = some i) (hz : i.zero = some z)
    (hsize : i.size = size) (hby : i.bytes = bytes) (hzs : z.cells.size = size) (hsz : 0 < size)
    (v : Value) (n : Nat) (xs : List Value) (hs : a.eval s = v) (hown : w.ownsRow base e size v n xs)
    (xv : Value) (m : Nat) (news : List Value) (hx : a.eval x = xv) (hr : Rd e w xv m news) (hl : news.length = m * size) (h1 : ∀ u ∈ news, u.oneCell' = true)
    (h63 : n + m ≤ maxLen) (hbytes : (n + m) * bytes ≤ 140737488355328) (hbase : base ≤ w.heap.size)
    (h : ∀ ao cap w', w'.ownsRow base e size (.slice ao (n + m) cap) (n + m) (xs ++ news) → w.grownBy w' v.ownBlock → K (a.put o.dst (.slice ao (n + m) cap)) w') :
    if Region.wanted o (yielded ops a.tmps) = true then Oper.wp P o a w K Q else E := by
  have hw : Region.wanted o (yielded ops a.tmps) = true := by simp [Region.wanted, hgd]
  rw [if_pos hw]
  exact wp_append_rd w s x t ho base e i z size bytes ht hi hz hsize hby hzs hsz v n xs hs hown xv m news hx hr hl h1 h63 hbytes hbase h
theorem own_new (w : World) (base : Nat) (e : TypeId) (size : Nat) (cs : List Value) (hl : cs.length = size) (hb : base ≤ w.heap.size) : (w.alloc (.cells cs.toArray e)).ownsRow base e size (.slice (some ⟨w.heap.size, 0, none⟩) 1 1) 1 cs := by
  refine ⟨by omega, .inr ⟨w.heap.size, 1, cs.toArray, rfl, hb, heap_alloc_new w _, Nat.le_refl _, by unfold maxLen; omega, by simp [hl], ?_⟩⟩
  simp
  rw [← hl, List.take_length]
theorem below_own {B : Nat} {a w w' : World} {base e size n : Nat} {v : Value} {xs : List Value} (h : Below B a w) (ho : w.ownsRow base e size v n xs) (k : w.grownBy w' v.ownBlock) (hb : B ≤ base) (hB : B ≤ w.heap.size) : Below B a w' :=
  ⟨k.os.trans h.os, k.tape.trans h.tape, k.output.trans h.output, Nat.le_trans h.size k.size, fun i hi => (k.block i (Nat.lt_of_lt_of_le hi hB) (by
    intro e
    have := own_ge ho e.symm
    omega)).trans (h.block i hi)⟩
theorem RowOwn.push {α β : Type} {e : TypeId} {size base : Nat} {f : α → β → List Value} {N : World → β → α → Prop} {W w1 : World} {l : List α} {vs : List β} {v' : Value} {x : α} {u : β}
    (h2 : RowW N W l vs) (hown : w1.ownsRow base e size v' (l.length + 1) (rowC f l vs ++ f x u)) (imp : ∀ v x, N W v x → N w1 v x) (hu : N w1 u x) : RowOwn e size f N w1 base v' (l ++ [x]) := by
  refine ⟨vs ++ [u], (h2.imp imp).snoc hu, ?_⟩
  rw [rowC_snoc _ _ _ _ _ h2.1, List.length_append]
  exact hown
def Ra (B : Nat) (w : World) (v : Value) (n : Nat) (xs : List Value) : Prop :=
  ∃ A c, v = .slice A n c ∧ n ≤ c ∧ c ≤ maxLen ∧ ((n = 0 ∧ xs = []) ∨ ∃ b o, A = some ⟨b, o, none⟩ ∧ b < B ∧ ∀ j u, xs[j]? = some u → w.cell? ⟨b, o + j, none⟩ = some u)
theorem Ra.below {B : Nat} {w w' : World} {v : Value} {n : Nat} {xs : List Value} (h : Ra B w v n xs) (hb : Below B w w') : Ra B w' v n xs := by
  obtain ⟨A, c, hv, hc, hm, h0 | ⟨b, o, hA, hlt, hx⟩⟩ := h
  · exact ⟨A, c, hv, hc, hm, .inl h0⟩
  · exact ⟨A, c, hv, hc, hm, .inr ⟨b, o, hA, hlt, fun j u hu => (hb.cell (p := ⟨b, o + j, none⟩) hlt).trans (hx j u hu)⟩⟩
theorem Ra.at_ {B : Nat} {w : World} {v : Value} {n : Nat} {xs : List Value} (h : Ra B w v n xs) (hn : 0 < n) : ∃ b o c, v = .slice (some ⟨b, o, none⟩) n c ∧ n ≤ c ∧ c ≤ maxLen ∧ b < B ∧ ∀ j u, xs[j]? = some u → w.cell? ⟨b, o + j, none⟩ = some u := by
  obtain ⟨A, c, hv, hc, hm, h0 | ⟨b, o, hA, hlt, hx⟩⟩ := h
  · omega
  · subst hA
    exact ⟨b, o, c, hv, hc, hm, hlt, hx⟩
theorem Ra.form {B : Nat} {w : World} {v : Value} {n : Nat} {xs : List Value} (h : Ra B w v n xs) : ∃ A c, v = .slice A n c ∧ n ≤ c ∧ c ≤ maxLen := by
  obtain ⟨A, c, hv, hc, hm, _⟩ := h
  exact ⟨A, c, hv, hc, hm⟩
section
variable {α β : Type}
def RowRa (f : α → β → List Value) (N : World → β → α → Prop) (B : Nat) (w : World) (v : Value) (l : List α) : Prop := ∃ vs, RowW N w l vs ∧ Ra B w v l.length (rowC f l vs)
variable {f : α → β → List Value} {N : World → β → α → Prop} {B : Nat} {w w' : World} {v : Value} {l : List α}
theorem RowRa.below (h : RowRa f N B w v l) (hb : Below B w w') (hN : ∀ v x, N w v x → N w' v x) : RowRa f N B w' v l := by
  obtain ⟨vs, h1, h2⟩ := h
  exact ⟨vs, h1.imp hN, h2.below hb⟩
theorem RowRa.form (h : RowRa f N B w v l) : ∃ A c, v = .slice A l.length c ∧ l.length ≤ c ∧ c ≤ maxLen := by
  obtain ⟨vs, h1, h2⟩ := h
  exact h2.form
theorem RowRa.at_ {size : Nat} (h : RowRa f N B w v l) (hf : ∀ x u, (f x u).length = size) (h0 : 0 < l.length) : ∃ b o c, v = .slice (some ⟨b, o, none⟩) l.length c ∧ l.length ≤ c ∧ c ≤ maxLen ∧ b < B ∧ ∀ i (hi : i < l.length), ∃ u, N w u l[i] ∧ ∀ j y, (f l[i] u)[j]? = some y → w.cell? ⟨b, o + (i * size + j), none⟩ = some y := by
  obtain ⟨vs, h1, h2⟩ := h
  obtain ⟨b, o, c, hv, hc, hm, hb, hcell⟩ := h2.at_ h0
  refine ⟨b, o, c, hv, hc, hm, hb, fun i hi => ?_⟩
  have hiv : i < vs.length := by rw [h1.1]; exact hi
  refine ⟨vs[i], h1.2 i _ _ (List.getElem?_eq_getElem hi) (List.getElem?_eq_getElem hiv), fun j y hy => ?_⟩
  have hj : j < size := by
    rcases Nat.lt_or_ge j size with h | h
    · exact h
    · rw [List.getElem?_eq_none (by rw [hf]; exact h)] at hy; cases hy
  exact hcell _ _ ((rowC_get f size hf l vs h1.1 i _ _ j (List.getElem?_eq_getElem hi) (List.getElem?_eq_getElem hiv) hj).trans hy)
end
section
variable {α β H : Type} [Inhabited α] [Inhabited β] {enc : TypeId × Value → H} {P : Program} {w : World} {base : Nat} {spare : Nat → Bool} {held : Bool}
theorem open_row {f : α → β → List Value} {N : World → β → α → Prop} {size : Nat} (hf : ∀ x u, (f x u).length = size) (hs : 0 < size) {t e : TypeId} (ht : P.underlying t = some (.slice e)) (ce : P.cellsOf e = size)
    (hE : ∀ n cs y, DataW.trod enc P w base spare held n e cs = some y → cs.length = size → ∃ x u, cs = f x u ∧ N w u x)
    {fuel : Nat} {v : Value} {x : DataW H × List MemPlace} (h : DataW.trod enc P w base spare held fuel t [v] = some x) : ∃ l : List α, RowRa f N w.heap.size w v l := by
  rcases open_slice ht h with ⟨h0, _⟩ | ⟨a, len, cap, m, n, D, Pl, h0, hb, hl, hm, hmm, _, hx⟩
  · injection h0 with h0
    subst h0
    exact ⟨[], [], RowW.nil N w, none, 0, rfl, Nat.le_refl _, Nat.zero_le _, .inl ⟨rfl, rfl⟩⟩
  injection h0 with h0
  subst h0
  have hlm : len ≤ m := by rw [hmm]; split <;> omega
  have each : ∀ i, i < len → ∃ q : α × β, N w q.2 q.1 ∧ ∀ j y, (f q.1 q.2)[j]? = some y → w.cell? ((a.add (i * size)).add j) = some y := by
    intro i hi
    obtain ⟨cs', h1, h2⟩ := hx i (by omega)
    rw [ce] at h1
    obtain ⟨_, hlen, hcell⟩ := World.cells?_some h1
    obtain ⟨x, u, hcs, hN⟩ := hE _ _ _ h2 hlen
    refine ⟨(x, u), hN, fun j y hy => ?_⟩
    have hj : j < size := by
      rcases Nat.lt_or_ge j size with h | h
      · exact h
      · rw [List.getElem?_eq_none (by rw [hf]; exact h)] at hy; cases hy
    have := hcell j hj
    rw [this, hcs]
    exact hy
  obtain ⟨q, hq⟩ := choose_lt each
  let xs : List α := (List.range len).map fun i => (q i).1
  let us : List β := (List.range len).map fun i => (q i).2
  have lx : xs.length = len := by simp [xs]
  have lu : us.length = xs.length := by simp [xs, us]
  have gx : ∀ i, i < len → xs[i]? = some (q i).1 := fun i hi => by simp [xs, hi]
  have gu : ∀ i, i < len → us[i]? = some (q i).2 := fun i hi => by simp [us, hi]
  have hw : RowW N w xs us := by
    refine ⟨lu, fun i x u h1 h2 => ?_⟩
    have hi : i < len := by
      rcases Nat.lt_or_ge i len with h | h
      · exact h
      · rw [List.getElem?_eq_none (by omega)] at h1; cases h1
    rw [gx i hi] at h1
    rw [gu i hi] at h2
    cases h1; cases h2
    exact (hq i hi).1
  refine ⟨xs, us, hw, some a, cap, by rw [lx], by omega, hm, ?_⟩
  rcases Nat.eq_zero_or_pos len with h0 | h0
  · left
    refine ⟨by omega, ?_⟩
    have : xs = [] := List.length_eq_zero_iff.1 (by omega)
    rw [this]; rfl
  right
  have hcell : ∀ j u, (rowC f xs us)[j]? = some u → w.cell? (a.add j) = some u := by
    intro j u hu
    have hlen := rowC_len f size hf xs us lu
    have hj : j < len * size := by
      rcases Nat.lt_or_ge j (len * size) with h | h
      · exact h
      · rw [List.getElem?_eq_none (by rw [hlen, lx]; exact h)] at hu; cases hu
    have hi : j / size < len := (Nat.div_lt_iff_lt_mul hs).2 hj
    have hr : j % size < size := Nat.mod_lt _ hs
    have hjj : j / size * size + j % size = j := Nat.div_add_mod' j size
    have h3 := rowC_get f size hf xs us lu (j / size) _ _ (j % size) (gx _ hi) (gu _ hi) hr
    rw [hjj, hu] at h3
    have h4 := (hq _ hi).2 (j % size) u h3.symm
    rw [add_add, hjj] at h4
    exact h4
  have hfirst : ∃ u, w.cell? a = some u := by
    have hlen := rowC_len f size hf xs us lu
    have hpos : 0 < (rowC f xs us).length := by rw [hlen, lx]; exact Nat.mul_pos h0 hs
    exact ⟨_, hcell 0 _ (List.getElem?_eq_getElem hpos)⟩
  obtain ⟨u0, hu0⟩ := hfirst
  have hspot : a.spot = none ∧ a.block < w.heap.size := by
    unfold World.cell? at hu0
    split at hu0
    · rename_i hh
      refine ⟨?_, (Array.getElem?_eq_some_iff.1 hh).1⟩
      cases hs' : a.spot with
      | none => rfl
      | some k => rw [hs'] at hu0; simp at hu0
    · cases hu0
  obtain ⟨b, o, sp⟩ := a
  obtain ⟨hsp, hbl⟩ := hspot
  simp only at hsp hbl
  subst hsp
  refine ⟨b, o, rfl, hbl, fun j u hu => ?_⟩
  have := hcell j u hu
  rwa [add_off] at this
end
end Go.Proofs.YtamjllakfgphnaaGreatDoor
namespace Go.Proofs.YtamjllakfgphnaaGreatDoor
open Go.RowKit
set_option linter.unusedSimpArgs false
set_option linter.unusedVariables false
def nmA (n : Nm) : Array Value := #[.int .i64 n.kind, .string (bs n.owner), .int .i64 n.num, .int .i64 n.idx, .string (bs n.text)]
def nmV (n : Nm) : Value := .agg (nmA n)
def nmC (n : Nm) : List Value := [.int .i64 n.kind, .string (bs n.owner), .int .i64 n.num, .int .i64 n.idx, .string (bs n.text)]
def chC (c : Ch) : List Value := [.int .i64 c.name.kind, .string (bs c.name.owner), .int .i64 c.name.num, .int .i64 c.name.idx, .string (bs c.name.text), .string (bs c.value), .bool c.absent]
def kyC (k : Ky) : List Value := [.int .i64 k.tick, .int .i64 k.cls, .int .i64 k.num, .string (bs k.lin)]
def kyV (k : Ky) : Value := .agg #[.int .i64 k.tick, .int .i64 k.cls, .int .i64 k.num, .string (bs k.lin)]
def veC (v : Ver) : List Value := [.int .i64 v.idx, .string (bs v.value), .bool v.absent]
def veV (v : Ver) : Value := .agg #[.int .i64 v.idx, .string (bs v.value), .bool v.absent]
end Go.Proofs.YtamjllakfgphnaaGreatDoor
namespace Go.Proofs.YtamjllakfgphnaaGreatDoor
open Go.RowKit
set_option linter.unusedSimpArgs false
set_option linter.unusedVariables false
abbrev T46 := Tr Nm Bs
def byT (t : T46) : Nat := t.by_ List.length
def ndA (pl pr : Option Addr) (k : Nm) (v : Bs) (h s y : Nat) : Array Value :=
  #[.pointer pl, .pointer pr, .int .i64 k.kind, .string (bs k.owner), .int .i64 k.num, .int .i64 k.idx, .string (bs k.text), .string (bs v), .int .i64 (h : Int), .int .i64 (s : Int), .int .i64 (y : Int)]
def NdAt (w : World) (b : Nat) (pl pr : Option Addr) (k : Nm) (v : Bs) (h s y : Nat) : Prop := Blk w b 143 (ndA pl pr k v h s y)
def TrAt (w : World) : Option Addr → T46 → Prop
  | p, .nil => p = none
  | p, .node l k v r => ∃ b pl pr, p = some ⟨b, 0, none⟩ ∧ NdAt w b pl pr k v (Tr.ht (.node l k v r)) (Tr.sz (.node l k v r)) (byT (.node l k v r)) ∧ TrAt w pl l ∧ TrAt w pr r
def TrSm (t : T46) : Prop := t.sz ≤ 100000 ∧ byT t ≤ 10000000000
theorem TrAt.keep {w w' : World} {L : List TypeId} (k : Kept L w w') (he : L.contains 143 = false) : ∀ {p : Option Addr} {t : T46}, TrAt w p t → TrAt w' p t
  | p, .nil, h => h
  | p, .node l a v r, ⟨b, pl, pr, e, h1, h2, h3⟩ => ⟨b, pl, pr, e, Blk.keep h1 k he, TrAt.keep k he h2, TrAt.keep k he h3⟩
theorem TrAt.next {w w' : World} (hb : Below w.heap.size w w') {p : Option Addr} {t : T46} (h : TrAt w p t) : TrAt w' p t := TrAt.keep (Kept.of_below [] hb) rfl h
theorem TrAt.drew {w : World} {p : Option Addr} {t : T46} (h : TrAt w p t) : TrAt w.drew p t := TrAt.keep (Kept.drew (Kept.refl [] w)) rfl h
theorem TrAt.drewN {w : World} {p : Option Addr} {t : T46} (h : TrAt w p t) (n : Nat) : TrAt (w.drewN n) p t := TrAt.keep (Kept.drewN (Kept.refl [] w) n) rfl h
theorem NdAt.drewN {w : World} {b : Nat} {pl pr : Option Addr} {k : Nm} {v : Bs} {h s y : Nat} (hn : NdAt w b pl pr k v h s y) (n : Nat) : NdAt (w.drewN n) b pl pr k v h s y := hn
theorem TrSm.left {l r : T46} {k : Nm} {v : Bs} (h : TrSm (.node l k v r)) : TrSm l := by
  obtain ⟨h1, h2⟩ := h
  unfold byT at h2
  simp only [Tr.sz, Tr.by_] at h1 h2
  exact ⟨by omega, by unfold byT; omega⟩
theorem TrSm.right {l r : T46} {k : Nm} {v : Bs} (h : TrSm (.node l k v r)) : TrSm r := by
  obtain ⟨h1, h2⟩ := h
  unfold byT at h2
  simp only [Tr.sz, Tr.by_] at h1 h2
  exact ⟨by omega, by unfold byT; omega⟩
theorem TrSm.val {l r : T46} {k : Nm} {v : Bs} (h : TrSm (.node l k v r)) : v.length ≤ 10000000000 := by
  obtain ⟨h1, h2⟩ := h
  unfold byT at h2
  simp only [Tr.by_] at h2
  omega
theorem TrSm.ht {t : T46} (h : TrSm t) : t.ht ≤ 100000 := Nat.le_trans (Tr.ht_sz t) h.1
end Go.Proofs.YtamjllakfgphnaaGreatDoor
namespace Go.Proofs.YtamjllakfgphnaaGreatDoor
open Go.RowKit
set_option linter.unusedSimpArgs false
set_option linter.unusedVariables false
theorem nan_i (n : Int) (w : World) : Calls Tryz.prog 135 #[.int .i64 n] w fun e w' => e = .returned (.bool false) ∧ w = w' := by
  go_enter Tryz.func135, Tryz.ntmps135
  go_wp2
  go_ret
  exact ⟨rfl, rfl⟩
theorem nan_s (s : ByteArray) (w : World) : Calls Tryz.prog 136 #[.string s] w fun e w' => e = .returned (.bool false) ∧ w = w' := by
  go_enter Tryz.func136, Tryz.ntmps136
  go_wp2
  go_ret
  exact ⟨rfl, rfl⟩
theorem blt_eq : ∀ a b : Bs, Op.bytesLess a b = blt a b
  | a, [] => by cases a <;> rfl
  | [], _ :: _ => rfl
  | x :: a, y :: b => by simp only [Op.bytesLess, blt, blt_eq a b]
theorem cmp_i (a b : Int) (w : World) : Calls Tryz.prog 99 #[.int .i64 a, .int .i64 b] w fun e w' => e = .returned (.int .i64 (cmpI a b)) ∧ w = w' := by
  by_cases h1 : a < b
  · rw [show cmpI a b = -1 by unfold cmpI; rw [if_pos h1]]
    go_enter Tryz.func99, Tryz.ntmps99
    go_wp2_with (go_at_call 135; refine (nan_i _ _).mono ?_; rintro e w' ⟨rfl, rfl⟩)
    go_ret
    exact ⟨rfl, rfl⟩
  · by_cases h2 : b < a
    · rw [show cmpI a b = 1 by unfold cmpI; rw [if_neg h1, if_pos h2]]
      go_enter Tryz.func99, Tryz.ntmps99
      go_wp2_with (go_at_call 135; refine (nan_i _ _).mono ?_; rintro e w' ⟨rfl, rfl⟩)
      go_ret
      exact ⟨rfl, rfl⟩
    · rw [show cmpI a b = 0 by unfold cmpI; rw [if_neg h1, if_neg h2]]
      go_enter Tryz.func99, Tryz.ntmps99
      go_wp2_with (go_at_call 135; refine (nan_i _ _).mono ?_; rintro e w' ⟨rfl, rfl⟩)
      go_ret
      exact ⟨rfl, rfl⟩
theorem bs_toList (a : Bs) : (bs a).toList = a := by rw [Lib.toList_data, bs_list]
theorem less_bs (a b : Bs) : Op.bytesLess (bs a).toList (bs b).toList = blt a b := by rw [bs_toList, bs_toList, blt_eq]
theorem eq_bs (a b : Bs) : ((bs a).toList == (bs b).toList) = (a == b) := by rw [bs_toList, bs_toList]
theorem cmp_s (a b : Bs) (w : World) : Calls Tryz.prog 101 #[.string (bs a), .string (bs b)] w fun e w' => e = .returned (.int .i64 (cmpS a b)) ∧ w = w' := by
  have l1 := less_bs a b
  have l2 := eq_bs a b
  have l3 : blt a b = false → (a == b) = !blt b a := fun h => by
    cases h2 : blt b a with
    | true => simp; rintro rfl; rw [blt_irrefl] at h2; cases h2
    | false => simp [blt_tri h h2]
  unfold cmpS
  generalize bs a = x at *
  generalize bs b = y at *
  cases h1 : blt a b with
  | true =>
    rw [h1] at l1
    clear l2 l3 h1
    simp only [if_true]
    go_enter Tryz.func101, Tryz.ntmps101
    go_wp2_with (go_at_call 136; refine (nan_s _ _).mono ?_; rintro e w' ⟨rfl, rfl⟩)
    go_ret
    exact ⟨rfl, rfl⟩
  | false =>
    rw [h1] at l1
    rw [l3 h1] at l2
    clear h1 l3
    cases h2 : blt b a with
    | true =>
      rw [h2] at l2
      clear h2
      simp only [Bool.not_true, Bool.not_false] at l2
      simp only [Bool.false_eq_true, if_true, if_false]
      go_enter Tryz.func101, Tryz.ntmps101
      go_wp2_with (go_at_call 136; refine (nan_s _ _).mono ?_; rintro e w' ⟨rfl, rfl⟩)
      go_ret
      exact ⟨rfl, rfl⟩
    | false =>
      rw [h2] at l2
      clear h2
      simp only [Bool.not_true, Bool.not_false] at l2
      simp only [Bool.false_eq_true, if_true, if_false]
      go_enter Tryz.func101, Tryz.ntmps101
      go_wp2_with (go_at_call 136; refine (nan_s _ _).mono ?_; rintro e w' ⟨rfl, rfl⟩)
      go_ret
      exact ⟨rfl, rfl⟩
theorem or_3 (a b c : Int) (w : World) (A : Nat) (h0 : w.cell? ⟨A, 0, none⟩ = some (.int .i64 a)) (h1 : w.cell? ⟨A, 1, none⟩ = some (.int .i64 b)) (h2 : w.cell? ⟨A, 2, none⟩ = some (.int .i64 c)) : Calls Tryz.prog 100 #[.slice (some ⟨A, 0, none⟩) 3 3] w fun e w' => e = .returned (.int .i64 (or3 a b c)) ∧ w = w' := by
  have hc : Hid (or3 a b c = if a ≠ 0 then a else if b ≠ 0 then b else c) := Lib.hid rfl
  go_enter Tryz.func100, Tryz.ntmps100
  go_wp2
  go_loop [8] (fun i => ∃ k : Nat, k ≤ 3 ∧ i = .int .i64 k ∧ (0 < k → a = 0) ∧ (1 < k → b = 0) ∧ (2 < k → c = 0)) (fun i => 3 - (intOf i).toNat)
  case atStart => exact ⟨0, by omega, rfl, by omega, by omega, by omega⟩
  case round =>
    obtain ⟨k, hk, rfl, p0, p1, p2⟩ := hrel
    have hcases : k = 0 ∨ k = 1 ∨ k = 2 ∨ k = 3 := by omega
    rcases hcases with rfl | rfl | rfl | rfl
    · clear p0 p1 p2 hk
      by_cases ha : a = 0
      · have e1 : (a != 0) = false := by simp [ha]
        go_wp2
        go_round
        case rel => exact ⟨1, by omega, rfl, fun _ => ha, by omega, by omega⟩
        case measure => simp [intOf]
      · have e1 : (a != 0) = true := by simp [ha]
        go_wp2
        go_ret
        exact ⟨by rw [hc.out, if_pos ha]; rfl, rfl⟩
    · have ha := p0 (by omega)
      clear p0 p1 p2 hk
      by_cases hb : b = 0
      · have e1 : (b != 0) = false := by simp [hb]
        have HA := Lib.hid ha
        clear ha
        go_wp2
        go_round
        case rel => exact ⟨2, by omega, rfl, fun _ => HA.out, fun _ => hb, by omega⟩
        case measure => simp [intOf]
      · have e1 : (b != 0) = true := by simp [hb]
        have HA := Lib.hid ha
        clear ha
        go_wp2
        go_ret
        exact ⟨by rw [hc.out, if_neg (by simp [HA.out]), if_pos hb]; rfl, rfl⟩
    · have HA := Lib.hid (p0 (by omega))
      have HB := Lib.hid (p1 (by omega))
      clear p0 p1 p2 hk
      by_cases hcc : c = 0
      · have e1 : (c != 0) = false := by simp [hcc]
        go_wp2
        go_round
        case rel => exact ⟨3, by omega, rfl, fun _ => HA.out, fun _ => HB.out, fun _ => hcc⟩
        case measure => simp [intOf]
      · have e1 : (c != 0) = true := by simp [hcc]
        go_wp2
        go_ret
        exact ⟨by rw [hc.out, if_neg (by simp [HA.out]), if_neg (by simp [HB.out])]; rfl, rfl⟩
    · have HA := Lib.hid (p0 (by omega))
      have HB := Lib.hid (p1 (by omega))
      have HC := Lib.hid (p2 (by omega))
      clear p0 p1 p2 hk
      go_wp2
      go_ret
      exact ⟨by rw [hc.out, if_neg (by simp [HA.out]), if_neg (by simp [HB.out]), HC.out]; rfl, rfl⟩
end Go.Proofs.YtamjllakfgphnaaGreatDoor
namespace Go.Proofs.YtamjllakfgphnaaGreatDoor
open Go.RowKit
set_option linter.unusedSimpArgs false
set_option linter.unusedVariables false
theorem lin_same (s : ByteArray) (w : World) : Calls Tryz.prog 91 #[.string s, .string s] w fun e w' => e = .returned (.int .i64 0) ∧ w = w' := by
  have e0 : (s.toList == s.toList) = true := by simp
  go_enter Tryz.func91, Tryz.ntmps91
  go_wp2
  go_ret
  exact ⟨rfl, rfl⟩
theorem compare_kind (a b : Nm) (w : World) (h : cmpI a.kind b.kind ≠ 0) : Calls Tryz.prog 57 #[nmV a, nmV b] w fun e w' => e = .returned (.int .i64 (cmpN a b)) ∧ Below w.heap.size w w' := by
  have e : cmpN a b = cmpI a.kind b.kind := by unfold cmpN; rw [if_pos h]
  rw [e]
  clear e
  have hk := cmp_i a.kind b.kind
  generalize cmpI a.kind b.kind = c at *
  have HK := Lib.hid hk
  clear hk
  have e1 : (c != 0) = true := by simpa using h
  obtain ⟨k, o, n, i, t⟩ := a
  obtain ⟨k', o', n', i', t'⟩ := b
  unfold nmV nmA
  simp only at HK ⊢
  clear h
  go_enter Tryz.func57, Tryz.ntmps57
  go_wp2_with (go_at_call 99; refine (HK.out _).mono ?_; rintro e w' ⟨rfl, rfl⟩)
  go_ret
  exact ⟨rfl, ((Below.refl _ _).alloc (Nat.le_refl _) _).alloc (by simp) _⟩
theorem still_of {P : Program} {f : FuncId} {args : Array Value} {w : World} {v : Value} (h : Calls P f args w fun e w' => e = .returned v ∧ w = w') : Calls P f args w fun e w' => e = .returned v ∧ w' = w := h.mono fun _ _ h => ⟨h.1, h.2.symm⟩
set_option maxRecDepth 100000 in
theorem compare_rest (a b : Nm) (w : World) (ho : a.owner = b.owner) (h : cmpI a.kind b.kind = 0) : Calls Tryz.prog 57 #[nmV a, nmV b] w fun e w' => e = .returned (.int .i64 (cmpN a b)) ∧ Below w.heap.size w w' := by
  have e : cmpN a b = or3 (cmpI a.num b.num) (cmpI a.idx b.idx) (cmpS a.text b.text) := by unfold cmpN; rw [if_neg (by simpa using h)]
  rw [e]
  clear e
  have HK : Hid (∀ w, Calls Tryz.prog 99 #[.int .i64 a.kind, .int .i64 b.kind] w fun e w' => e = .returned (.int .i64 0) ∧ w = w') := Lib.hid (h ▸ cmp_i a.kind b.kind)
  have HN := Lib.hid (cmp_i a.num b.num)
  have HI := Lib.hid (cmp_i a.idx b.idx)
  have HT := Lib.hid (cmp_s a.text b.text)
  have HO := Lib.hid (lin_same (bs a.owner))
  obtain ⟨k, o, n, i, t⟩ := a
  obtain ⟨k', o', n', i', t'⟩ := b
  simp only at ho
  subst ho
  unfold nmV nmA
  simp only at HK HN HI HT HO ⊢
  clear h
  generalize cmpI n n' = c1 at *
  generalize cmpI i i' = c2 at *
  generalize cmpS t t' = c3 at *
  go_enter Tryz.func57, Tryz.ntmps57
  go_wp2_with (first | (go_at_call 99; refine (HK.out _).mono ?_; rintro e w' ⟨rfl, rfl⟩) | (go_at_call 91; refine (HO.out _).mono ?_; rintro e w' ⟨rfl, rfl⟩))
  have hb : Below w.heap.size w ((w.alloc (.cells #[.int .i64 k, .string (bs o), .int .i64 n, .int .i64 i, .string (bs t)] 26)).alloc (.cells #[.int .i64 k', .string (bs o), .int .i64 n', .int .i64 i', .string (bs t')] 26)) := ((Below.refl _ _).alloc (Nat.le_refl _) _).alloc (by simp) _
  have b0 := (Blk.new w 26 #[.int .i64 k, .string (bs o), .int .i64 n, .int .i64 i, .string (bs t)]).alloc (.cells #[.int .i64 k', .string (bs o), .int .i64 n', .int .i64 i', .string (bs t')] 26)
  have b1 := Blk.new (w.alloc (.cells #[.int .i64 k, .string (bs o), .int .i64 n, .int .i64 i, .string (bs t)] 26)) 26 #[.int .i64 k', .string (bs o), .int .i64 n', .int .i64 i', .string (bs t')]
  rw [World.size_alloc] at b1
  have x2 := b0.cell 2
  have x3 := b0.cell 3
  have x4 := b0.cell 4
  have y2 := b1.cell 2
  have y3 := b1.cell 3
  have y4 := b1.cell 4
  simp only [qB, qC, qD] at x2 x3 x4 y2 y3 y4
  clear b0 b1
  have HB := Lib.hid hb
  clear hb
  generalize ((w.alloc (.cells #[.int .i64 k, .string (bs o), .int .i64 n, .int .i64 i, .string (bs t)] 26)).alloc (.cells #[.int .i64 k', .string (bs o), .int .i64 n', .int .i64 i', .string (bs t')] 26)) = W at *
  refine wp_region_still_tail 15 (by kernel_rfl) (by kernel_rfl) ?_
  simp only [List.take_succ_cons, List.take_zero, List.drop_succ_cons, List.drop_zero]
  iterate 4 still_step
  still_call (still_of (HN.out _))
  iterate 4 still_step
  still_call (still_of (HI.out _))
  iterate 4 still_step
  still_call (still_of (HT.out _))
  refine wpStill_nil ?_
  clear HK HN HI HT HO x2 x3 x4 y2 y3 y4
  show wpList _ _ _ _ _ W.drew
  have z := Blk.new W.drew 3 #[.int .i64 c1, .int .i64 c2, .int .i64 c3]
  go_wp2_with fail
  refine (or_3 c1 c2 c3 _ W.heap.size (z.cell 0) (z.cell 1) (z.cell 2)).mono ?_
  clear z
  rintro e w' ⟨rfl, rfl⟩
  go_wp2
  go_ret
  exact ⟨rfl, (HB.out.drew.alloc (by simpa using HB.out.size) _)⟩
theorem compare_is (a b : Nm) (w : World) (ho : a.owner = b.owner) : Calls Tryz.prog 57 #[nmV a, nmV b] w fun e w' => e = .returned (.int .i64 (cmpN a b)) ∧ Below w.heap.size w w' := by
  by_cases h : cmpI a.kind b.kind = 0
  · exact compare_rest a b w ho h
  · exact compare_kind a b w h
end Go.Proofs.YtamjllakfgphnaaGreatDoor
namespace Go.Proofs.YtamjllakfgphnaaGreatDoor
open Go.RowKit
set_option linter.unusedSimpArgs false
set_option linter.unusedVariables false
theorem bs_tl (a : Bs) : (bs a).toList = a := bs_toList a
theorem beq_dec {α : Type} [BEq α] [LawfulBEq α] (a b : α) [Decidable (a = b)] : (a == b) = decide (a = b) := by by_cases h : a = b <;> simp [h]
theorem bool_dec (a b : Prop) [Decidable a] [Decidable b] : decide (a ∧ b) = (decide a && decide b) := by by_cases a <;> by_cases b <;> simp [*]
set_option maxRecDepth 100000 in
theorem eqNm (a0 b0 : Int) (a1 b1 : ByteArray) (a2 b2 : Int) (a3 b3 : Int) (a4 b4 : ByteArray) (w : World) : (Op.equalIn 10000 26 (.agg #[.int .i64 a0, .string a1, .int .i64 a2, .int .i64 a3, .string a4]) (.agg #[.int .i64 b0, .string b1, .int .i64 b2, .int .i64 b3, .string b4])).run Tryz.prog w = .ok (a0 == b0 && a1.toList == b1.toList && a2 == b2 && a3 == b3 && a4.toList == b4.toList) w := by
  have u1 := Tryz.underlying3
  have u2 := Tryz.underlying9
  have u3 := Tryz.underlying4
  have u4 := Tryz.underlying22
  have hS : Tryz.prog.underlying 26 = some (.struct (Tryz.prog.fieldsOf 26)) := by kernel_rfl
  have hp : Tryz.prog.stoodInHeld 26 = false := by kernel_rfl
  rw [show (10000 : Nat) = 9999 + 1 from rfl, run_equalIn_agg w 9999 26 _ _ hS hp]
  simp only [Program.fieldsOf, Tryz.underlying26]
  go_simp
  by_cases h0 : a0 = b0 <;> by_cases h1 : a1.toList = b1.toList <;> by_cases h2 : a2 = b2 <;> by_cases h3 : a3 = b3 <;> by_cases h4 : a4.toList = b4.toList <;> simp [h0, h1, h2, h3, h4]
theorem guardNm : Tryz.prog.eqGuardType Tryz.prog.depth 26 = false := by kernel_rfl
theorem eqlNm (p q : Nm) (b : Bool) (hb : decide (p = q) = b) (w : World) : (binOp .eql 26 (nmV p) (nmV q)).run Tryz.prog w = .ok (.bool b) w := by
  subst hb
  obtain ⟨k, o, n, i, t⟩ := p; obtain ⟨k2, o2, n2, i2, t2⟩ := q; unfold nmV nmA
  rw [run_eql_struct, eqNm]
  simp [bs_tl, bool_dec, beq_dec, Bool.and_assoc]
theorem neqNm (p q : Nm) (b : Bool) (hb : decide (p = q) = b) (w : World) : (binOp .neq 26 (nmV p) (nmV q)).run Tryz.prog w = .ok (.bool (!b)) w := by
  subst hb
  obtain ⟨k, o, n, i, t⟩ := p; obtain ⟨k2, o2, n2, i2, t2⟩ := q; unfold nmV nmA
  rw [run_neq_struct, eqNm]
  simp [bs_tl, bool_dec, beq_dec, Bool.and_assoc]
end Go.Proofs.YtamjllakfgphnaaGreatDoor
