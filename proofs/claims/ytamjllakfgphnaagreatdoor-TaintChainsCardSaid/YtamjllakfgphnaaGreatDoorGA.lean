/- Plain facts of layer 46: search trees as sorted lists. -/

namespace Go.Proofs.YtamjllakfgphnaaGreatDoor
set_option linter.unusedVariables false
/-- A comparison that orders the members of S. -/
structure COrd {κ : Type} (c : κ → κ → Int) (S : κ → Prop) : Prop where
  eq : ∀ {a b}, S a → S b → (c a b = 0 ↔ a = b)
  anti : ∀ {a b}, S a → S b → (c a b < 0 ↔ 0 < c b a)
  trans : ∀ {a b d}, S a → S b → S d → c a b < 0 → c b d < 0 → c a d < 0
inductive Tr (κ ν : Type) where
  | nil : Tr κ ν
  | node (l : Tr κ ν) (k : κ) (v : ν) (r : Tr κ ν) : Tr κ ν
namespace Tr
variable {κ ν : Type}
def ht : Tr κ ν → Nat | nil => 0 | node l _ _ r => 1 + max l.ht r.ht
def sz : Tr κ ν → Nat | nil => 0 | node l _ _ r => 1 + l.sz + r.sz
def by_ (f : ν → Nat) : Tr κ ν → Nat | nil => 0 | node l _ v r => f v + l.by_ f + r.by_ f
def flat : Tr κ ν → List (κ × ν) | nil => [] | node l k v r => l.flat ++ (k, v) :: r.flat
def bal (l : Tr κ ν) (k : κ) (v : ν) (r : Tr κ ν) : Tr κ ν :=
  if r.ht + 1 < l.ht then
    match l with
    | nil => node nil k v r
    | node ll lk lv lr =>
      if lr.ht ≤ ll.ht then node ll lk lv (node lr k v r)
      else match lr with
        | nil => node (node ll lk lv nil) k v r
        | node a m mv b => node (node ll lk lv a) m mv (node b k v r)
  else if l.ht + 1 < r.ht then
    match r with
    | nil => node l k v nil
    | node rl rk rv rr =>
      if rl.ht ≤ rr.ht then node (node l k v rl) rk rv rr
      else match rl with
        | nil => node l k v (node nil rk rv rr)
        | node a m mv b => node (node l k v a) m mv (node b rk rv rr)
  else node l k v r
theorem flat_bal (l : Tr κ ν) (k : κ) (v : ν) (r : Tr κ ν) : (bal l k v r).flat = l.flat ++ (k, v) :: r.flat := by
  unfold bal
  split
  · cases l with
    | nil => rfl
    | node ll lk lv lr =>
      simp only
      split
      · simp [flat]
      · cases lr with
        | nil => simp [flat]
        | node a m mv b => simp [flat]
  · split
    · cases r with
      | nil => rfl
      | node rl rk rv rr =>
        simp only
        split
        · simp [flat]
        · cases rl with
          | nil => simp [flat]
          | node a m mv b => simp [flat]
    · rfl
theorem sz_flat : ∀ t : Tr κ ν, t.sz = t.flat.length
  | nil => rfl
  | node l k v r => by simp [sz, flat, sz_flat l, sz_flat r]; omega
theorem by_flat (f : ν → Nat) : ∀ t : Tr κ ν, t.by_ f = (t.flat.map fun p => f p.2).sum
  | nil => rfl
  | node l k v r => by simp [by_, flat, by_flat f l, by_flat f r]; omega
theorem ht_sz : ∀ t : Tr κ ν, t.ht ≤ t.sz
  | nil => Nat.le_refl _
  | node l k v r => by have := ht_sz l; have := ht_sz r; simp [ht, sz]; omega
variable (c : κ → κ → Int)
def with_ (k : κ) (v : ν) : Tr κ ν → Tr κ ν
  | nil => node nil k v nil
  | node l a x r => if c k a < 0 then bal (l.with_ k v) a x r else if 0 < c k a then bal l a x (r.with_ k v) else node l k v r
/-- The first node of a tree. -/
def first : Tr κ ν → Option (κ × ν)
  | nil => none
  | node nil k v _ => some (k, v)
  | node (node a b d e) _ _ _ => first (node a b d e)
/-- What without leaves of a tree without its first node. -/
def rest : Tr κ ν → Tr κ ν
  | nil => nil
  | node nil _ _ r => r
  | node (node a b d e) k v r => bal (rest (node a b d e)) k v r
def without (k : κ) : Tr κ ν → Tr κ ν
  | nil => nil
  | node l a x r => if c k a < 0 then bal (l.without k) a x r else if 0 < c k a then bal l a x (r.without k) else
    match r.first with
    | none => l
    | some (m, y) => bal l m y (r.without m)
def find (k : κ) : Tr κ ν → Option ν
  | nil => none
  | node l a x r => if c k a = 0 then some x else if c k a < 0 then l.find k else r.find k
end Tr
section
variable {κ ν : Type} (c : κ → κ → Int)
def ins (k : κ) (v : ν) : List (κ × ν) → List (κ × ν)
  | [] => [(k, v)]
  | (a, x) :: l => if c k a < 0 then (k, v) :: (a, x) :: l else if 0 < c k a then (a, x) :: ins k v l else (k, v) :: l
def del (k : κ) : List (κ × ν) → List (κ × ν)
  | [] => []
  | (a, x) :: l => if c k a = 0 then l else (a, x) :: del k l
def look (k : κ) : List (κ × ν) → Option ν
  | [] => none
  | (a, x) :: l => if c k a = 0 then some x else look k l
def Srt (S : κ → Prop) (l : List (κ × ν)) : Prop := l.Pairwise (fun p q => c p.1 q.1 < 0) ∧ ∀ p ∈ l, S p.1
variable {c} {S : κ → Prop}
theorem COrd.flip (O : COrd c S) {a b : κ} (ha : S a) (hb : S b) (h : c a b < 0) : 0 < c b a := (O.anti ha hb).1 h
theorem COrd.ne (O : COrd c S) {a b : κ} (ha : S a) (hb : S b) (h : c a b ≠ 0) : a ≠ b := fun e => h ((O.eq ha hb).2 e)
theorem COrd.refl (O : COrd c S) {a : κ} (ha : S a) : c a a = 0 := (O.eq ha ha).2 rfl
theorem Srt.left {l r : List (κ × ν)} (h : Srt c S (l ++ r)) : Srt c S l := ⟨(List.pairwise_append.1 h.1).1, fun p hp => h.2 p (List.mem_append_left _ hp)⟩
theorem Srt.right {l r : List (κ × ν)} (h : Srt c S (l ++ r)) : Srt c S r := ⟨(List.pairwise_append.1 h.1).2.1, fun p hp => h.2 p (List.mem_append_right _ hp)⟩
theorem Srt.tail {p : κ × ν} {r : List (κ × ν)} (h : Srt c S (p :: r)) : Srt c S r := ⟨(List.pairwise_cons.1 h.1).2, fun q hq => h.2 q (List.mem_cons_of_mem _ hq)⟩
theorem Srt.lt {l : List (κ × ν)} {p : κ × ν} {r : List (κ × ν)} (h : Srt c S (l ++ p :: r)) : ∀ q ∈ l, c q.1 p.1 < 0 := fun q hq => (List.pairwise_append.1 h.1).2.2 q hq p (List.mem_cons_self ..)
theorem Srt.gt {p : κ × ν} {r : List (κ × ν)} (h : Srt c S (p :: r)) : ∀ q ∈ r, c p.1 q.1 < 0 := (List.pairwise_cons.1 h.1).1
theorem ins_left (O : COrd c S) {k : κ} (hk : S k) (v : ν) {p : κ × ν} (hp : S p.1) (r : List (κ × ν)) (h : c k p.1 < 0) : ∀ l : List (κ × ν), Srt c S (l ++ p :: r) → ins c k v (l ++ p :: r) = ins c k v l ++ p :: r
  | [], hs => by simp [ins, h]
  | q :: l, hs => by
    have hq := hs.2 q (by simp)
    simp only [List.cons_append, ins]
    split
    · rfl
    split
    · rw [ins_left O hk v hp r h l hs.tail]; rfl
    · rfl
theorem ins_right (O : COrd c S) {k : κ} (hk : S k) (v : ν) {p : κ × ν} (hp : S p.1) (r : List (κ × ν)) (h : 0 < c k p.1) : ∀ l : List (κ × ν), Srt c S (l ++ p :: r) → ins c k v (l ++ p :: r) = l ++ p :: ins c k v r
  | [], hs => by
    have e : ¬ c k p.1 < 0 := by omega
    simp only [List.nil_append, ins, if_neg e, if_pos h]
  | q :: l, hs => by
    have hq := hs.2 q (by simp)
    have h1 : c q.1 p.1 < 0 := hs.lt (l := q :: l) q (by simp)
    have h2 : c p.1 k < 0 := (O.anti hp hk).2 h
    have h3 := O.flip hq hk (O.trans hq hp hk h1 h2)
    have e : ¬ c k q.1 < 0 := by omega
    simp only [List.cons_append, ins, if_neg e, if_pos h3]
    rw [ins_right O hk v hp r h l hs.tail]
theorem ins_mid (O : COrd c S) {k : κ} (hk : S k) (v : ν) {p : κ × ν} (hp : S p.1) (r : List (κ × ν)) (h : c k p.1 = 0) : ∀ l : List (κ × ν), Srt c S (l ++ p :: r) → ins c k v (l ++ p :: r) = l ++ (k, v) :: r
  | [], hs => by
    have e1 : ¬ c k p.1 < 0 := by omega
    have e2 : ¬ 0 < c k p.1 := by omega
    simp only [List.nil_append, ins, if_neg e1, if_neg e2]
  | q :: l, hs => by
    have hq := hs.2 q (by simp)
    have h1 : c q.1 p.1 < 0 := hs.lt (l := q :: l) q (by simp)
    obtain rfl := (O.eq hk hp).1 h
    have h3 := O.flip hq hk h1
    have e : ¬ c p.1 q.1 < 0 := by omega
    simp only [List.cons_append, ins, if_neg e, if_pos h3]
    rw [ins_mid O hk v hp r h l hs.tail]
theorem flat_with (O : COrd c S) {k : κ} (hk : S k) (v : ν) : ∀ t : Tr κ ν, Srt c S t.flat → (t.with_ c k v).flat = ins c k v t.flat
  | .nil, _ => rfl
  | .node l a x r, hs => by
    have ha : S a := hs.2 (a, x) (by simp [Tr.flat])
    simp only [Tr.flat] at hs ⊢
    simp only [Tr.with_]
    split
    · rename_i h
      rw [Tr.flat_bal, flat_with O hk v l hs.left, ins_left O hk v (p := (a, x)) ha _ h _ hs]
    split
    · rename_i h
      rw [Tr.flat_bal, flat_with O hk v r hs.right.tail, ins_right O hk v (p := (a, x)) ha _ h _ hs]
    · rw [ins_mid O hk v (p := (a, x)) ha _ (show c k a = 0 by omega) _ hs]; rfl
theorem mem_ins {k : κ} {v : ν} {q : κ × ν} : ∀ l : List (κ × ν), q ∈ ins c k v l → q = (k, v) ∨ q ∈ l
  | [], h => by simp [ins] at h; exact .inl h
  | p :: l, h => by
    simp only [ins] at h
    split at h
    · rcases List.mem_cons.1 h with h | h
      · exact .inl h
      · exact .inr h
    split at h
    · rcases List.mem_cons.1 h with h | h
      · exact .inr (by simp [h])
      · rcases mem_ins l h with h | h
        · exact .inl h
        · exact .inr (List.mem_cons_of_mem _ h)
    · rcases List.mem_cons.1 h with h | h
      · exact .inl h
      · exact .inr (List.mem_cons_of_mem _ h)
theorem srt_ins (O : COrd c S) {k : κ} (hk : S k) (v : ν) : ∀ l : List (κ × ν), Srt c S l → Srt c S (ins c k v l)
  | [], h => ⟨by simp [ins], by simp [ins]; exact hk⟩
  | p :: l, h => by
    have hp : S p.1 := h.2 p (by simp)
    simp only [ins]
    split
    · rename_i h1
      refine ⟨List.pairwise_cons.2 ⟨fun q hq => ?_, h.1⟩, fun q hq => ?_⟩
      · rcases List.mem_cons.1 hq with rfl | hq
        · exact h1
        · exact O.trans hk hp (h.2 q (List.mem_cons_of_mem _ hq)) h1 (h.gt q hq)
      · rcases List.mem_cons.1 hq with rfl | hq
        · exact hk
        · exact h.2 q hq
    split
    · rename_i h1 h2
      have ih := srt_ins O hk v l h.tail
      refine ⟨List.pairwise_cons.2 ⟨fun q hq => ?_, ih.1⟩, fun q hq => ?_⟩
      · rcases mem_ins l hq with rfl | hq
        · exact (O.anti hp hk).2 h2
        · exact h.gt q hq
      · rcases List.mem_cons.1 hq with rfl | hq
        · exact hp
        · exact ih.2 q hq
    · rename_i h1 h2
      obtain rfl : k = p.1 := (O.eq hk hp).1 (by omega)
      exact ⟨List.pairwise_cons.2 ⟨fun q hq => h.gt q hq, h.tail.1⟩, fun q hq => by
        rcases List.mem_cons.1 hq with rfl | hq
        · exact hk
        · exact h.2 q (List.mem_cons_of_mem _ hq)⟩
theorem look_left (O : COrd c S) {k : κ} (hk : S k) {p : κ × ν} (hp : S p.1) (r : List (κ × ν)) (h : c k p.1 < 0) : ∀ l : List (κ × ν), Srt c S (l ++ p :: r) → look c k (l ++ p :: r) = look c k l
  | [], hs => by
    have h0 : ∀ q ∈ p :: r, c k q.1 ≠ 0 := fun q hq => by
      rcases List.mem_cons.1 hq with rfl | hq
      · omega
      · have := O.trans hk hp (hs.2 q (by simp [hq])) h (Srt.gt (by simpa using hs) q hq)
        omega
    have : ∀ l : List (κ × ν), (∀ q ∈ l, c k q.1 ≠ 0) → look c k l = none := fun l => by
      induction l with
      | nil => intro _; rfl
      | cons q l ih => intro h; simp only [look]; rw [if_neg (h q (by simp)), ih fun q hq => h q (by simp [hq])]
    rw [List.nil_append, this _ h0]; rfl
  | q :: l, hs => by
    simp only [List.cons_append, look]
    rw [look_left O hk hp r h l hs.tail]
theorem look_right (O : COrd c S) {k : κ} (hk : S k) {p : κ × ν} (hp : S p.1) (r : List (κ × ν)) (h : 0 < c k p.1) : ∀ l : List (κ × ν), Srt c S (l ++ p :: r) → look c k (l ++ p :: r) = look c k r
  | [], hs => by simp only [List.nil_append, look]; rw [if_neg (by omega)]
  | q :: l, hs => by
    have hq := hs.2 q (by simp)
    have h1 : c q.1 p.1 < 0 := hs.lt (l := q :: l) q (by simp)
    have h2 : c p.1 k < 0 := (O.anti hp hk).2 h
    have h3 := O.flip hq hk (O.trans hq hp hk h1 h2)
    simp only [List.cons_append, look]
    rw [if_neg (by omega), look_right O hk hp r h l hs.tail]
theorem look_mid (O : COrd c S) {k : κ} (hk : S k) {p : κ × ν} (hp : S p.1) (r : List (κ × ν)) (h : c k p.1 = 0) : ∀ l : List (κ × ν), Srt c S (l ++ p :: r) → look c k (l ++ p :: r) = some p.2
  | [], hs => by simp only [List.nil_append, look]; rw [if_pos h]
  | q :: l, hs => by
    have hq := hs.2 q (by simp)
    have h1 : c q.1 p.1 < 0 := hs.lt (l := q :: l) q (by simp)
    obtain rfl := (O.eq hk hp).1 h
    have h3 := O.flip hq hk h1
    simp only [List.cons_append, look]
    rw [if_neg (by omega), look_mid O hk hp r h l hs.tail]
theorem find_look (O : COrd c S) {k : κ} (hk : S k) : ∀ t : Tr κ ν, Srt c S t.flat → t.find c k = look c k t.flat
  | .nil, _ => rfl
  | .node l a x r, hs => by
    have ha : S a := hs.2 (a, x) (by simp [Tr.flat])
    simp only [Tr.flat] at hs ⊢
    simp only [Tr.find]
    split
    · rename_i h; rw [look_mid O hk (p := (a, x)) ha _ h _ hs]
    split
    · rename_i h1 h; rw [look_left O hk (p := (a, x)) ha _ h _ hs, find_look O hk l hs.left]
    · rename_i h1 h; rw [look_right O hk (p := (a, x)) ha _ (show 0 < c k a by omega) _ hs, find_look O hk r hs.right.tail]
theorem del_left (O : COrd c S) {k : κ} (hk : S k) {p : κ × ν} (hp : S p.1) (r : List (κ × ν)) (h : c k p.1 < 0) : ∀ l : List (κ × ν), Srt c S (l ++ p :: r) → del c k (l ++ p :: r) = del c k l ++ p :: r
  | [], hs => by
    have h0 : ∀ q ∈ p :: r, c k q.1 ≠ 0 := fun q hq => by
      rcases List.mem_cons.1 hq with rfl | hq
      · omega
      · have := O.trans hk hp (hs.2 q (by simp [hq])) h (Srt.gt (by simpa using hs) q hq)
        omega
    have : ∀ l : List (κ × ν), (∀ q ∈ l, c k q.1 ≠ 0) → del c k l = l := fun l => by
      induction l with
      | nil => intro _; rfl
      | cons q l ih => intro h; simp only [del]; rw [if_neg (h q (by simp)), ih fun q hq => h q (by simp [hq])]
    rw [List.nil_append, this _ h0]; rfl
  | q :: l, hs => by
    simp only [List.cons_append, del]
    split
    · rfl
    · rw [del_left O hk hp r h l hs.tail]; rfl
theorem del_right (O : COrd c S) {k : κ} (hk : S k) {p : κ × ν} (hp : S p.1) (r : List (κ × ν)) (h : 0 < c k p.1) : ∀ l : List (κ × ν), Srt c S (l ++ p :: r) → del c k (l ++ p :: r) = l ++ p :: del c k r
  | [], hs => by simp only [List.nil_append, del]; rw [if_neg (by omega)]
  | q :: l, hs => by
    have hq := hs.2 q (by simp)
    have h1 : c q.1 p.1 < 0 := hs.lt (l := q :: l) q (by simp)
    have h2 : c p.1 k < 0 := (O.anti hp hk).2 h
    have h3 := O.flip hq hk (O.trans hq hp hk h1 h2)
    simp only [List.cons_append, del]
    rw [if_neg (by omega), del_right O hk hp r h l hs.tail]
theorem del_mid (O : COrd c S) {k : κ} (hk : S k) {p : κ × ν} (hp : S p.1) (r : List (κ × ν)) (h : c k p.1 = 0) : ∀ l : List (κ × ν), Srt c S (l ++ p :: r) → del c k (l ++ p :: r) = l ++ r
  | [], hs => by simp only [List.nil_append, del]; rw [if_pos h]
  | q :: l, hs => by
    have hq := hs.2 q (by simp)
    have h1 : c q.1 p.1 < 0 := hs.lt (l := q :: l) q (by simp)
    obtain rfl := (O.eq hk hp).1 h
    have h3 := O.flip hq hk h1
    simp only [List.cons_append, del]
    rw [if_neg (by omega), del_mid O hk hp r h l hs.tail]
theorem first_flat : ∀ t : Tr κ ν, t.first = t.flat.head?
  | .nil => rfl
  | .node .nil k v r => rfl
  | .node (.node a b d e) k v r => by
    rw [Tr.first, first_flat (.node a b d e)]
    simp only [Tr.flat]
    cases a.flat <;> rfl
theorem flat_without (O : COrd c S) : ∀ (t : Tr κ ν) {k : κ}, S k → Srt c S t.flat → (t.without c k).flat = del c k t.flat
  | .nil, _, _, _ => rfl
  | .node l a x r, k, hk, hs => by
    have ha : S a := hs.2 (a, x) (by simp [Tr.flat])
    simp only [Tr.flat] at hs ⊢
    simp only [Tr.without]
    split
    · rename_i h
      rw [Tr.flat_bal, flat_without O l hk hs.left, del_left O hk (p := (a, x)) ha _ h _ hs]
    split
    · rename_i h
      rw [Tr.flat_bal, flat_without O r hk hs.right.tail, del_right O hk (p := (a, x)) ha _ h _ hs]
    · rw [del_mid O hk (p := (a, x)) ha _ (show c k a = 0 by omega) _ hs]
      have hf := first_flat r
      cases hr : r.flat with
      | nil => rw [hr] at hf; simp only [hf, List.head?_nil]; simp
      | cons q r' =>
        rw [hr] at hf
        simp only [hf, List.head?_cons]
        have hq : S q.1 := hs.2 q (by simp [hr])
        rw [Tr.flat_bal, flat_without O r hq hs.right.tail, hr]
        simp only [del, O.refl hq, if_true]
theorem mem_del {k : κ} {q : κ × ν} : ∀ l : List (κ × ν), q ∈ del c k l → q ∈ l
  | [], h => h
  | p :: l, h => by
    simp only [del] at h
    split at h
    · exact List.mem_cons_of_mem _ h
    · rcases List.mem_cons.1 h with h | h
      · simp [h]
      · exact List.mem_cons_of_mem _ (mem_del l h)
theorem srt_del {k : κ} : ∀ l : List (κ × ν), Srt c S l → Srt c S (del c k l)
  | [], h => h
  | p :: l, h => by
    simp only [del]
    split
    · exact h.tail
    · have ih := srt_del (k := k) l h.tail
      exact ⟨List.pairwise_cons.2 ⟨fun q hq => h.gt q (mem_del l hq), ih.1⟩, fun q hq => by
        rcases List.mem_cons.1 hq with e | hq
        · rw [e]; exact h.2 p (by simp)
        · exact ih.2 q hq⟩
theorem length_ins {k : κ} {v : ν} : ∀ l : List (κ × ν), (ins c k v l).length ≤ l.length + 1
  | [] => by simp [ins]
  | p :: l => by simp only [ins]; split; · simp
                 split
                 · have := length_ins (k := k) (v := v) l; simp; omega
                 · simp
theorem length_del {k : κ} : ∀ l : List (κ × ν), (del c k l).length ≤ l.length
  | [] => Nat.le_refl _
  | p :: l => by simp only [del]; split; · simp
                 have := length_del (k := k) l; simp; omega
end
end Go.Proofs.YtamjllakfgphnaaGreatDoor
/- Plain facts of layer 46: names and their order. -/
namespace Go.Proofs.YtamjllakfgphnaaGreatDoor
set_option linter.unusedVariables false
abbrev Bs := List UInt8
structure Nm where
  kind : Int
  owner : Bs
  num : Int
  idx : Int
  text : Bs
deriving DecidableEq
def cmpI (a b : Int) : Int := if a < b then -1 else if b < a then 1 else 0
def blt : Bs → Bs → Bool
  | _, [] => false
  | [], _ :: _ => true
  | a :: x, b :: y => a < b || (a == b && blt x y)
def cmpS (a b : Bs) : Int := if blt a b then -1 else if blt b a then 1 else 0
def or3 (a b c : Int) : Int := if a ≠ 0 then a else if b ≠ 0 then b else c
/-- Compare at names of one owner. -/
def cmpN (a b : Nm) : Int := if cmpI a.kind b.kind ≠ 0 then cmpI a.kind b.kind else or3 (cmpI a.num b.num) (cmpI a.idx b.idx) (cmpS a.text b.text)
theorem cmpI_eq {a b : Int} : cmpI a b = 0 ↔ a = b := by unfold cmpI; split <;> try split
                                                         all_goals omega
theorem cmpI_lt {a b : Int} : cmpI a b < 0 ↔ a < b := by unfold cmpI; split <;> try split
                                                         all_goals omega
theorem cmpI_gt {a b : Int} : 0 < cmpI a b ↔ b < a := by unfold cmpI; split <;> try split
                                                         all_goals omega
theorem blt_irrefl : ∀ a : Bs, blt a a = false
  | [] => rfl
  | x :: a => by simp [blt, blt_irrefl a, UInt8.lt_irrefl]
theorem blt_asymm : ∀ {a b : Bs}, blt a b = true → blt b a = false
  | _, [], h => by simp [blt] at h
  | [], _ :: _, _ => rfl
  | x :: a, y :: b, h => by
    simp only [blt, Bool.or_eq_true, decide_eq_true_eq, Bool.and_eq_true, beq_iff_eq] at h
    rcases h with h | ⟨rfl, h⟩
    · have h1 : ¬ y < x := fun h2 => UInt8.lt_irrefl x (UInt8.lt_trans h h2)
      have h2 : (y == x) = false := by rw [beq_eq_false_iff_ne]; rintro rfl; exact UInt8.lt_irrefl _ h
      simp [blt, h1, h2]
    · simp [blt, blt_asymm h, UInt8.lt_irrefl]
theorem blt_tri : ∀ {a b : Bs}, blt a b = false → blt b a = false → a = b
  | [], [], _, _ => rfl
  | [], _ :: _, h, _ => by simp [blt] at h
  | _ :: _, [], _, h => by simp [blt] at h
  | x :: a, y :: b, h1, h2 => by
    simp only [blt, Bool.or_eq_false_iff, decide_eq_false_iff_not, Bool.and_eq_false_iff, beq_eq_false_iff_ne] at h1 h2
    have e : x = y := UInt8.le_antisymm (UInt8.not_lt.1 h2.1) (UInt8.not_lt.1 h1.1)
    subst e
    rw [blt_tri (h1.2.resolve_left (by simp)) (h2.2.resolve_left (by simp))]
theorem blt_trans : ∀ {a b c : Bs}, blt a b = true → blt b c = true → blt a c = true
  | _, [], _, h, _ => by simp [blt] at h
  | _, _ :: _, [], _, h => by simp [blt] at h
  | [], _ :: _, _ :: _, _, _ => rfl
  | x :: a, y :: b, z :: c, h1, h2 => by
    simp only [blt, Bool.or_eq_true, decide_eq_true_eq, Bool.and_eq_true, beq_iff_eq] at h1 h2 ⊢
    rcases h1 with h1 | ⟨rfl, h1⟩
    · rcases h2 with h2 | ⟨rfl, h2⟩
      · exact .inl (UInt8.lt_trans h1 h2)
      · exact .inl h1
    · rcases h2 with h2 | ⟨rfl, h2⟩
      · exact .inl h2
      · exact .inr ⟨rfl, blt_trans h1 h2⟩
theorem cmpS_eq {a b : Bs} : cmpS a b = 0 ↔ a = b := by
  unfold cmpS
  constructor
  · intro h
    cases h1 : blt a b with
    | true => simp [h1] at h
    | false =>
      cases h2 : blt b a with
      | true => simp [h1, h2] at h
      | false => exact blt_tri h1 h2
  · rintro rfl; simp [blt_irrefl]
theorem cmpS_lt {a b : Bs} : cmpS a b < 0 ↔ blt a b = true := by
  unfold cmpS
  cases h1 : blt a b with
  | true => simp
  | false => cases h2 : blt b a <;> simp
theorem cmpS_gt {a b : Bs} : 0 < cmpS a b ↔ blt b a = true := by
  unfold cmpS
  cases h1 : blt a b with
  | true => simp [blt_asymm h1]
  | false => cases h2 : blt b a <;> simp
def OwnE (n : Nm) : Prop := n.owner = []
/-- The order of names, taken apart. -/
theorem cmpN_lt {a b : Nm} : cmpN a b < 0 ↔ a.kind < b.kind ∨ (a.kind = b.kind ∧ (a.num < b.num ∨ (a.num = b.num ∧ (a.idx < b.idx ∨ (a.idx = b.idx ∧ blt a.text b.text = true))))) := by
  have k1 := cmpI_eq (a := a.kind) (b := b.kind)
  have k2 := cmpI_lt (a := a.kind) (b := b.kind)
  have n1 := cmpI_eq (a := a.num) (b := b.num)
  have n2 := cmpI_lt (a := a.num) (b := b.num)
  have i1 := cmpI_eq (a := a.idx) (b := b.idx)
  have i2 := cmpI_lt (a := a.idx) (b := b.idx)
  unfold cmpN or3
  rw [← cmpS_lt]
  split
  · rename_i h; rw [k2]; omega
  split
  · rename_i h h'; rw [n2]; omega
  split
  · rename_i h h' h''; rw [i2]; omega
  · rename_i h h' h''
    have e1 : a.kind = b.kind := by omega
    have e2 : a.num = b.num := by omega
    have e3 : a.idx = b.idx := by omega
    simp [e1, e2, e3]
theorem cmpN_gt {a b : Nm} : 0 < cmpN a b ↔ b.kind < a.kind ∨ (a.kind = b.kind ∧ (b.num < a.num ∨ (a.num = b.num ∧ (b.idx < a.idx ∨ (a.idx = b.idx ∧ blt b.text a.text = true))))) := by
  have k1 := cmpI_eq (a := a.kind) (b := b.kind)
  have k2 := cmpI_gt (a := a.kind) (b := b.kind)
  have n1 := cmpI_eq (a := a.num) (b := b.num)
  have n2 := cmpI_gt (a := a.num) (b := b.num)
  have i1 := cmpI_eq (a := a.idx) (b := b.idx)
  have i2 := cmpI_gt (a := a.idx) (b := b.idx)
  unfold cmpN or3
  rw [← cmpS_gt]
  split
  · rename_i h; rw [k2]; omega
  split
  · rename_i h h'; rw [n2]; omega
  split
  · rename_i h h' h''; rw [i2]; omega
  · rename_i h h' h''
    have e1 : a.kind = b.kind := by omega
    have e2 : a.num = b.num := by omega
    have e3 : a.idx = b.idx := by omega
    simp [e1, e2, e3]
theorem cmpN_eq {a b : Nm} (h : a.owner = b.owner) : cmpN a b = 0 ↔ a = b := by
  constructor
  · intro h0
    have h1 := fun x => Int.ne_of_lt (cmpN_lt.2 x) h0
    have h2 := fun x => Int.ne_of_gt (cmpN_gt.2 x) h0
    have e1 : a.kind = b.kind := by
      rcases Int.lt_trichotomy a.kind b.kind with x | x | x
      · exact (h1 (.inl x)).elim
      · exact x
      · exact (h2 (.inl x)).elim
    have e2 : a.num = b.num := by
      rcases Int.lt_trichotomy a.num b.num with x | x | x
      · exact (h1 (.inr ⟨e1, .inl x⟩)).elim
      · exact x
      · exact (h2 (.inr ⟨e1, .inl x⟩)).elim
    have e3 : a.idx = b.idx := by
      rcases Int.lt_trichotomy a.idx b.idx with x | x | x
      · exact (h1 (.inr ⟨e1, .inr ⟨e2, .inl x⟩⟩)).elim
      · exact x
      · exact (h2 (.inr ⟨e1, .inr ⟨e2, .inl x⟩⟩)).elim
    have e4 : a.text = b.text := by
      refine blt_tri ?_ ?_
      · exact Bool.eq_false_iff.2 fun x => (h1 (.inr ⟨e1, .inr ⟨e2, .inr ⟨e3, x⟩⟩⟩)).elim
      · exact Bool.eq_false_iff.2 fun x => (h2 (.inr ⟨e1, .inr ⟨e2, .inr ⟨e3, x⟩⟩⟩)).elim
    cases a; cases b; simp_all
  · rintro rfl
    have h1 : ¬ cmpN a a < 0 := fun h => by have := cmpN_lt.1 h; simp [blt_irrefl] at this
    have h2 : ¬ 0 < cmpN a a := fun h => by have := cmpN_gt.1 h; simp [blt_irrefl] at this
    omega
theorem ordN : COrd cmpN OwnE where
  eq ha hb := cmpN_eq (ha.trans hb.symm)
  anti {a b} ha hb := by
    rw [cmpN_lt, cmpN_gt]
    constructor
    · rintro (h | ⟨h, h' | ⟨h', h'' | ⟨h'', h4⟩⟩⟩)
      · exact .inl h
      · exact .inr ⟨h.symm, .inl h'⟩
      · exact .inr ⟨h.symm, .inr ⟨h'.symm, .inl h''⟩⟩
      · exact .inr ⟨h.symm, .inr ⟨h'.symm, .inr ⟨h''.symm, h4⟩⟩⟩
    · rintro (h | ⟨h, h' | ⟨h', h'' | ⟨h'', h4⟩⟩⟩)
      · exact .inl h
      · exact .inr ⟨h.symm, .inl h'⟩
      · exact .inr ⟨h.symm, .inr ⟨h'.symm, .inl h''⟩⟩
      · exact .inr ⟨h.symm, .inr ⟨h'.symm, .inr ⟨h''.symm, h4⟩⟩⟩
  trans {a b d} ha hb hd := by
    rw [cmpN_lt, cmpN_lt, cmpN_lt]
    rintro (h | ⟨h, h' | ⟨h', h'' | ⟨h'', h4⟩⟩⟩) (g | ⟨g, g' | ⟨g', g'' | ⟨g'', g4⟩⟩⟩)
    all_goals first
      | (left; omega)
      | (right; refine ⟨by omega, ?_⟩; left; omega)
      | (right; refine ⟨by omega, ?_⟩; right; refine ⟨by omega, ?_⟩; left; omega)
      | (right; refine ⟨by omega, ?_⟩; right; refine ⟨by omega, ?_⟩; right; exact ⟨by omega, blt_trans h4 g4⟩)
end Go.Proofs.YtamjllakfgphnaaGreatDoor
/- Plain facts of layer 46: sorted lists without repeats. -/
namespace Go.Proofs.YtamjllakfgphnaaGreatDoor
set_option linter.unusedVariables false
section
variable {κ : Type} (c : κ → κ → Int)
def insU (x : κ) : List κ → List κ
  | [] => [x]
  | a :: l => if c x a < 0 then x :: a :: l else if 0 < c x a then a :: insU x l else a :: l
def sortU (l : List κ) : List κ := l.foldr (insU c) []
def Strict (l : List κ) : Prop := l.Pairwise (fun a b => c a b < 0)
def Weak (l : List κ) : Prop := l.Pairwise (fun a b => c a b ≤ 0)
variable {c} {S : κ → Prop}
theorem mem_insU (O : COrd c S) {x : κ} (hx : S x) {y : κ} : ∀ l : List κ, (∀ a ∈ l, S a) → (y ∈ insU c x l ↔ y = x ∨ y ∈ l)
  | [], _ => by simp [insU]
  | a :: l, h => by
    have ha : S a := h a (by simp)
    have ih := mem_insU O hx (y := y) l fun b hb => h b (by simp [hb])
    simp only [insU]
    split
    · simp
    split
    · simp only [List.mem_cons, ih]
      constructor
      · rintro (h | h | h)
        · exact .inr (.inl h)
        · exact .inl h
        · exact .inr (.inr h)
      · rintro (h | h | h)
        · exact .inr (.inl h)
        · exact .inl h
        · exact .inr (.inr h)
    · obtain rfl : x = a := (O.eq hx ha).1 (by omega)
      simp
theorem mem_sortU (O : COrd c S) {y : κ} : ∀ l : List κ, (∀ a ∈ l, S a) → (y ∈ sortU c l ↔ y ∈ l)
  | [], _ => by simp [sortU]
  | a :: l, h => by
    have ih := fun z => mem_sortU O (y := z) l fun b hb => h b (by simp [hb])
    show y ∈ insU c a (sortU c l) ↔ _
    rw [mem_insU O (h a (by simp)) _ fun b hb => h b (by simp [(ih b).1 hb]), ih y]
    simp
theorem strict_insU (O : COrd c S) {x : κ} (hx : S x) : ∀ l : List κ, (∀ a ∈ l, S a) → Strict c l → Strict c (insU c x l)
  | [], _, _ => by simp [insU, Strict]
  | a :: l, h, hs => by
    have ha : S a := h a (by simp)
    have hl : ∀ b ∈ l, S b := fun b hb => h b (by simp [hb])
    have h1 := List.pairwise_cons.1 hs
    simp only [insU]
    split
    · rename_i hxa
      refine List.pairwise_cons.2 ⟨fun b hb => ?_, hs⟩
      rcases List.mem_cons.1 hb with rfl | hb
      · exact hxa
      · exact O.trans hx ha (hl b hb) hxa (h1.1 b hb)
    split
    · rename_i hxa
      refine List.pairwise_cons.2 ⟨fun b hb => ?_, strict_insU O hx l hl h1.2⟩
      rcases (mem_insU O hx l hl).1 hb with rfl | hb
      · exact (O.anti ha hx).2 hxa
      · exact h1.1 b hb
    · exact hs
theorem strict_sortU (O : COrd c S) : ∀ l : List κ, (∀ a ∈ l, S a) → Strict c (sortU c l)
  | [], _ => by simp [sortU, Strict]
  | a :: l, h => by
    have hl : ∀ b ∈ l, S b := fun b hb => h b (by simp [hb])
    exact strict_insU O (h a (by simp)) _ (fun b hb => hl b ((mem_sortU O l hl).1 hb)) (strict_sortU O l hl)
theorem strict_ext (O : COrd c S) : ∀ {l l' : List κ}, (∀ a ∈ l, S a) → Strict c l → Strict c l' → (∀ a, a ∈ l ↔ a ∈ l') → l = l'
  | [], [], _, _, _, _ => rfl
  | [], b :: l', _, _, _, h => by have := (h b).2 (by simp); simp at this
  | a :: l, [], _, _, _, h => by have := (h a).1 (by simp); simp at this
  | a :: l, b :: l', hS, h1, h2, h => by
    have p1 := List.pairwise_cons.1 h1
    have p2 := List.pairwise_cons.1 h2
    have hS' : ∀ x ∈ b :: l', S x := fun x hx => hS x ((h x).2 hx)
    have ha := hS a (by simp)
    have hb := hS' b (by simp)
    have e : a = b := by
      rcases List.mem_cons.1 ((h a).1 (by simp)) with e | h3
      · exact e
      rcases List.mem_cons.1 ((h b).2 (by simp)) with e | h4
      · exact e.symm
      have h5 := p2.1 a h3
      have h6 := p1.1 b h4
      have := (O.anti hb ha).1 h5
      omega
    subst e
    refine congrArg _ (strict_ext O (fun x hx => hS x (by simp [hx])) p1.2 p2.2 fun x => ⟨fun hx => ?_, fun hx => ?_⟩)
    · rcases List.mem_cons.1 ((h x).1 (by simp [hx])) with rfl | h3
      · have := p1.1 x hx; rw [O.refl ha] at this; omega
      · exact h3
    · rcases List.mem_cons.1 ((h x).2 (by simp [hx])) with rfl | h3
      · have := p2.1 x hx; rw [O.refl ha] at this; omega
      · exact h3
theorem sortU_strict (O : COrd c S) {l : List κ} (hS : ∀ a ∈ l, S a) (h : Strict c l) : sortU c l = l :=
  strict_ext O (fun a ha => hS a ((mem_sortU O l hS).1 ha)) (strict_sortU O l hS) h fun a => mem_sortU O l hS
theorem sortU_perm (O : COrd c S) {l l' : List κ} (hS : ∀ a ∈ l, S a) (h : l'.Perm l) : sortU c l' = sortU c l := by
  have hS' : ∀ a ∈ l', S a := fun a ha => hS a (h.mem_iff.1 ha)
  refine strict_ext O (fun a ha => hS' a ((mem_sortU O l' hS').1 ha)) (strict_sortU O l' hS') (strict_sortU O l hS) fun a => ?_
  rw [mem_sortU O l' hS', mem_sortU O l hS, h.mem_iff]
/-- A weakly sorted list without repeats is strictly sorted. -/
theorem strict_of_weak (O : COrd c S) {l : List κ} (hS : ∀ a ∈ l, S a) (h : Weak c l) (hn : l.Nodup) : Strict c l := by
  induction l with
  | nil => exact List.Pairwise.nil
  | cons a l ih =>
    have h1 := List.pairwise_cons.1 h
    have h2 := List.nodup_cons.1 hn
    refine List.pairwise_cons.2 ⟨fun b hb => ?_, ih (fun x hx => hS x (by simp [hx])) h1.2 h2.2⟩
    have h3 := h1.1 b hb
    have h4 : c a b ≠ 0 := fun e => h2.1 ((O.eq (hS a (by simp)) (hS b (by simp [hb]))).1 e ▸ hb)
    omega
/-- What Compact does. -/
def compact [DecidableEq κ] : List κ → List κ
  | [] => []
  | a :: l => match l with
    | [] => [a]
    | b :: r => if a = b then compact (b :: r) else a :: compact (b :: r)
theorem mem_compact [DecidableEq κ] {x : κ} : ∀ l : List κ, x ∈ compact l ↔ x ∈ l
  | [] => Iff.rfl
  | [a] => Iff.rfl
  | a :: b :: r => by
    have ih := mem_compact (x := x) (b :: r)
    rw [compact]
    split
    · rename_i e; subst e; rw [ih]; simp
    · rw [List.mem_cons, ih, List.mem_cons (b := a)]
theorem strict_compact [DecidableEq κ] (O : COrd c S) : ∀ {l : List κ}, (∀ a ∈ l, S a) → Weak c l → Strict c (compact l)
  | [], _, _ => List.Pairwise.nil
  | [a], _, _ => by simp [compact, Strict]
  | a :: b :: r, hS, h => by
    have h1 := List.pairwise_cons.1 h
    have hS' : ∀ x ∈ b :: r, S x := fun x hx => hS x (List.mem_cons_of_mem _ hx)
    have ih := strict_compact O hS' h1.2
    have ha := hS a (by simp)
    have hb := hS b (by simp)
    rw [compact]
    split
    · exact ih
    · rename_i hne
      have hab : c a b < 0 := by
        have := h1.1 b (by simp)
        have h0 : c a b ≠ 0 := fun e => hne ((O.eq ha hb).1 e)
        omega
      refine List.pairwise_cons.2 ⟨fun x hx => ?_, ih⟩
      rcases List.mem_cons.1 ((mem_compact _).1 hx) with rfl | hx
      · exact hab
      · have h3 := (List.pairwise_cons.1 h1.2).1 x hx
        have hxs := hS x (by simp [hx])
        by_cases e : c b x = 0
        · rw [← (O.eq hb hxs).1 e]; exact hab
        · exact O.trans ha hb hxs hab (by omega)
theorem compact_sortU [DecidableEq κ] (O : COrd c S) {l l0 : List κ} (hS : ∀ a ∈ l0, S a) (hp : l.Perm l0) (h : Weak c l) : compact l = sortU c l0 := by
  have hS' : ∀ a ∈ l, S a := fun a ha => hS a (hp.mem_iff.1 ha)
  refine strict_ext O (fun a ha => hS' a ((mem_compact l).1 ha)) (strict_compact O hS' h) (strict_sortU O l0 hS) fun a => ?_
  rw [mem_compact, mem_sortU O l0 hS, hp.mem_iff]
end
end Go.Proofs.YtamjllakfgphnaaGreatDoor
/- Plain facts of layer 46: actions, states, versions. -/
namespace Go.Proofs.YtamjllakfgphnaaGreatDoor
set_option linter.unusedVariables false
structure Ch where
  name : Nm
  value : Bs
  absent : Bool
deriving DecidableEq
structure Ky where
  tick : Int
  cls : Int
  num : Int
  lin : Bs
deriving DecidableEq
structure Ac where
  key : Ky
  reads : List Ch
  writes : List Ch
deriving DecidableEq
structure Ver where
  idx : Int
  value : Bs
  absent : Bool
deriving DecidableEq
abbrev St := List (Nm × Bs)
def obT : Nm := ⟨13, [], 1, 0, []⟩
def obC : Nm := ⟨15, [], 0, 0, []⟩
def obP : Nm := ⟨16, [], 2, 0, []⟩
def obA : Nm := ⟨17, [], 0, 0, [97]⟩
def obB : Nm := ⟨17, [], 0, 0, [98]⟩
def obE : Nm := ⟨20, [], 0, 0, []⟩
/-- The objects of the runs, in order. -/
def objs : List Nm := [obT, obC, obP, obA, obB, obE]
/-- An object of the runs. -/
def IsOb (n : Nm) : Prop := n ∈ objs
theorem IsOb.own {n : Nm} (h : IsOb n) : OwnE n := by
  unfold IsOb objs at h
  simp only [List.mem_cons, List.not_mem_nil, or_false] at h
  rcases h with rfl | rfl | rfl | rfl | rfl | rfl <;> rfl
theorem ordO : COrd cmpN IsOb where
  eq ha hb := ordN.eq ha.own hb.own
  anti ha hb := ordN.anti ha.own hb.own
  trans ha hb hd := ordN.trans ha.own hb.own hd.own
theorem objs_strict : Strict cmpN objs := by
  unfold Strict objs
  decide
/-- One change. -/
def app1 (s : St) (c : Ch) : St := if c.absent then del cmpN c.name s else ins cmpN c.name c.value s
def appS (s : St) (l : List Ch) : St := l.foldl app1 s
def ChOb (c : Ch) : Prop := IsOb c.name
/-- A state of the runs. -/
def StOk (s : St) : Prop := Srt cmpN IsOb s
theorem app1_ok {s : St} {c : Ch} (h : StOk s) (hc : IsOb c.name) : StOk (app1 s c) := by
  unfold app1
  split
  · exact srt_del s h
  · exact srt_ins ordO hc _ s h
theorem appS_ok : ∀ {l : List Ch} {s : St}, StOk s → (∀ c ∈ l, IsOb c.name) → StOk (appS s l)
  | [], s, h, _ => h
  | c :: l, s, h, hl => appS_ok (l := l) (app1_ok h (hl c (by simp))) fun d hd => hl d (by simp [hd])
theorem srt_nodup {s : St} (h : StOk s) : (s.map Prod.fst).Nodup := by
  unfold List.Nodup
  rw [List.pairwise_map]
  refine h.1.imp_of_mem ?_
  intro a b ha hb hab e
  have := ordO.refl (h.2 a ha)
  rw [← e, this] at hab
  omega
theorem nodup_len {α : Type} [BEq α] [LawfulBEq α] : ∀ {l l' : List α}, l.Nodup → l ⊆ l' → l.length ≤ l'.length
  | [], _, _, _ => Nat.zero_le _
  | a :: l, l', h, hs => by
    have h1 := List.nodup_cons.1 h
    have ha : a ∈ l' := hs (by simp)
    have ih := nodup_len (l := l) (l' := l'.erase a) h1.2 (fun x hx => (List.mem_erase_of_ne (fun e => h1.1 (by rw [← e]; exact hx))).2 (hs (by simp [hx])))
    rw [List.length_erase_of_mem ha] at ih
    have : 0 < l'.length := List.length_pos_of_mem ha
    simp; omega
/-- A state of the runs has at most six objects. -/
theorem st_six {s : St} (h : StOk s) : s.length ≤ 6 := by
  have h1 := srt_nodup h
  have h2 : (s.map Prod.fst) ⊆ objs := by
    intro n hn
    obtain ⟨p, hp, rfl⟩ := List.mem_map.1 hn
    exact h.2 p hp
  have := nodup_len h1 h2
  simpa [objs] using this
/-- Are changes orderly? -/
def okN (n : Nm) : Bool := decide (n ∈ objs)
def okCh (c : Ch) : Bool := okN c.name && decide (c.value.length ≤ 65536) && !(c.absent && !c.value.isEmpty)
def ordCh : List Ch → Bool
  | [] => true
  | c :: l => okCh c && (match l with | [] => true | d :: _ => decide (cmpN c.name d.name < 0)) && ordCh l
def okKy (k : Ky) : Bool := decide (0 ≤ k.tick) && (decide (k.cls = 2) || decide (1 ≤ k.num))
def okAc (a : Ac) : Bool := okKy a.key && ordCh a.reads && ordCh a.writes
/-- The order of keys of inputs. -/
def or4 (a b c d : Int) : Int := if or3 a b c ≠ 0 then or3 a b c else d
def cmpK (a b : Ky) : Int := or4 (cmpI a.tick b.tick) (cmpI a.cls b.cls) (cmpI a.num b.num) (cmpS a.lin b.lin)
/-- The lineages that occur. -/
def lin5 : List Bs := [[], [49], [50], [50, 46, 49], [51]]
/-- The keys of runs. -/
def KyR (k : Ky) : Prop := (-1 ≤ k.tick ∧ k.tick ≤ 100) ∧ k.lin ∈ lin5 ∧ ((k.cls = 0 ∧ 1 ≤ k.num ∧ k.num ≤ 256 ∧ k.lin = []) ∨ (k.cls = 2 ∧ k.num = 0 ∧ k.lin ≠ []))
/-- The first error of a run: 3 or 14. -/
def chk (p : Option Ky) : List Ac → Option Bool
  | [] => none
  | a :: l => if okAc a then (match p with | some k => if cmpK k a.key < 0 then chk (some a.key) l else some false | none => chk (some a.key) l) else some true
def vers (n : Nm) : Nat → List Ac → List Ver
  | _, [] => []
  | i, a :: l => ((a.writes.filter fun c => c.name == n).map fun c => ⟨i, c.value, c.absent⟩) ++ vers n (i + 1) l
def rdrs (n : Nm) : Nat → List Ac → List Int
  | _, [] => []
  | i, a :: l => ((a.reads.filter fun c => c.name == n).map fun _ => (i : Int)) ++ rdrs n (i + 1) l
def ver0 (s : St) (n : Nm) : Ver := ⟨-1, (look cmpN n s).getD [], (look cmpN n s).isNone⟩
def verL (s : St) (l : List Ac) (n : Nm) : List Ver := ver0 s n :: vers n 0 l
def befr (index : Int) : Ver → List Ver → Ver
  | v, [] => v
  | v, u :: l => befr index (if u.idx < index then u else v) l
theorem vers_snoc (n : Nm) (a : Ac) : ∀ (i : Nat) (l : List Ac), vers n i (l ++ [a]) = vers n i l ++ (a.writes.filter fun c => c.name == n).map fun c => ⟨((i + l.length : Nat) : Int), c.value, c.absent⟩
  | i, [] => by simp [vers]
  | i, b :: l => by
    have ih := vers_snoc n a (i + 1) l
    simp only [List.cons_append, vers, ih, List.append_assoc, List.length_cons]
    rw [show i + 1 + l.length = i + (l.length + 1) by omega]
theorem rdrs_snoc (n : Nm) (a : Ac) : ∀ (i : Nat) (l : List Ac), rdrs n i (l ++ [a]) = rdrs n i l ++ (a.reads.filter fun c => c.name == n).map fun _ => ((i + l.length : Nat) : Int)
  | i, [] => by simp [rdrs]
  | i, b :: l => by
    have ih := rdrs_snoc n a (i + 1) l
    simp only [List.cons_append, rdrs, ih, List.append_assoc, List.length_cons]
    rw [show i + 1 + l.length = i + (l.length + 1) by omega]
theorem vers_idx (n : Nm) : ∀ (i : Nat) (l : List Ac), ∀ v ∈ vers n i l, (i : Int) ≤ v.idx ∧ v.idx < i + l.length
  | i, [], v, h => by simp [vers] at h
  | i, a :: l, v, h => by
    simp only [vers, List.mem_append, List.mem_map] at h
    rcases h with ⟨c, _, rfl⟩ | h
    · simp; omega
    · have := vers_idx n (i + 1) l v h
      simp at this ⊢
      omega
theorem ord_nodup : ∀ {l : List Ch}, ordCh l = true → l.Pairwise (fun a b => cmpN a.name b.name < 0) ∧ ∀ c ∈ l, okCh c = true
  | [], _ => ⟨List.Pairwise.nil, by simp⟩
  | c :: l, h => by
    simp only [ordCh, Bool.and_eq_true] at h
    obtain ⟨⟨h1, h2⟩, h3⟩ := h
    obtain ⟨ih1, ih2⟩ := ord_nodup h3
    refine ⟨List.pairwise_cons.2 ⟨?_, ih1⟩, fun d hd => ?_⟩
    · cases l with
      | nil => intro d hd; simp at hd
      | cons d r =>
        simp only [decide_eq_true_eq] at h2
        have o : ∀ x : Ch, okCh x = true → IsOb x.name := fun x hx => by
          simp only [okCh, okN, Bool.and_eq_true, decide_eq_true_eq] at hx
          exact hx.1.1
        intro e he
        rcases List.mem_cons.1 he with rfl | he
        · exact h2
        · exact ordO.trans (o c h1) (o d (ih2 d (by simp))) (o e (ih2 e (by simp [he]))) h2 ((List.pairwise_cons.1 ih1).1 e he)
    · rcases List.mem_cons.1 hd with rfl | hd
      · exact h1
      · exact ih2 d hd
theorem okCh_ob {x : Ch} (hx : okCh x = true) : IsOb x.name := by
  simp only [okCh, okN, Bool.and_eq_true, decide_eq_true_eq] at hx
  exact hx.1.1
/-- Of orderly changes at most one has a name. -/
theorem ord_one {l : List Ch} (h : ordCh l = true) (n : Nm) : (l.filter fun c => c.name == n).length ≤ 1 := by
  obtain ⟨h1, h2⟩ := ord_nodup h
  have h3 : (l.filter fun c => c.name == n).Pairwise (fun a b => cmpN a.name b.name < 0) := h1.filter _
  cases hl : l.filter fun c => c.name == n with
  | nil => simp
  | cons a r =>
    cases r with
    | nil => simp
    | cons b r =>
      have ha : a ∈ l.filter fun c => c.name == n := by rw [hl]; simp
      have hb : b ∈ l.filter fun c => c.name == n := by rw [hl]; simp
      rw [List.mem_filter] at ha hb
      have e1 : a.name = n := by simpa using ha.2
      have e2 : b.name = n := by simpa using hb.2
      rw [hl] at h3
      have := (List.pairwise_cons.1 h3).1 b (by simp)
      have r0 := ordO.refl (okCh_ob (h2 a ha.1))
      rw [e2, ← e1, r0] at this
      omega
end Go.Proofs.YtamjllakfgphnaaGreatDoor
/- Plain facts of layer 46: the version that an action finds, and its readers. -/
namespace Go.Proofs.YtamjllakfgphnaaGreatDoor
set_option linter.unusedVariables false
def Inc (l : List Ver) : Prop := l.Pairwise (fun a b => a.idx < b.idx)
theorem befr_append (i : Int) : ∀ (v : Ver) (l r : List Ver), befr i v (l ++ r) = befr i (befr i v l) r
  | v, [], r => rfl
  | v, u :: l, r => by simp only [List.cons_append, befr]; exact befr_append i _ l r
theorem befr_stay (i : Int) : ∀ (v : Ver) (l : List Ver), (∀ u ∈ l, i ≤ u.idx) → befr i v l = v
  | v, [], _ => rfl
  | v, u :: l, h => by
    have := h u (by simp)
    simp only [befr]
    rw [if_neg (by omega)]
    exact befr_stay i v l fun x hx => h x (by simp [hx])
theorem befr_last (i : Int) : ∀ (v : Ver) (l : List Ver), (∀ u ∈ l, u.idx < i) → befr i v l = (v :: l).getLast (by simp)
  | v, [], _ => rfl
  | v, u :: l, h => by
    simp only [befr]
    rw [if_pos (h u (by simp)), befr_last i u l fun x hx => h x (by simp [hx])]
    simp
theorem befr_mem (i : Int) : ∀ (v : Ver) (l : List Ver), befr i v l = v ∨ (befr i v l ∈ l ∧ (befr i v l).idx < i)
  | v, [] => .inl rfl
  | v, u :: l => by
    simp only [befr]
    by_cases h : u.idx < i
    · rw [if_pos h]
      rcases befr_mem i u l with e | ⟨h1, h2⟩
      · rw [e]; exact .inr ⟨by simp, h⟩
      · exact .inr ⟨by simp [h1], h2⟩
    · rw [if_neg h]
      rcases befr_mem i v l with e | ⟨h1, h2⟩
      · exact .inl e
      · exact .inr ⟨by simp [h1], h2⟩
theorem befr_ge (i : Int) {x : Ver} (hx : x.idx < i) : ∀ (v : Ver) (l : List Ver), Inc l → x ∈ l → x.idx ≤ (befr i v l).idx
  | v, [], _, h => by simp at h
  | v, u :: l, hi, h => by
    have h1 := List.pairwise_cons.1 hi
    simp only [befr]
    rcases List.mem_cons.1 h with rfl | h
    · rw [if_pos hx]
      rcases befr_mem i x l with e | ⟨h2, _⟩
      · rw [e]; exact Int.le_refl _
      · exact Int.le_of_lt (h1.1 _ h2)
    · exact befr_ge i hx _ l h1.2 h
/-- What an action finds is the version with an index, if and only if the action lies behind it and not behind the next one. -/
theorem befr_iff (v0 : Ver) (h0 : v0.idx = -1) (l r : List Ver) (n : Nat) (hi : Inc (l ++ r)) (hb : ∀ u ∈ l ++ r, 0 ≤ u.idx ∧ u.idx < n) (i : Int) (hi0 : 0 ≤ i) (hin : i ≤ n) :
    (befr i v0 (l ++ r)).idx = ((v0 :: l).getLast (by simp)).idx ↔ ((v0 :: l).getLast (by simp)).idx < i ∧ i ≤ (match r with | [] => (n : Int) | u :: _ => u.idx) := by
  have hl : ∀ u ∈ l, u.idx ≤ ((v0 :: l).getLast (by simp)).idx := by
    intro u hu
    have hil := (List.pairwise_append.1 hi).1
    have : u ∈ v0 :: l := by simp [hu]
    rw [← List.dropLast_concat_getLast (l := v0 :: l) (by simp)] at this
    rcases List.mem_append.1 this with h | h
    · have hne : l ≠ [] := by rintro rfl; simp at hu
      rw [List.getLast_cons hne]
      rw [← List.dropLast_concat_getLast hne] at hu hil
      rcases List.mem_append.1 hu with h | h
      · exact Int.le_of_lt ((List.pairwise_append.1 hil).2.2 u h _ (by simp))
      · simp at h; rw [h]; exact Int.le_refl _
    · simp only [List.mem_singleton] at h; rw [← h]; exact Int.le_refl _
  have hr : ∀ u ∈ r, ((v0 :: l).getLast (by simp)).idx < u.idx := by
    intro u hu
    by_cases hne : l = []
    · subst hne; have := hb u (by simpa using hu); simp [h0]; omega
    · rw [List.getLast_cons hne]
      exact (List.pairwise_append.1 hi).2.2 _ (List.getLast_mem hne) u hu
  have hir := (List.pairwise_append.1 hi).2.1
  generalize hlast : (v0 :: l).getLast (by simp) = last at *
  constructor
  · intro h
    have h1 : last.idx < i := by
      rcases befr_mem i v0 (l ++ r) with e | ⟨_, h2⟩
      · rw [e, h0] at h; omega
      · omega
    refine ⟨h1, ?_⟩
    cases r with
    | nil => exact hin
    | cons u r =>
      by_cases hu : i ≤ u.idx
      · exact hu
      · exfalso
        have h2 := befr_ge i (x := u) (by omega) v0 (l ++ u :: r) hi (by simp)
        have h3 := hr u (by simp)
        omega
  · rintro ⟨h1, h2⟩
    rw [befr_append, befr_last i v0 l fun u hu => by have := hl u hu; omega]
    rw [hlast, befr_stay]
    intro u hu
    cases r with
    | nil => simp at hu
    | cons x r =>
      rcases List.mem_cons.1 hu with rfl | hu
      · exact h2
      · have := (List.pairwise_cons.1 hir).1 u hu
        simp only at h2; omega
theorem vers_inc (n : Nm) : ∀ (i : Nat) (l : List Ac), (∀ a ∈ l, ordCh a.writes = true) → Inc (vers n i l)
  | i, [], _ => List.Pairwise.nil
  | i, a :: l, h => by
    simp only [vers]
    refine List.pairwise_append.2 ⟨?_, vers_inc n (i + 1) l fun b hb => h b (by simp [hb]), ?_⟩
    · have := ord_one (h a (by simp)) n
      generalize (a.writes.filter fun c => c.name == n) = f at this ⊢
      match f, this with
      | [], _ => simp
      | [c], _ => simp
      | c :: d :: r, h => simp at h
    · intro x hx y hy
      obtain ⟨c, _, rfl⟩ := List.mem_map.1 hx
      have := vers_idx n (i + 1) l y hy
      simp at this ⊢
      omega
/-- The place of the first version whose index is not less. -/
def srch (l : List Ver) (i : Int) : Nat := (l.takeWhile fun v => decide (v.idx < i)).length
theorem srch_le (l : List Ver) (i : Int) : srch l i ≤ l.length := (List.takeWhile_prefix _).length_le
theorem srch_split {l : List Ver} (h : Inc l) (i : Int) : (∀ u ∈ l.take (srch l i), u.idx < i) ∧ ∀ u ∈ l.drop (srch l i), i ≤ u.idx := by
  induction l with
  | nil => simp [srch]
  | cons a l ih =>
    have h1 := List.pairwise_cons.1 h
    obtain ⟨ih1, ih2⟩ := ih h1.2
    unfold srch
    by_cases ha : a.idx < i
    · rw [List.takeWhile_cons_of_pos (by simpa using ha)]
      simp only [List.length_cons, List.take_succ_cons, List.drop_succ_cons]
      refine ⟨fun u hu => ?_, ih2⟩
      rcases List.mem_cons.1 hu with rfl | hu
      · exact ha
      · exact ih1 u hu
    · rw [List.takeWhile_cons_of_neg (by simpa using ha)]
      simp only [List.length_nil, List.take_zero, List.drop_zero]
      refine ⟨by simp, fun u hu => ?_⟩
      rcases List.mem_cons.1 hu with rfl | hu
      · omega
      · have := h1.1 u hu; omega
/-- found is before. -/
theorem found_eq (v0 : Ver) {l : List Ver} (h : Inc l) (i : Int) : befr i v0 l = if 0 < srch l i then l.getD (srch l i - 1) v0 else v0 := by
  obtain ⟨h1, h2⟩ := srch_split h i
  have e : befr i v0 l = befr i v0 (l.take (srch l i) ++ l.drop (srch l i)) := by rw [List.take_append_drop]
  rw [e, befr_append, befr_stay i _ _ h2, befr_last i _ _ h1]
  have hle := srch_le l i
  split
  · rename_i hp
    have hne : l.take (srch l i) ≠ [] := by
      intro he
      have := congrArg List.length he
      rw [List.length_take, List.length_nil] at this
      omega
    rw [List.getLast_cons hne, List.getLast_eq_getElem]
    simp only [List.length_take, List.getElem_take, Nat.min_eq_left hle]
    have hll : srch l i - 1 < l.length := by omega
    rw [List.getD_eq_getElem?_getD, List.getElem?_eq_getElem hll, Option.getD_some]
  · rename_i hp
    have : srch l i = 0 := by omega
    simp [this]
end Go.Proofs.YtamjllakfgphnaaGreatDoor
/- Plain facts of layer 46: insertion. -/
namespace Go.Proofs.YtamjllakfgphnaaGreatDoor
set_option linter.unusedVariables false
section
variable {κ : Type} {c : κ → κ → Int} {S : κ → Prop}
theorem COrd.wtrans (O : COrd c S) {a b d : κ} (ha : S a) (hb : S b) (hd : S d) (h1 : c a b ≤ 0) (h2 : c b d ≤ 0) : c a d ≤ 0 := by
  by_cases e1 : c a b = 0
  · rw [(O.eq ha hb).1 e1]; exact h2
  by_cases e2 : c b d = 0
  · rw [← (O.eq hb hd).1 e2]; exact h1
  · exact Int.le_of_lt (O.trans ha hb hd (by omega) (by omega))
theorem COrd.le_of_not (O : COrd c S) {a b : κ} (ha : S a) (hb : S b) (h : ¬ c a b < 0) : c b a ≤ 0 := by
  have := O.anti ha hb
  by_cases e : 0 < c b a
  · exact absurd (this.2 e) h
  · omega
/-- The element is in its place. -/
theorem weak_exit (O : COrd c S) {p0 p2 : List κ} {x y : κ} (hS : ∀ a ∈ p0 ++ [y] ++ x :: p2, S a) (hw : Weak c (p0 ++ [y] ++ p2)) (hx : ∀ e ∈ p2, c x e < 0) (hc : ¬ c x y < 0) : Weak c (p0 ++ [y] ++ x :: p2) := by
  have sx : S x := hS x (by simp)
  have sy : S y := hS y (by simp)
  obtain ⟨h1, h2, h3⟩ := List.pairwise_append.1 hw
  have hyx := O.le_of_not sx sy hc
  refine List.pairwise_append.2 ⟨h1, List.pairwise_cons.2 ⟨fun e he => Int.le_of_lt (hx e he), h2⟩, fun a ha b hb => ?_⟩
  rcases List.mem_cons.1 hb with rfl | hb
  · rcases List.mem_append.1 ha with ha | ha
    · exact O.wtrans (hS a (by simp [ha])) sy sx ((List.pairwise_append.1 h1).2.2 a ha y (by simp)) hyx
    · simp at ha; rw [ha]; exact hyx
  · exact h3 a ha b hb
end
theorem take_mid {α : Type} (p1 p2 r : List α) (x : α) (k : Nat) (h : p1.length + p2.length = k) : (p1 ++ x :: p2 ++ r).take (k + 1) = p1 ++ x :: p2 := by
  have : (p1 ++ x :: p2).length = k + 1 := by simp; omega
  rw [← this, List.take_left]
end Go.Proofs.YtamjllakfgphnaaGreatDoor
/- Plain facts of layer 46: what the runs of the statements are. -/
namespace Go.Proofs.YtamjllakfgphnaaGreatDoor
set_option linter.unusedVariables false
structure It where
  which : Int
  value : Bs
  absent : Bool
structure Act where
  wait : Int
  num : Int
  reads : List It
  writes : List It
  spoil : Int
structure Rn where
  base : List It
  acts : List Act
def obI (i : Nat) : Nm := objs.getD i obT
def itCh (i : Nat) (it : It) : Ch := ⟨obI i, if it.absent then [] else it.value.take 20, it.absent⟩
def hit (i : Nat) (it : It) : Bool := it.which % 6 == (i : Int)
def chAt (l : List It) (i : Nat) : Option Ch := ((l.take 10).find? (hit i)).map (itCh i)
def chUp (l : List It) (n : Nat) : List Ch := (List.range n).filterMap (chAt l)
/-- The changes of items. -/
def changesS (l : List It) : List Ch := chUp l 6
theorem chUp_succ (l : List It) (n : Nat) : chUp l (n + 1) = chUp l n ++ (chAt l n).toList := by
  unfold chUp
  rw [List.range_succ, List.filterMap_append]
  cases h : chAt l n <;> simp [h]
theorem find_none_take {l : List It} {i k : Nat} (hk : l.length ≤ k ∨ 10 ≤ k) (h : ∀ j (hj : j < l.length), j < k → hit i l[j] = false) : chAt l i = none := by
  have : (l.take 10).find? (hit i) = none := by
    rw [List.find?_eq_none]
    intro x hx
    obtain ⟨j, hj, rfl⟩ := List.getElem_of_mem hx
    rw [List.getElem_take]
    rw [List.length_take] at hj
    rw [h j (by omega) (by omega)]
    simp
  unfold chAt
  rw [this]; rfl
theorem find_some_take {l : List It} {i k : Nat} (hk : k < l.length) (hk2 : k < 10) (h : ∀ j (hj : j < l.length), j < k → hit i l[j] = false) (hh : hit i l[k] = true) : chAt l i = some (itCh i l[k]) := by
  have : (l.take 10).find? (hit i) = some l[k] := by
    rw [List.find?_eq_some_iff_getElem]
    refine ⟨hh, k, by rw [List.length_take]; omega, by rw [List.getElem_take], fun j hj => ?_⟩
    rw [List.getElem_take, h j (by omega) hj]; rfl
  unfold chAt
  rw [this]; rfl
theorem obI_ob {i : Nat} (h : i < 6) : IsOb (obI i) := by
  have hc : i = 0 ∨ i = 1 ∨ i = 2 ∨ i = 3 ∨ i = 4 ∨ i = 5 := by omega
  rcases hc with rfl | rfl | rfl | rfl | rfl | rfl <;> simp [IsOb, obI, objs]
end Go.Proofs.YtamjllakfgphnaaGreatDoor
/- Plain facts of layer 46: the actions of a run. -/
namespace Go.Proofs.YtamjllakfgphnaaGreatDoor
set_option linter.unusedVariables false
def spoilC (s : Int) (y : Ac) : Ac :=
  if s = 0 then { y with key := { y.key with tick := -1 } }
  else if s = 1 then { y with writes := y.writes ++ [⟨obI 0, [], false⟩, ⟨obI 0, [], false⟩] }
  else if s = 2 then { y with reads := y.reads ++ [⟨⟨99, [], 0, 0, []⟩, [], false⟩] }
  else if s = 3 then { y with writes := [⟨obI 1, [120], true⟩] }
  else if s = 4 then { y with writes := [⟨obI 1, List.replicate 65537 0, false⟩] }
  else y
def plainA (t : Int) (a : Act) : Ac := ⟨⟨t, 0, 1 + a.num, []⟩, changesS a.reads, changesS a.writes⟩
def oneA (t : Int) (a : Act) : Ac := spoilC a.spoil (plainA t a)
def actsT : Int → List Act → List Ac
  | _, [] => []
  | t, a :: l => oneA (t + a.wait % 3) a :: actsT (t + a.wait % 3) l
def tickT : Int → List Act → Int
  | t, [] => t
  | t, a :: l => tickT (t + a.wait % 3) l
/-- The actions of a run. -/
def actsS (r : Rn) : List Ac := actsT 1 (r.acts.take 20)
theorem tickT_snoc : ∀ (t : Int) (l : List Act) (a : Act), tickT t (l ++ [a]) = tickT t l + a.wait % 3
  | t, [], a => rfl
  | t, b :: l, a => by simpa [tickT] using tickT_snoc (t + b.wait % 3) l a
theorem actsT_snoc : ∀ (t : Int) (l : List Act) (a : Act), actsT t (l ++ [a]) = actsT t l ++ [oneA (tickT t l + a.wait % 3) a]
  | t, [], a => rfl
  | t, b :: l, a => by simpa [tickT, actsT] using actsT_snoc (t + b.wait % 3) l a
theorem actsT_len : ∀ (t : Int) (l : List Act), (actsT t l).length = l.length
  | t, [] => rfl
  | t, a :: l => by simpa [actsT] using actsT_len (t + a.wait % 3) l
theorem tickT_le : ∀ (t : Int) (l : List Act), t ≤ tickT t l ∧ tickT t l ≤ t + 2 * l.length
  | t, [] => by simp [tickT]
  | t, a :: l => by
    have h := tickT_le (t + a.wait % 3) l
    have h1 : 0 ≤ a.wait % 3 := Int.emod_nonneg _ (by decide)
    have h2 : a.wait % 3 < 3 := Int.emod_lt_of_pos _ (by decide)
    simp only [tickT, List.length_cons]
    omega
theorem take_tick (t : Int) (l : List Act) (k : Nat) (hk : k < l.length) : tickT t (l.take (k + 1)) = tickT t (l.take k) + l[k].wait % 3 := by
  rw [List.take_succ_eq_append_getElem hk, tickT_snoc]
theorem take_acts (t : Int) (l : List Act) (k : Nat) (hk : k < l.length) : actsT t (l.take (k + 1)) = actsT t (l.take k) ++ [oneA (tickT t (l.take k) + l[k].wait % 3) l[k]] := by
  rw [List.take_succ_eq_append_getElem hk, actsT_snoc]
theorem acts_len (r : Rn) : (actsS r).length ≤ 20 := by
  unfold actsS
  rw [actsT_len, List.length_take]
  omega
end Go.Proofs.YtamjllakfgphnaaGreatDoor
/- Plain facts of layer 46: orderly changes by their places. -/
namespace Go.Proofs.YtamjllakfgphnaaGreatDoor
set_option linter.unusedVariables false
def badN : Nm := ⟨99, [], 0, 0, []⟩
/-- A change of the runs, spoiled or not. -/
def ChR (c : Ch) : Prop := (IsOb c.name ∨ c.name = badN) ∧ c.value.length ≤ 65537
theorem ChR.own {c : Ch} (h : ChR c) : c.name.owner = [] := by
  rcases h.1 with h | h
  · exact h.own
  · rw [h]; rfl
theorem badN_not : ¬ IsOb badN := by
  unfold IsOb badN
  decide
/-- Orderly up to place k. -/
def OrdTo (l : List Ch) (k : Nat) : Prop := ∀ j (hj : j < l.length), j < k → okCh l[j] = true ∧ ∀ m, (e : j = m + 1) → cmpN (l[m]'(by omega)).name l[j].name < 0
theorem ordCh_of : ∀ {l : List Ch}, OrdTo l l.length → ordCh l = true
  | [], _ => rfl
  | [c], h => by
    have := (h 0 (by simp) (by simp)).1
    simp only [List.getElem_cons_zero] at this
    simp [ordCh, this]
  | c :: d :: l, h => by
    have h0 := (h 0 (by simp) (by simp)).1
    have h1 := (h 1 (by simp) (by simp)).2 0 rfl
    simp only [List.getElem_cons_zero, List.getElem_cons_succ] at h0 h1
    have ih := ordCh_of (l := d :: l) (fun j hj hk => by
      have h2 := h (j + 1) (by simpa using hj) (by simpa using hj)
      refine ⟨by simpa using h2.1, fun m e => ?_⟩
      have h3 := h2.2 (m + 1) (by omega)
      simpa using h3)
    unfold ordCh
    simp [h0, h1, ih]
theorem ordCh_get : ∀ {l : List Ch}, ordCh l = true → OrdTo l l.length
  | [], _ => fun j hj => by simp at hj
  | [c], h => fun j hj _ => by
    have e : j = 0 := by simpa using hj
    subst e
    simp [ordCh] at h
    exact ⟨h, fun m e => by omega⟩
  | c :: d :: l, h => fun j hj _ => by
    rw [ordCh] at h
    simp only [Bool.and_eq_true, decide_eq_true_eq] at h
    obtain ⟨⟨h1, h2⟩, h3⟩ := h
    have ih := ordCh_get h3
    cases j with
    | zero => exact ⟨h1, fun m e => by omega⟩
    | succ j =>
      have hj2 : j < (d :: l).length := by simpa using hj
      have h4 := ih j hj2 hj2
      refine ⟨by simpa using h4.1, fun m e => ?_⟩
      have em : m = j := by omega
      subst em
      cases m with
      | zero => simpa using h2
      | succ m => simpa using h4.2 m rfl
theorem ordCh_bad {l : List Ch} {k : Nat} (hk : k < l.length) (h : okCh l[k] = false) : ordCh l = false := by
  cases ho : ordCh l with
  | false => rfl
  | true =>
    have := (ordCh_get ho k hk hk).1
    rw [h] at this
    cases this
theorem ordCh_bad2 {l : List Ch} {m : Nat} (hk : m + 1 < l.length) (h : 0 ≤ cmpN l[m].name l[m + 1].name) : ordCh l = false := by
  cases ho : ordCh l with
  | false => rfl
  | true =>
    have := (ordCh_get ho (m + 1) hk hk).2 m rfl
    omega
theorem OrdTo.next {l : List Ch} {k : Nat} (h : OrdTo l k) (hk : k < l.length) (h1 : okCh l[k] = true) (h2 : ∀ m, (e : k = m + 1) → cmpN (l[m]'(by omega)).name l[k].name < 0) : OrdTo l (k + 1) := by
  intro j hj hjk
  by_cases e : j = k
  · subst e; exact ⟨h1, h2⟩
  · exact h j hj (by omega)
theorem okCh_parts {c : Ch} (h1 : IsOb c.name) (h2 : c.value.length ≤ 65536) (h3 : c.absent = true → c.value = []) : okCh c = true := by
  unfold okCh okN
  have h4 : decide (c.name ∈ objs) = true := decide_eq_true h1
  rw [h4, decide_eq_true h2]
  cases ha : c.absent with
  | false => rfl
  | true => rw [h3 ha]; rfl
theorem okCh_no1 {c : Ch} (h : ¬ IsOb c.name) : okCh c = false := by
  unfold okCh okN
  have h4 : decide (c.name ∈ objs) = false := decide_eq_false h
  rw [h4]; rfl
theorem okCh_no2 {c : Ch} (h : 65536 < c.value.length) : okCh c = false := by
  unfold okCh
  rw [decide_eq_false (by omega : ¬ c.value.length ≤ 65536)]
  simp
theorem okCh_no3 {c : Ch} (h : c.absent = true) (h2 : c.value ≠ []) : okCh c = false := by
  unfold okCh
  have : c.value.isEmpty = false := by
    cases e : c.value with
    | nil => exact absurd e h2
    | cons a l => rfl
  rw [h, this]
  simp
end Go.Proofs.YtamjllakfgphnaaGreatDoor
