/- Walks and plain facts of the earlier laws, packed: GA. -/
namespace Go.Proofs.Ytmjkcanjfjfkfaa
set_option linter.unusedVariables false
structure COrd {κ : Type} (c : κ → κ → Int) (S : κ → Prop) : Prop where
  eq : ∀ {a b}, S a → S b → (c a b = 0 ↔ a = b)
  anti : ∀ {a b}, S a → S b → (c a b < 0 ↔ 0 < c b a)
  trans : ∀ {a b d}, S a → S b → S d → c a b < 0 → c b d < 0 → c a d < 0
inductive Tr (κ ν : Type) where
  | nil : Tr κ ν
  | node (l : Tr κ ν) (k : κ) (v : ν) (r : Tr κ ν) : Tr κ ν
namespace Tr
variable {κ ν : Type}
def ht : Tr κ ν → Nat | nil => 0 | node l _ _ r => 1 + max l.ht r.ht
def bal (l : Tr κ ν) (k : κ) (v : ν) (r : Tr κ ν) : Tr κ ν :=
  if r.ht + 1 < l.ht then
    match l with
    | nil => node nil k v r
    | node ll lk lv lr =>
      if lr.ht ≤ ll.ht then node ll lk lv (node lr k v r)
      else match lr with
        | nil => node (node ll lk lv nil) k v r
        | node a m mv b => node (node ll lk lv a) m mv (node b k v r)
  else if l.ht + 1 < r.ht then
    match r with
    | nil => node l k v nil
    | node rl rk rv rr =>
      if rl.ht ≤ rr.ht then node (node l k v rl) rk rv rr
      else match rl with
        | nil => node l k v (node nil rk rv rr)
        | node a m mv b => node (node l k v a) m mv (node b rk rv rr)
  else node l k v r
variable (c : κ → κ → Int)
def first : Tr κ ν → Option (κ × ν)
  | nil => none
  | node nil k v _ => some (k, v)
  | node (node a b d e) _ _ _ => first (node a b d e)
def rest : Tr κ ν → Tr κ ν
  | nil => nil
  | node nil _ _ r => r
  | node (node a b d e) k v r => bal (rest (node a b d e)) k v r
def find (k : κ) : Tr κ ν → Option ν
  | nil => none
  | node l a x r => if c k a = 0 then some x else if c k a < 0 then l.find k else r.find k
end Tr
section
variable {κ ν : Type} (c : κ → κ → Int)
def look (k : κ) : List (κ × ν) → Option ν
  | [] => none
  | (a, x) :: l => if c k a = 0 then some x else look k l
variable {c} {S : κ → Prop}
theorem COrd.ne (O : COrd c S) {a b : κ} (ha : S a) (hb : S b) (h : c a b ≠ 0) : a ≠ b := fun e => h ((O.eq ha hb).2 e)
theorem COrd.refl (O : COrd c S) {a : κ} (ha : S a) : c a a = 0 := (O.eq ha ha).2 rfl
end
end Go.Proofs.Ytmjkcanjfjfkfaa
namespace Go.Proofs.Ytmjkcanjfjfkfaa
set_option linter.unusedVariables false
abbrev Bs := List UInt8
structure Nm where
  kind : Int
  owner : Bs
  num : Int
  idx : Int
  text : Bs
deriving DecidableEq
def cmpI (a b : Int) : Int := if a < b then -1 else if b < a then 1 else 0
def blt : Bs → Bs → Bool
  | _, [] => false
  | [], _ :: _ => true
  | a :: x, b :: y => a < b || (a == b && blt x y)
def cmpS (a b : Bs) : Int := if blt a b then -1 else if blt b a then 1 else 0
def or3 (a b c : Int) : Int := if a ≠ 0 then a else if b ≠ 0 then b else c
def cmpN (a b : Nm) : Int := if cmpI a.kind b.kind ≠ 0 then cmpI a.kind b.kind else if cmpS a.owner b.owner ≠ 0 then cmpS a.owner b.owner else or3 (cmpI a.num b.num) (cmpI a.idx b.idx) (cmpS a.text b.text)
theorem cmpI_eq {a b : Int} : cmpI a b = 0 ↔ a = b := by unfold cmpI; split <;> try split
                                                         all_goals omega
theorem cmpI_lt {a b : Int} : cmpI a b < 0 ↔ a < b := by unfold cmpI; split <;> try split
                                                         all_goals omega
theorem cmpI_gt {a b : Int} : 0 < cmpI a b ↔ b < a := by unfold cmpI; split <;> try split
                                                         all_goals omega
theorem blt_irrefl : ∀ a : Bs, blt a a = false
  | [] => rfl
  | x :: a => by simp [blt, blt_irrefl a, UInt8.lt_irrefl]
theorem blt_asymm : ∀ {a b : Bs}, blt a b = true → blt b a = false
  | _, [], h => by simp [blt] at h
  | [], _ :: _, _ => rfl
  | x :: a, y :: b, h => by
    simp only [blt, Bool.or_eq_true, decide_eq_true_eq, Bool.and_eq_true, beq_iff_eq] at h
    rcases h with h | ⟨rfl, h⟩
    · have h1 : ¬ y < x := fun h2 => UInt8.lt_irrefl x (UInt8.lt_trans h h2)
      have h2 : (y == x) = false := by rw [beq_eq_false_iff_ne]; rintro rfl; exact UInt8.lt_irrefl _ h
      simp [blt, h1, h2]
    · simp [blt, blt_asymm h, UInt8.lt_irrefl]
theorem blt_tri : ∀ {a b : Bs}, blt a b = false → blt b a = false → a = b
  | [], [], _, _ => rfl
  | [], _ :: _, h, _ => by simp [blt] at h
  | _ :: _, [], _, h => by simp [blt] at h
  | x :: a, y :: b, h1, h2 => by
    simp only [blt, Bool.or_eq_false_iff, decide_eq_false_iff_not, Bool.and_eq_false_iff, beq_eq_false_iff_ne] at h1 h2
    have e : x = y := UInt8.le_antisymm (UInt8.not_lt.1 h2.1) (UInt8.not_lt.1 h1.1)
    subst e
    rw [blt_tri (h1.2.resolve_left (by simp)) (h2.2.resolve_left (by simp))]
theorem blt_trans : ∀ {a b c : Bs}, blt a b = true → blt b c = true → blt a c = true
  | _, [], _, h, _ => by simp [blt] at h
  | _, _ :: _, [], _, h => by simp [blt] at h
  | [], _ :: _, _ :: _, _, _ => rfl
  | x :: a, y :: b, z :: c, h1, h2 => by
    simp only [blt, Bool.or_eq_true, decide_eq_true_eq, Bool.and_eq_true, beq_iff_eq] at h1 h2 ⊢
    rcases h1 with h1 | ⟨rfl, h1⟩
    · rcases h2 with h2 | ⟨rfl, h2⟩
      · exact .inl (UInt8.lt_trans h1 h2)
      · exact .inl h1
    · rcases h2 with h2 | ⟨rfl, h2⟩
      · exact .inl h2
      · exact .inr ⟨rfl, blt_trans h1 h2⟩
theorem cmpS_eq {a b : Bs} : cmpS a b = 0 ↔ a = b := by
  unfold cmpS
  constructor
  · intro h
    cases h1 : blt a b with
    | true => simp [h1] at h
    | false =>
      cases h2 : blt b a with
      | true => simp [h1, h2] at h
      | false => exact blt_tri h1 h2
  · rintro rfl; simp [blt_irrefl]
theorem cmpS_lt {a b : Bs} : cmpS a b < 0 ↔ blt a b = true := by
  unfold cmpS
  cases h1 : blt a b with
  | true => simp
  | false => cases h2 : blt b a <;> simp
theorem cmpS_gt {a b : Bs} : 0 < cmpS a b ↔ blt b a = true := by
  unfold cmpS
  cases h1 : blt a b with
  | true => simp [blt_asymm h1]
  | false => cases h2 : blt b a <;> simp
def lin5 : List Bs := [[], [49], [50], [50, 46, 49], [51]]
def OwnE (n : Nm) : Prop := n.owner ∈ lin5
structure WOrd {κ : Type} (c : κ → κ → Int) : Prop where
  refl : ∀ a, c a a = 0
  anti : ∀ a b, c a b < 0 ↔ 0 < c b a
  trans : ∀ a b d, c a b ≤ 0 → c b d ≤ 0 → c a d ≤ 0 ∧ (c a b < 0 ∨ c b d < 0 → c a d < 0)
theorem word_lex {κ : Type} {c d : κ → κ → Int} (hc : WOrd c) (hd : WOrd d) : WOrd (fun a b => if c a b ≠ 0 then c a b else d a b) where
  refl a := by simp [hc.refl, hd.refl]
  anti a b := by
    have h1 := hc.anti a b
    have h2 := hc.anti b a
    have h3 := hd.anti a b
    show (if c a b ≠ 0 then c a b else d a b) < 0 ↔ 0 < (if c b a ≠ 0 then c b a else d b a)
    split <;> split <;> omega
  trans a b e := by
    have h1 := hc.trans a b e
    have h2 := hd.trans a b e
    have h3 := hc.anti a b
    have h4 := hc.anti b a
    have h5 := hc.anti b e
    have h6 := hc.anti e b
    have h7 := hc.anti a e
    have h8 := hc.anti e a
    have h9 := hc.trans e b a
    have h10 := hc.trans b e a
    have lx : ∀ x y : Int, (x ≠ 0 → (if x ≠ 0 then x else y) = x) ∧ (x = 0 → (if x ≠ 0 then x else y) = y) := fun x y => ⟨fun h => if_pos h, fun h => if_neg (by simpa using h)⟩
    have l1 := lx (c a b) (d a b)
    have l2 := lx (c b e) (d b e)
    have l3 := lx (c a e) (d a e)
    show (if c a b ≠ 0 then c a b else d a b) ≤ 0 → (if c b e ≠ 0 then c b e else d b e) ≤ 0 → (if c a e ≠ 0 then c a e else d a e) ≤ 0 ∧ ((if c a b ≠ 0 then c a b else d a b) < 0 ∨ (if c b e ≠ 0 then c b e else d b e) < 0 → (if c a e ≠ 0 then c a e else d a e) < 0)
    generalize (if c a b ≠ 0 then c a b else d a b) = x1 at *
    generalize (if c b e ≠ 0 then c b e else d b e) = x2 at *
    generalize (if c a e ≠ 0 then c a e else d a e) = x3 at *
    intro ha hb
    omega
theorem word_i {κ : Type} (f : κ → Int) : WOrd (fun a b => cmpI (f a) (f b)) where
  refl a := cmpI_eq.2 rfl
  anti a b := by rw [cmpI_lt, cmpI_gt]
  trans a b d := by
    have h1 := cmpI_gt (a := f a) (b := f b)
    have h2 := cmpI_gt (a := f b) (b := f d)
    have h3 := cmpI_gt (a := f a) (b := f d)
    have h4 := cmpI_lt (a := f a) (b := f b)
    have h5 := cmpI_lt (a := f b) (b := f d)
    have h6 := cmpI_lt (a := f a) (b := f d)
    intro ha hb
    omega
theorem word_s {κ : Type} (f : κ → Bs) : WOrd (fun a b => cmpS (f a) (f b)) where
  refl a := cmpS_eq.2 rfl
  anti a b := by rw [cmpS_lt, cmpS_gt]
  trans a b d := by
    have key : ∀ x y : Bs, cmpS x y ≤ 0 → cmpS x y < 0 ∨ x = y := fun x y h => by
      by_cases h0 : cmpS x y = 0
      · exact .inr (cmpS_eq.1 h0)
      · exact .inl (by omega)
    intro ha hb
    rcases key _ _ ha with h1 | h1 <;> rcases key _ _ hb with h2 | h2
    · have := cmpS_lt.2 (blt_trans (cmpS_lt.1 h1) (cmpS_lt.1 h2))
      omega
    · simp only [h2] at *; omega
    · simp only [h1] at *; omega
    · simp only [h1, h2] at *; omega
theorem cmpN_eq {a b : Nm} : cmpN a b = 0 ↔ a = b := by
  have k1 := cmpI_eq (a := a.kind) (b := b.kind)
  have n1 := cmpI_eq (a := a.num) (b := b.num)
  have i1 := cmpI_eq (a := a.idx) (b := b.idx)
  have o1 := cmpS_eq (a := a.owner) (b := b.owner)
  have t1 := cmpS_eq (a := a.text) (b := b.text)
  constructor
  · intro h
    unfold cmpN or3 at h
    by_cases a1 : cmpI a.kind b.kind = 0
    · by_cases a2 : cmpS a.owner b.owner = 0
      · by_cases a3 : cmpI a.num b.num = 0
        · by_cases a4 : cmpI a.idx b.idx = 0
          · rw [if_neg (by simp [a1]), if_neg (by simp [a2]), if_neg (by simp [a3]), if_neg (by simp [a4])] at h
            obtain ⟨_, _, _, _, _⟩ := a
            obtain ⟨_, _, _, _, _⟩ := b
            simp only [Nm.mk.injEq]
            exact ⟨k1.1 a1, o1.1 a2, n1.1 a3, i1.1 a4, t1.1 h⟩
          · rw [if_neg (by simp [a1]), if_neg (by simp [a2]), if_neg (by simp [a3]), if_pos a4] at h; exact absurd h a4
        · rw [if_neg (by simp [a1]), if_neg (by simp [a2]), if_pos a3] at h; exact absurd h a3
      · rw [if_neg (by simp [a1]), if_pos a2] at h; exact absurd h a2
    · rw [if_pos a1] at h; exact absurd h a1
  · rintro rfl
    unfold cmpN or3
    rw [if_neg (by simp [k1]), if_neg (by simp [o1]), if_neg (by simp [n1]), if_neg (by simp [i1])]
    exact t1.2 rfl
theorem wordN : WOrd cmpN := word_lex (word_i Nm.kind) (word_lex (word_s Nm.owner) (word_lex (word_i Nm.num) (word_lex (word_i Nm.idx) (word_s Nm.text))))
theorem ordN : COrd cmpN OwnE where
  eq _ _ := cmpN_eq
  anti _ _ := wordN.anti _ _
  trans _ _ _ h1 h2 := (wordN.trans _ _ _ (by omega) (by omega)).2 (.inl h1)
end Go.Proofs.Ytmjkcanjfjfkfaa
namespace Go.Proofs.Ytmjkcanjfjfkfaa
set_option linter.unusedVariables false
section
variable {κ : Type} (c : κ → κ → Int)
def insU (x : κ) : List κ → List κ
  | [] => [x]
  | a :: l => if c x a < 0 then x :: a :: l else if 0 < c x a then a :: insU x l else a :: l
def sortU (l : List κ) : List κ := l.foldr (insU c) []
def Strict (l : List κ) : Prop := l.Pairwise (fun a b => c a b < 0)
def Weak (l : List κ) : Prop := l.Pairwise (fun a b => c a b ≤ 0)
variable {c} {S : κ → Prop}
theorem mem_insU (O : COrd c S) {x : κ} (hx : S x) {y : κ} : ∀ l : List κ, (∀ a ∈ l, S a) → (y ∈ insU c x l ↔ y = x ∨ y ∈ l)
  | [], _ => by simp [insU]
  | a :: l, h => by
    have ha : S a := h a (by simp)
    have ih := mem_insU O hx (y := y) l fun b hb => h b (by simp [hb])
    simp only [insU]
    split
    · simp
    split
    · simp only [List.mem_cons, ih]
      constructor
      · rintro (h | h | h)
        · exact .inr (.inl h)
        · exact .inl h
        · exact .inr (.inr h)
      · rintro (h | h | h)
        · exact .inr (.inl h)
        · exact .inl h
        · exact .inr (.inr h)
    · obtain rfl : x = a := (O.eq hx ha).1 (by omega)
      simp
theorem mem_sortU (O : COrd c S) {y : κ} : ∀ l : List κ, (∀ a ∈ l, S a) → (y ∈ sortU c l ↔ y ∈ l)
  | [], _ => by simp [sortU]
  | a :: l, h => by
    have ih := fun z => mem_sortU O (y := z) l fun b hb => h b (by simp [hb])
    show y ∈ insU c a (sortU c l) ↔ _
    rw [mem_insU O (h a (by simp)) _ fun b hb => h b (by simp [(ih b).1 hb]), ih y]
    simp
theorem strict_insU (O : COrd c S) {x : κ} (hx : S x) : ∀ l : List κ, (∀ a ∈ l, S a) → Strict c l → Strict c (insU c x l)
  | [], _, _ => by simp [insU, Strict]
  | a :: l, h, hs => by
    have ha : S a := h a (by simp)
    have hl : ∀ b ∈ l, S b := fun b hb => h b (by simp [hb])
    have h1 := List.pairwise_cons.1 hs
    simp only [insU]
    split
    · rename_i hxa
      refine List.pairwise_cons.2 ⟨fun b hb => ?_, hs⟩
      rcases List.mem_cons.1 hb with rfl | hb
      · exact hxa
      · exact O.trans hx ha (hl b hb) hxa (h1.1 b hb)
    split
    · rename_i hxa
      refine List.pairwise_cons.2 ⟨fun b hb => ?_, strict_insU O hx l hl h1.2⟩
      rcases (mem_insU O hx l hl).1 hb with rfl | hb
      · exact (O.anti ha hx).2 hxa
      · exact h1.1 b hb
    · exact hs
theorem strict_sortU (O : COrd c S) : ∀ l : List κ, (∀ a ∈ l, S a) → Strict c (sortU c l)
  | [], _ => by simp [sortU, Strict]
  | a :: l, h => by
    have hl : ∀ b ∈ l, S b := fun b hb => h b (by simp [hb])
    exact strict_insU O (h a (by simp)) _ (fun b hb => hl b ((mem_sortU O l hl).1 hb)) (strict_sortU O l hl)
theorem strict_ext (O : COrd c S) : ∀ {l l' : List κ}, (∀ a ∈ l, S a) → Strict c l → Strict c l' → (∀ a, a ∈ l ↔ a ∈ l') → l = l'
  | [], [], _, _, _, _ => rfl
  | [], b :: l', _, _, _, h => by have := (h b).2 (by simp); simp at this
  | a :: l, [], _, _, _, h => by have := (h a).1 (by simp); simp at this
  | a :: l, b :: l', hS, h1, h2, h => by
    have p1 := List.pairwise_cons.1 h1
    have p2 := List.pairwise_cons.1 h2
    have hS' : ∀ x ∈ b :: l', S x := fun x hx => hS x ((h x).2 hx)
    have ha := hS a (by simp)
    have hb := hS' b (by simp)
    have e : a = b := by
      rcases List.mem_cons.1 ((h a).1 (by simp)) with e | h3
      · exact e
      rcases List.mem_cons.1 ((h b).2 (by simp)) with e | h4
      · exact e.symm
      have h5 := p2.1 a h3
      have h6 := p1.1 b h4
      have := (O.anti hb ha).1 h5
      omega
    subst e
    refine congrArg _ (strict_ext O (fun x hx => hS x (by simp [hx])) p1.2 p2.2 fun x => ⟨fun hx => ?_, fun hx => ?_⟩)
    · rcases List.mem_cons.1 ((h x).1 (by simp [hx])) with rfl | h3
      · have := p1.1 x hx; rw [O.refl ha] at this; omega
      · exact h3
    · rcases List.mem_cons.1 ((h x).2 (by simp [hx])) with rfl | h3
      · have := p2.1 x hx; rw [O.refl ha] at this; omega
      · exact h3
theorem sortU_strict (O : COrd c S) {l : List κ} (hS : ∀ a ∈ l, S a) (h : Strict c l) : sortU c l = l :=
  strict_ext O (fun a ha => hS a ((mem_sortU O l hS).1 ha)) (strict_sortU O l hS) h fun a => mem_sortU O l hS
theorem sortU_perm (O : COrd c S) {l l' : List κ} (hS : ∀ a ∈ l, S a) (h : l'.Perm l) : sortU c l' = sortU c l := by
  have hS' : ∀ a ∈ l', S a := fun a ha => hS a (h.mem_iff.1 ha)
  refine strict_ext O (fun a ha => hS' a ((mem_sortU O l' hS').1 ha)) (strict_sortU O l' hS') (strict_sortU O l hS) fun a => ?_
  rw [mem_sortU O l' hS', mem_sortU O l hS, h.mem_iff]
theorem strict_of_weak (O : COrd c S) {l : List κ} (hS : ∀ a ∈ l, S a) (h : Weak c l) (hn : l.Nodup) : Strict c l := by
  induction l with
  | nil => exact List.Pairwise.nil
  | cons a l ih =>
    have h1 := List.pairwise_cons.1 h
    have h2 := List.nodup_cons.1 hn
    refine List.pairwise_cons.2 ⟨fun b hb => ?_, ih (fun x hx => hS x (by simp [hx])) h1.2 h2.2⟩
    have h3 := h1.1 b hb
    have h4 : c a b ≠ 0 := fun e => h2.1 ((O.eq (hS a (by simp)) (hS b (by simp [hb]))).1 e ▸ hb)
    omega
def compact [DecidableEq κ] : List κ → List κ
  | [] => []
  | a :: l => match l with
    | [] => [a]
    | b :: r => if a = b then compact (b :: r) else a :: compact (b :: r)
theorem mem_compact [DecidableEq κ] {x : κ} : ∀ l : List κ, x ∈ compact l ↔ x ∈ l
  | [] => Iff.rfl
  | [a] => Iff.rfl
  | a :: b :: r => by
    have ih := mem_compact (x := x) (b :: r)
    rw [compact]
    split
    · rename_i e; subst e; rw [ih]; simp
    · rw [List.mem_cons, ih, List.mem_cons (b := a)]
theorem strict_compact [DecidableEq κ] (O : COrd c S) : ∀ {l : List κ}, (∀ a ∈ l, S a) → Weak c l → Strict c (compact l)
  | [], _, _ => List.Pairwise.nil
  | [a], _, _ => by simp [compact, Strict]
  | a :: b :: r, hS, h => by
    have h1 := List.pairwise_cons.1 h
    have hS' : ∀ x ∈ b :: r, S x := fun x hx => hS x (List.mem_cons_of_mem _ hx)
    have ih := strict_compact O hS' h1.2
    have ha := hS a (by simp)
    have hb := hS b (by simp)
    rw [compact]
    split
    · exact ih
    · rename_i hne
      have hab : c a b < 0 := by
        have := h1.1 b (by simp)
        have h0 : c a b ≠ 0 := fun e => hne ((O.eq ha hb).1 e)
        omega
      refine List.pairwise_cons.2 ⟨fun x hx => ?_, ih⟩
      rcases List.mem_cons.1 ((mem_compact _).1 hx) with rfl | hx
      · exact hab
      · have h3 := (List.pairwise_cons.1 h1.2).1 x hx
        have hxs := hS x (by simp [hx])
        by_cases e : c b x = 0
        · rw [← (O.eq hb hxs).1 e]; exact hab
        · exact O.trans ha hb hxs hab (by omega)
theorem compact_sortU [DecidableEq κ] (O : COrd c S) {l l0 : List κ} (hS : ∀ a ∈ l0, S a) (hp : l.Perm l0) (h : Weak c l) : compact l = sortU c l0 := by
  have hS' : ∀ a ∈ l, S a := fun a ha => hS a (hp.mem_iff.1 ha)
  refine strict_ext O (fun a ha => hS' a ((mem_compact l).1 ha)) (strict_compact O hS' h) (strict_sortU O l0 hS) fun a => ?_
  rw [mem_compact, mem_sortU O l0 hS, hp.mem_iff]
end
end Go.Proofs.Ytmjkcanjfjfkfaa
namespace Go.Proofs.Ytmjkcanjfjfkfaa
set_option linter.unusedVariables false
structure Ch where
  name : Nm
  value : Bs
  absent : Bool
deriving DecidableEq
structure Ky where
  tick : Int
  cls : Int
  num : Int
  lin : Bs
deriving DecidableEq
structure Ac where
  key : Ky
  reads : List Ch
  writes : List Ch
deriving DecidableEq
structure Ver where
  idx : Int
  value : Bs
  absent : Bool
deriving DecidableEq
abbrev St := List (Nm × Bs)
def prcN (s : Bs) : Nm := ⟨1, s, 0, 0, []⟩
def prtN (i : Int) : Nm := ⟨16, [], i, 0, []⟩
def objs : List Nm := [prcN [49], prcN [50], prcN [51], prtN 1, prtN 2, prtN 3, prtN 4, prtN 5, prtN 6, prtN 7]
def IsOb (n : Nm) : Prop := n ∈ objs
theorem IsOb.own {n : Nm} (h : IsOb n) : OwnE n := by
  have : ∀ n ∈ objs, n.owner ∈ lin5 := by decide
  exact this n h
theorem ordO : COrd cmpN IsOb where
  eq ha hb := ordN.eq ha.own hb.own
  anti ha hb := ordN.anti ha.own hb.own
  trans ha hb hd := ordN.trans ha.own hb.own hd.own
def okN (n : Nm) : Bool := decide (n ∈ objs)
def okCh (c : Ch) : Bool := okN c.name && decide (c.value.length ≤ 65536) && !(c.absent && !c.value.isEmpty)
def ordCh : List Ch → Bool
  | [] => true
  | c :: l => okCh c && (match l with | [] => true | d :: _ => decide (cmpN c.name d.name < 0)) && ordCh l
def okAc (a : Ac) : Bool := ordCh a.reads && ordCh a.writes
def or4 (a b c d : Int) : Int := if or3 a b c ≠ 0 then or3 a b c else d
def cmpK (a b : Ky) : Int := or4 (cmpI a.tick b.tick) (cmpI a.cls b.cls) (cmpI a.num b.num) (cmpS a.lin b.lin)
def KyR (k : Ky) : Prop := (-1 ≤ k.tick ∧ k.tick ≤ 100) ∧ k.lin ∈ lin5 ∧ ((k.cls = 0 ∧ 0 ≤ k.num ∧ k.num ≤ 256 ∧ k.lin = []) ∨ (k.cls = 2 ∧ k.num = 0 ∧ k.lin ≠ []))
def vers (n : Nm) : Nat → List Ac → List Ver
  | _, [] => []
  | i, a :: l => ((a.writes.filter fun c => c.name == n).map fun c => ⟨i, c.value, c.absent⟩) ++ vers n (i + 1) l
theorem vers_snoc (n : Nm) (a : Ac) : ∀ (i : Nat) (l : List Ac), vers n i (l ++ [a]) = vers n i l ++ (a.writes.filter fun c => c.name == n).map fun c => ⟨((i + l.length : Nat) : Int), c.value, c.absent⟩
  | i, [] => by simp [vers]
  | i, b :: l => by
    have ih := vers_snoc n a (i + 1) l
    simp only [List.cons_append, vers, ih, List.append_assoc, List.length_cons]
    rw [show i + 1 + l.length = i + (l.length + 1) by omega]
theorem vers_idx (n : Nm) : ∀ (i : Nat) (l : List Ac), ∀ v ∈ vers n i l, (i : Int) ≤ v.idx ∧ v.idx < i + l.length
  | i, [], v, h => by simp [vers] at h
  | i, a :: l, v, h => by
    simp only [vers, List.mem_append, List.mem_map] at h
    rcases h with ⟨c, _, rfl⟩ | h
    · simp; omega
    · have := vers_idx n (i + 1) l v h
      simp at this ⊢
      omega
theorem ord_nodup : ∀ {l : List Ch}, ordCh l = true → l.Pairwise (fun a b => cmpN a.name b.name < 0) ∧ ∀ c ∈ l, okCh c = true
  | [], _ => ⟨List.Pairwise.nil, by simp⟩
  | c :: l, h => by
    simp only [ordCh, Bool.and_eq_true] at h
    obtain ⟨⟨h1, h2⟩, h3⟩ := h
    obtain ⟨ih1, ih2⟩ := ord_nodup h3
    refine ⟨List.pairwise_cons.2 ⟨?_, ih1⟩, fun d hd => ?_⟩
    · cases l with
      | nil => intro d hd; simp at hd
      | cons d r =>
        simp only [decide_eq_true_eq] at h2
        have o : ∀ x : Ch, okCh x = true → IsOb x.name := fun x hx => by
          simp only [okCh, okN, Bool.and_eq_true, decide_eq_true_eq] at hx
          exact hx.1.1
        intro e he
        rcases List.mem_cons.1 he with rfl | he
        · exact h2
        · exact ordO.trans (o c h1) (o d (ih2 d (by simp))) (o e (ih2 e (by simp [he]))) h2 ((List.pairwise_cons.1 ih1).1 e he)
    · rcases List.mem_cons.1 hd with rfl | hd
      · exact h1
      · exact ih2 d hd
theorem okCh_ob {x : Ch} (hx : okCh x = true) : IsOb x.name := by
  simp only [okCh, okN, Bool.and_eq_true, decide_eq_true_eq] at hx
  exact hx.1.1
theorem ord_one {l : List Ch} (h : ordCh l = true) (n : Nm) : (l.filter fun c => c.name == n).length ≤ 1 := by
  obtain ⟨h1, h2⟩ := ord_nodup h
  have h3 : (l.filter fun c => c.name == n).Pairwise (fun a b => cmpN a.name b.name < 0) := h1.filter _
  cases hl : l.filter fun c => c.name == n with
  | nil => simp
  | cons a r =>
    cases r with
    | nil => simp
    | cons b r =>
      have ha : a ∈ l.filter fun c => c.name == n := by rw [hl]; simp
      have hb : b ∈ l.filter fun c => c.name == n := by rw [hl]; simp
      rw [List.mem_filter] at ha hb
      have e1 : a.name = n := by simpa using ha.2
      have e2 : b.name = n := by simpa using hb.2
      rw [hl] at h3
      have := (List.pairwise_cons.1 h3).1 b (by simp)
      have r0 := ordO.refl (okCh_ob (h2 a ha.1))
      rw [e2, ← e1, r0] at this
      omega
end Go.Proofs.Ytmjkcanjfjfkfaa
namespace Go.Proofs.Ytmjkcanjfjfkfaa
set_option linter.unusedVariables false
def Inc (l : List Ver) : Prop := l.Pairwise (fun a b => a.idx < b.idx)
theorem vers_inc (n : Nm) : ∀ (i : Nat) (l : List Ac), (∀ a ∈ l, ordCh a.writes = true) → Inc (vers n i l)
  | i, [], _ => List.Pairwise.nil
  | i, a :: l, h => by
    simp only [vers]
    refine List.pairwise_append.2 ⟨?_, vers_inc n (i + 1) l fun b hb => h b (by simp [hb]), ?_⟩
    · have := ord_one (h a (by simp)) n
      generalize (a.writes.filter fun c => c.name == n) = f at this ⊢
      match f, this with
      | [], _ => simp
      | [c], _ => simp
      | c :: d :: r, h => simp at h
    · intro x hx y hy
      obtain ⟨c, _, rfl⟩ := List.mem_map.1 hx
      have := vers_idx n (i + 1) l y hy
      simp at this ⊢
      omega
end Go.Proofs.Ytmjkcanjfjfkfaa
namespace Go.Proofs.Ytmjkcanjfjfkfaa
set_option linter.unusedVariables false
section
variable {κ : Type} {c : κ → κ → Int} {S : κ → Prop}
theorem COrd.wtrans (O : COrd c S) {a b d : κ} (ha : S a) (hb : S b) (hd : S d) (h1 : c a b ≤ 0) (h2 : c b d ≤ 0) : c a d ≤ 0 := by
  by_cases e1 : c a b = 0
  · rw [(O.eq ha hb).1 e1]; exact h2
  by_cases e2 : c b d = 0
  · rw [← (O.eq hb hd).1 e2]; exact h1
  · exact Int.le_of_lt (O.trans ha hb hd (by omega) (by omega))
theorem COrd.le_of_not (O : COrd c S) {a b : κ} (ha : S a) (hb : S b) (h : ¬ c a b < 0) : c b a ≤ 0 := by
  have := O.anti ha hb
  by_cases e : 0 < c b a
  · exact absurd (this.2 e) h
  · omega
theorem weak_exit (O : COrd c S) {p0 p2 : List κ} {x y : κ} (hS : ∀ a ∈ p0 ++ [y] ++ x :: p2, S a) (hw : Weak c (p0 ++ [y] ++ p2)) (hx : ∀ e ∈ p2, c x e < 0) (hc : ¬ c x y < 0) : Weak c (p0 ++ [y] ++ x :: p2) := by
  have sx : S x := hS x (by simp)
  have sy : S y := hS y (by simp)
  obtain ⟨h1, h2, h3⟩ := List.pairwise_append.1 hw
  have hyx := O.le_of_not sx sy hc
  refine List.pairwise_append.2 ⟨h1, List.pairwise_cons.2 ⟨fun e he => Int.le_of_lt (hx e he), h2⟩, fun a ha b hb => ?_⟩
  rcases List.mem_cons.1 hb with rfl | hb
  · rcases List.mem_append.1 ha with ha | ha
    · exact O.wtrans (hS a (by simp [ha])) sy sx ((List.pairwise_append.1 h1).2.2 a ha y (by simp)) hyx
    · simp at ha; rw [ha]; exact hyx
  · exact h3 a ha b hb
end
theorem take_mid {α : Type} (p1 p2 r : List α) (x : α) (k : Nat) (h : p1.length + p2.length = k) : (p1 ++ x :: p2 ++ r).take (k + 1) = p1 ++ x :: p2 := by
  have : (p1 ++ x :: p2).length = k + 1 := by simp; omega
  rw [← this, List.take_left]
end Go.Proofs.Ytmjkcanjfjfkfaa
namespace Go.Proofs.Ytmjkcanjfjfkfaa
set_option linter.unusedVariables false
structure It where
  which : Int
  value : Bs
  absent : Bool
structure Act where
  wait : Int
  num : Int
  reads : List It
  writes : List It
  spoil : Int
def hit (i : Nat) (it : It) : Bool := it.which % 6 == (i : Int)
end Go.Proofs.Ytmjkcanjfjfkfaa
namespace Go.Proofs.Ytmjkcanjfjfkfaa
set_option linter.unusedVariables false
end Go.Proofs.Ytmjkcanjfjfkfaa
namespace Go.Proofs.Ytmjkcanjfjfkfaa
set_option linter.unusedVariables false
def badN : Nm := ⟨99, [], 0, 0, []⟩
def ChR (c : Ch) : Prop := (IsOb c.name ∨ c.name = badN) ∧ c.value.length ≤ 65537
theorem ChR.own {c : Ch} (h : ChR c) : OwnE c.name := by
  rcases h.1 with h | h
  · exact h.own
  · rw [h]; show ([] : Bs) ∈ lin5; decide
end Go.Proofs.Ytmjkcanjfjfkfaa
