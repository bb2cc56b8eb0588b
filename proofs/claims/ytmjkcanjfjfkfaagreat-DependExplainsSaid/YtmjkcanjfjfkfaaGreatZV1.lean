/- Walks and plain facts, packed: B1, B2, B3, B4, B5. -/
import Derived.Deep.RegionHeld
import Derived.Deep.RegionHeld3
import Derived.Test.YtmjkcanjfjfkfaaGreatProg
import Derived.WalkKit
import Derived.Lib.Hide
import Derived.Below
import Derived.Laws.OwnMore
import Derived.Deep.Draws
import Derived.Laws.Rows
import Derived.OwnWalk
import Derived.RegionTactic
import Derived.BigRegion
import Derived.StillTailTactics
import Derived.Deep.AppendLies
import Derived.Deep.LoopGhost
import Derived.Deep.QuietTactic
import Derived.BigQuiet
import Derived.IntWalk
import Derived.Deep.Slices
import Derived.ChangeArms
import Derived.Lib.SmallJoins
import Derived.WalkLawsBesides
import Derived.WalkSpells
import Derived.Laws.StructEq
import Derived.Deep.DrawnRows
import Derived.Laws.BytesArg
import Derived.Laws.MakeOwn
import Derived.MapKept
import Derived.ChangeMaps5
import Derived.WideKeyRuns
import Derived.Maps.OwnOps
import Derived.Maps.AppendAt
import Derived.Deep.DeepCutAuto
import Derived.Deep.CutBlock
import Derived.Laws.Strings
import Derived.RangeFuncBox
import Derived.RangeFuncLeaves
import Derived.RangeFuncKeeps
import Derived.RangeFuncBound
import Derived.RangeFuncCalls
import Derived.Shelf.Abstract
import Derived.OwnWalkIn
import Derived.TacticsInMore
import Derived.LoopNIn
import Derived.LoopIn
import Derived.RangeFuncNested
namespace Go.Proofs.YtmjkcanjfjfkfaaGreat
theorem tk {P : Program} {ops : Array Oper} {Q : Exit → Go.Act → World → Prop} {md : Region.Mode} {S : World → Prop} (i : Nat) {oi : Oper} {v : Value} {fuel : Nat} {listed : Array Bool} {a : Go.Act} {w : World} (hi : ops[i]? = some oi) (hc : (Region.noSelect ops && (Region.free md ops listed i && ((Region.ready md ops listed).contains i && Region.wanted oi (yielded ops a.tmps)))) = true) (hQ : ∀ c (a : Go.Act) w, Q (.panic c) (a.put oi.dst v) w → Q (.panic c) a w) (hv : ∀ w, S w → (execOp a.eval oi).run P w = .ok (.value v) w) (hS : S w) (h : wpAnyH P md ops Q S fuel (listed.setIfInBounds i true) (a.put oi.dst v) w) : wpAnyH P md ops Q S (fuel + 1) listed a w := by
  simp only [Bool.and_eq_true] at hc
  exact wpAnyH_take hi hc.1 hc.2.1 hc.2.2.1 hQ (Or.inl ⟨hc.2.2.2, hv⟩) hS h
theorem pB {α : Type} {l : List α} {i : Nat} {a : α} : l.toArray.setIfInBounds i a = (l.set i a).toArray := by simp
theorem pC {α : Type} {l : List α} {a b : α} : (a :: l).set 0 b = b :: l := rfl
theorem pD {α : Type} {l : List α} {a b : α} {n : Nat} : (a :: l).set (n + 1) b = a :: l.set n b := rfl
theorem qB {α : Type} {l : List α} {i : Nat} : l.toArray[i]? = l[i]? := by simp
theorem qC {α : Type} {l : List α} {a : α} : (a :: l)[0]? = some a := rfl
theorem qD {α : Type} {l : List α} {a : α} {n : Nat} : (a :: l)[n + 1]? = l[n]? := rfl
end Go.Proofs.YtmjkcanjfjfkfaaGreat
namespace Go.Proofs.YtmjkcanjfjfkfaaGreat
set_option linter.unusedVariables false
structure COrd {κ : Type} (c : κ → κ → Int) (S : κ → Prop) : Prop where
  eq : ∀ {a b}, S a → S b → (c a b = 0 ↔ a = b)
  anti : ∀ {a b}, S a → S b → (c a b < 0 ↔ 0 < c b a)
  trans : ∀ {a b d}, S a → S b → S d → c a b < 0 → c b d < 0 → c a d < 0
inductive Tr (κ ν : Type) where
  | nil : Tr κ ν
  | node (l : Tr κ ν) (k : κ) (v : ν) (r : Tr κ ν) : Tr κ ν
namespace Tr
variable {κ ν : Type}
def ht : Tr κ ν → Nat | nil => 0 | node l _ _ r => 1 + max l.ht r.ht
def bal (l : Tr κ ν) (k : κ) (v : ν) (r : Tr κ ν) : Tr κ ν :=
  if r.ht + 1 < l.ht then
    match l with
    | nil => node nil k v r
    | node ll lk lv lr =>
      if lr.ht ≤ ll.ht then node ll lk lv (node lr k v r)
      else match lr with
        | nil => node (node ll lk lv nil) k v r
        | node a m mv b => node (node ll lk lv a) m mv (node b k v r)
  else if l.ht + 1 < r.ht then
    match r with
    | nil => node l k v nil
    | node rl rk rv rr =>
      if rl.ht ≤ rr.ht then node (node l k v rl) rk rv rr
      else match rl with
        | nil => node l k v (node nil rk rv rr)
        | node a m mv b => node (node l k v a) m mv (node b rk rv rr)
  else node l k v r
variable (c : κ → κ → Int)
def first : Tr κ ν → Option (κ × ν)
  | nil => none
  | node nil k v _ => some (k, v)
  | node (node a b d e) _ _ _ => first (node a b d e)
def rest : Tr κ ν → Tr κ ν
  | nil => nil
  | node nil _ _ r => r
  | node (node a b d e) k v r => bal (rest (node a b d e)) k v r
def find (k : κ) : Tr κ ν → Option ν
  | nil => none
  | node l a x r => if c k a = 0 then some x else if c k a < 0 then l.find k else r.find k
end Tr
section
variable {κ ν : Type} (c : κ → κ → Int)
def look (k : κ) : List (κ × ν) → Option ν
  | [] => none
  | (a, x) :: l => if c k a = 0 then some x else look k l
variable {c} {S : κ → Prop}
theorem COrd.ne (O : COrd c S) {a b : κ} (ha : S a) (hb : S b) (h : c a b ≠ 0) : a ≠ b := fun e => h ((O.eq ha hb).2 e)
theorem COrd.refl (O : COrd c S) {a : κ} (ha : S a) : c a a = 0 := (O.eq ha ha).2 rfl
end
end Go.Proofs.YtmjkcanjfjfkfaaGreat
namespace Go.Proofs.YtmjkcanjfjfkfaaGreat
set_option linter.unusedVariables false
abbrev Bs := List UInt8
structure Nm where
  kind : Int
  owner : Bs
  num : Int
  idx : Int
  text : Bs
deriving DecidableEq
def cmpI (a b : Int) : Int := if a < b then -1 else if b < a then 1 else 0
def blt : Bs → Bs → Bool
  | _, [] => false
  | [], _ :: _ => true
  | a :: x, b :: y => a < b || (a == b && blt x y)
def cmpS (a b : Bs) : Int := if blt a b then -1 else if blt b a then 1 else 0
def or3 (a b c : Int) : Int := if a ≠ 0 then a else if b ≠ 0 then b else c
def cmpN (a b : Nm) : Int := if cmpI a.kind b.kind ≠ 0 then cmpI a.kind b.kind else if cmpS a.owner b.owner ≠ 0 then cmpS a.owner b.owner else or3 (cmpI a.num b.num) (cmpI a.idx b.idx) (cmpS a.text b.text)
theorem cmpI_eq {a b : Int} : cmpI a b = 0 ↔ a = b := by unfold cmpI; split <;> try split
                                                         all_goals omega
theorem cmpI_lt {a b : Int} : cmpI a b < 0 ↔ a < b := by unfold cmpI; split <;> try split
                                                         all_goals omega
theorem cmpI_gt {a b : Int} : 0 < cmpI a b ↔ b < a := by unfold cmpI; split <;> try split
                                                         all_goals omega
theorem blt_irrefl : ∀ a : Bs, blt a a = false
  | [] => rfl
  | x :: a => by simp [blt, blt_irrefl a, UInt8.lt_irrefl]
theorem blt_asymm : ∀ {a b : Bs}, blt a b = true → blt b a = false
  | _, [], h => by simp [blt] at h
  | [], _ :: _, _ => rfl
  | x :: a, y :: b, h => by
    simp only [blt, Bool.or_eq_true, decide_eq_true_eq, Bool.and_eq_true, beq_iff_eq] at h
    rcases h with h | ⟨rfl, h⟩
    · have h1 : ¬ y < x := fun h2 => UInt8.lt_irrefl x (UInt8.lt_trans h h2)
      have h2 : (y == x) = false := by rw [beq_eq_false_iff_ne]; rintro rfl; exact UInt8.lt_irrefl _ h
      simp [blt, h1, h2]
    · simp [blt, blt_asymm h, UInt8.lt_irrefl]
theorem blt_tri : ∀ {a b : Bs}, blt a b = false → blt b a = false → a = b
  | [], [], _, _ => rfl
  | [], _ :: _, h, _ => by simp [blt] at h
  | _ :: _, [], _, h => by simp [blt] at h
  | x :: a, y :: b, h1, h2 => by
    simp only [blt, Bool.or_eq_false_iff, decide_eq_false_iff_not, Bool.and_eq_false_iff, beq_eq_false_iff_ne] at h1 h2
    have e : x = y := UInt8.le_antisymm (UInt8.not_lt.1 h2.1) (UInt8.not_lt.1 h1.1); subst e; rw [blt_tri (h1.2.resolve_left (by simp)) (h2.2.resolve_left (by simp))]
theorem blt_trans : ∀ {a b c : Bs}, blt a b = true → blt b c = true → blt a c = true
  | _, [], _, h, _ => by simp [blt] at h
  | _, _ :: _, [], _, h => by simp [blt] at h
  | [], _ :: _, _ :: _, _, _ => rfl
  | x :: a, y :: b, z :: c, h1, h2 => by
    simp only [blt, Bool.or_eq_true, decide_eq_true_eq, Bool.and_eq_true, beq_iff_eq] at h1 h2 ⊢
    rcases h1 with h1 | ⟨rfl, h1⟩
    · rcases h2 with h2 | ⟨rfl, h2⟩
      · exact .inl (UInt8.lt_trans h1 h2)
      · exact .inl h1
    · rcases h2 with h2 | ⟨rfl, h2⟩
      · exact .inl h2
      · exact .inr ⟨rfl, blt_trans h1 h2⟩
theorem cmpS_eq {a b : Bs} : cmpS a b = 0 ↔ a = b := by
  unfold cmpS
  constructor
  · intro h
    cases h1 : blt a b with
    | true => simp [h1] at h
    | false =>
      cases h2 : blt b a with
      | true => simp [h1, h2] at h
      | false => exact blt_tri h1 h2
  · rintro rfl; simp [blt_irrefl]
theorem cmpS_lt {a b : Bs} : cmpS a b < 0 ↔ blt a b = true := by
  unfold cmpS
  cases h1 : blt a b with
  | true => simp
  | false => cases h2 : blt b a <;> simp
theorem cmpS_gt {a b : Bs} : 0 < cmpS a b ↔ blt b a = true := by
  unfold cmpS
  cases h1 : blt a b with
  | true => simp [blt_asymm h1]
  | false => cases h2 : blt b a <;> simp
def lin5 : List Bs := [[], [49], [50], [50, 46, 49], [51]]
def OwnE (n : Nm) : Prop := n.owner ∈ lin5
structure WOrd {κ : Type} (c : κ → κ → Int) : Prop where
  refl : ∀ a, c a a = 0
  anti : ∀ a b, c a b < 0 ↔ 0 < c b a
  trans : ∀ a b d, c a b ≤ 0 → c b d ≤ 0 → c a d ≤ 0 ∧ (c a b < 0 ∨ c b d < 0 → c a d < 0)
theorem word_lex {κ : Type} {c d : κ → κ → Int} (hc : WOrd c) (hd : WOrd d) : WOrd (fun a b => if c a b ≠ 0 then c a b else d a b) where
  refl a := by simp [hc.refl, hd.refl]
  anti a b := by
    have h1 := hc.anti a b; have h2 := hc.anti b a; have h3 := hd.anti a b
    show (if c a b ≠ 0 then c a b else d a b) < 0 ↔ 0 < (if c b a ≠ 0 then c b a else d b a)
    split <;> split <;> omega
  trans a b e := by
    have h1 := hc.trans a b e; have h2 := hd.trans a b e; have h3 := hc.anti a b; have h4 := hc.anti b a; have h5 := hc.anti b e; have h6 := hc.anti e b; have h7 := hc.anti a e; have h8 := hc.anti e a; have h9 := hc.trans e b a; have h10 := hc.trans b e a
    have lx : ∀ x y : Int, (x ≠ 0 → (if x ≠ 0 then x else y) = x) ∧ (x = 0 → (if x ≠ 0 then x else y) = y) := fun x y => ⟨fun h => if_pos h, fun h => if_neg (by simpa using h)⟩
    have l1 := lx (c a b) (d a b); have l2 := lx (c b e) (d b e); have l3 := lx (c a e) (d a e)
    show (if c a b ≠ 0 then c a b else d a b) ≤ 0 → (if c b e ≠ 0 then c b e else d b e) ≤ 0 → (if c a e ≠ 0 then c a e else d a e) ≤ 0 ∧ ((if c a b ≠ 0 then c a b else d a b) < 0 ∨ (if c b e ≠ 0 then c b e else d b e) < 0 → (if c a e ≠ 0 then c a e else d a e) < 0)
    generalize (if c a b ≠ 0 then c a b else d a b) = x1 at *; generalize (if c b e ≠ 0 then c b e else d b e) = x2 at *; generalize (if c a e ≠ 0 then c a e else d a e) = x3 at *
    intro ha hb
    omega
theorem word_i {κ : Type} (f : κ → Int) : WOrd (fun a b => cmpI (f a) (f b)) where
  refl a := cmpI_eq.2 rfl
  anti a b := by rw [cmpI_lt, cmpI_gt]
  trans a b d := by
    have h1 := cmpI_gt (a := f a) (b := f b); have h2 := cmpI_gt (a := f b) (b := f d); have h3 := cmpI_gt (a := f a) (b := f d); have h4 := cmpI_lt (a := f a) (b := f b); have h5 := cmpI_lt (a := f b) (b := f d); have h6 := cmpI_lt (a := f a) (b := f d)
    intro ha hb
    omega
theorem word_s {κ : Type} (f : κ → Bs) : WOrd (fun a b => cmpS (f a) (f b)) where
  refl a := cmpS_eq.2 rfl
  anti a b := by rw [cmpS_lt, cmpS_gt]
  trans a b d := by
    have key : ∀ x y : Bs, cmpS x y ≤ 0 → cmpS x y < 0 ∨ x = y := fun x y h => by
      by_cases h0 : cmpS x y = 0
      · exact .inr (cmpS_eq.1 h0)
      · exact .inl (by omega)
    intro ha hb
    rcases key _ _ ha with h1 | h1 <;> rcases key _ _ hb with h2 | h2
    · have := cmpS_lt.2 (blt_trans (cmpS_lt.1 h1) (cmpS_lt.1 h2))
      omega
    · simp only [h2] at *; omega
    · simp only [h1] at *; omega
    · simp only [h1, h2] at *; omega
theorem cmpN_eq {a b : Nm} : cmpN a b = 0 ↔ a = b := by
  have k1 := cmpI_eq (a := a.kind) (b := b.kind); have n1 := cmpI_eq (a := a.num) (b := b.num); have i1 := cmpI_eq (a := a.idx) (b := b.idx); have o1 := cmpS_eq (a := a.owner) (b := b.owner); have t1 := cmpS_eq (a := a.text) (b := b.text)
  constructor
  · intro h
    unfold cmpN or3 at h
    by_cases a1 : cmpI a.kind b.kind = 0
    · by_cases a2 : cmpS a.owner b.owner = 0
      · by_cases a3 : cmpI a.num b.num = 0
        · by_cases a4 : cmpI a.idx b.idx = 0
          · rw [if_neg (by simp [a1]), if_neg (by simp [a2]), if_neg (by simp [a3]), if_neg (by simp [a4])] at h
            obtain ⟨_, _, _, _, _⟩ := a; obtain ⟨_, _, _, _, _⟩ := b
            simp only [Nm.mk.injEq]
            exact ⟨k1.1 a1, o1.1 a2, n1.1 a3, i1.1 a4, t1.1 h⟩
          · rw [if_neg (by simp [a1]), if_neg (by simp [a2]), if_neg (by simp [a3]), if_pos a4] at h; exact absurd h a4
        · rw [if_neg (by simp [a1]), if_neg (by simp [a2]), if_pos a3] at h; exact absurd h a3
      · rw [if_neg (by simp [a1]), if_pos a2] at h; exact absurd h a2
    · rw [if_pos a1] at h; exact absurd h a1
  · rintro rfl
    unfold cmpN or3
    rw [if_neg (by simp [k1]), if_neg (by simp [o1]), if_neg (by simp [n1]), if_neg (by simp [i1])]
    exact t1.2 rfl
theorem wordN : WOrd cmpN := word_lex (word_i Nm.kind) (word_lex (word_s Nm.owner) (word_lex (word_i Nm.num) (word_lex (word_i Nm.idx) (word_s Nm.text))))
theorem ordN : COrd cmpN OwnE where
  eq _ _ := cmpN_eq
  anti _ _ := wordN.anti _ _
  trans _ _ _ h1 h2 := (wordN.trans _ _ _ (by omega) (by omega)).2 (.inl h1)
end Go.Proofs.YtmjkcanjfjfkfaaGreat
namespace Go.Proofs.YtmjkcanjfjfkfaaGreat
set_option linter.unusedVariables false
section
variable {κ : Type} (c : κ → κ → Int)
def insU (x : κ) : List κ → List κ
  | [] => [x]
  | a :: l => if c x a < 0 then x :: a :: l else if 0 < c x a then a :: insU x l else a :: l
def sortU (l : List κ) : List κ := l.foldr (insU c) []
def Strict (l : List κ) : Prop := l.Pairwise (fun a b => c a b < 0)
def Weak (l : List κ) : Prop := l.Pairwise (fun a b => c a b ≤ 0)
variable {c} {S : κ → Prop}
theorem mem_insU (O : COrd c S) {x : κ} (hx : S x) {y : κ} : ∀ l : List κ, (∀ a ∈ l, S a) → (y ∈ insU c x l ↔ y = x ∨ y ∈ l)
  | [], _ => by simp [insU]
  | a :: l, h => by
    have ha : S a := h a (by simp)
    have ih := mem_insU O hx (y := y) l fun b hb => h b (by simp [hb])
    simp only [insU]
    split
    · simp
    split
    · simp only [List.mem_cons, ih]
      constructor
      · rintro (h | h | h)
        · exact .inr (.inl h)
        · exact .inl h
        · exact .inr (.inr h)
      · rintro (h | h | h)
        · exact .inr (.inl h)
        · exact .inl h
        · exact .inr (.inr h)
    · obtain rfl : x = a := (O.eq hx ha).1 (by omega)
      simp
theorem mem_sortU (O : COrd c S) {y : κ} : ∀ l : List κ, (∀ a ∈ l, S a) → (y ∈ sortU c l ↔ y ∈ l)
  | [], _ => by simp [sortU]
  | a :: l, h => by
    have ih := fun z => mem_sortU O (y := z) l fun b hb => h b (by simp [hb])
    show y ∈ insU c a (sortU c l) ↔ _
    rw [mem_insU O (h a (by simp)) _ fun b hb => h b (by simp [(ih b).1 hb]), ih y]
    simp
theorem strict_insU (O : COrd c S) {x : κ} (hx : S x) : ∀ l : List κ, (∀ a ∈ l, S a) → Strict c l → Strict c (insU c x l)
  | [], _, _ => by simp [insU, Strict]
  | a :: l, h, hs => by
    have ha : S a := h a (by simp)
    have hl : ∀ b ∈ l, S b := fun b hb => h b (by simp [hb])
    have h1 := List.pairwise_cons.1 hs
    simp only [insU]
    split
    · rename_i hxa
      refine List.pairwise_cons.2 ⟨fun b hb => ?_, hs⟩
      rcases List.mem_cons.1 hb with rfl | hb
      · exact hxa
      · exact O.trans hx ha (hl b hb) hxa (h1.1 b hb)
    split
    · rename_i hxa
      refine List.pairwise_cons.2 ⟨fun b hb => ?_, strict_insU O hx l hl h1.2⟩
      rcases (mem_insU O hx l hl).1 hb with rfl | hb
      · exact (O.anti ha hx).2 hxa
      · exact h1.1 b hb
    · exact hs
theorem strict_sortU (O : COrd c S) : ∀ l : List κ, (∀ a ∈ l, S a) → Strict c (sortU c l)
  | [], _ => by simp [sortU, Strict]
  | a :: l, h => by
    have hl : ∀ b ∈ l, S b := fun b hb => h b (by simp [hb])
    exact strict_insU O (h a (by simp)) _ (fun b hb => hl b ((mem_sortU O l hl).1 hb)) (strict_sortU O l hl)
theorem strict_ext (O : COrd c S) : ∀ {l l' : List κ}, (∀ a ∈ l, S a) → Strict c l → Strict c l' → (∀ a, a ∈ l ↔ a ∈ l') → l = l'
  | [], [], _, _, _, _ => rfl
  | [], b :: l', _, _, _, h => by have := (h b).2 (by simp); simp at this
  | a :: l, [], _, _, _, h => by have := (h a).1 (by simp); simp at this
  | a :: l, b :: l', hS, h1, h2, h => by
    have p1 := List.pairwise_cons.1 h1; have p2 := List.pairwise_cons.1 h2
    have hS' : ∀ x ∈ b :: l', S x := fun x hx => hS x ((h x).2 hx)
    have ha := hS a (by simp); have hb := hS' b (by simp)
    have e : a = b := by
      rcases List.mem_cons.1 ((h a).1 (by simp)) with e | h3
      · exact e
      rcases List.mem_cons.1 ((h b).2 (by simp)) with e | h4
      · exact e.symm
      have h5 := p2.1 a h3; have h6 := p1.1 b h4; have := (O.anti hb ha).1 h5
      omega
    subst e
    refine congrArg _ (strict_ext O (fun x hx => hS x (by simp [hx])) p1.2 p2.2 fun x => ⟨fun hx => ?_, fun hx => ?_⟩)
    · rcases List.mem_cons.1 ((h x).1 (by simp [hx])) with rfl | h3
      · have := p1.1 x hx; rw [O.refl ha] at this; omega
      · exact h3
    · rcases List.mem_cons.1 ((h x).2 (by simp [hx])) with rfl | h3
      · have := p2.1 x hx; rw [O.refl ha] at this; omega
      · exact h3
theorem sortU_strict (O : COrd c S) {l : List κ} (hS : ∀ a ∈ l, S a) (h : Strict c l) : sortU c l = l :=
  strict_ext O (fun a ha => hS a ((mem_sortU O l hS).1 ha)) (strict_sortU O l hS) h fun a => mem_sortU O l hS
theorem sortU_perm (O : COrd c S) {l l' : List κ} (hS : ∀ a ∈ l, S a) (h : l'.Perm l) : sortU c l' = sortU c l := by
  have hS' : ∀ a ∈ l', S a := fun a ha => hS a (h.mem_iff.1 ha)
  refine strict_ext O (fun a ha => hS' a ((mem_sortU O l' hS').1 ha)) (strict_sortU O l' hS') (strict_sortU O l hS) fun a => ?_
  rw [mem_sortU O l' hS', mem_sortU O l hS, h.mem_iff]
theorem strict_of_weak (O : COrd c S) {l : List κ} (hS : ∀ a ∈ l, S a) (h : Weak c l) (hn : l.Nodup) : Strict c l := by
  induction l with
  | nil => exact List.Pairwise.nil
  | cons a l ih =>
    have h1 := List.pairwise_cons.1 h; have h2 := List.nodup_cons.1 hn
    refine List.pairwise_cons.2 ⟨fun b hb => ?_, ih (fun x hx => hS x (by simp [hx])) h1.2 h2.2⟩
    have h3 := h1.1 b hb
    have h4 : c a b ≠ 0 := fun e => h2.1 ((O.eq (hS a (by simp)) (hS b (by simp [hb]))).1 e ▸ hb)
    omega
def compact [DecidableEq κ] : List κ → List κ
  | [] => []
  | a :: l => match l with
    | [] => [a]
    | b :: r => if a = b then compact (b :: r) else a :: compact (b :: r)
theorem mem_compact [DecidableEq κ] {x : κ} : ∀ l : List κ, x ∈ compact l ↔ x ∈ l
  | [] => Iff.rfl
  | [a] => Iff.rfl
  | a :: b :: r => by
    have ih := mem_compact (x := x) (b :: r); rw [compact]
    split
    · rename_i e; subst e; rw [ih]; simp
    · rw [List.mem_cons, ih, List.mem_cons (b := a)]
theorem strict_compact [DecidableEq κ] (O : COrd c S) : ∀ {l : List κ}, (∀ a ∈ l, S a) → Weak c l → Strict c (compact l)
  | [], _, _ => List.Pairwise.nil
  | [a], _, _ => by simp [compact, Strict]
  | a :: b :: r, hS, h => by
    have h1 := List.pairwise_cons.1 h
    have hS' : ∀ x ∈ b :: r, S x := fun x hx => hS x (List.mem_cons_of_mem _ hx)
    have ih := strict_compact O hS' h1.2; have ha := hS a (by simp); have hb := hS b (by simp); rw [compact]
    split
    · exact ih
    · rename_i hne
      have hab : c a b < 0 := by
        have := h1.1 b (by simp)
        have h0 : c a b ≠ 0 := fun e => hne ((O.eq ha hb).1 e)
        omega
      refine List.pairwise_cons.2 ⟨fun x hx => ?_, ih⟩
      rcases List.mem_cons.1 ((mem_compact _).1 hx) with rfl | hx
      · exact hab
      · have h3 := (List.pairwise_cons.1 h1.2).1 x hx
        have hxs := hS x (by simp [hx])
        by_cases e : c b x = 0
        · rw [← (O.eq hb hxs).1 e]; exact hab
        · exact O.trans ha hb hxs hab (by omega)
theorem compact_sortU [DecidableEq κ] (O : COrd c S) {l l0 : List κ} (hS : ∀ a ∈ l0, S a) (hp : l.Perm l0) (h : Weak c l) : compact l = sortU c l0 := by
  have hS' : ∀ a ∈ l, S a := fun a ha => hS a (hp.mem_iff.1 ha)
  refine strict_ext O (fun a ha => hS' a ((mem_compact l).1 ha)) (strict_compact O hS' h) (strict_sortU O l0 hS) fun a => ?_
  rw [mem_compact, mem_sortU O l0 hS, hp.mem_iff]
end
end Go.Proofs.YtmjkcanjfjfkfaaGreat
namespace Go.Proofs.YtmjkcanjfjfkfaaGreat
set_option linter.unusedVariables false
structure Ch where
  name : Nm
  value : Bs
  absent : Bool
deriving DecidableEq
structure Ky where
  tick : Int
  cls : Int
  num : Int
  lin : Bs
deriving DecidableEq
structure Ac where
  key : Ky
  reads : List Ch
  writes : List Ch
deriving DecidableEq
structure Ver where
  idx : Int
  value : Bs
  absent : Bool
deriving DecidableEq
abbrev St := List (Nm × Bs)
def prcN (s : Bs) : Nm := ⟨1, s, 0, 0, []⟩
def prtN (i : Int) : Nm := ⟨16, [], i, 0, []⟩
def objs : List Nm := [prcN [49], prcN [50], prcN [51], prtN 1, prtN 2, prtN 3, prtN 4, prtN 5, prtN 6, prtN 7]
def IsOb (n : Nm) : Prop := n ∈ objs
theorem IsOb.own {n : Nm} (h : IsOb n) : OwnE n := by
  have : ∀ n ∈ objs, n.owner ∈ lin5 := by decide
  exact this n h
theorem ordO : COrd cmpN IsOb where
  eq ha hb := ordN.eq ha.own hb.own
  anti ha hb := ordN.anti ha.own hb.own
  trans ha hb hd := ordN.trans ha.own hb.own hd.own
def okN (n : Nm) : Bool := decide (n ∈ objs)
def okCh (c : Ch) : Bool := okN c.name && decide (c.value.length ≤ 65536) && !(c.absent && !c.value.isEmpty)
def ordCh : List Ch → Bool
  | [] => true
  | c :: l => okCh c && (match l with | [] => true | d :: _ => decide (cmpN c.name d.name < 0)) && ordCh l
def okAc (a : Ac) : Bool := ordCh a.reads && ordCh a.writes
def or4 (a b c d : Int) : Int := if or3 a b c ≠ 0 then or3 a b c else d
def cmpK (a b : Ky) : Int := or4 (cmpI a.tick b.tick) (cmpI a.cls b.cls) (cmpI a.num b.num) (cmpS a.lin b.lin)
def KyR (k : Ky) : Prop := (-1 ≤ k.tick ∧ k.tick ≤ 100) ∧ k.lin ∈ lin5 ∧ ((k.cls = 0 ∧ 0 ≤ k.num ∧ k.num ≤ 256 ∧ k.lin = []) ∨ (k.cls = 2 ∧ k.num = 0 ∧ k.lin ≠ []))
def vers (n : Nm) : Nat → List Ac → List Ver
  | _, [] => []
  | i, a :: l => ((a.writes.filter fun c => c.name == n).map fun c => ⟨i, c.value, c.absent⟩) ++ vers n (i + 1) l
theorem vers_snoc (n : Nm) (a : Ac) : ∀ (i : Nat) (l : List Ac), vers n i (l ++ [a]) = vers n i l ++ (a.writes.filter fun c => c.name == n).map fun c => ⟨((i + l.length : Nat) : Int), c.value, c.absent⟩
  | i, [] => by simp [vers]
  | i, b :: l => by
    have ih := vers_snoc n a (i + 1) l
    simp only [List.cons_append, vers, ih, List.append_assoc, List.length_cons]
    rw [show i + 1 + l.length = i + (l.length + 1) by omega]
theorem vers_idx (n : Nm) : ∀ (i : Nat) (l : List Ac), ∀ v ∈ vers n i l, (i : Int) ≤ v.idx ∧ v.idx < i + l.length
  | i, [], v, h => by simp [vers] at h
  | i, a :: l, v, h => by
    simp only [vers, List.mem_append, List.mem_map] at h
    rcases h with ⟨c, _, rfl⟩ | h
    · simp; omega
    · have := vers_idx n (i + 1) l v h
      simp at this ⊢
      omega
theorem ord_nodup : ∀ {l : List Ch}, ordCh l = true → l.Pairwise (fun a b => cmpN a.name b.name < 0) ∧ ∀ c ∈ l, okCh c = true
  | [], _ => ⟨List.Pairwise.nil, by simp⟩
  | c :: l, h => by
    simp only [ordCh, Bool.and_eq_true] at h
    obtain ⟨⟨h1, h2⟩, h3⟩ := h; obtain ⟨ih1, ih2⟩ := ord_nodup h3
    refine ⟨List.pairwise_cons.2 ⟨?_, ih1⟩, fun d hd => ?_⟩
    · cases l with
      | nil => intro d hd; simp at hd
      | cons d r =>
        simp only [decide_eq_true_eq] at h2
        have o : ∀ x : Ch, okCh x = true → IsOb x.name := fun x hx => by
          simp only [okCh, okN, Bool.and_eq_true, decide_eq_true_eq] at hx
          exact hx.1.1
        intro e he
        rcases List.mem_cons.1 he with rfl | he
        · exact h2
        · exact ordO.trans (o c h1) (o d (ih2 d (by simp))) (o e (ih2 e (by simp [he]))) h2 ((List.pairwise_cons.1 ih1).1 e he)
    · rcases List.mem_cons.1 hd with rfl | hd
      · exact h1
      · exact ih2 d hd
theorem okCh_ob {x : Ch} (hx : okCh x = true) : IsOb x.name := by
  simp only [okCh, okN, Bool.and_eq_true, decide_eq_true_eq] at hx
  exact hx.1.1
theorem ord_one {l : List Ch} (h : ordCh l = true) (n : Nm) : (l.filter fun c => c.name == n).length ≤ 1 := by
  obtain ⟨h1, h2⟩ := ord_nodup h; have h3 : (l.filter fun c => c.name == n).Pairwise (fun a b => cmpN a.name b.name < 0) := h1.filter _
  cases hl : l.filter fun c => c.name == n with
  | nil => simp
  | cons a r =>
    cases r with
    | nil => simp
    | cons b r =>
      have ha : a ∈ l.filter fun c => c.name == n := by rw [hl]; simp
      have hb : b ∈ l.filter fun c => c.name == n := by rw [hl]; simp
      rw [List.mem_filter] at ha hb
      have e1 : a.name = n := by simpa using ha.2
      have e2 : b.name = n := by simpa using hb.2
      rw [hl] at h3; have := (List.pairwise_cons.1 h3).1 b (by simp); have r0 := ordO.refl (okCh_ob (h2 a ha.1)); rw [e2, ← e1, r0] at this
      omega
end Go.Proofs.YtmjkcanjfjfkfaaGreat
namespace Go.Proofs.YtmjkcanjfjfkfaaGreat
set_option linter.unusedVariables false
def Inc (l : List Ver) : Prop := l.Pairwise (fun a b => a.idx < b.idx)
theorem vers_inc (n : Nm) : ∀ (i : Nat) (l : List Ac), (∀ a ∈ l, ordCh a.writes = true) → Inc (vers n i l)
  | i, [], _ => List.Pairwise.nil
  | i, a :: l, h => by
    simp only [vers]
    refine List.pairwise_append.2 ⟨?_, vers_inc n (i + 1) l fun b hb => h b (by simp [hb]), ?_⟩
    · have := ord_one (h a (by simp)) n
      generalize (a.writes.filter fun c => c.name == n) = f at this ⊢
      match f, this with
      | [], _ => simp
      | [c], _ => simp
      | c :: d :: r, h => simp at h
    · intro x hx y hy
      obtain ⟨c, _, rfl⟩ := List.mem_map.1 hx; have := vers_idx n (i + 1) l y hy
      simp at this ⊢
      omega
end Go.Proofs.YtmjkcanjfjfkfaaGreat
namespace Go.Proofs.YtmjkcanjfjfkfaaGreat
set_option linter.unusedVariables false
section
variable {κ : Type} {c : κ → κ → Int} {S : κ → Prop}
theorem COrd.wtrans (O : COrd c S) {a b d : κ} (ha : S a) (hb : S b) (hd : S d) (h1 : c a b ≤ 0) (h2 : c b d ≤ 0) : c a d ≤ 0 := by
  by_cases e1 : c a b = 0
  · rw [(O.eq ha hb).1 e1]; exact h2
  by_cases e2 : c b d = 0
  · rw [← (O.eq hb hd).1 e2]; exact h1
  · exact Int.le_of_lt (O.trans ha hb hd (by omega) (by omega))
theorem COrd.le_of_not (O : COrd c S) {a b : κ} (ha : S a) (hb : S b) (h : ¬ c a b < 0) : c b a ≤ 0 := by
  have := O.anti ha hb
  by_cases e : 0 < c b a
  · exact absurd (this.2 e) h
  · omega
theorem weak_exit (O : COrd c S) {p0 p2 : List κ} {x y : κ} (hS : ∀ a ∈ p0 ++ [y] ++ x :: p2, S a) (hw : Weak c (p0 ++ [y] ++ p2)) (hx : ∀ e ∈ p2, c x e < 0) (hc : ¬ c x y < 0) : Weak c (p0 ++ [y] ++ x :: p2) := by
  have sx : S x := hS x (by simp); have sy : S y := hS y (by simp); obtain ⟨h1, h2, h3⟩ := List.pairwise_append.1 hw; have hyx := O.le_of_not sx sy hc
  refine List.pairwise_append.2 ⟨h1, List.pairwise_cons.2 ⟨fun e he => Int.le_of_lt (hx e he), h2⟩, fun a ha b hb => ?_⟩
  rcases List.mem_cons.1 hb with rfl | hb
  · rcases List.mem_append.1 ha with ha | ha
    · exact O.wtrans (hS a (by simp [ha])) sy sx ((List.pairwise_append.1 h1).2.2 a ha y (by simp)) hyx
    · simp at ha; rw [ha]; exact hyx
  · exact h3 a ha b hb
end
theorem take_mid {α : Type} (p1 p2 r : List α) (x : α) (k : Nat) (h : p1.length + p2.length = k) : (p1 ++ x :: p2 ++ r).take (k + 1) = p1 ++ x :: p2 := by
  have : (p1 ++ x :: p2).length = k + 1 := by simp; omega
  rw [← this, List.take_left]
end Go.Proofs.YtmjkcanjfjfkfaaGreat
namespace Go.Proofs.YtmjkcanjfjfkfaaGreat
set_option linter.unusedVariables false
structure It where
  which : Int
  value : Bs
  absent : Bool
structure Act where
  wait : Int
  num : Int
  reads : List It
  writes : List It
  spoil : Int
def hit (i : Nat) (it : It) : Bool := it.which % 6 == (i : Int)
end Go.Proofs.YtmjkcanjfjfkfaaGreat
namespace Go.Proofs.YtmjkcanjfjfkfaaGreat
set_option linter.unusedVariables false
end Go.Proofs.YtmjkcanjfjfkfaaGreat
namespace Go.Proofs.YtmjkcanjfjfkfaaGreat
set_option linter.unusedVariables false
def badN : Nm := ⟨99, [], 0, 0, []⟩
def ChR (c : Ch) : Prop := (IsOb c.name ∨ c.name = badN) ∧ c.value.length ≤ 65537
theorem ChR.own {c : Ch} (h : ChR c) : OwnE c.name := by
  rcases h.1 with h | h
  · exact h.own
  · rw [h]; show ([] : Bs) ∈ lin5; decide
end Go.Proofs.YtmjkcanjfjfkfaaGreat
namespace Go.Proofs.YtmjkcanjfjfkfaaGreat
section
variable {P : Program} {ops : Array Oper} {Q : Exit → Go.Act → World → Prop} {md : Region.Mode} {st : Nat}
def aft (ops : Array Oper) (j : Nat) : Array Edge := ((ops[j]?).map (·.after)).getD #[]
def lastOk (md : Region.Mode) (ops : Array Oper) (st : Nat) : Bool :=
  decide (st < ops.size) && (List.range ops.size).all fun j =>
    ((aft ops j).toList.all fun e => !Region.binds md e || (decide (e.on < j) && !decide (e.on = st))) &&
    (decide (j = st) || (List.range ops.size).any fun k => decide (j < k) && (aft ops k).toList.any fun e => Region.binds md e && decide (e.on = j))
theorem aft_of {j : Nat} {o : Oper} (h : ops[j]? = some o) : aft ops j = o.after := by unfold aft; rw [h]; rfl
theorem last_spec (h : lastOk md ops st = true) : st < ops.size ∧ ∀ j, j < ops.size → (∀ e ∈ aft ops j, Region.binds md e = true → e.on < j ∧ e.on ≠ st) ∧ (j ≠ st → ∃ k, k < ops.size ∧ j < k ∧ ∃ e ∈ aft ops k, Region.binds md e = true ∧ e.on = j) := by
  unfold lastOk at h
  rw [Bool.and_eq_true, decide_eq_true_eq, List.all_eq_true] at h
  refine ⟨h.1, fun j hj => ?_⟩
  have h2 := h.2 j (List.mem_range.2 hj); rw [Bool.and_eq_true, List.all_eq_true, Bool.or_eq_true, decide_eq_true_eq, List.any_eq_true] at h2
  refine ⟨fun e he hb => ?_, fun hne => ?_⟩
  · have := h2.1 e (by simpa using he)
    rw [hb] at this
    simpa using this
  · rcases h2.2 with h3 | ⟨k, hk, h3⟩
    · exact absurd h3 hne
    · rw [Bool.and_eq_true, decide_eq_true_eq, List.any_eq_true] at h3
      obtain ⟨hjk, e, he, h4⟩ := h3; rw [Bool.and_eq_true, decide_eq_true_eq] at h4
      exact ⟨k, List.mem_range.1 hk, hjk, e, by simpa using he, h4⟩
def Closed (md : Region.Mode) (ops : Array Oper) (listed : Array Bool) : Prop :=
  listed.size = ops.size ∧ ∀ k, k < ops.size → listed.getD k false = true → ∀ e ∈ aft ops k, Region.binds md e = true → listed.getD e.on false = true
theorem Closed.set {listed : Array Bool} {i : Nat} (h : Closed md ops listed) (hi : i ∈ Region.ready md ops listed) : Closed md ops (listed.setIfInBounds i true) := by
  refine ⟨by simp [h.1], fun k hk hl e he hb => ?_⟩
  by_cases hik : i = k
  · subst hik
    obtain ⟨_, o, ho, hall⟩ := mem_ready.1 hi; rw [aft_of ho] at he
    exact getD_set_true (hall e he hb)
  · rw [getD_set_ne false hik] at hl
    exact getD_set_true (h.2 k hk hl e he hb)
theorem getD_true_false {listed : Array Bool} {j : Nat} (hj : j < listed.size) : listed.getD j true = listed.getD j false := by
  simp [Array.getD, hj]
theorem all_before (hl : lastOk md ops st = true) {listed : Array Bool} (hc : Closed md ops listed) (hr : st ∈ Region.ready md ops listed) : ∀ n j, j < ops.size → ops.size - j ≤ n → j ≠ st → listed.getD j false = true
  | 0, j, hj, hn, _ => by omega
  | n + 1, j, hj, hn, hne => by
    obtain ⟨k, hk, hjk, e, he, hb, rfl⟩ := ((last_spec hl).2 j hj).2 hne
    by_cases hks : k = st
    · subst hks
      obtain ⟨_, o, ho, hall⟩ := mem_ready.1 hr; rw [aft_of ho] at he
      exact hall e he hb
    · exact hc.2 k hk (all_before hl hc hr n k hk (by omega) hks) e he hb
theorem all_listed (hl : lastOk md ops st = true) {listed : Array Bool} (hsz : listed.size = ops.size) (hr : ∀ j, j ≠ st → j ∉ Region.ready md ops listed) : ∀ j, j < ops.size → j ≠ st → listed.getD j false = true := by
  intro j
  induction j using Nat.strongRecOn with
  | _ j ih =>
    intro hj hne
    cases hlj : listed.getD j false with
    | true => rfl
    | false =>
      refine absurd ?_ (hr j hne)
      rw [mem_ready]
      refine ⟨by rw [getD_true_false (by omega)]; exact hlj, ops[j], Array.getElem?_eq_getElem hj, fun e he hb => ?_⟩
      have := ((last_spec hl).2 j hj).1 e (by rw [aft_of (Array.getElem?_eq_getElem hj)]; exact he) hb
      exact ih e.on this.1 (by omega) this.2
theorem ready_set (hl : lastOk md ops st = true) {listed : Array Bool} {j : Nat} (hne : j ≠ st) : j ∈ Region.ready md ops (listed.setIfInBounds st true) ↔ j ∈ Region.ready md ops listed := by
  rw [mem_ready, mem_ready, getD_set_ne true (Ne.symm hne)]
  refine and_congr Iff.rfl ⟨fun ⟨o, ho, h⟩ => ⟨o, ho, fun e he hb => ?_⟩, fun ⟨o, ho, h⟩ => ⟨o, ho, fun e he hb => getD_set_true (h e he hb)⟩⟩
  have hj : j < ops.size := (Array.getElem?_eq_some_iff.1 ho).1; have := ((last_spec hl).2 j hj).1 e (by rw [aft_of ho]; exact he) hb; rw [← getD_set_ne false (Ne.symm this.2)]
  exact h e he hb
def LastQ (P : Program) (ops : Array Oper) (Q : Exit → Go.Act → World → Prop) (st : Nat) : Exit → Go.Act → World → Prop
  | .normal, a, w => wpOp P ops Q st (Q .normal) a w
  | e, a, w => Q e a w
theorem wpOp_lastQ {i : Nat} {K : Go.Act → World → Prop} {a : Go.Act} {w : World} (h : wpOp P ops (LastQ P ops Q st) i K a w) : wpOp P ops Q i K a w := by
  unfold wpOp at *
  split
  · simpa [*] using h
  · rename_i o ho
    simp only [ho] at h
    split
    · rename_i hw
      simp only [hw, if_true] at h
      rcases h with h | ⟨h1, a', w', h2⟩
      · left
        unfold Oper.wp at *
        generalize (execOp a.eval o).run P w = r at *
        cases r with
        | ok n w' =>
          cases n <;> simp only [Oper.upon] at h ⊢ <;>
            first
              | exact h
              | exact Calls.mono h (fun e w'' he => by cases e <;> exact he)
              | exact Rows.mono h (fun _ _ he => he)
        | halt x w' => cases x <;> simp only [Oper.upon] at h ⊢ <;> exact h
      · exact .inr ⟨h1, a', w', h2⟩
    · rename_i hw
      simp only [hw] at h
      exact h
theorem ready_nil {listed : Array Bool} (h : ∀ j, j < ops.size → listed.getD j false = true) (hsz : listed.size = ops.size) : Region.ready md ops listed = [] := by
  refine List.eq_nil_iff_forall_not_mem.2 fun j hj => ?_
  obtain ⟨h0, o, ho, _⟩ := mem_ready.1 hj; have hlt : j < ops.size := (Array.getElem?_eq_some_iff.1 ho).1; rw [getD_true_false (by omega), h j hlt] at h0
  cases h0
theorem wpAny_end {fuel : Nat} {listed : Array Bool} {a : Go.Act} {w : World} (hr : Region.ready md ops listed = []) (h : Q .normal a w) : wpAny P md ops Q fuel listed a w := by
  cases fuel with
  | zero => exact ⟨hr, h⟩
  | succ n => exact ⟨fun _ => h, by rw [hr]; simp⟩
theorem wpAny_last (hl : lastOk md ops st = true) : ∀ (fuel : Nat) (listed : Array Bool) (a : Go.Act) (w : World), Closed md ops listed → listed.getD st true = false →
    wpAny P md ops (LastQ P ops Q st) fuel (listed.setIfInBounds st true) a w → wpAny P md ops Q (fuel + 1) listed a w := by
  intro fuel
  induction fuel with
  | zero =>
    intro listed a w hc hs h
    have hstl := (last_spec hl).1
    have hall := all_listed hl (listed := listed) hc.1 (fun j hne hj => by
      have := (ready_set hl (listed := listed) hne).2 hj
      rw [h.1] at this; cases this)
    have hrdy : st ∈ Region.ready md ops listed := by
      rw [mem_ready]
      refine ⟨hs, ops[st], Array.getElem?_eq_getElem hstl, fun e he hb => ?_⟩
      have := ((last_spec hl).2 st hstl).1 e (by rw [aft_of (Array.getElem?_eq_getElem hstl)]; exact he) hb
      exact hall e.on (by omega) this.2
    refine ⟨fun h0 => (by rw [h0] at hrdy; cases hrdy), fun i hi => ?_⟩
    by_cases hne : i = st
    · subst hne
      refine wpOp_mono (fun a' w' h' => wpAny_end (ready_nil (fun j hj => ?_) (by simp [hc.1])) h') h.2
      by_cases hji : j = i
      · subst hji; simp [Array.getD, hc.1, hj]
      · rw [getD_set_ne false (Ne.symm hji)]; exact hall j hj hji
    · have := (ready_set hl (listed := listed) hne).2 hi
      rw [h.1] at this; cases this
  | succ fuel ih =>
    intro listed a w hc hs h
    have hstl := (last_spec hl).1
    have fin : st ∈ Region.ready md ops listed → wpOp P ops Q st (wpAny P md ops Q (fuel + 1) (listed.setIfInBounds st true)) a w := by
      intro hr
      have hall := fun j hj hne => all_before hl hc hr (ops.size - j) j hj (Nat.le_refl _) hne
      have hn : Region.ready md ops (listed.setIfInBounds st true) = [] := ready_nil (fun j hj => by
        by_cases hji : j = st
        · subst hji; simp [Array.getD, hc.1, hj]
        · rw [getD_set_ne false (Ne.symm hji)]; exact hall j hj hji) (by simp [hc.1])
      exact wpOp_mono (fun a' w' h' => wpAny_end hn h') (h.1 hn)
    refine ⟨fun h0 => ?_, fun i hi => ?_⟩
    · exfalso
      have hall := all_listed hl (listed := listed) hc.1 (fun j _ hj => by rw [h0] at hj; cases hj)
      have hrdy : st ∈ Region.ready md ops listed := by
        rw [mem_ready]
        refine ⟨hs, ops[st], Array.getElem?_eq_getElem hstl, fun e he hb => ?_⟩
        have := ((last_spec hl).2 st hstl).1 e (by rw [aft_of (Array.getElem?_eq_getElem hstl)]; exact he) hb
        exact hall e.on (by omega) this.2
      rw [h0] at hrdy; cases hrdy
    · by_cases hne : i = st
      · subst hne; exact fin hi
      · have h1 := h.2 i ((ready_set hl hne).2 hi)
        refine wpOp_mono (fun a' w' h' => ih _ a' w' (hc.set hi) (by rw [getD_set_ne true hne]; exact hs) ?_) (wpOp_lastQ h1)
        rw [Array.setIfInBounds_comm _ _ hne]
        exact h'
theorem wp_region_last {S : World → Prop} {id : Nat} {a : Go.Act} {w : World} (st : Nat) (n : Nat) (hn : ops.size = n + 1) (hl : lastOk .any ops st = true) (hm : P.follows .mixedOrders = true) (hS : S w.drew)
    (h : S w.drew → wpAnyH P .any ops (LastQ P ops Q st) S n ((Array.replicate (n + 1) false).setIfInBounds st true) a w.drew) : (Code.region id ops true).wp P Q a w := by
  refine wp_region_any hm ?_
  rw [hn]
  have hc : Closed .any ops (Array.replicate (n + 1) false) := by
    refine ⟨by simp [hn], fun k hk hlk => ?_⟩
    rw [hn] at hk
    simp [Array.getD, hk] at hlk
  refine wpAny_last hl n _ a _ hc ?_ (wpAny_of_held _ _ _ _ (h hS))
  have := (last_spec hl).1; rw [hn] at this
  simp [Array.getD, this]
theorem lastQ_step {o : Oper} {a : Go.Act} {w : World} (ho : ops[st]? = some o)
    (h : ∀ K' : Go.Act → World → Prop, (∀ a w, Q .normal a w → K' a w) → if Region.wanted o (yielded ops a.tmps) = true then Oper.wp P o a w K' Q else K' (a.put o.dst undef) w) : LastQ P ops Q st .normal a w :=
  wpOp_step ho h
end
end Go.Proofs.YtmjkcanjfjfkfaaGreat
namespace Go.Proofs.YtmjkcanjfjfkfaaGreat
set_option linter.unusedVariables false
end Go.Proofs.YtmjkcanjfjfkfaaGreat
namespace Go.Proofs.YtmjkcanjfjfkfaaGreat
open Go.RowKit
set_option linter.unusedSimpArgs false
set_option linter.unusedVariables false
def bs (l : Bs) : ByteArray := ⟨l.toArray⟩
theorem bs_list (l : Bs) : (bs l).data.toList = l := by simp [bs]
theorem bs_inj {a b : Bs} (h : bs a = bs b) : a = b := by have := congrArg (fun x => x.data.toList) h; simpa [bs_list] using this
def Blk (w : World) (g : Nat) (t : TypeId) (cs : Array Value) : Prop := w.heap[g]? = some (.cells cs t (0, 0))
section
variable {w w' : World} {g : Nat} {t : TypeId} {cs : Array Value}
theorem Blk.lt (h : Blk w g t cs) : g < w.heap.size := (Array.getElem?_eq_some_iff.1 h).1
theorem Blk.cell (h : Blk w g t cs) (i : Nat) : w.cell? ⟨g, i, none⟩ = cs[i]? := cell_of_row w g i cs t (0, 0) h
theorem Blk.frozen (h : Blk w g t cs) (i : Nat) : w.frozen? ⟨g, i, none⟩ = false := by
  unfold Blk at h
  simp [World.frozen?, h]
theorem Blk.new (w : World) (t : TypeId) (cs : Array Value) : Blk (w.alloc (.cells cs t)) w.heap.size t cs := heap_alloc_new w _
theorem Blk.drew (h : Blk w g t cs) : Blk w.drew g t cs := h
theorem Blk.drewN (h : Blk w g t cs) (n : Nat) : Blk (w.drewN n) g t cs := h
theorem Blk.alloc (h : Blk w g t cs) (o : Obj) : Blk (w.alloc o) g t cs := (Below.heap_alloc w o g h.lt).trans h
theorem Blk.set_ (h : Blk w g t cs) (i : Nat) (u : Value) : Blk (w.setCell ⟨g, i, none⟩ u) g t (cs.setIfInBounds i u) := by
  unfold Blk at h ⊢
  simp [World.setCell, Array.getElem?_modify, h]
theorem Blk.far (h : Blk w g t cs) {p : Addr} (hp : g ≠ p.block) (u : Value) : Blk (w.setCell p u) g t cs := (Below.heap_setCell w p u g hp).trans h
theorem Blk.next {B : Nat} (h : Blk w g t cs) (hb : Below B w w') (hg : g < B) : Blk w' g t cs := (hb.block g hg).trans h
theorem Blk.grown {row : Option Nat} (h : Blk w g t cs) (hb : w.grownBy w' row) (hg : some g ≠ row) : Blk w' g t cs := (hb.block g h.lt hg).trans h
theorem own_blk_ne {base : Nat} {e : TypeId} {size n : Nat} {v : Value} {xs : List Value} (h : w.ownsRow base e size v n xs) (hg : Blk w g t cs) (hne : e ≠ t) : v.ownBlock ≠ some g := by
  rcases h.2 with ⟨rfl, _⟩ | ⟨g', cap, cur, rfl, _, hh, _⟩
  · simp [Value.ownBlock]
  · intro he
    have : g' = g := by simpa [Value.ownBlock] using he
    subst this
    unfold Blk at hg
    rw [hh] at hg
    injection hg with hg
    injection hg with _ ht
    exact hne ht
end
theorem only_drewN {a w : World} {row : Option Nat} (h : a.grownBy w row) (n : Nat) : a.grownBy (w.drewN n) row := ⟨h.os, h.tape, h.output, h.size, h.block⟩
theorem only_drew {a w : World} {row : Option Nat} (h : a.grownBy w row) : a.grownBy w.drew row := ⟨h.os, h.tape, h.output, h.size, h.block⟩
theorem only_setCell {a w : World} {g : Nat} (h : a.grownBy w (some g)) {p : Addr} (hp : p.block = g ∨ a.heap.size ≤ p.block) (u : Value) : a.grownBy (w.setCell p u) (some g) :=
  ⟨h.os, h.tape, h.output, by simpa [World.setCell] using h.size, fun i hi hne => (Below.heap_setCell w p u i (by
    rintro rfl
    rcases hp with hp | hp
    · exact hne (by rw [hp])
    · omega)).trans (h.block i hi hne)⟩
theorem only_of_below {a w : World} (h : Below a.heap.size a w) (row : Option Nat) : a.grownBy w row := ⟨h.os, h.tape, h.output, h.size, fun i hi _ => h.block i hi⟩
theorem grown_trans {a b c : World} {row : Option Nat} (h : a.grownBy b row) (k : b.grownBy c row) : a.grownBy c row :=
  ⟨k.os.trans h.os, k.tape.trans h.tape, k.output.trans h.output, Nat.le_trans h.size k.size, fun i hi hne => (k.block i (Nat.lt_of_lt_of_le hi h.size) hne).trans (h.block i hi hne)⟩
theorem below_drewN {B : Nat} {a w : World} (h : Below B a w) (n : Nat) : Below B a (w.drewN n) := ⟨h.os, h.tape, h.output, h.size, h.block⟩
theorem own_next {w w' : World} {base : Nat} {e : TypeId} {size : Nat} {v : Value} {n : Nat} {xs : List Value} (h : w.ownsRow base e size v n xs) (hb : Below w.heap.size w w') : w'.ownsRow base e size v n xs := by
  obtain ⟨h1, h2⟩ := h
  refine ⟨h1, ?_⟩
  rcases h2 with h2 | ⟨g, cap, cur, hv, hg, hh, r⟩
  · exact .inl h2
  · have hlt : g < w.heap.size := (Array.getElem?_eq_some_iff.1 hh).1
    exact .inr ⟨g, cap, cur, hv, hg, by rw [hb.block g hlt]; exact hh, r⟩
theorem own_ge {w : World} {base : Nat} {e : TypeId} {size : Nat} {v : Value} {n : Nat} {xs : List Value} (h : w.ownsRow base e size v n xs) {g : Nat} (hg : v.ownBlock = some g) : base ≤ g := by
  obtain ⟨_, ⟨rfl, _⟩ | ⟨g', cap', cur, rfl, hb, _⟩⟩ := h
  · simp [Value.ownBlock] at hg
  · simp [Value.ownBlock] at hg
    omega
theorem own_base {w : World} {base b0 : Nat} {e : TypeId} {size : Nat} {v : Value} {n : Nat} {xs : List Value} (h : w.ownsRow base e size v n xs) (hb : b0 ≤ base) : w.ownsRow b0 e size v n xs := by
  obtain ⟨h1, h2 | ⟨g, cap, cur, hv, hg, r⟩⟩ := h
  · exact ⟨h1, .inl h2⟩
  · exact ⟨h1, .inr ⟨g, cap, cur, hv, Nat.le_trans hb hg, r⟩⟩
theorem own_len {w : World} {base : Nat} {e : TypeId} {size : Nat} {v : Value} {n : Nat} {xs : List Value} (h : w.ownsRow base e size v n xs) : ∃ a c, v = .slice a n c ∧ n ≤ c := by
  obtain ⟨h1, ⟨rfl, rfl⟩ | ⟨g, cap, cur, rfl, _, _, hn, _⟩⟩ := h
  · exact ⟨none, 0, rfl, Nat.le_refl _⟩
  · exact ⟨_, _, rfl, hn⟩
theorem newN (w : World) (cs : Array Value) (t : TypeId) (j : Nat) (u : Value) (h : cs.toList[j]? = some u) : (w.alloc (.cells cs t)).cell? ((⟨w.heap.size, 0, none⟩ : Addr).add j) = some u := by
  have e2 : ((⟨w.heap.size, 0, none⟩ : Addr).add j) = ⟨w.heap.size, j, none⟩ := by
    unfold Addr.add
    split
    · rename_i h; subst h; rfl
    · simp
  rw [e2, (Blk.new w t cs).cell j]
  simpa using h
def Rd (e : TypeId) (w : World) (v : Value) (n : Nat) (xs : List Value) : Prop :=
  ∃ A c, v = .slice A n c ∧ n ≤ c ∧ c ≤ maxLen ∧ ((n = 0 ∧ xs = []) ∨ ∃ b o cs fr, A = some ⟨b, o, none⟩ ∧ w.heap[b]? = some (.cells cs e fr) ∧ ∀ j u, xs[j]? = some u → cs[o + j]? = some u)
theorem Rd.kept {e : TypeId} {w w' : World} {v : Value} {n : Nat} {xs : List Value} {row : Option Nat} (h : Rd e w v n xs) (hg : w.grownBy w' row) (hne : ∀ g cs fr, row = some g → w.heap[g]? = some (.cells cs e fr) → False) : Rd e w' v n xs := by
  obtain ⟨A, c, hv, hc, hm, h0 | ⟨b, o, cs, fr, hA, hb, hx⟩⟩ := h
  · exact ⟨A, c, hv, hc, hm, .inl h0⟩
  · refine ⟨A, c, hv, hc, hm, .inr ⟨b, o, cs, fr, hA, ?_, hx⟩⟩
    rw [hg.block b (Array.getElem?_eq_some_iff.1 hb).1 (fun h => hne b cs fr h.symm hb)]
    exact hb
theorem Rd.next {e : TypeId} {w w' : World} {v : Value} {n : Nat} {xs : List Value} (h : Rd e w v n xs) (hb : Below w.heap.size w w') : Rd e w' v n xs :=
  h.kept (only_of_below hb none) (fun g cs fr h => by cases h)
theorem Rd.drewN {e : TypeId} {w : World} {v : Value} {n : Nat} {xs : List Value} (h : Rd e w v n xs) (k : Nat) : Rd e (w.drewN k) v n xs := h
theorem Rd.drew {e : TypeId} {w : World} {v : Value} {n : Nat} {xs : List Value} (h : Rd e w v n xs) : Rd e w.drew v n xs := h
theorem Rd.far {e e' : TypeId} {w w' : World} {v v' : Value} {n n' base size : Nat} {xs xs' : List Value} (h : Rd e w v n xs) (ho : w.ownsRow base e' size v' n' xs') (hg : w.grownBy w' v'.ownBlock) (hne : e ≠ e') : Rd e w' v n xs := by
  refine h.kept hg (fun g cs fr hr hh => ?_)
  rcases ho.2 with ⟨rfl, _⟩ | ⟨g', cap, cur, rfl, _, h2, _⟩
  · simp [Value.ownBlock] at hr
  · simp [Value.ownBlock] at hr
    subst hr; rw [h2] at hh
    injection hh with hh
    injection hh with _ ht
    exact hne ht.symm
theorem Rd.blk {e t : TypeId} {w w' : World} {v : Value} {n g : Nat} {xs : List Value} {cs : Array Value} (h : Rd e w v n xs) (hb : Blk w g t cs) (hg : w.grownBy w' (some g)) (hne : e ≠ t) : Rd e w' v n xs := by
  refine h.kept hg (fun g' cs' fr hr hh => ?_)
  injection hr with hr
  subst hr
  unfold Blk at hb
  rw [hb] at hh
  injection hh with hh
  injection hh with _ ht
  exact hne ht.symm
theorem Rd.of_own {e : TypeId} {w : World} {v : Value} {n base size : Nat} {xs : List Value} (h : w.ownsRow base e size v n xs) : Rd e w v n xs := by
  obtain ⟨h1, ⟨rfl, rfl⟩ | ⟨g, cap, cur, rfl, _, hh, hn, hm, _, hx⟩⟩ := h
  · exact ⟨none, 0, rfl, Nat.le_refl _, Nat.zero_le _, .inl ⟨rfl, by simpa using h1⟩⟩
  · refine ⟨_, cap, rfl, hn, hm, .inr ⟨g, 0, cur, (0, 0), rfl, hh, fun j u hu => ?_⟩⟩
    rw [← hx] at hu; rw [List.getElem?_take] at hu
    split at hu
    · simpa using hu
    · cases hu
theorem Rd.form {e : TypeId} {w : World} {v : Value} {n : Nat} {xs : List Value} (h : Rd e w v n xs) : ∃ A c, v = .slice A n c ∧ n ≤ c := by
  obtain ⟨A, c, hv, hc, _⟩ := h
  exact ⟨A, c, hv, hc⟩
theorem Rd.at_ {e : TypeId} {w : World} {v : Value} {n : Nat} {xs : List Value} (h : Rd e w v n xs) (hn : 0 < n) : ∃ b o c, v = .slice (some ⟨b, o, none⟩) n c ∧ n ≤ c ∧ c ≤ maxLen ∧ b < w.heap.size ∧ ∀ j u, xs[j]? = some u → w.cell? ⟨b, o + j, none⟩ = some u := by
  obtain ⟨A, c, hv, hc, hm, h0 | ⟨b, o, cs, fr, hA, hb, hx⟩⟩ := h
  · omega
  · subst hA
    refine ⟨b, o, c, hv, hc, hm, (Array.getElem?_eq_some_iff.1 hb).1, fun j u hu => ?_⟩
    rw [cell_of_row w b (o + j) cs e fr hb]
    exact hx j u hu
theorem Rd.cut {e : TypeId} {w : World} {A : Option Addr} {n c : Nat} {xs : List Value} (h : Rd e w (.slice A n c) n xs) (size k : Nat) (hk : k ≤ n) (hx : xs.length = n * size) : Rd e w (.slice (if c = k then A else A.map (·.add (k * size))) (n - k) (c - k)) (n - k) (xs.drop (k * size)) := by
  obtain ⟨A', c', hv, hc, hm, h0⟩ := h
  cases hv
  refine ⟨_, _, rfl, by omega, by omega, ?_⟩
  by_cases hkn : k = n
  · refine .inl ⟨by omega, ?_⟩
    subst hkn
    exact List.drop_eq_nil_of_le (by omega)
  · rcases h0 with ⟨h0, _⟩ | ⟨b, o, cs, fr, rfl, hb, hx'⟩
    · omega
    · rw [if_neg (by omega)]
      refine .inr ⟨b, o + k * size, cs, fr, ?_, hb, fun j u hu => ?_⟩
      · simp only [Option.map_some]
        unfold Addr.add
        split
        · rename_i h; rw [h]; rfl
        · rfl
      · rw [List.getElem?_drop] at hu
        rw [Nat.add_assoc]
        exact hx' _ u hu
structure Kept (L : List TypeId) (w w' : World) : Prop where
  size : w.heap.size ≤ w'.heap.size
  block : ∀ (b : Nat) (cs : Array Value) (e : TypeId) (fr : Nat × Nat), w.heap[b]? = some (Obj.cells cs e fr) → L.contains e = false → w'.heap[b]? = some (Obj.cells cs e fr)
theorem Kept.refl (L : List TypeId) (w : World) : Kept L w w := ⟨Nat.le_refl _, fun _ _ _ _ h _ => h⟩
theorem Kept.trans {L : List TypeId} {a b c : World} (h : Kept L a b) (k : Kept L b c) : Kept L a c :=
  ⟨Nat.le_trans h.size k.size, fun i cs e fr h1 h2 => k.block i cs e fr (h.block i cs e fr h1 h2) h2⟩
theorem Kept.of_below {w w' : World} (L : List TypeId) (h : Below w.heap.size w w') : Kept L w w' :=
  ⟨h.size, fun b cs e fr h1 _ => by rw [h.block b (Array.getElem?_eq_some_iff.1 h1).1]; exact h1⟩
theorem Kept.of_blk {w w' : World} {g : Nat} {t : TypeId} {cs : Array Value} (L : List TypeId) (hb : Blk w g t cs) (h : w.grownBy w' (some g)) (ht : L.contains t = true) : Kept L w w' :=
  ⟨h.size, fun b cs' e fr h1 h2 => by
    rw [h.block b (Array.getElem?_eq_some_iff.1 h1).1 (fun he => by
      injection he with he
      subst he
      unfold Blk at hb
      rw [hb] at h1
      injection h1 with h1
      injection h1 with _ h3
      subst h3
      rw [ht] at h2; cases h2)]
    exact h1⟩
theorem Kept.of_own {w w' : World} {base e size n : Nat} {v : Value} {xs : List Value} (L : List TypeId) (ho : w.ownsRow base e size v n xs) (h : w.grownBy w' v.ownBlock) (ht : L.contains e = true) : Kept L w w' := by
  rcases ho.2 with ⟨rfl, _⟩ | ⟨g', cap, cur, rfl, _, h2, _⟩
  · exact ⟨h.size, fun b cs e' fr h1 _ => by rw [h.block b (Array.getElem?_eq_some_iff.1 h1).1 (by simp [Value.ownBlock])]; exact h1⟩
  · exact Kept.of_blk L (show Blk w g' e cur from h2) h ht
theorem Kept.drewN {L : List TypeId} {a b : World} (h : Kept L a b) (n : Nat) : Kept L a (b.drewN n) := ⟨h.size, h.block⟩
theorem Kept.drew {L : List TypeId} {a b : World} (h : Kept L a b) : Kept L a b.drew := ⟨h.size, h.block⟩
theorem Kept.alloc {L : List TypeId} {a b : World} (h : Kept L a b) (o : Obj) : Kept L a (b.alloc o) := h.trans (Kept.of_below L ((Below.refl _ _).alloc (Nat.le_refl _) o))
theorem Kept.mono {L L' : List TypeId} {a b : World} (h : Kept L a b) (hl : ∀ e, L'.contains e = false → L.contains e = false) : Kept L' a b := ⟨h.size, fun i cs e fr h1 h2 => h.block i cs e fr h1 (hl e h2)⟩
theorem Rd.keep {e : TypeId} {w w' : World} {v : Value} {n : Nat} {xs : List Value} {L : List TypeId} (h : Rd e w v n xs) (k : Kept L w w') (he : L.contains e = false) : Rd e w' v n xs := by
  obtain ⟨A, c, hv, hc, hm, h0 | ⟨b, o, cs, fr, hA, hb, hx⟩⟩ := h
  · exact ⟨A, c, hv, hc, hm, .inl h0⟩
  · exact ⟨A, c, hv, hc, hm, .inr ⟨b, o, cs, fr, hA, k.block b cs e fr hb he, hx⟩⟩
theorem own_keep {e : TypeId} {w w' : World} {v : Value} {n base size : Nat} {xs : List Value} {L : List TypeId} (h : w.ownsRow base e size v n xs) (k : Kept L w w') (he : L.contains e = false) : w'.ownsRow base e size v n xs := by
  obtain ⟨h1, h2 | ⟨g, cap, cur, hv, hg, hh, r⟩⟩ := h
  · exact ⟨h1, .inl h2⟩
  · exact ⟨h1, .inr ⟨g, cap, cur, hv, hg, k.block g cur e (0, 0) hh he, r⟩⟩
theorem Blk.keep {w w' : World} {g : Nat} {t : TypeId} {cs : Array Value} {L : List TypeId} (h : Blk w g t cs) (k : Kept L w w') (he : L.contains t = false) : Blk w' g t cs := k.block g cs t (0, 0) h he
section
variable {α β : Type}
def rowC (f : α → β → List Value) : List α → List β → List Value
  | x :: l, v :: vs => f x v ++ rowC f l vs
  | _, _ => []
def RowW (N : World → β → α → Prop) (w : World) (l : List α) (vs : List β) : Prop := vs.length = l.length ∧ ∀ (i : Nat) (x : α) (v : β), l[i]? = some x → vs[i]? = some v → N w v x
theorem RowW.nil (N : World → β → α → Prop) (w : World) : RowW N w [] [] := ⟨rfl, fun i x v h => by simp at h⟩
theorem RowW.imp {N : World → β → α → Prop} {w w' : World} {l : List α} {vs : List β} (h : RowW N w l vs) (hi : ∀ v x, N w v x → N w' v x) : RowW N w' l vs := ⟨h.1, fun i x v h1 h2 => hi _ _ (h.2 i x v h1 h2)⟩
theorem RowW.snoc {N : World → β → α → Prop} {w : World} {l : List α} {vs : List β} {x : α} {v : β} (h : RowW N w l vs) (hv : N w v x) : RowW N w (l ++ [x]) (vs ++ [v]) := by
  refine ⟨by simp [h.1], fun i x' v' h1 h2 => ?_⟩
  rcases Nat.lt_trichotomy i l.length with hi | hi | hi
  · rw [List.getElem?_append_left hi] at h1
    rw [List.getElem?_append_left (by rw [h.1]; exact hi)] at h2
    exact h.2 i x' v' h1 h2
  · subst hi
    rw [List.getElem?_append_right (Nat.le_refl _)] at h1; rw [← h.1, List.getElem?_append_right (Nat.le_refl _)] at h2
    simp at h1 h2
    subst h1 h2
    exact hv
  · rw [List.getElem?_eq_none (by simp; omega)] at h1
    cases h1
def RowRd (e : TypeId) (f : α → β → List Value) (N : World → β → α → Prop) (w : World) (v : Value) (l : List α) : Prop := ∃ vs, RowW N w l vs ∧ Rd e w v l.length (rowC f l vs)
variable {e : TypeId} {size base : Nat} {f : α → β → List Value} {N : World → β → α → Prop} {w w' : World} {v : Value} {l : List α} {L : List TypeId}
theorem RowRd.nil : RowRd e f N w (.slice none 0 0) [] := ⟨[], RowW.nil N w, ⟨none, 0, rfl, Nat.le_refl _, Nat.zero_le _, .inl ⟨rfl, rfl⟩⟩⟩
theorem RowRd.keep (h : RowRd e f N w v l) (k : Kept L w w') (he : L.contains e = false) (hN : ∀ v x, N w v x → N w' v x) : RowRd e f N w' v l := by
  obtain ⟨vs, h1, h2⟩ := h
  exact ⟨vs, h1.imp hN, h2.keep k he⟩
theorem RowRd.form (h : RowRd e f N w v l) : ∃ A c, v = .slice A l.length c ∧ l.length ≤ c := by
  obtain ⟨vs, _, h2⟩ := h
  exact h2.form
theorem rowC_get (f : α → β → List Value) (size : Nat) (hf : ∀ x v, (f x v).length = size) : ∀ (l : List α) (vs : List β), vs.length = l.length → ∀ (i : Nat) (x : α) (v : β) (j : Nat), l[i]? = some x → vs[i]? = some v → j < size → (rowC f l vs)[i * size + j]? = (f x v)[j]?
  | [], _, _, i, x, v, j, h, _, _ => by simp at h
  | a :: l, [], h, _, _, _, _, _, _, _ => by simp at h
  | a :: l, b :: vs, h, 0, x, v, j, h1, h2, hj => by
    simp at h1 h2
    subst h1 h2
    simp only [rowC, Nat.zero_mul, Nat.zero_add]
    rw [List.getElem?_append_left (by rw [hf]; exact hj)]
  | a :: l, b :: vs, h, i + 1, x, v, j, h1, h2, hj => by
    have := rowC_get f size hf l vs (by simpa using h) i x v j (by simpa using h1) (by simpa using h2) hj
    simp only [rowC]
    rw [List.getElem?_append_right (by rw [hf, Nat.add_mul]; omega), hf, ← this]
    congr 1
    rw [Nat.add_mul]; omega
theorem rowC_len (f : α → β → List Value) (size : Nat) (hf : ∀ x v, (f x v).length = size) : ∀ (l : List α) (vs : List β), vs.length = l.length → (rowC f l vs).length = l.length * size
  | [], [], _ => by simp [rowC]
  | [], b :: vs, h => by simp at h
  | a :: l, [], h => by simp at h
  | a :: l, b :: vs, h => by
    have := rowC_len f size hf l vs (by simpa using h)
    simp only [rowC, List.length_append, hf, this, List.length_cons, Nat.add_mul]; omega
theorem rowC_drop (f : α → β → List Value) (size : Nat) (hf : ∀ x v, (f x v).length = size) (a : α) (l : List α) (b : β) (vs : List β) : (rowC f (a :: l) (b :: vs)).drop size = rowC f l vs := by
  simp only [rowC]
  rw [List.drop_append_of_le_length (by rw [hf]; exact Nat.le_refl _), List.drop_eq_nil_of_le (by rw [hf]; exact Nat.le_refl _), List.nil_append]
theorem RowRd.at_ (h : RowRd e f N w v l) (hf : ∀ x u, (f x u).length = size) {i : Nat} {x : α} (hx : l[i]? = some x) : ∃ b o c u, v = .slice (some ⟨b, o, none⟩) l.length c ∧ l.length ≤ c ∧ b < w.heap.size ∧ N w u x ∧ ∀ j y, (f x u)[j]? = some y → w.cell? ⟨b, o + (i * size + j), none⟩ = some y := by
  obtain ⟨vs, h1, h2⟩ := h
  have hi : i < l.length := by
    rcases Nat.lt_or_ge i l.length with h | h
    · exact h
    · rw [List.getElem?_eq_none h] at hx; cases hx
  have hiv : i < vs.length := by rw [h1.1]; exact hi
  obtain ⟨b, o, c, hv, hc, _, hb, hcell⟩ := h2.at_ (by omega)
  refine ⟨b, o, c, vs[i], hv, hc, hb, h1.2 i x _ hx (List.getElem?_eq_getElem hiv), fun j y hy => ?_⟩
  have hj : j < size := by
    rcases Nat.lt_or_ge j size with h | h
    · exact h
    · rw [List.getElem?_eq_none (by rw [hf]; exact h)] at hy; cases hy
  exact hcell _ _ ((rowC_get f size hf l vs h1.1 i x _ j hx (List.getElem?_eq_getElem hiv) hj).trans hy)
theorem RowRd.tail {A : Option Addr} {n c : Nat} {a : α} (h : RowRd e f N w (.slice A n c) (a :: l)) (hf : ∀ x u, (f x u).length = size) : RowRd e f N w (.slice (if c = 1 then A else A.map (·.add size)) (n - 1) (c - 1)) l := by
  obtain ⟨vs, h1, h2⟩ := h
  match vs, h1 with
  | [], h1 => exact absurd h1.1 (by simp)
  | b :: vs, h1 =>
    obtain ⟨A', c', hv, hc, hm, h0⟩ := id h2
    injection hv with hA hn hcc
    subst hn
    refine ⟨vs, ⟨by simpa using h1.1, fun i x v hx hv => h1.2 (i + 1) x v (by simpa using hx) (by simpa using hv)⟩, ?_⟩
    have := Rd.cut h2 size 1 (by simp) (by rw [rowC_len f size hf _ _ h1.1]); rw [Nat.one_mul, rowC_drop f size hf] at this
    exact this
theorem RowRd.next (h : RowRd e f N w v l) (hb : Below w.heap.size w w') (hN : ∀ v x, N w v x → N w' v x) : RowRd e f N w' v l := h.keep (Kept.of_below [] hb) rfl hN
end
end Go.Proofs.YtmjkcanjfjfkfaaGreat
namespace Go.Proofs.YtmjkcanjfjfkfaaGreat
open Go.RowKit Go.Deep
set_option linter.unusedSimpArgs false
set_option linter.unusedVariables false
theorem add_off (b o j : Nat) : ((⟨b, o, none⟩ : Addr).add j) = ⟨b, o + j, none⟩ := by
  unfold Addr.add
  split
  · rename_i h; subst h; rfl
  · rfl
theorem run_append_rd {P : Program} (w : World) (base : Nat) (t ty e : TypeId) (i : TypeInfo) (z : Value) (size bytes : Nat) (ht : P.underlying t = some (.slice e)) (hi : P.info? e = some i) (hz : i.zero = some z)
    (hsize : i.size = size) (hby : i.bytes = bytes) (hzs : z.cells.size = size) (hsz : 0 < size)
    (v : Value) (n : Nat) (xs : List Value) (hown : w.ownsRow base e size v n xs) (x : Value) (m : Nat) (news : List Value) (hr : Rd e w x m news) (hl : news.length = m * size) (h1 : ∀ u ∈ news, u.oneCell' = true)
    (h63 : n + m ≤ maxLen) (hbytes : (n + m) * bytes ≤ 140737488355328) (hbase : base ≤ w.heap.size) :
    ∃ ao cap w', (Builtin.append_ #[t, t] ty #[v, x]).run P w = .ok (.slice ao (n + m) cap) w' ∧ w'.ownsRow base e size (.slice ao (n + m) cap) (n + m) (xs ++ news) ∧ w.grownBy w' v.ownBlock := by
  have fin : ∀ (ad : Addr) (c : Nat), (∀ j u, news[j]? = some u → w.cell? (ad.add j) = some u) →
      ∃ ao cap w', (Builtin.append_ #[t, t] ty #[v, .slice (some ad) m c]).run P w = .ok (.slice ao (n + m) cap) w' ∧ w'.ownsRow base e size (.slice ao (n + m) cap) (n + m) (xs ++ news) ∧ w.grownBy w' v.ownBlock := by
    intro ad c hc
    obtain ⟨v', w', hrun, h2, h3, _, _⟩ := run_append_own_at (P := P) w base t ty e i z size bytes ht hi hz hsize hby hzs hsz v n xs hown ad m c news hl hc h1 h63 hbytes hbase; obtain ⟨a, cc, rfl, _⟩ := own_len h2
    exact ⟨a, cc, w', hrun, h2, h3⟩
  obtain ⟨A, c, rfl, hc, hm, ⟨rfl, rfl⟩ | ⟨b, o, cs, fr, rfl, hb, hx⟩⟩ := hr
  · cases A with
    | some ad => exact fin ad c (fun j u h => by simp at h)
    | none =>
      obtain ⟨a, cc, rfl, hle⟩ := own_len hown
      refine ⟨a, cc, w, ?_, by simpa using hown, World.grownBy.refl w _⟩
      rcases hown.2 with ⟨h2, rfl⟩ | ⟨g, cap, cur, h2, _, _, hnc, _⟩
      · cases h2
        simp [Builtin.append_, run_underlying ht, sizeOf, typeInfo, hi, Builtin.lenOf, Builtin.firstCells]
      · cases h2
        simp [Builtin.append_, run_underlying ht, sizeOf, typeInfo, hi, Builtin.lenOf, Builtin.firstCells, hnc, storeCells]
  · refine fin _ c (fun j u h => ?_)
    rw [add_off, cell_of_row w b (o + j) cs e fr hb]
    exact hx j u h
theorem wp_append_rd {P : Program} (w : World) {o : Oper} {a : Go.Act} {K : Go.Act → World → Prop} {Q : Exit → Go.Act → World → Prop} (s x : Operand) (t : TypeId)
    (ho : o.op = .call { callee := .builtin .append, args := #[s, x], argTypes := #[t, t] })
    (base : Nat) (e : TypeId) (i : TypeInfo) (z : Value) (size bytes : Nat) (ht : P.underlying t = some (.slice e)) (hi : P.info? e = some i) (hz : i.zero = some z)
    (hsize : i.size = size) (hby : i.bytes = bytes) (hzs : z.cells.size = size) (hsz : 0 < size)
    (v : Value) (n : Nat) (xs : List Value) (hs : a.eval s = v) (hown : w.ownsRow base e size v n xs)
    (xv : Value) (m : Nat) (news : List Value) (hx : a.eval x = xv) (hr : Rd e w xv m news) (hl : news.length = m * size) (h1 : ∀ u ∈ news, u.oneCell' = true)
    (h63 : n + m ≤ maxLen) (hbytes : (n + m) * bytes ≤ 140737488355328) (hbase : base ≤ w.heap.size)
    (h : ∀ ao cap w', w'.ownsRow base e size (.slice ao (n + m) cap) (n + m) (xs ++ news) → w.grownBy w' v.ownBlock → K (a.put o.dst (.slice ao (n + m) cap)) w') : o.wp P a w K Q := by
  obtain ⟨ao, cap, w', hrun, h2, h3⟩ := run_append_rd (P := P) w base t o.type e i z size bytes ht hi hz hsize hby hzs hsz v n xs hown xv m news hr hl h1 h63 hbytes hbase
  unfold Oper.wp execOp
  simp only [ho, resolve, invoke, builtin, Sem.run_bind, Sem.run_pure, Result.andThen_ok, List.map_toArray, List.map_cons, List.map_nil, hs, hx, hrun]
  exact h ao cap w' h2 h3
theorem wpList_append_rd {P : Program} (w : World) {ops : Array Oper} {rest : List Oper} {o : Oper} {a : Go.Act} {Q : Exit → Go.Act → World → Prop} (hgd : o.guard = none) (s x : Operand) (t : TypeId)
    (ho : o.op = .call { callee := .builtin .append, args := #[s, x], argTypes := #[t, t] })
    (base : Nat) (e : TypeId) (i : TypeInfo) (z : Value) (size bytes : Nat) (ht : P.underlying t = some (.slice e)) (hi : P.info? e = some i) (hz : i.zero = some z)
    (hsize : i.size = size) (hby : i.bytes = bytes) (hzs : z.cells.size = size) (hsz : 0 < size)
    (v : Value) (n : Nat) (xs : List Value) (hs : a.eval s = v) (hown : w.ownsRow base e size v n xs)
    (xv : Value) (m : Nat) (news : List Value) (hx : a.eval x = xv) (hr : Rd e w xv m news) (hl : news.length = m * size) (h1 : ∀ u ∈ news, u.oneCell' = true)
    (h63 : n + m ≤ maxLen) (hbytes : (n + m) * bytes ≤ 140737488355328) (hbase : base ≤ w.heap.size)
    (h : ∀ ao cap w', w'.ownsRow base e size (.slice ao (n + m) cap) (n + m) (xs ++ news) → w.grownBy w' v.ownBlock → wpList P ops Q rest (a.put o.dst (.slice ao (n + m) cap)) w') : wpList P ops Q (o :: rest) a w :=
  wpList_plain hgd fun _ hK => wp_append_rd w s x t ho base e i z size bytes ht hi hz hsize hby hzs hsz v n xs hs hown xv m news hx hr hl h1 h63 hbytes hbase fun ao cap w' h2 h3 => hK _ _ (h ao cap w' h2 h3)
theorem own_new (w : World) (base : Nat) (e : TypeId) (size : Nat) (cs : List Value) (hl : cs.length = size) (hb : base ≤ w.heap.size) : (w.alloc (.cells cs.toArray e)).ownsRow base e size (.slice (some ⟨w.heap.size, 0, none⟩) 1 1) 1 cs := by
  refine ⟨by omega, .inr ⟨w.heap.size, 1, cs.toArray, rfl, hb, heap_alloc_new w _, Nat.le_refl _, by unfold maxLen; omega, by simp [hl], ?_⟩⟩
  simp
  rw [← hl, List.take_length]
theorem below_own {B : Nat} {a w w' : World} {base e size n : Nat} {v : Value} {xs : List Value} (h : Below B a w) (ho : w.ownsRow base e size v n xs) (k : w.grownBy w' v.ownBlock) (hb : B ≤ base) (hB : B ≤ w.heap.size) : Below B a w' :=
  ⟨k.os.trans h.os, k.tape.trans h.tape, k.output.trans h.output, Nat.le_trans h.size k.size, fun i hi => (k.block i (Nat.lt_of_lt_of_le hi hB) (by
    intro e
    have := own_ge ho e.symm
    omega)).trans (h.block i hi)⟩
section
variable {α β : Type}
variable {f : α → β → List Value} {N : World → β → α → Prop} {B : Nat} {w w' : World} {v : Value} {l : List α}
end
section
variable {α β H : Type} [Inhabited α] [Inhabited β] {enc : TypeId × Value → H} {P : Program} {w : World} {base : Nat} {spare : Nat → Bool} {held : Bool}
end
end Go.Proofs.YtmjkcanjfjfkfaaGreat
namespace Go.Proofs.YtmjkcanjfjfkfaaGreat
open Go.RowKit
set_option linter.unusedSimpArgs false
set_option linter.unusedVariables false
def nmA (n : Nm) : Array Value := #[.int .i64 n.kind, .string (bs n.owner), .int .i64 n.num, .int .i64 n.idx, .string (bs n.text)]
def nmV (n : Nm) : Value := .agg (nmA n)
def nmC (n : Nm) : List Value := [.int .i64 n.kind, .string (bs n.owner), .int .i64 n.num, .int .i64 n.idx, .string (bs n.text)]
def chC (c : Ch) : List Value := [.int .i64 c.name.kind, .string (bs c.name.owner), .int .i64 c.name.num, .int .i64 c.name.idx, .string (bs c.name.text), .string (bs c.value), .bool c.absent]
def chV (c : Ch) : Value := .agg #[.int .i64 c.name.kind, .string (bs c.name.owner), .int .i64 c.name.num, .int .i64 c.name.idx, .string (bs c.name.text), .string (bs c.value), .bool c.absent]
def kyC (k : Ky) : List Value := [.int .i64 k.tick, .int .i64 k.cls, .int .i64 k.num, .string (bs k.lin)]
def kyV (k : Ky) : Value := .agg #[.int .i64 k.tick, .int .i64 k.cls, .int .i64 k.num, .string (bs k.lin)]
end Go.Proofs.YtmjkcanjfjfkfaaGreat
namespace Go.Proofs.YtmjkcanjfjfkfaaGreat
open Go.RowKit
set_option linter.unusedSimpArgs false
set_option linter.unusedVariables false
end Go.Proofs.YtmjkcanjfjfkfaaGreat
namespace Go.Proofs.YtmjkcanjfjfkfaaGreat
open Go.RowKit
set_option linter.unusedSimpArgs false
set_option linter.unusedVariables false
theorem nan_i (n : Int) (w : World) : Calls Tryz.prog 56 #[.int .i64 n] w fun e w' => e = .returned (.bool false) ∧ w = w' := by
  go_enter Tryz.func56, Tryz.ntmps56
  go_wp2
  go_ret
  exact ⟨rfl, rfl⟩
theorem nan_s (s : ByteArray) (w : World) : Calls Tryz.prog 79 #[.string s] w fun e w' => e = .returned (.bool false) ∧ w = w' := by
  go_enter Tryz.func79, Tryz.ntmps79
  go_wp2
  go_ret
  exact ⟨rfl, rfl⟩
theorem blt_eq : ∀ a b : Bs, Op.bytesLess a b = blt a b
  | a, [] => by cases a <;> rfl
  | [], _ :: _ => rfl
  | x :: a, y :: b => by simp only [Op.bytesLess, blt, blt_eq a b]
theorem cmp_i (a b : Int) (w : World) : Calls Tryz.prog 36 #[.int .i64 a, .int .i64 b] w fun e w' => e = .returned (.int .i64 (cmpI a b)) ∧ w = w' := by
  by_cases h1 : a < b
  · rw [show cmpI a b = -1 by unfold cmpI; rw [if_pos h1]]
    go_enter Tryz.func36, Tryz.ntmps36
    go_wp2_with (go_at_call 56; refine (nan_i _ _).mono ?_; rintro e w' ⟨rfl, rfl⟩)
    go_ret
    exact ⟨rfl, rfl⟩
  · by_cases h2 : b < a
    · rw [show cmpI a b = 1 by unfold cmpI; rw [if_neg h1, if_pos h2]]
      go_enter Tryz.func36, Tryz.ntmps36
      go_wp2_with (go_at_call 56; refine (nan_i _ _).mono ?_; rintro e w' ⟨rfl, rfl⟩)
      go_ret
      exact ⟨rfl, rfl⟩
    · rw [show cmpI a b = 0 by unfold cmpI; rw [if_neg h1, if_neg h2]]
      go_enter Tryz.func36, Tryz.ntmps36
      go_wp2_with (go_at_call 56; refine (nan_i _ _).mono ?_; rintro e w' ⟨rfl, rfl⟩)
      go_ret
      exact ⟨rfl, rfl⟩
theorem bs_toList (a : Bs) : (bs a).toList = a := by rw [Lib.toList_data, bs_list]
theorem less_bs (a b : Bs) : Op.bytesLess (bs a).toList (bs b).toList = blt a b := by rw [bs_toList, bs_toList, blt_eq]
theorem eq_bs (a b : Bs) : ((bs a).toList == (bs b).toList) = (a == b) := by rw [bs_toList, bs_toList]
theorem cmp_s (a b : Bs) (w : World) : Calls Tryz.prog 64 #[.string (bs a), .string (bs b)] w fun e w' => e = .returned (.int .i64 (cmpS a b)) ∧ w = w' := by
  have l1 := less_bs a b; have l2 := eq_bs a b
  have l3 : blt a b = false → (a == b) = !blt b a := fun h => by
    cases h2 : blt b a with
    | true => simp; rintro rfl; rw [blt_irrefl] at h2; cases h2
    | false => simp [blt_tri h h2]
  unfold cmpS
  generalize bs a = x at *; generalize bs b = y at *
  cases h1 : blt a b with
  | true =>
    rw [h1] at l1; clear l2 l3 h1
    simp only [if_true]
    go_enter Tryz.func64, Tryz.ntmps64
    go_wp2_with (go_at_call 79; refine (nan_s _ _).mono ?_; rintro e w' ⟨rfl, rfl⟩)
    go_ret
    exact ⟨rfl, rfl⟩
  | false =>
    rw [h1] at l1; rw [l3 h1] at l2; clear h1 l3
    cases h2 : blt b a with
    | true =>
      rw [h2] at l2; clear h2
      simp only [Bool.not_true, Bool.not_false] at l2
      simp only [Bool.false_eq_true, if_true, if_false]
      go_enter Tryz.func64, Tryz.ntmps64
      go_wp2_with (go_at_call 79; refine (nan_s _ _).mono ?_; rintro e w' ⟨rfl, rfl⟩)
      go_ret
      exact ⟨rfl, rfl⟩
    | false =>
      rw [h2] at l2; clear h2
      simp only [Bool.not_true, Bool.not_false] at l2
      simp only [Bool.false_eq_true, if_true, if_false]
      go_enter Tryz.func64, Tryz.ntmps64
      go_wp2_with (go_at_call 79; refine (nan_s _ _).mono ?_; rintro e w' ⟨rfl, rfl⟩)
      go_ret
      exact ⟨rfl, rfl⟩
theorem or_3 (a b c : Int) (w : World) (A : Nat) (h0 : w.cell? ⟨A, 0, none⟩ = some (.int .i64 a)) (h1 : w.cell? ⟨A, 1, none⟩ = some (.int .i64 b)) (h2 : w.cell? ⟨A, 2, none⟩ = some (.int .i64 c)) : Calls Tryz.prog 35 #[.slice (some ⟨A, 0, none⟩) 3 3] w fun e w' => e = .returned (.int .i64 (or3 a b c)) ∧ w = w' := by
  have hc : Hid (or3 a b c = if a ≠ 0 then a else if b ≠ 0 then b else c) := Lib.hid rfl
  go_enter Tryz.func35, Tryz.ntmps35
  go_wp2
  go_loop [8] (fun i => ∃ k : Nat, k ≤ 3 ∧ i = .int .i64 k ∧ (0 < k → a = 0) ∧ (1 < k → b = 0) ∧ (2 < k → c = 0)) (fun i => 3 - (intOf i).toNat)
  case atStart => exact ⟨0, by omega, rfl, by omega, by omega, by omega⟩
  case round =>
    obtain ⟨k, hk, rfl, p0, p1, p2⟩ := hrel
    have hcases : k = 0 ∨ k = 1 ∨ k = 2 ∨ k = 3 := by omega
    rcases hcases with rfl | rfl | rfl | rfl
    · clear p0 p1 p2 hk
      by_cases ha : a = 0
      · have e1 : (a != 0) = false := by simp [ha]
        go_wp2
        go_round
        case rel => exact ⟨1, by omega, rfl, fun _ => ha, by omega, by omega⟩
        case measure => simp [intOf]
      · have e1 : (a != 0) = true := by simp [ha]
        go_wp2
        go_ret
        exact ⟨by rw [hc.out, if_pos ha]; rfl, rfl⟩
    · have ha := p0 (by omega)
      clear p0 p1 p2 hk
      by_cases hb : b = 0
      · have e1 : (b != 0) = false := by simp [hb]
        have HA := Lib.hid ha; clear ha
        go_wp2
        go_round
        case rel => exact ⟨2, by omega, rfl, fun _ => HA.out, fun _ => hb, by omega⟩
        case measure => simp [intOf]
      · have e1 : (b != 0) = true := by simp [hb]
        have HA := Lib.hid ha; clear ha
        go_wp2
        go_ret
        exact ⟨by rw [hc.out, if_neg (by simp [HA.out]), if_pos hb]; rfl, rfl⟩
    · have HA := Lib.hid (p0 (by omega))
      have HB := Lib.hid (p1 (by omega)); clear p0 p1 p2 hk
      by_cases hcc : c = 0
      · have e1 : (c != 0) = false := by simp [hcc]
        go_wp2
        go_round
        case rel => exact ⟨3, by omega, rfl, fun _ => HA.out, fun _ => HB.out, fun _ => hcc⟩
        case measure => simp [intOf]
      · have e1 : (c != 0) = true := by simp [hcc]
        go_wp2
        go_ret
        exact ⟨by rw [hc.out, if_neg (by simp [HA.out]), if_neg (by simp [HB.out])]; rfl, rfl⟩
    · have HA := Lib.hid (p0 (by omega))
      have HB := Lib.hid (p1 (by omega)); have HC := Lib.hid (p2 (by omega)); clear p0 p1 p2 hk
      go_wp2
      go_ret
      exact ⟨by rw [hc.out, if_neg (by simp [HA.out]), if_neg (by simp [HB.out]), HC.out]; rfl, rfl⟩
end Go.Proofs.YtmjkcanjfjfkfaaGreat
namespace Go.Proofs.YtmjkcanjfjfkfaaGreat
open Go.RowKit
set_option linter.unusedSimpArgs false
set_option linter.unusedVariables false
theorem lin_same (s : ByteArray) (w : World) : Calls Tryz.prog 37 #[.string s, .string s] w fun e w' => e = .returned (.int .i64 0) ∧ w = w' := by
  have e0 : (s.toList == s.toList) = true := by simp
  go_enter Tryz.func37, Tryz.ntmps37
  go_wp2
  go_ret
  exact ⟨rfl, rfl⟩
theorem still_of {P : Program} {f : FuncId} {args : Array Value} {w : World} {v : Value} (h : Calls P f args w fun e w' => e = .returned v ∧ w = w') : Calls P f args w fun e w' => e = .returned v ∧ w' = w := h.mono fun _ _ h => ⟨h.1, h.2.symm⟩
end Go.Proofs.YtmjkcanjfjfkfaaGreat
namespace Go.Proofs.YtmjkcanjfjfkfaaGreat
open Go.RowKit
set_option linter.unusedSimpArgs false
set_option linter.unusedVariables false
theorem bs_tl (a : Bs) : (bs a).toList = a := bs_toList a
theorem beq_dec {α : Type} [BEq α] [LawfulBEq α] (a b : α) [Decidable (a = b)] : (a == b) = decide (a = b) := by by_cases h : a = b <;> simp [h]
theorem bool_dec (a b : Prop) [Decidable a] [Decidable b] : decide (a ∧ b) = (decide a && decide b) := by by_cases a <;> by_cases b <;> simp [*]
set_option maxRecDepth 100000 in
theorem eqNm (a0 b0 : Int) (a1 b1 : ByteArray) (a2 b2 : Int) (a3 b3 : Int) (a4 b4 : ByteArray) (w : World) : (Op.equalIn 10000 45 (.agg #[.int .i64 a0, .string a1, .int .i64 a2, .int .i64 a3, .string a4]) (.agg #[.int .i64 b0, .string b1, .int .i64 b2, .int .i64 b3, .string b4])).run Tryz.prog w = .ok (a0 == b0 && a1.toList == b1.toList && a2 == b2 && a3 == b3 && a4.toList == b4.toList) w := by
  have u1 := Tryz.underlying3; have u2 := Tryz.underlying9; have u3 := Tryz.underlying4; have u4 := Tryz.underlying33
  have hS : Tryz.prog.underlying 45 = some (.struct (Tryz.prog.fieldsOf 45)) := by kernel_rfl
  have hp : Tryz.prog.stoodInHeld 45 = false := by kernel_rfl
  rw [show (10000 : Nat) = 9999 + 1 from rfl, run_equalIn_agg w 9999 45 _ _ hS hp]
  simp only [Program.fieldsOf, Tryz.underlying45]
  go_simp
  by_cases h0 : a0 = b0 <;> by_cases h1 : a1.toList = b1.toList <;> by_cases h2 : a2 = b2 <;> by_cases h3 : a3 = b3 <;> by_cases h4 : a4.toList = b4.toList <;> simp [h0, h1, h2, h3, h4]
theorem guardNm : Tryz.prog.eqGuardType Tryz.prog.depth 45 = false := by kernel_rfl
theorem eqlNm (p q : Nm) (b : Bool) (hb : decide (p = q) = b) (w : World) : (binOp .eql 45 (nmV p) (nmV q)).run Tryz.prog w = .ok (.bool b) w := by
  subst hb; obtain ⟨k, o, n, i, t⟩ := p; obtain ⟨k2, o2, n2, i2, t2⟩ := q; unfold nmV nmA; rw [run_eql_struct, eqNm]
  simp [bs_tl, bool_dec, beq_dec, Bool.and_assoc]
theorem neqNm (p q : Nm) (b : Bool) (hb : decide (p = q) = b) (w : World) : (binOp .neq 45 (nmV p) (nmV q)).run Tryz.prog w = .ok (.bool (!b)) w := by
  subst hb; obtain ⟨k, o, n, i, t⟩ := p; obtain ⟨k2, o2, n2, i2, t2⟩ := q; unfold nmV nmA; rw [run_neq_struct, eqNm]
  simp [bs_tl, bool_dec, beq_dec, Bool.and_assoc]
set_option maxRecDepth 100000 in
theorem eqNm9 (a0 b0 : Int) (a1 b1 : ByteArray) (a2 b2 : Int) (a3 b3 : Int) (a4 b4 : ByteArray) (w : World) : (Op.equalIn 9999 45 (.agg #[.int .i64 a0, .string a1, .int .i64 a2, .int .i64 a3, .string a4]) (.agg #[.int .i64 b0, .string b1, .int .i64 b2, .int .i64 b3, .string b4])).run Tryz.prog w = .ok (a0 == b0 && a1.toList == b1.toList && a2 == b2 && a3 == b3 && a4.toList == b4.toList) w := by
  have u1 := Tryz.underlying3; have u2 := Tryz.underlying9; have u3 := Tryz.underlying4; have u4 := Tryz.underlying33
  have hS : Tryz.prog.underlying 45 = some (.struct (Tryz.prog.fieldsOf 45)) := by kernel_rfl
  have hp : Tryz.prog.stoodInHeld 45 = false := by kernel_rfl
  rw [show (9999 : Nat) = 9998 + 1 from rfl, run_equalIn_agg w 9998 45 _ _ hS hp]
  simp only [Program.fieldsOf, Tryz.underlying45]
  go_simp
  by_cases h0 : a0 = b0 <;> by_cases h1 : a1.toList = b1.toList <;> by_cases h2 : a2 = b2 <;> by_cases h3 : a3 = b3 <;> by_cases h4 : a4.toList = b4.toList <;> simp [h0, h1, h2, h3, h4]
set_option maxRecDepth 100000 in
theorem eqKy (a0 b0 : Int) (a1 b1 : Int) (a2 b2 : Int) (a3 b3 : ByteArray) (w : World) : (Op.equalIn 10000 35 (.agg #[.int .i64 a0, .int .i64 a1, .int .i64 a2, .string a3]) (.agg #[.int .i64 b0, .int .i64 b1, .int .i64 b2, .string b3])).run Tryz.prog w = .ok (a0 == b0 && a1 == b1 && a2 == b2 && a3.toList == b3.toList) w := by
  have u1 := Tryz.underlying3; have u2 := Tryz.underlying9; have u3 := Tryz.underlying4; have u4 := Tryz.underlying33
  have hS : Tryz.prog.underlying 35 = some (.struct (Tryz.prog.fieldsOf 35)) := by kernel_rfl
  have hp : Tryz.prog.stoodInHeld 35 = false := by kernel_rfl
  rw [show (10000 : Nat) = 9999 + 1 from rfl, run_equalIn_agg w 9999 35 _ _ hS hp]
  simp only [Program.fieldsOf, Tryz.underlying35]
  go_simp
  by_cases h0 : a0 = b0 <;> by_cases h1 : a1 = b1 <;> by_cases h2 : a2 = b2 <;> by_cases h3 : a3.toList = b3.toList <;> simp [h0, h1, h2, h3]
theorem eqlKy (p q : Ky) (b : Bool) (hb : decide (p = q) = b) (w : World) : (binOp .eql 35 (kyV p) (kyV q)).run Tryz.prog w = .ok (.bool b) w := by
  subst hb; obtain ⟨k, o, n, i⟩ := p; obtain ⟨k2, o2, n2, i2⟩ := q; unfold kyV; rw [run_eql_struct, eqKy]
  simp [bs_tl, bool_dec, beq_dec, Bool.and_assoc]
set_option maxRecDepth 100000 in
theorem eqCh (a0 b0 : Int) (a1 b1 : ByteArray) (a2 b2 : Int) (a3 b3 : Int) (a4 b4 : ByteArray) (a5 b5 : ByteArray) (a6 b6 : Bool) (w : World) : (Op.equalIn 10000 92 (.agg #[.int .i64 a0, .string a1, .int .i64 a2, .int .i64 a3, .string a4, .string a5, .bool a6]) (.agg #[.int .i64 b0, .string b1, .int .i64 b2, .int .i64 b3, .string b4, .string b5, .bool b6])).run Tryz.prog w = .ok (a0 == b0 && a1.toList == b1.toList && a2 == b2 && a3 == b3 && a4.toList == b4.toList && a5.toList == b5.toList && a6 == b6) w := by
  have u1 := Tryz.underlying3; have u2 := Tryz.underlying9; have u3 := Tryz.underlying4; have u4 := Tryz.underlying33
  have hS : Tryz.prog.underlying 92 = some (.struct (Tryz.prog.fieldsOf 92)) := by kernel_rfl
  have hp : Tryz.prog.stoodInHeld 92 = false := by kernel_rfl
  have hN := eqNm9 a0 b0 a1 b1 a2 b2 a3 b3 a4 b4 w; rw [show (10000 : Nat) = 9999 + 1 from rfl, run_equalIn_agg w 9999 92 _ _ hS hp]
  simp only [Program.fieldsOf, Tryz.underlying92]
  go_simp
  by_cases h0 : a0 = b0 <;> by_cases h1 : a1.toList = b1.toList <;> by_cases h2 : a2 = b2 <;> by_cases h3 : a3 = b3 <;> by_cases h4 : a4.toList = b4.toList <;> by_cases h5 : a5.toList = b5.toList <;> by_cases h6 : a6 = b6 <;> simp [h0, h1, h2, h3, h4, h5, h6]
theorem neqCh (p q : Ch) (b : Bool) (hb : decide (p = q) = b) (w : World) : (binOp .neq 92 (chV p) (chV q)).run Tryz.prog w = .ok (.bool (!b)) w := by
  subst hb; obtain ⟨⟨k, o, n, i, t⟩, v, a⟩ := p; obtain ⟨⟨k2, o2, n2, i2, t2⟩, v2, a2⟩ := q; unfold chV; rw [run_neq_struct, eqCh]
  simp [bs_tl, bool_dec, beq_dec, Bool.and_assoc]
end Go.Proofs.YtmjkcanjfjfkfaaGreat
namespace Go.Proofs.YtmjkcanjfjfkfaaGreat
open Go.RowKit
set_option linter.unusedSimpArgs false
set_option linter.unusedVariables false
end Go.Proofs.YtmjkcanjfjfkfaaGreat
namespace Go.Proofs.YtmjkcanjfjfkfaaGreat
open Go.RowKit
set_option linter.unusedSimpArgs false
set_option linter.unusedVariables false
end Go.Proofs.YtmjkcanjfjfkfaaGreat
namespace Go.Proofs.YtmjkcanjfjfkfaaGreat
open Go.RowKit
set_option linter.unusedSimpArgs false
set_option linter.unusedVariables false
section
variable {α : Type} {f : α → List Value} {s : Nat}
theorem fm_len (hf : ∀ x, (f x).length = s) : ∀ l : List α, (l.flatMap f).length = l.length * s
  | [] => by simp
  | a :: l => by rw [List.flatMap_cons, List.length_append, hf, fm_len hf l, List.length_cons, Nat.add_mul]; omega
theorem fm_get (hf : ∀ x, (f x).length = s) : ∀ (l : List α) (k : Nat) (hk : k < l.length) (j : Nat), j < s → (l.flatMap f)[k * s + j]? = (f l[k])[j]?
  | [], k, hk, _, _ => by simp at hk
  | a :: l, 0, hk, j, hj => by
    rw [List.flatMap_cons, Nat.zero_mul, Nat.zero_add, List.getElem?_append_left (by rw [hf]; exact hj)]
    rfl
  | a :: l, k + 1, hk, j, hj => by
    have := fm_get hf l k (by simpa using hk) j hj; rw [List.flatMap_cons, List.getElem?_append_right (by rw [hf, Nat.add_mul]; omega), hf, show (k + 1) * s + j - s = k * s + j by rw [Nat.add_mul]; omega, this]
    simp
def RdP (e : TypeId) (f : α → List Value) (w : World) (v : Value) (l : List α) : Prop := Rd e w v l.length (l.flatMap f)
variable {e : TypeId} {w w' : World} {v : Value} {l : List α}
theorem RdP.keep {L : List TypeId} (h : RdP e f w v l) (k : Kept L w w') (he : L.contains e = false) : RdP e f w' v l := Rd.keep h k he
theorem RdP.next (h : RdP e f w v l) (hb : Below w.heap.size w w') : RdP e f w' v l := Rd.next h hb
theorem RdP.drew (h : RdP e f w v l) : RdP e f w.drew v l := h
theorem RdP.drewN (h : RdP e f w v l) (n : Nat) : RdP e f (w.drewN n) v l := h
theorem RdP.form (h : RdP e f w v l) : ∃ A c, v = .slice A l.length c ∧ l.length ≤ c := Rd.form h
theorem RdP.nil : RdP e f w (.slice none 0 0) [] := ⟨none, 0, rfl, Nat.le_refl _, Nat.zero_le _, .inl ⟨rfl, rfl⟩⟩
theorem RdP.at_ {A : Option Addr} {n c : Nat} (h : RdP e f w (.slice A n c) l) (hf : ∀ x, (f x).length = s) {k : Nat} (hk : k < l.length) : ∃ b o, A = some ⟨b, o, none⟩ ∧ b < w.heap.size ∧ ∀ j y, (f l[k])[j]? = some y → w.cell? ⟨b, o + (k * s + j), none⟩ = some y := by
  obtain ⟨b, o, c', hv, hc, _, hb, hcell⟩ := Rd.at_ h (by omega)
  injection hv with hA _ _
  refine ⟨b, o, hA, hb, fun j y hy => ?_⟩
  have hj : j < s := by
    rcases Nat.lt_or_ge j s with h | h
    · exact h
    · rw [List.getElem?_eq_none (by rw [hf]; exact h)] at hy; cases hy
  exact hcell _ _ ((fm_get hf l k hk j hj).trans hy)
def OwnP (e : TypeId) (s : Nat) (f : α → List Value) (w : World) (base : Nat) (v : Value) (l : List α) : Prop := w.ownsRow base e s v l.length (l.flatMap f)
variable {base : Nat}
theorem OwnP.next (h : OwnP e s f w base v l) (hb : Below w.heap.size w w') : OwnP e s f w' base v l := own_next h hb
theorem OwnP.nil : OwnP e s f w base (.slice none 0 0) [] := World.ownsRow_nil _ _ _ _
theorem OwnP.snoc {x : α} (h : w.ownsRow base e s v (l.length + 1) (l.flatMap f ++ f x)) : OwnP e s f w base v (l ++ [x]) := by
  unfold OwnP
  rw [List.length_append, List.flatMap_append]
  simpa using h
end
theorem chC_len (c : Ch) : (chC c).length = 7 := rfl
theorem nmC_len (c : Nm) : (nmC c).length = 5 := rfl
abbrev RdCh (w : World) (v : Value) (l : List Ch) : Prop := RdP 92 chC w v l
abbrev RdNm (w : World) (v : Value) (l : List Nm) : Prop := RdP 45 nmC w v l
theorem RdCh.piece {w : World} {A : Option Addr} {n c : Nat} {l : List Ch} (h : RdCh w (.slice A n c) l) {k : Nat} (hk : k < l.length) : ∃ b o, A = some ⟨b, o, none⟩ ∧ b < w.heap.size ∧
    w.cell? ⟨b, o + k * 7, none⟩ = some (.int .i64 l[k].name.kind) ∧ w.cell? ⟨b, o + k * 7 + 1, none⟩ = some (.string (bs l[k].name.owner)) ∧ w.cell? ⟨b, o + k * 7 + 2, none⟩ = some (.int .i64 l[k].name.num) ∧ w.cell? ⟨b, o + k * 7 + 3, none⟩ = some (.int .i64 l[k].name.idx) ∧ w.cell? ⟨b, o + k * 7 + 4, none⟩ = some (.string (bs l[k].name.text)) ∧ w.cell? ⟨b, o + k * 7 + 5, none⟩ = some (.string (bs l[k].value)) ∧ w.cell? ⟨b, o + k * 7 + 6, none⟩ = some (.bool l[k].absent) := by
  obtain ⟨b, o, e, hb, hc⟩ := RdP.at_ h chC_len hk
  exact ⟨b, o, e, hb, hc 0 _ rfl, hc 1 _ rfl, hc 2 _ rfl, hc 3 _ rfl, hc 4 _ rfl, hc 5 _ rfl, hc 6 _ rfl⟩
theorem RdNm.piece {w : World} {A : Option Addr} {n c : Nat} {l : List Nm} (h : RdNm w (.slice A n c) l) {k : Nat} (hk : k < l.length) : ∃ b o, A = some ⟨b, o, none⟩ ∧ b < w.heap.size ∧
    w.cell? ⟨b, o + k * 5, none⟩ = some (.int .i64 l[k].kind) ∧ w.cell? ⟨b, o + k * 5 + 1, none⟩ = some (.string (bs l[k].owner)) ∧ w.cell? ⟨b, o + k * 5 + 2, none⟩ = some (.int .i64 l[k].num) ∧ w.cell? ⟨b, o + k * 5 + 3, none⟩ = some (.int .i64 l[k].idx) ∧ w.cell? ⟨b, o + k * 5 + 4, none⟩ = some (.string (bs l[k].text)) := by
  obtain ⟨b, o, e, hb, hc⟩ := RdP.at_ h nmC_len hk
  exact ⟨b, o, e, hb, hc 0 _ rfl, hc 1 _ rfl, hc 2 _ rfl, hc 3 _ rfl, hc 4 _ rfl⟩
end Go.Proofs.YtmjkcanjfjfkfaaGreat
namespace Go.Proofs.YtmjkcanjfjfkfaaGreat
open Go.RowKit
set_option linter.unusedSimpArgs false
set_option linter.unusedVariables false
end Go.Proofs.YtmjkcanjfjfkfaaGreat
namespace Go.Proofs.YtmjkcanjfjfkfaaGreat
open Go.RowKit
set_option linter.unusedSimpArgs false
set_option linter.unusedVariables false
attribute [local go_sem ↓] Go.wp_at_zero Go.wp_at_succ
end Go.Proofs.YtmjkcanjfjfkfaaGreat
namespace Go.Proofs.YtmjkcanjfjfkfaaGreat
open Go.RowKit
set_option linter.unusedSimpArgs false
set_option linter.unusedVariables false
end Go.Proofs.YtmjkcanjfjfkfaaGreat
namespace Go.Proofs.YtmjkcanjfjfkfaaGreat
open Go.RowKit
set_option linter.unusedSimpArgs false
set_option linter.unusedVariables false
attribute [local go_sem ↓] Go.wp_at_zero Go.wp_at_succ
end Go.Proofs.YtmjkcanjfjfkfaaGreat
namespace Go.Proofs.YtmjkcanjfjfkfaaGreat
set_option linter.unusedVariables false
def AcR (a : Ac) : Prop := KyR a.key ∧ (∀ c ∈ a.reads, ChR c) ∧ (∀ c ∈ a.writes, ChR c) ∧ a.reads.length ≤ 10 ∧ a.writes.length ≤ 10
end Go.Proofs.YtmjkcanjfjfkfaaGreat
namespace Go.Proofs.YtmjkcanjfjfkfaaGreat
set_option linter.unusedVariables false
theorem filt_len (l : List Ch) (n : Nm) : (l.filter fun c => c.name == n).length ≤ l.length := List.length_filter_le _ _
theorem vers_len (n : Nm) : ∀ (i : Nat) (l : List Ac), (∀ a ∈ l, a.writes.length ≤ 10) → (vers n i l).length ≤ l.length * 10
  | i, [], _ => by simp [vers]
  | i, a :: l, h => by
    have h1 := vers_len n (i + 1) l fun b hb => h b (by simp [hb])
    have h2 := h a (by simp); have h3 := filt_len a.writes n
    simp only [vers, List.length_append, List.length_map, List.length_cons]
    omega
end Go.Proofs.YtmjkcanjfjfkfaaGreat
namespace Go.Proofs.YtmjkcanjfjfkfaaGreat
set_option linter.unusedVariables false
end Go.Proofs.YtmjkcanjfjfkfaaGreat
namespace Go.Proofs.YtmjkcanjfjfkfaaGreat
set_option linter.unusedVariables false
end Go.Proofs.YtmjkcanjfjfkfaaGreat
namespace Go.Proofs.YtmjkcanjfjfkfaaGreat
set_option linter.unusedVariables false
section
variable {α : Type}
end
end Go.Proofs.YtmjkcanjfjfkfaaGreat
namespace Go.Proofs.YtmjkcanjfjfkfaaGreat
set_option linter.unusedVariables false
end Go.Proofs.YtmjkcanjfjfkfaaGreat
namespace Go.Proofs.YtmjkcanjfjfkfaaGreat
set_option linter.unusedVariables false
end Go.Proofs.YtmjkcanjfjfkfaaGreat
namespace Go.Proofs.YtmjkcanjfjfkfaaGreat
set_option linter.unusedVariables false
section
variable {α β γ : Type} [DecidableEq γ]
end
end Go.Proofs.YtmjkcanjfjfkfaaGreat
namespace Go.Proofs.YtmjkcanjfjfkfaaGreat
set_option linter.unusedVariables false
end Go.Proofs.YtmjkcanjfjfkfaaGreat
namespace Go.Proofs.YtmjkcanjfjfkfaaGreat
open Go.RowKit
set_option linter.unusedSimpArgs false
set_option linter.unusedVariables false
end Go.Proofs.YtmjkcanjfjfkfaaGreat
namespace Go.Proofs.YtmjkcanjfjfkfaaGreat
open Go.RowKit
set_option linter.unusedSimpArgs false
set_option linter.unusedVariables false
def acC (a : Ac) (u : Value × Value) : List Value := [.int .i64 a.key.tick, .int .i64 a.key.cls, .int .i64 a.key.num, .string (bs a.key.lin), u.1, u.2]
theorem acC_len (a : Ac) (u : Value × Value) : (acC a u).length = 6 := rfl
def NAc (w : World) (u : Value × Value) (a : Ac) : Prop := RdCh w u.1 a.reads ∧ RdCh w u.2 a.writes
theorem NAc.keep {L : List TypeId} {w w' : World} (k : Kept L w w') (he : L.contains 92 = false) {u : Value × Value} {a : Ac} (h : NAc w u a) : NAc w' u a := ⟨RdP.keep h.1 k he, RdP.keep h.2 k he⟩
theorem NAc.next {w w' : World} (hb : Below w.heap.size w w') {u : Value × Value} {a : Ac} (h : NAc w u a) : NAc w' u a := ⟨RdP.next h.1 hb, RdP.next h.2 hb⟩
abbrev RdAc (w : World) (v : Value) (l : List Ac) : Prop := RowRd 38 acC NAc w v l
theorem RdAc.next {w w' : World} {v : Value} {l : List Ac} (h : RdAc w v l) (hb : Below w.heap.size w w') : RdAc w' v l := RowRd.next h hb fun _ _ => NAc.next hb
theorem RdAc.piece {w : World} {A : Option Addr} {n c : Nat} {l : List Ac} (h : RdAc w (.slice A n c) l) {k : Nat} (hk : k < l.length) : ∃ b o u1 u2, A = some ⟨b, o, none⟩ ∧ b < w.heap.size ∧ RdCh w u1 l[k].reads ∧ RdCh w u2 l[k].writes ∧
    w.cell? ⟨b, o + k * 6, none⟩ = some (.int .i64 l[k].key.tick) ∧ w.cell? ⟨b, o + k * 6 + 1, none⟩ = some (.int .i64 l[k].key.cls) ∧ w.cell? ⟨b, o + k * 6 + 2, none⟩ = some (.int .i64 l[k].key.num) ∧ w.cell? ⟨b, o + k * 6 + 3, none⟩ = some (.string (bs l[k].key.lin)) ∧ w.cell? ⟨b, o + k * 6 + 4, none⟩ = some u1 ∧ w.cell? ⟨b, o + k * 6 + 5, none⟩ = some u2 := by
  obtain ⟨b, o, c', u, hv, _, hb, hu, hcell⟩ := RowRd.at_ h acC_len (List.getElem?_eq_getElem hk)
  injection hv with hA _ _
  exact ⟨b, o, u.1, u.2, hA, hb, hu.1, hu.2, hcell 0 _ rfl, hcell 1 _ rfl, hcell 2 _ rfl, hcell 3 _ rfl, hcell 4 _ rfl, hcell 5 _ rfl⟩
end Go.Proofs.YtmjkcanjfjfkfaaGreat
namespace Go.Proofs.YtmjkcanjfjfkfaaGreat
open Go.RowKit
set_option linter.unusedSimpArgs false
set_option linter.unusedVariables false
theorem own_empty (w : World) (base e size : Nat) (hb : base ≤ w.heap.size) : (w.alloc (.cells #[] e)).ownsRow base e size (.slice (some ⟨w.heap.size, 0, none⟩) 0 0) 0 [] :=
  ⟨by simp, .inr ⟨w.heap.size, 0, #[], rfl, hb, heap_alloc_new w _, Nat.le_refl _, by unfold maxLen; omega, by simp, by simp⟩⟩
def CloP (e : TypeId) (s n : Nat) (xs : List Value) (w : World) (en : Ending) (w' : World) : Prop := ∃ v', en = .returned v' ∧ w'.ownsRow w.heap.size e s v' n xs ∧ Below w.heap.size w w'
theorem infoNm : (Tryz.prog.info? 45).map (fun i => (i.zero, i.size, i.bytes)) = some (some (.agg #[.int .i64 0, .string ⟨#[]⟩, .int .i64 0, .int .i64 0, .string ⟨#[]⟩]), 5, 56) := by kernel_rfl
set_option maxRecDepth 100000 in
theorem cloneNm {w : World} {v : Value} {n : Nat} {xs : List Value} (h : Rd 45 w v n xs) (hl : xs.length = n * 5) (h1 : ∀ u ∈ xs, u.oneCell' = true) (hn : n ≤ 100000) : Calls Tryz.prog 61 #[v] w (CloP 45 5 n xs w) := by
  obtain ⟨i0, hi, hz0, hz1, hz2⟩ := info_parts infoNm; obtain ⟨A, c, rfl, hc⟩ := h.form; have H := Lib.hid h; have HL := Lib.hid hl; have H1 := Lib.hid h1
  cases A with
  | none =>
    obtain ⟨rfl, hx⟩ : n = 0 ∧ xs = [] := by
      obtain ⟨A', c', hv, _, _, h0 | ⟨b, o, cs, fr, hA, _⟩⟩ := h
      · exact h0
      · injection hv with hv; rw [hA] at hv; cases hv
    subst hx; clear h hl h1
    have he := fun w : World => Lib.run_eql_slice_nil (P := Tryz.prog) (w := w) 98
    go_enter Tryz.func61, Tryz.ntmps61
    go_wp2
    go_ret
    exact ⟨_, rfl, World.ownsRow_nil _ _ _ _, Below.refl _ _⟩
  | some ad =>
    have HE := Lib.hid (own_empty w w.heap.size 45 5 (Nat.le_refl _)); have HR := Lib.hid (H.out.next ((Below.refl w.heap.size w).alloc (Nat.le_refl _) (.cells #[] 45))); clear h hl h1; have he := Lib.run_eql_slice_nil (P := Tryz.prog) w 98 45 (some ad) n c 0 0 Tryz.underlying98
    simp only [Option.isNone] at he
    go_enter Tryz.func61, Tryz.ntmps61
    go_wp2_with (at_builtin; refine wpList_append_rd _ rfl _ _ _ rfl w.heap.size 45 i0 _ 5 56 Tryz.underlying98 hi hz0 hz1 hz2 rfl (by omega) _ 0 [] (by rfl) HE.out _ n xs (by rfl) HR.out HL.out H1.out (by unfold maxLen; omega) (by omega) (by simp) ?_; intro ao cap w2 hown2 hgrow2; simp only [Nat.zero_add, List.nil_append] at hown2; have HG := Lib.hid hgrow2; have HO := Lib.hid hown2; clear hown2 hgrow2)
    go_ret
    exact ⟨_, rfl, by simpa using HO.out, below_own ((Below.refl w.heap.size w).alloc (Nat.le_refl _) (.cells #[] 45)) HE.out HG.out (Nat.le_refl _) (by simp)⟩
end Go.Proofs.YtmjkcanjfjfkfaaGreat
namespace Go.Proofs.YtmjkcanjfjfkfaaGreat
open Go.RowKit Go.MapKept Go.ChangeMaps
set_option linter.unusedSimpArgs false
set_option linter.unusedVariables false
section
variable {κ ν : Type} [DecidableEq κ]
def posM (n : κ) : List (κ × ν) → Nat → Option (Nat × ν)
  | [], _ => none
  | (a, v) :: l, i => if a = n then some (i, v) else posM n l (i + 1)
def lookM (n : κ) : List (κ × ν) → Option ν
  | [] => none
  | (a, v) :: l => if a = n then some v else lookM n l
def putM (n : κ) (x : ν) : List (κ × ν) → List (κ × ν)
  | [] => [(n, x)]
  | (a, v) :: l => if a = n then (n, x) :: l else (a, v) :: putM n x l
theorem posM_look (n : κ) : ∀ (l : List (κ × ν)) (i : Nat), (posM n l i).map Prod.snd = lookM n l
  | [], _ => rfl
  | (a, v) :: l, i => by
    unfold posM lookM
    split
    · rfl
    · exact posM_look n l (i + 1)
theorem posM_none {n : κ} (x : ν) : ∀ {l : List (κ × ν)} {i : Nat}, posM n l i = none → (∀ p ∈ l, p.1 ≠ n) ∧ putM n x l = l ++ [(n, x)]
  | [], _, _ => ⟨by simp, rfl⟩
  | (a, v) :: l, i, h => by
    unfold posM at h
    split at h
    · cases h
    · rename_i ha
      obtain ⟨h1, h2⟩ := posM_none x h
      refine ⟨fun p hp => ?_, ?_⟩
      · rcases List.mem_cons.1 hp with rfl | hp
        · exact ha
        · exact h1 p hp
      · unfold putM
        rw [if_neg ha, h2]; rfl
theorem posM_some {n : κ} (x : ν) : ∀ {l : List (κ × ν)} {i j : Nat} {u : ν}, posM n l i = some (j, u) → ∃ k, j = i + k ∧ l[k]? = some (n, u) ∧ putM n x l = l.set k (n, x)
  | [], _, _, _, h => by simp [posM] at h
  | (a, v) :: l, i, j, u, h => by
    unfold posM at h
    split at h
    · rename_i ha
      subst ha
      injection h with h
      injection h with h1 h2
      subst h1 h2
      exact ⟨0, rfl, rfl, by simp [putM]⟩
    · rename_i ha
      obtain ⟨k, h1, h2, h3⟩ := posM_some x h
      exact ⟨k + 1, by omega, by simpa using h2, by unfold putM; rw [if_neg ha, h3]; rfl⟩
theorem look_put {n m : κ} {x : ν} : ∀ {l : List (κ × ν)}, lookM m (putM n x l) = if n = m then some x else lookM m l
  | [] => by simp [putM, lookM]
  | (a, v) :: l => by
    unfold putM
    by_cases ha : a = n
    · subst ha
      rw [if_pos rfl]
      by_cases hm : a = m <;> simp [lookM, hm]
    · rw [if_neg ha]
      by_cases hm : a = m
      · subst hm
        simp [lookM, Ne.symm ha]
      · simp only [lookM, if_neg hm]
        exact look_put
theorem look_mem {n : κ} {x : ν} : ∀ {l : List (κ × ν)}, lookM n l = some x → (n, x) ∈ l
  | [], h => by simp [lookM] at h
  | (a, v) :: l, h => by
    unfold lookM at h
    split at h
    · rename_i ha
      injection h with h
      subst ha h
      exact List.mem_cons_self ..
    · exact List.mem_cons_of_mem _ (look_mem h)
theorem mem_put {n : κ} {x : ν} {p : κ × ν} : ∀ {l : List (κ × ν)}, (l.Pairwise fun p q => p.1 ≠ q.1) → p ∈ putM n x l → p = (n, x) ∨ (p ∈ l ∧ p.1 ≠ n)
  | [], _, h => by simp [putM] at h; exact .inl h
  | (a, v) :: l, hp, h => by
    obtain ⟨hp1, hp2⟩ := List.pairwise_cons.1 hp
    unfold putM at h
    split at h
    · rename_i ha
      subst ha
      rcases List.mem_cons.1 h with h | h
      · exact .inl h
      · exact .inr ⟨List.mem_cons_of_mem _ h, fun e => hp1 p h e.symm⟩
    · rename_i ha
      rcases List.mem_cons.1 h with rfl | h
      · exact .inr ⟨List.mem_cons_self .., ha⟩
      · rcases mem_put hp2 h with h | ⟨h, h2⟩
        · exact .inl h
        · exact .inr ⟨List.mem_cons_of_mem _ h, h2⟩
theorem put_pair {n : κ} {x : ν} {R : ν → ν → Prop} : ∀ {l : List (κ × ν)}, (l.Pairwise fun p q => p.1 ≠ q.1 ∧ R p.2 q.2) → (∀ p ∈ l, p.1 ≠ n → R p.2 x ∧ R x p.2) → (putM n x l).Pairwise fun p q => p.1 ≠ q.1 ∧ R p.2 q.2
  | [], _, _ => by simp [putM]
  | (a, v) :: l, hp, h => by
    obtain ⟨hp1, hp2⟩ := List.pairwise_cons.1 hp
    have hpn : l.Pairwise fun p q => p.1 ≠ q.1 := hp2.imp fun h => h.1
    unfold putM
    split
    · rename_i ha
      subst ha
      refine List.pairwise_cons.2 ⟨fun q hq => ⟨(hp1 q hq).1, (h q (List.mem_cons_of_mem _ hq) (fun e => (hp1 q hq).1 e.symm)).2⟩, hp2⟩
    · rename_i ha
      refine List.pairwise_cons.2 ⟨fun q hq => ?_, put_pair hp2 fun p hp' hne => h p (List.mem_cons_of_mem _ hp') hne⟩
      rcases mem_put hpn hq with rfl | ⟨hq, _⟩
      · exact ⟨ha, (h (a, v) (List.mem_cons_self ..) ha).1⟩
      · exact hp1 q hq
end
def MapAt (w : World) (b : Nat) (ents : List (Nm × Value)) : Prop := ∃ es clock, w.heap[b]? = some (.map es clock) ∧ es.toList.map (fun e => (e.key, e.val)) = ents.map (fun p => (nmV p.1, p.2)) ∧ Stamped es clock
theorem MapAt.lt {w : World} {b : Nat} {ents : List (Nm × Value)} (h : MapAt w b ents) : b < w.heap.size := by
  obtain ⟨es, c, hb, _⟩ := h
  exact (Array.getElem?_eq_some_iff.1 hb).1
theorem MapAt.same {w w' : World} {b : Nat} {ents : List (Nm × Value)} (h : MapAt w b ents) (e : w'.heap[b]? = w.heap[b]?) : MapAt w' b ents := by
  obtain ⟨es, c, hb, h2⟩ := h
  exact ⟨es, c, e.trans hb, h2⟩
theorem MapAt.next {w w' : World} {b : Nat} {ents : List (Nm × Value)} (h : MapAt w b ents) (hb : Below w.heap.size w w') : MapAt w' b ents := h.same (hb.block b h.lt)
theorem MapAt.new (w : World) : MapAt (w.alloc (.map #[] 0)) w.heap.size [] := ⟨#[], 0, (MapKept.heap_alloc w _).1, rfl, stamped_empty 0⟩
theorem nm_inj {a b : Nm} (h : nmV a = nmV b) : a = b := by
  obtain ⟨k, o, n, i, t⟩ := a; obtain ⟨k2, o2, n2, i2, t2⟩ := b
  simp only [nmV, nmA, Value.agg.injEq, Array.mk.injEq, List.cons.injEq, Value.int.injEq, Value.string.injEq, and_true, true_and] at h
  obtain ⟨h1, h2, h3, h4, h5⟩ := h; rw [h1, bs_inj h2, h3, h4, bs_inj h5]
theorem chk_nm (em : Bool) (n : Nm) (w : World) : (Instr.checkKey em 10000 45 (nmV n)).run Tryz.prog w = .ok () w := by
  obtain ⟨k, o, n, i, t⟩ := n
  kernel_rfl
theorem eq_nm (a b : Nm) (w : World) : (Op.equal 45 (nmV a) (nmV b)).run Tryz.prog w = .ok (decide (b = a)) w := by
  obtain ⟨k, o, n, i, t⟩ := a; obtain ⟨k2, o2, n2, i2, t2⟩ := b
  unfold nmV nmA
  show (Op.equalIn 10000 _ _ _).run Tryz.prog w = _
  rw [eqNm]
  simp [bs_tl, bool_dec, beq_dec, Bool.and_assoc, eq_comm]
theorem same_nm (a : Nm) : Instr.sameBits 10000 (nmV a) (nmV a) = true := by
  have hb : ∀ b : ByteArray, (b == b) = true := fun b => (bytes_beq b b).2 rfl
  unfold nmV nmA
  simp [Instr.sameBits, hb]
theorem find_nm (n : Nm) (w : World) : ∀ (es : List MapEntry) (ents : List (Nm × Value)) (i : Nat), es.map (fun e => (e.key, e.val)) = ents.map (fun p => (nmV p.1, p.2)) → (Instr.findAsking 45 (nmV n) es i).run Tryz.prog w = .ok (posM n ents i) w
  | [], [], i, _ => by simp [Instr.findAsking, posM]
  | [], p :: l, i, h => by simp at h
  | e :: es, [], i, h => by simp at h
  | e :: es, (a, v) :: l, i, h => by
    simp only [List.map_cons, List.cons.injEq, Prod.mk.injEq] at h
    obtain ⟨⟨h1, h2⟩, h3⟩ := h
    simp only [Instr.findAsking, Sem.run_bind, h1, eq_nm, Result.andThen_ok]
    unfold posM
    by_cases ha : a = n
    · simp [ha, h2]
    · simp only [ha, decide_false, Bool.false_eq_true, if_false]
      exact find_nm n w es l (i + 1) h3
theorem key_nm (n : Nm) (w : World) {es : List MapEntry} {ents : List (Nm × Value)} (h : es.map (fun e => (e.key, e.val)) = ents.map (fun p => (nmV p.1, p.2))) : (Instr.findKey 45 (nmV n) es).run Tryz.prog w = .ok (posM n ents 0) w := by
  exact (run_findKey_eq (P := Tryz.prog) (w := w) (by rw [Tryz.underlying45]) (nmV n) es).trans (find_nm n w es ents 0 h)
theorem map_look {w : World} {b : Nat} {ents : List (Nm × Value)} (h : MapAt w b ents) (n : Nm) {t E : TypeId} (ht : Tryz.prog.underlying t = some (.map 45 E)) {z : Value} (hz : (zeroValue E).run Tryz.prog w = .ok z w) :
    (Instr.lookup t (.map (some b)) (nmV n) false).run Tryz.prog w = .ok ((lookM n ents).getD z) w := by
  obtain ⟨es, c, hb, he, hs⟩ := h; rw [← posM_look n ents 0]
  cases hp : posM n ents 0 with
  | none => simp [Instr.lookup, run_underlying ht, MapKept.run_getObj_map hb, chk_nm, key_nm n w he, hp, hz, Result.andThen]
  | some q => simp [Instr.lookup, run_underlying ht, MapKept.run_getObj_map hb, chk_nm, key_nm n w he, hp, hz, Result.andThen]
theorem map_put {w : World} {b : Nat} {ents : List (Nm × Value)} (h : MapAt w b ents) (n : Nm) (v : Value) {t E : TypeId} (ht : Tryz.prog.underlying t = some (.map 45 E)) :
    ∃ w', (Instr.mapUpdate t (.map (some b)) (nmV n) v).run Tryz.prog w = .ok () w' ∧ MapAt w' b (putM n v ents) ∧ w.grownBy w' (some b) := by
  obtain ⟨es, c, hb, he, hs⟩ := h
  have hlen : es.size = ents.length := by have := congrArg List.length he; simpa using this
  have key : ∀ o : Obj, (w.grownBy (setBlock w b o) (some b)) := fun o => ⟨rfl, rfl, rfl, by simp [setBlock], fun i _ hi => heap_setBlock_other hb _ (fun e1 => hi (by rw [e1]))⟩
  cases hp : posM n ents 0 with
  | none =>
    obtain ⟨h1, h2⟩ := posM_none v hp
    refine ⟨setBlock w b (.map (es.push { key := nmV n, val := v, born := c }) (c + 1)), ?_, ⟨_, _, heap_setBlock_same hb _, ?_, ?_⟩, key _⟩
    · simp [Instr.mapUpdate, run_underlying ht, MapKept.run_getObj_map hb, chk_nm, key_nm n w he, hp, MapKept.run_setObj_map _ hb, Result.andThen, setBlock]
    · rw [h2]
      simp [he]
    · refine stamped_push hs fun x hx e => ?_
      have hm : (x.key, x.val) ∈ es.toList.map fun e => (e.key, e.val) := List.mem_map.2 ⟨x, hx, rfl⟩
      rw [he] at hm; obtain ⟨p, hp1, hp2⟩ := List.mem_map.1 hm
      injection hp2 with hp2 _
      exact h1 p hp1 (nm_inj (hp2.trans e))
  | some q =>
    obtain ⟨j, u⟩ := q; obtain ⟨k, hj, h1, h2⟩ := posM_some v hp; rw [Nat.zero_add] at hj; subst hj
    have hk : j < es.size := by
      rw [hlen]
      exact (List.getElem?_eq_some_iff.1 h1).1
    have hg : es[j]? = some es[j] := Array.getElem?_eq_getElem hk
    have hkey : es[j].key = nmV n := by
      have e1 : (es.toList.map fun e => (e.key, e.val))[j]? = some (es[j].key, es[j].val) := by simp [hg]
      rw [he, List.getElem?_map, h1] at e1
      simp only [Option.map_some, Option.some.injEq, Prod.mk.injEq] at e1
      exact e1.1.symm
    refine ⟨setBlock w b (.map (es.modify j fun e => { e with key := nmV n, val := v }) c), ?_, ⟨_, _, heap_setBlock_same hb _, ?_, ?_⟩, key _⟩
    · have hst : (Instr.keyThatStays (nmV n) (nmV n)).run Tryz.prog w = .ok (nmV n) w := by simp [Instr.keyThatStays, same_nm]
      simp [Instr.mapUpdate, run_underlying ht, MapKept.run_getObj_map hb, chk_nm, key_nm n w he, hp, hg, hkey, hst, MapKept.run_setObj_map _ hb, Result.andThen, setBlock]
    · rw [h2]
      apply List.ext_getElem?
      intro i
      have e1 : (es.toList.map fun e => (e.key, e.val))[i]? = (ents.map fun p => (nmV p.1, p.2))[i]? := by rw [he]
      simp only [List.getElem?_map, Array.getElem?_toList, Array.getElem?_modify, List.getElem?_set] at e1 ⊢
      by_cases hij : j = i
      · subst hij
        rw [hg]
        simp [← hlen, hk]
      · simp only [if_neg hij]
        exact e1
    · exact stamped_modify hs _ _ (fun _ _ => rfl) fun e _ hej => by
        rw [hg] at hej
        cases hej
        exact hkey.symm
theorem find_born {es : Array MapEntry} (hn : (es.toList.map (·.born)).Nodup) {j : Nat} {e0 : MapEntry} (h : es[j]? = some e0) : es.findIdx? (fun e => (e.born : Int) == (e0.born : Int)) = some j := by
  obtain ⟨hj, hje⟩ := Array.getElem?_eq_some_iff.1 h; rw [Array.findIdx?_eq_some_iff_getElem]
  refine ⟨hj, by simp [hje], fun i hi => ?_⟩
  have hil : i < es.size := by omega
  have hp := List.pairwise_iff_getElem.1 hn i j (by simpa using hil) (by simpa using hj) hi
  simp only [List.getElem_map, Array.getElem_toList, hje] at hp
  simp only [beq_iff_eq]
  omega
theorem grown_setBlock {w : World} {b : Nat} {es : Array MapEntry} {c : Nat} (hb : w.heap[b]? = some (.map es c)) (o : Obj) : w.grownBy (setBlock w b o) (some b) :=
  ⟨rfl, rfl, rfl, by simp [setBlock], fun i _ hi => heap_setBlock_other hb _ (fun e1 => hi (by rw [e1]))⟩
theorem map_entry {w : World} {b : Nat} {ents : List (Nm × Value)} (h : MapAt w b ents) (n : Nm) {t E : TypeId} (ht : Tryz.prog.underlying t = some (.map 45 E)) {z : Value} (hz : (zeroValue E).run Tryz.prog w = .ok z w) :
    ∃ (w' : World) (st : Nat), (Instr.mapEntry t (.map (some b)) (nmV n)).run Tryz.prog w = .ok (.tuple #[(lookM n ents).getD z, .int .i64 st]) w' ∧ w.grownBy w' (some b) ∧ (∃ es c, w'.heap[b]? = some (.map es c)) ∧
      ∀ (w2 : World) (x : Value), w2.heap[b]? = w'.heap[b]? → ∃ w3, (Instr.entryStore t (.map (some b)) (.int .i64 st) x).run Tryz.prog w2 = .ok () w3 ∧ MapAt w3 b (putM n x ents) ∧ w2.grownBy w3 (some b) := by
  obtain ⟨es, c, hb, he, hs⟩ := h
  have hlen : es.size = ents.length := by have := congrArg List.length he; simpa using this
  rw [← posM_look n ents 0]
  cases hp : posM n ents 0 with
  | none =>
    obtain ⟨h1, _⟩ := posM_none (.nilFunc : Value) hp
    have hs2 : Stamped (es.push { key := nmV n, val := z, born := c }) (c + 1) := stamped_push hs fun x hx e => by
      have hm : (x.key, x.val) ∈ es.toList.map fun e => (e.key, e.val) := List.mem_map.2 ⟨x, hx, rfl⟩
      rw [he] at hm; obtain ⟨p, hp1, hp2⟩ := List.mem_map.1 hm
      injection hp2 with hp2 _
      exact h1 p hp1 (nm_inj (hp2.trans e))
    have hat : (es.push { key := nmV n, val := z, born := c })[es.size]? = some { key := nmV n, val := z, born := c } := by simp
    refine ⟨setBlock w b (.map (es.push { key := nmV n, val := z, born := c }) (c + 1)), c, ?_, grown_setBlock hb _, ⟨_, _, heap_setBlock_same hb _⟩, fun w2 x h2 => ?_⟩
    · simp [Instr.mapEntry, run_underlying ht, MapKept.run_getObj_map hb, chk_nm, key_nm n w he, hp, hz, MapKept.run_setObj_map _ hb, Result.andThen, setBlock, goInt]
    · rw [heap_setBlock_same hb] at h2
      have hfind := find_born hs2.2.1 hat
      refine ⟨setBlock w2 b (.map ((es.push { key := nmV n, val := z, born := c }).modify es.size fun e => { e with val := x }) (c + 1)), ?_, ⟨_, _, heap_setBlock_same h2 _, ?_, ?_⟩, grown_setBlock h2 _⟩
      · simp only at hfind
        simp [Instr.entryStore, MapKept.run_getObj_map h2, asInt, asIntOf, hfind, MapKept.run_setObj_map _ h2, Result.andThen, setBlock]
      · rw [(posM_none x hp).2]
        apply List.ext_getElem?
        intro i
        have e1 : (es.toList.map fun e => (e.key, e.val))[i]? = (ents.map fun p => (nmV p.1, p.2))[i]? := by rw [he]
        simp only [List.getElem?_map, Array.getElem?_toList, Array.getElem?_modify, List.getElem?_append, Array.getElem?_push, List.map_append] at e1 ⊢
        by_cases hij : es.size = i
        · subst hij
          simp [hlen]
        · rw [if_neg hij, if_neg (fun e => hij e.symm)]
          by_cases hlt : i < es.size
          · rw [if_pos (by rw [List.length_map]; omega)]
            exact e1
          · rw [if_neg (by rw [List.length_map]; omega), Array.getElem?_eq_none (by omega), List.getElem?_eq_none (by simp; omega)]
            rfl
      · exact stamped_modify hs2 _ _ (fun _ _ => rfl) (fun _ _ _ => rfl)
  | some q =>
    obtain ⟨j, u⟩ := q; obtain ⟨k, hj, h1, _⟩ := posM_some (.nilFunc : Value) hp; rw [Nat.zero_add] at hj; subst hj
    have hk : j < es.size := by
      rw [hlen]
      exact (List.getElem?_eq_some_iff.1 h1).1
    have hg : es[j]? = some es[j] := Array.getElem?_eq_getElem hk
    have hkv : es[j].key = nmV n ∧ es[j].val = u := by
      have e1 : (es.toList.map fun e => (e.key, e.val))[j]? = some (es[j].key, es[j].val) := by simp [hg]
      rw [he, List.getElem?_map, h1] at e1
      injection e1 with e1
      injection e1 with e1 e2
      exact ⟨e1.symm, e2.symm⟩
    obtain ⟨hkey, hval⟩ := hkv
    have hs2 : Stamped (es.modify j fun e => { e with key := nmV n }) c := stamped_modify hs _ _ (fun _ _ => rfl) fun e _ hej => by
      rw [hg] at hej
      cases hej
      exact hkey.symm
    have hat : (es.modify j fun e => { e with key := nmV n })[j]? = some { es[j] with key := nmV n } := by simp [Array.getElem?_modify, hg]
    refine ⟨setBlock w b (.map (es.modify j fun e => { e with key := nmV n }) c), es[j].born, ?_, grown_setBlock hb _, ⟨_, _, heap_setBlock_same hb _⟩, fun w2 x h2 => ?_⟩
    · have hst : (Instr.keyThatStays (nmV n) (nmV n)).run Tryz.prog w = .ok (nmV n) w := by simp [Instr.keyThatStays, same_nm]
      simp [Instr.mapEntry, run_underlying ht, MapKept.run_getObj_map hb, chk_nm, key_nm n w he, hp, hg, hkey, hst, MapKept.run_setObj_map _ hb, Result.andThen, setBlock, goInt]
    · rw [heap_setBlock_same hb] at h2
      have hfind := find_born hs2.2.1 hat
      refine ⟨setBlock w2 b (.map ((es.modify j fun e => { e with key := nmV n }).modify j fun e => { e with val := x }) c), ?_, ⟨_, _, heap_setBlock_same h2 _, ?_, ?_⟩, grown_setBlock h2 _⟩
      · simp only at hfind
        simp [Instr.entryStore, MapKept.run_getObj_map h2, asInt, asIntOf, hfind, MapKept.run_setObj_map _ h2, Result.andThen, setBlock]
      · obtain ⟨k2, hj2, _, h3⟩ := posM_some x hp
        rw [Nat.zero_add] at hj2; subst hj2; rw [h3]
        apply List.ext_getElem?
        intro i
        have e1 : (es.toList.map fun e => (e.key, e.val))[i]? = (ents.map fun p => (nmV p.1, p.2))[i]? := by rw [he]
        simp only [List.getElem?_map, Array.getElem?_toList, Array.getElem?_modify, List.getElem?_set] at e1 ⊢
        by_cases hij : j = i
        · subst hij
          rw [hg]
          simp [← hlen, hk]
        · simp only [if_neg hij]
          exact e1
      · exact stamped_modify hs2 _ _ (fun _ _ => rfl) (fun _ _ _ => rfl)
end Go.Proofs.YtmjkcanjfjfkfaaGreat
namespace Go.Proofs.YtmjkcanjfjfkfaaGreat
open Go.RowKit Go.MapKept Go.ChangeMaps
set_option linter.unusedSimpArgs false
set_option linter.unusedVariables false
def AtOr (w : World) (v v' : Value) : Prop := v'.ownBlock = v.ownBlock ∨ v'.ownBlock = some w.heap.size
theorem run_append_w {P : Program} (w : World) (base : Nat) (t ty e : TypeId) (i : TypeInfo) (z : Value) (size bytes : Nat) (ht : P.underlying t = some (.slice e)) (hi : P.info? e = some i) (hz : i.zero = some z)
    (hsize : i.size = size) (hby : i.bytes = bytes) (hzs : z.cells.size = size) (hsz : 0 < size)
    (v : Value) (n : Nat) (xs : List Value) (hown : w.ownsRow base e size v n xs) (x : Value) (m : Nat) (news : List Value) (hr : Rd e w x m news) (hm : 0 < m) (hl : news.length = m * size) (h1 : ∀ u ∈ news, u.oneCell' = true)
    (h63 : n + m ≤ maxLen) (hbytes : (n + m) * bytes ≤ 140737488355328) (hbase : base ≤ w.heap.size) :
    ∃ v' w', (Builtin.append_ #[t, t] ty #[v, x]).run P w = .ok v' w' ∧ w'.ownsRow base e size v' (n + m) (xs ++ news) ∧ w.grownBy w' v.ownBlock ∧ AtOr w v v' := by
  obtain ⟨b, o, c, rfl, hmc, hcm, hb, hcell⟩ := Rd.at_ hr hm; obtain ⟨v', w', h2, h3, h4, h5, h6⟩ := run_append_own_at (P := P) w base t ty e i z size bytes ht hi hz hsize hby hzs hsz v n xs hown ⟨b, o, none⟩ m c news hl (fun j u hj => by rw [add_off]; exact hcell j u hj) h1 h63 hbytes hbase
  exact ⟨v', w', h2, h3, h4, h6⟩
theorem wp_append_w {P : Program} (w : World) {o : Oper} {a : Go.Act} {K : Go.Act → World → Prop} {Q : Exit → Go.Act → World → Prop} (s x : Operand) (t : TypeId)
    (ho : o.op = .call { callee := .builtin .append, args := #[s, x], argTypes := #[t, t] })
    (base : Nat) (e : TypeId) (i : TypeInfo) (z : Value) (size bytes : Nat) (ht : P.underlying t = some (.slice e)) (hi : P.info? e = some i) (hz : i.zero = some z)
    (hsize : i.size = size) (hby : i.bytes = bytes) (hzs : z.cells.size = size) (hsz : 0 < size)
    (v : Value) (n : Nat) (xs : List Value) (hs : a.eval s = v) (hown : w.ownsRow base e size v n xs)
    (xv : Value) (m : Nat) (news : List Value) (hx : a.eval x = xv) (hr : Rd e w xv m news) (hm : 0 < m) (hl : news.length = m * size) (h1 : ∀ u ∈ news, u.oneCell' = true)
    (h63 : n + m ≤ maxLen) (hbytes : (n + m) * bytes ≤ 140737488355328) (hbase : base ≤ w.heap.size)
    (h : ∀ v' w', w'.ownsRow base e size v' (n + m) (xs ++ news) → w.grownBy w' v.ownBlock → AtOr w v v' → K (a.put o.dst v') w') : o.wp P a w K Q := by
  obtain ⟨v', w', hrun, h2, h3, h4⟩ := run_append_w (P := P) w base t o.type e i z size bytes ht hi hz hsize hby hzs hsz v n xs hown xv m news hr hm hl h1 h63 hbytes hbase
  unfold Oper.wp execOp
  simp only [ho, resolve, invoke, builtin, Sem.run_bind, Sem.run_pure, Result.andThen_ok, List.map_toArray, List.map_cons, List.map_nil, hs, hx, hrun]
  exact h v' w' h2 h3 h4
theorem wpList_append_w {P : Program} (w : World) {ops : Array Oper} {rest : List Oper} {o : Oper} {a : Go.Act} {Q : Exit → Go.Act → World → Prop} (hgd : o.guard = none) (s x : Operand) (t : TypeId)
    (ho : o.op = .call { callee := .builtin .append, args := #[s, x], argTypes := #[t, t] })
    (base : Nat) (e : TypeId) (i : TypeInfo) (z : Value) (size bytes : Nat) (ht : P.underlying t = some (.slice e)) (hi : P.info? e = some i) (hz : i.zero = some z)
    (hsize : i.size = size) (hby : i.bytes = bytes) (hzs : z.cells.size = size) (hsz : 0 < size)
    (v : Value) (n : Nat) (xs : List Value) (hs : a.eval s = v) (hown : w.ownsRow base e size v n xs)
    (xv : Value) (m : Nat) (news : List Value) (hx : a.eval x = xv) (hr : Rd e w xv m news) (hm : 0 < m) (hl : news.length = m * size) (h1 : ∀ u ∈ news, u.oneCell' = true)
    (h63 : n + m ≤ maxLen) (hbytes : (n + m) * bytes ≤ 140737488355328) (hbase : base ≤ w.heap.size)
    (h : ∀ v' w', w'.ownsRow base e size v' (n + m) (xs ++ news) → w.grownBy w' v.ownBlock → AtOr w v v' → wpList P ops Q rest (a.put o.dst v') w') : wpList P ops Q (o :: rest) a w :=
  wpList_plain hgd fun _ hK => wp_append_w w s x t ho base e i z size bytes ht hi hz hsize hby hzs hsz v n xs hs hown xv m news hx hr hm hl h1 h63 hbytes hbase fun v' w' h2 h3 h4 => hK _ _ (h v' w' h2 h3 h4)
theorem step_append_w {P : Program} (w : World) {ops : Array Oper} {o : Oper} {a : Go.Act} {K : Go.Act → World → Prop} {Q : Exit → Go.Act → World → Prop} {E : Prop} (hgd : o.guard = none) (s x : Operand) (t : TypeId)
    (ho : o.op = .call { callee := .builtin .append, args := #[s, x], argTypes := #[t, t] })
    (base : Nat) (e : TypeId) (i : TypeInfo) (z : Value) (size bytes : Nat) (ht : P.underlying t = some (.slice e)) (hi : P.info? e = some i) (hz : i.zero = some z)
    (hsize : i.size = size) (hby : i.bytes = bytes) (hzs : z.cells.size = size) (hsz : 0 < size)
    (v : Value) (n : Nat) (xs : List Value) (hs : a.eval s = v) (hown : w.ownsRow base e size v n xs)
    (xv : Value) (m : Nat) (news : List Value) (hx : a.eval x = xv) (hr : Rd e w xv m news) (hm : 0 < m) (hl : news.length = m * size) (h1 : ∀ u ∈ news, u.oneCell' = true)
    (h63 : n + m ≤ maxLen) (hbytes : (n + m) * bytes ≤ 140737488355328) (hbase : base ≤ w.heap.size)
    (h : ∀ v' w', w'.ownsRow base e size v' (n + m) (xs ++ news) → w.grownBy w' v.ownBlock → AtOr w v v' → K (a.put o.dst v') w') :
    if Region.wanted o (yielded ops a.tmps) = true then Oper.wp P o a w K Q else E := by
  have hw : Region.wanted o (yielded ops a.tmps) = true := by simp [Region.wanted, hgd]
  rw [if_pos hw]
  exact wp_append_w w s x t ho base e i z size bytes ht hi hz hsize hby hzs hsz v n xs hs hown xv m news hx hr hm hl h1 h63 hbytes hbase h
theorem step_look_nm (w : World) {ops : Array Oper} {o : Oper} {a : Go.Act} {K : Go.Act → World → Prop} {Q : Exit → Go.Act → World → Prop} {X : Prop} (hg : o.guard = none) (m x : Operand) (t : TypeId) (hop : o.op = Op.lookup t m x false) {E : TypeId}
    (ht : Tryz.prog.underlying t = some (.map 45 E)) {z : Value} (hz : (zeroValue E).run Tryz.prog w = .ok z w) (b : Nat) (ents : List (Nm × Value)) (hm : a.eval m = .map (some b)) (h : MapAt w b ents) (n : Nm) (hx : a.eval x = nmV n)
    (hK : K (a.put o.dst ((lookM n ents).getD z)) w) : if Region.wanted o (yielded ops a.tmps) = true then Oper.wp Tryz.prog o a w K Q else X := by
  have hw : Region.wanted o (yielded ops a.tmps) = true := by simp [Region.wanted, hg]
  rw [if_pos hw]; have hrun := map_look h n ht hz
  unfold Oper.wp
  simp [execOp, hop, hm, hx, hrun, Result.andThen]
  exact hK
structure Outer (F : Nat → Prop) (w w' : World) : Prop where
  os : w'.os = w.os
  tape : w'.tape = w.tape
  output : w'.output = w.output
  size : w.heap.size ≤ w'.heap.size
  block : ∀ i, i < w.heap.size → ¬ F i → w'.heap[i]? = w.heap[i]?
def Grow (F : Nat → Prop) (a b : World) : Nat → Prop := fun i => F i ∨ (a.heap.size ≤ i ∧ i < b.heap.size)
theorem Outer.refl (F : Nat → Prop) (w : World) : Outer F w w := ⟨rfl, rfl, rfl, Nat.le_refl _, fun _ _ _ => rfl⟩
theorem Outer.trans {F : Nat → Prop} {a b c : World} (h : Outer F a b) (k : Outer (Grow F a b) b c) : Outer F a c :=
  ⟨k.os.trans h.os, k.tape.trans h.tape, k.output.trans h.output, Nat.le_trans h.size k.size, fun i hi hx => (k.block i (Nat.lt_of_lt_of_le hi h.size) (fun hg => by rcases hg with hg | hg; exact hx hg; omega)).trans (h.block i hi hx)⟩
theorem Outer.mono {F G : Nat → Prop} {a b : World} (h : Outer F a b) (hi : ∀ i, F i → G i) : Outer G a b := ⟨h.os, h.tape, h.output, h.size, fun i h1 h2 => h.block i h1 fun h3 => h2 (hi i h3)⟩
theorem Outer.below {F : Nat → Prop} {B : Nat} {w w' : World} (h : Outer F w w') (hb : B ≤ w.heap.size) (hF : ∀ i, F i → B ≤ i) : Below B w w' := ⟨h.os, h.tape, h.output, h.size, fun i hi => h.block i (by omega) (fun hf => by have := hF i hf; omega)⟩
theorem Outer.of_below {F : Nat → Prop} {w w' : World} (h : Below w.heap.size w w') : Outer F w w' := ⟨h.os, h.tape, h.output, h.size, fun i hi _ => h.block i hi⟩
theorem Outer.of_grown {F : Nat → Prop} {w w' : World} {row : Option Nat} (h : w.grownBy w' row) (hr : ∀ g, row = some g → F g) : Outer F w w' :=
  ⟨h.os, h.tape, h.output, h.size, fun i hi hx => h.block i hi (fun e => hx (hr i e.symm))⟩
theorem Grow.new {F : Nat → Prop} {a b : World} {i : Nat} (h : a.heap.size ≤ i) (h2 : i < b.heap.size) : Grow F a b i := .inr ⟨h, h2⟩
section
variable {α : Type} {f : α → List Value} {s : Nat} {e : TypeId}
theorem own_some {w : World} {base e s n : Nat} {v : Value} {xs : List Value} (h : w.ownsRow base e s v n xs) (hn : n ≠ 0) : ∃ g, v.ownBlock = some g ∧ g < w.heap.size := by
  rcases h.2 with ⟨_, h0⟩ | ⟨g, c, cur, hv, _, hh, _⟩
  · exact absurd h0 hn
  · exact ⟨g, by rw [hv]; rfl, (Array.getElem?_eq_some_iff.1 hh).1⟩
def OwnF (F : Nat → Prop) (e : TypeId) (s : Nat) (w : World) (v : Value) (n : Nat) (xs : List Value) : Prop := w.ownsRow 0 e s v n xs ∧ ∀ g, v.ownBlock = some g → F g
theorem OwnF.keep {F G : Nat → Prop} {w w' : World} {v : Value} {n : Nat} {xs : List Value} (h : OwnF F e s w v n xs) (hs : ∀ g cs, F g → w.heap[g]? = some (.cells cs e (0, 0)) → w'.heap[g]? = w.heap[g]?) (hG : ∀ i, i < w.heap.size → F i → G i) : OwnF G e s w' v n xs := by
  obtain ⟨⟨hl, h0 | ⟨g, cap, cur, hv, hg, hh, hr⟩⟩, h2⟩ := h
  · exact ⟨⟨hl, .inl h0⟩, fun g hg => by rw [h0.1] at hg; cases hg⟩
  · have hf := h2 g (by rw [hv]; rfl)
    refine ⟨⟨hl, .inr ⟨g, cap, cur, hv, hg, (hs g cur hf hh).trans hh, hr⟩⟩, fun g' hg' => ?_⟩
    rw [hv] at hg'
    injection hg' with hg'
    subst hg'
    exact hG _ (Array.getElem?_eq_some_iff.1 hh).1 hf
def MapRows (e : TypeId) (s : Nat) (f : α → List Value) (w : World) (F : Nat → Prop) (b : Nat) (D : Nm → List α) : Prop :=
  F b ∧ ∃ ents : List (Nm × Value), MapAt w b ents ∧ (ents.Pairwise fun p q => p.1 ≠ q.1 ∧ p.2.ownBlock ≠ q.2.ownBlock) ∧
    (∀ p ∈ ents, OwnF F e s w p.2 (D p.1).length ((D p.1).flatMap f) ∧ D p.1 ≠ []) ∧ ∀ n, D n ≠ [] → (lookM n ents).isSome = true
theorem MapRows.new (w : World) (F : Nat → Prop) (hb : F w.heap.size) : MapRows e s f (w.alloc (.map #[] 0)) F w.heap.size (fun _ => []) :=
  ⟨hb, [], MapAt.new w, List.Pairwise.nil, by simp, by simp⟩
theorem MapRows.keep {w w' : World} {F G : Nat → Prop} {b : Nat} {D : Nm → List α} (h : MapRows e s f w F b D) (hm : ∀ es c, F b → w.heap[b]? = some (.map es c) → w'.heap[b]? = w.heap[b]?)
    (hs : ∀ g cs, F g → w.heap[g]? = some (.cells cs e (0, 0)) → w'.heap[g]? = w.heap[g]?) (hG : ∀ i, i < w.heap.size → F i → G i) : MapRows e s f w' G b D := by
  obtain ⟨h1, ents, h3, h4, h5, h6⟩ := h
  have hmb : w'.heap[b]? = w.heap[b]? := by
    obtain ⟨es, c, hb, _⟩ := h3
    exact hm es c h1 hb
  exact ⟨hG _ h3.lt h1, ents, h3.same hmb, h4, fun p hp => ⟨(h5 p hp).1.keep hs hG, (h5 p hp).2⟩, h6⟩
theorem MapRows.next {w w' : World} {F : Nat → Prop} {b : Nat} {D : Nm → List α} (h : MapRows e s f w F b D) (hb : Below w.heap.size w w') : MapRows e s f w' F b D :=
  h.keep (fun es c _ hh => hb.block _ (Array.getElem?_eq_some_iff.1 hh).1) (fun g cs _ hh => hb.block _ (Array.getElem?_eq_some_iff.1 hh).1) fun _ _ h => h
theorem MapRows.data {w : World} {F : Nat → Prop} {b : Nat} {D D' : Nm → List α} (h : MapRows e s f w F b D) (hd : ∀ n, D n = D' n) : MapRows e s f w F b D' := by
  have : D = D' := funext hd; rw [← this]; exact h
theorem pair_apart {l : List (Nm × Value)} (hl : l.Pairwise fun p q => p.1 ≠ q.1 ∧ p.2.ownBlock ≠ q.2.ownBlock) {p q : Nm × Value} (hp : p ∈ l) (hq : q ∈ l) (hpq : p.1 ≠ q.1) : p.2.ownBlock ≠ q.2.ownBlock := by
  induction l with
  | nil => cases hp
  | cons a l ih =>
    obtain ⟨ha, hl⟩ := List.pairwise_cons.1 hl
    rcases List.mem_cons.1 hp with h1 | hp <;> rcases List.mem_cons.1 hq with h2 | hq
    · exact absurd (by rw [h1, h2]) hpq
    · rw [h1]; exact (ha q hq).2
    · rw [h2]; exact fun e => (ha p hp).2 e.symm
    · exact ih hl hp hq
theorem MapRows.find {w : World} {F : Nat → Prop} {b : Nat} {D : Nm → List α} (h : MapRows e s f w F b D) (n : Nm) :
    ∃ ents, MapAt w b ents ∧ OwnF F e s w ((lookM n ents).getD (.slice none 0 0)) (D n).length ((D n).flatMap f) := by
  obtain ⟨h1, ents, h3, h4, h5, h6⟩ := h
  refine ⟨ents, h3, ?_⟩
  cases hl : lookM n ents with
  | some v => exact (h5 _ (look_mem hl)).1
  | none =>
    have : D n = [] := Classical.byContradiction fun hd => by
      have := h6 n hd; rw [hl] at this
      cases this
    rw [this]
    exact ⟨World.ownsRow_nil _ _ _ _, fun g hg => by cases hg⟩
theorem own_not_map {w : World} {base e s n : Nat} {v : Value} {xs : List Value} {b : Nat} {es : Array MapEntry} {c : Nat} (h : w.ownsRow base e s v n xs) (hb : w.heap[b]? = some (.map es c)) : v.ownBlock ≠ some b := by
  intro e1
  obtain ⟨_, ⟨hv0, _⟩ | ⟨g, cap, cur, hv, _, hh, _⟩⟩ := h
  · rw [hv0] at e1; cases e1
  · rw [hv] at e1
    injection e1 with e1
    simp only at e1
    subst e1; rw [hb] at hh
    cases hh
theorem own_same {w w' : World} {base e s n : Nat} {v : Value} {xs : List Value} (h : w.ownsRow base e s v n xs) (hs : ∀ g, v.ownBlock = some g → w'.heap[g]? = w.heap[g]?) : w'.ownsRow base e s v n xs := by
  obtain ⟨hl, h0 | ⟨g, cap, cur, hv, hg, hh, hr⟩⟩ := h
  · exact ⟨hl, .inl h0⟩
  · exact ⟨hl, .inr ⟨g, cap, cur, hv, hg, (hs g (by rw [hv]; rfl)).trans hh, hr⟩⟩
theorem MapRows.at_ {w : World} {F : Nat → Prop} {b : Nat} {D : Nm → List α} (h : MapRows e s f w F b D) (n : Nm) :
    ∃ ents v, MapAt w b ents ∧ v = (lookM n ents).getD (.slice none 0 0) ∧ OwnF F e s w v (D n).length ((D n).flatMap f) ∧
      ∀ (w1 w2 : World) (v' : Value) (x : α) (G : Nat → Prop), (∀ i, i < w.heap.size → i ≠ b → some i ≠ v.ownBlock → w1.heap[i]? = w.heap[i]?) → (∃ es c, w1.heap[b]? = some (.map es c)) → w1.ownsRow 0 e s v' ((D n).length + 1) ((D n).flatMap f ++ f x) → (v'.ownBlock = v.ownBlock ∨ ∃ g, v'.ownBlock = some g ∧ w.heap.size ≤ g) → MapAt w2 b (putM n v' ents) → w1.grownBy w2 (some b) →
        (∀ i, F i → G i) → (∀ i, w.heap.size ≤ i → i < w1.heap.size → G i) → MapRows e s f w2 G b (fun m => if m = n then D n ++ [x] else D m) := by
  have hfind := h.find n; obtain ⟨h1, ents, h3, h4, h5, h6⟩ := h
  have hpn : ents.Pairwise fun p q => p.1 ≠ q.1 := h4.imp fun h => h.1
  have hown0 : OwnF F e s w ((lookM n ents).getD (.slice none 0 0)) (D n).length ((D n).flatMap f) := by
    cases hl : lookM n ents with
    | some v => exact (h5 _ (look_mem hl)).1
    | none =>
      have : D n = [] := Classical.byContradiction fun hd => by
        have := h6 n hd; rw [hl] at this
        cases this
      rw [this]
      exact ⟨World.ownsRow_nil _ _ _ _, fun g hg => by cases hg⟩
  refine ⟨ents, _, h3, rfl, hown0, ?_⟩
  intro w1 w2 v' x G hg hbm hown hloc hmap hg2 hFG hnew
  have hbl : b < w.heap.size := h3.lt; obtain ⟨gv, hgv, hgl⟩ := own_some hown (by omega); obtain ⟨es0, c0, hb0, _⟩ := id h3; obtain ⟨es1, c1, hb1⟩ := hbm
  have hold : ∀ p ∈ ents, p.1 ≠ n → ∃ g, p.2.ownBlock = some g ∧ g < w.heap.size ∧ some g ≠ ((lookM n ents).getD (.slice none 0 0)).ownBlock := by
    intro p hp hne
    obtain ⟨k1, k2⟩ := h5 p hp; obtain ⟨g, hgp, hgl⟩ := own_some k1.1 (by simpa using k2)
    refine ⟨g, hgp, hgl, fun e1 => ?_⟩
    cases hl : lookM n ents with
    | none => rw [hl] at e1; cases e1
    | some u =>
      rw [hl] at e1
      exact pair_apart h4 hp (look_mem hl) hne (hgp.trans e1)
  have hne' : ∀ p ∈ ents, p.1 ≠ n → p.2.ownBlock ≠ v'.ownBlock := by
    intro p hp hne e1
    obtain ⟨g, k1, k2, k3⟩ := hold p hp hne
    rcases hloc with h | ⟨g2, h, hge⟩
    · exact k3 (by rw [← k1, e1, h])
    · rw [k1, h] at e1
      injection e1 with e1
      omega
  have hkeep : ∀ {v : Value} {n2 : Nat} {xs : List Value}, w1.ownsRow 0 e s v n2 xs → w2.ownsRow 0 e s v n2 xs := fun ho => ho.kept hg2 (.inr (own_not_map ho hb1))
  have hGv : ∀ g, v'.ownBlock = some g → G g := by
    intro g hgg
    rcases hloc with h | ⟨g2, h, hge⟩
    · exact hFG _ (hown0.2 g (by rw [← h]; exact hgg))
    · rw [h] at hgg
      injection hgg with hgg
      subst hgg; rw [hgv] at h
      injection h with h
      exact hnew _ hge (by omega)
  refine ⟨hFG _ h1, _, hmap, put_pair (R := fun u v => u.ownBlock ≠ v.ownBlock) h4 (fun p hp hne => ⟨hne' p hp hne, fun e => hne' p hp hne e.symm⟩), fun p hp => ?_, fun m hm => ?_⟩
  · rcases mem_put hpn hp with rfl | ⟨hp, hne⟩
    · simp only [if_pos]
      refine ⟨⟨hkeep ?_, hGv⟩, by simp⟩
      rw [List.length_append, List.flatMap_append]
      simpa using hown
    · simp only [if_neg hne]
      obtain ⟨k1, k2⟩ := h5 p hp; obtain ⟨g, j1, j2, j3⟩ := hold p hp hne
      refine ⟨⟨hkeep (own_same k1.1 fun g' hg' => ?_), fun g hgg => hFG _ (k1.2 g hgg)⟩, k2⟩
      rw [j1] at hg'
      injection hg' with hg'
      subst hg'
      exact hg _ j2 (fun e => own_not_map k1.1 hb0 (by rw [j1, e])) j3
  · rw [look_put]
    by_cases hmn : n = m
    · rw [if_pos hmn]; rfl
    · rw [if_neg hmn]
      simp only [if_neg (fun e : m = n => hmn e.symm)] at hm
      exact h6 m hm
end
end Go.Proofs.YtmjkcanjfjfkfaaGreat
namespace Go.Proofs.YtmjkcanjfjfkfaaGreat
open Go.RowKit Go.MapKept Go.ChangeMaps
set_option linter.unusedSimpArgs false
set_option linter.unusedVariables false
def KpM (w w' : World) : Prop := ∀ (b : Nat) (es : Array MapEntry) (c : Nat), w.heap[b]? = some (Obj.map es c) → w'.heap[b]? = some (Obj.map es c)
theorem KpM.trans {a b c : World} (h : KpM a b) (k : KpM b c) : KpM a c := fun i es t h1 => k i es t (h i es t h1)
theorem KpM.of_below {w w' : World} (h : Below w.heap.size w w') : KpM w w' := fun b es c hb => (h.block b (Array.getElem?_eq_some_iff.1 hb).1).trans hb
theorem KpM.of_own {w w' : World} {base e s n : Nat} {v : Value} {xs : List Value} (ho : w.ownsRow base e s v n xs) (h : w.grownBy w' v.ownBlock) : KpM w w' :=
  fun b es c hb => (h.block b (Array.getElem?_eq_some_iff.1 hb).1 (fun e1 => own_not_map ho hb e1.symm)).trans hb
theorem KpM.of_blk {w w' : World} {g t : Nat} {cs : Array Value} (ho : Blk w g t cs) (h : w.grownBy w' (some g)) : KpM w w' :=
  fun b es c hb => (h.block b (Array.getElem?_eq_some_iff.1 hb).1 (fun e1 => by
    injection e1 with e1
    subst e1
    unfold Blk at ho
    rw [hb] at ho
    cases ho)).trans hb
theorem Kept.of_map {w w' : World} {b : Nat} {es : Array MapEntry} {c : Nat} (L : List TypeId) (hb : w.heap[b]? = some (.map es c)) (h : w.grownBy w' (some b)) : Kept L w w' :=
  ⟨h.size, fun i cs e fr h1 _ => (h.block i (Array.getElem?_eq_some_iff.1 h1).1 (fun e1 => by
    injection e1 with e1
    subst e1; rw [hb] at h1
    cases h1)).trans h1⟩
structure Chg (w w' : World) (b : Nat) (r : Option Nat) : Prop where
  os : w'.os = w.os
  tape : w'.tape = w.tape
  output : w'.output = w.output
  size : w.heap.size ≤ w'.heap.size
  block : ∀ i, i < w.heap.size → i ≠ b → some i ≠ r → w'.heap[i]? = w.heap[i]?
theorem Chg.below {w a c : World} {b : Nat} {r : Option Nat} (h : Chg w a b r) (k : Below a.heap.size a c) : Chg w c b r :=
  ⟨k.os.trans h.os, k.tape.trans h.tape, k.output.trans h.output, Nat.le_trans h.size k.size, fun i hi h1 h2 => (k.block i (Nat.lt_of_lt_of_le hi h.size)).trans (h.block i hi h1 h2)⟩
theorem Chg.map_ {w a c : World} {b : Nat} {r : Option Nat} (h : Chg w a b r) (k : a.grownBy c (some b)) : Chg w c b r :=
  ⟨k.os.trans h.os, k.tape.trans h.tape, k.output.trans h.output, Nat.le_trans h.size k.size, fun i hi h1 h2 => (k.block i (Nat.lt_of_lt_of_le hi h.size) (fun e => h1 (by injection e))).trans (h.block i hi h1 h2)⟩
theorem Chg.row_ {w a c : World} {b : Nat} {r : Option Nat} (h : Chg w a b r) (k : a.grownBy c r) : Chg w c b r :=
  ⟨k.os.trans h.os, k.tape.trans h.tape, k.output.trans h.output, Nat.le_trans h.size k.size, fun i hi h1 h2 => (k.block i (Nat.lt_of_lt_of_le hi h.size) h2).trans (h.block i hi h1 h2)⟩
theorem Chg.refl (w : World) (b : Nat) (r : Option Nat) : Chg w w b r := ⟨rfl, rfl, rfl, Nat.le_refl _, fun _ _ _ _ => rfl⟩
theorem Chg.outer {F : Nat → Prop} {w w' : World} {b : Nat} {r : Option Nat} (h : Chg w w' b r) (hb : F b) (hr : ∀ g, r = some g → F g) : Outer F w w' :=
  ⟨h.os, h.tape, h.output, h.size, fun i hi hx => h.block i hi (fun e => hx (e ▸ hb)) (fun e => hx (hr i e.symm))⟩
def inC (i : Int) : List Value := [.int .i64 i]
theorem inC_len (i : Int) : (inC i).length = 1 := rfl
section
variable {w w' w0 : World} {F G : Nat → Prop} {g : Nat} {pb : Option Addr} {va vk : Value} {pl : Option Addr} {bw br : Nat} {s0 sl : St} {la : List Ac} {lk : List St} {Dw : Nm → List Ver} {Dr : Nm → List Int}
theorem MapRows.kept {α : Type} {f : α → List Value} {s : Nat} {e : TypeId} {L : List TypeId} {b : Nat} {D : Nm → List α} (h : MapRows e s f w F b D) (k : Kept L w w') (m : KpM w w') (he : L.contains e = false) (hG : ∀ i, F i → G i) : MapRows e s f w' G b D :=
  h.keep (fun es c _ hb => (m b es c hb).trans hb.symm) (fun g cs _ hb => (k.block g cs e (0, 0) hb he).trans hb.symm) fun i _ h => hG i h
end
end Go.Proofs.YtmjkcanjfjfkfaaGreat
namespace Go.Proofs.YtmjkcanjfjfkfaaGreat
open Go.RowKit Go.MapKept Go.ChangeMaps
set_option linter.unusedSimpArgs false
set_option linter.unusedVariables false
theorem own_cells_of {w : World} {base e s n : Nat} {v : Value} {xs : List Value} (h : w.ownsRow base e s v n xs) {g : Nat} (hg : v.ownBlock = some g) : ∃ cur, w.heap[g]? = some (.cells cur e (0, 0)) := by
  obtain ⟨_, ⟨hv0, _⟩ | ⟨g', cap, cur, hv, _, hh, _⟩⟩ := h
  · rw [hv0] at hg; cases hg
  · rw [hv] at hg
    injection hg with hg
    simp only at hg
    subst hg
    exact ⟨cur, hh⟩
theorem Chg.kept {w w2 : World} {b base e s n : Nat} {v : Value} {xs : List Value} {es : Array MapEntry} {c : Nat} (h : Chg w w2 b v.ownBlock) (hb : w.heap[b]? = some (.map es c)) (ho : w.ownsRow base e s v n xs) : Kept [e] w w2 :=
  ⟨h.size, fun i cs e' fr h1 h2 => (h.block i (Array.getElem?_eq_some_iff.1 h1).1 (fun e1 => by subst e1; rw [hb] at h1; cases h1) (fun e1 => by
    obtain ⟨cur, hc⟩ := own_cells_of ho e1.symm; rw [hc] at h1
    injection h1 with h1
    injection h1 with _ h1 _
    subst h1
    simp at h2)).trans h1⟩
theorem step_entry_nm (w : World) {ops : Array Oper} {o : Oper} {a : Go.Act} {K : Go.Act → World → Prop} {Q : Exit → Go.Act → World → Prop} {X : Prop} (hg : o.guard = none) (m x : Operand) (t : TypeId) (hop : o.op = Op.mapEntry t m x) {E : TypeId}
    (ht : Tryz.prog.underlying t = some (.map 45 E)) {z : Value} (hz : (zeroValue E).run Tryz.prog w = .ok z w) (b : Nat) (ents : List (Nm × Value)) (hm : a.eval m = .map (some b)) (h : MapAt w b ents) (n : Nm) (hx : a.eval x = nmV n) (u : Value) (hu : (lookM n ents).getD z = u)
    (hK : ∀ (w' : World) (st : Nat), w.grownBy w' (some b) → (∃ es c, w'.heap[b]? = some (.map es c)) → (∀ (w2 : World) (y : Value), w2.heap[b]? = w'.heap[b]? → ∃ w3, (Instr.entryStore t (.map (some b)) (.int .i64 st) y).run Tryz.prog w2 = .ok () w3 ∧ MapAt w3 b (putM n y ents) ∧ w2.grownBy w3 (some b)) →
      K (a.put o.dst (.tuple #[u, .int .i64 st])) w') : if Region.wanted o (yielded ops a.tmps) = true then Oper.wp Tryz.prog o a w K Q else X := by
  have hw : Region.wanted o (yielded ops a.tmps) = true := by simp [Region.wanted, hg]
  rw [if_pos hw]; obtain ⟨w', st, hrun, h1, h2, h3⟩ := map_entry h n ht hz; subst hu
  unfold Oper.wp
  simp [execOp, hop, hm, hx, hrun, Result.andThen]
  exact hK w' st h1 h2 h3
section
variable {w w' w0 : World} {F G : Nat → Prop} {g : Nat} {pb : Option Addr} {va vk : Value} {pl : Option Addr} {bw br : Nat} {s0 sl : St} {la : List Ac} {lk : List St} {Dw : Nm → List Ver} {Dr : Nm → List Int}
end
end Go.Proofs.YtmjkcanjfjfkfaaGreat
namespace Go.Proofs.YtmjkcanjfjfkfaaGreat
open Go.RowKit
set_option linter.unusedSimpArgs false
set_option linter.unusedVariables false
attribute [local go_sem ↓] Go.wp_at_zero Go.wp_at_succ
def bt46 (s : ByteArray) (i : Nat) : Int := ((s.data.toList.getD i 0).toNat : Int)
theorem bt46_of (s : ByteArray) (i : Nat) (h : i < s.size) : (s[i].toNat : Int) = bt46 s i := by
  unfold bt46
  have h' : i < s.data.toList.length := by simpa using h
  rw [List.getD_eq_getElem?_getD, List.getElem?_eq_getElem h']
  rfl
theorem bt46_bd (s : ByteArray) (i : Nat) : 0 ≤ bt46 s i ∧ bt46 s i < 256 := by
  unfold bt46
  have := (s.data.toList.getD i 0).toNat_lt
  omega
def dig46 (n : Int) : Bool := decide (48 ≤ n) && decide (n ≤ 57)
def dgE (s : ByteArray) : Nat → Nat → Nat
  | 0, e => e
  | f + 1, e => if e < s.size ∧ dig46 (bt46 s e) = true then dgE s f (e + 1) else e
def dgO (s : ByteArray) : Nat → Nat → Int → Int
  | 0, _, o => o
  | f + 1, e, o => if e < s.size ∧ dig46 (bt46 s e) = true then dgO s f (e + 1) (o * 10 + (bt46 s e - 48)) else o
theorem dgE_le (s : ByteArray) : ∀ (f e : Nat), e ≤ s.size → e ≤ dgE s f e ∧ dgE s f e ≤ e + f ∧ dgE s f e ≤ s.size
  | 0, e, h => ⟨Nat.le_refl _, Nat.le_refl _, h⟩
  | f + 1, e, h => by
    unfold dgE
    by_cases hc : e < s.size ∧ dig46 (bt46 s e) = true
    · rw [if_pos hc]
      have := dgE_le s f (e + 1) hc.1
      omega
    · rw [if_neg hc]; omega
structure Pt where
  o : Int
  a : Int
  e : Int
deriving DecidableEq
def ptV (p : Pt) : Value := .agg #[.int .i64 p.o, .int .i64 p.a, .int .i64 p.e]
def errF (s : ByteArray) (a c : Nat) : Int := if c = 8 then 9 else if a = s.size then 4 else if dgE s 7 a = a then 6 else if bt46 s a = 48 then 3 else if 6 < dgE s 7 a - a then 2 else 0
def fstP (s : ByteArray) (a c : Nat) : Pt := if errF s a c = 0 then ⟨dgO s 7 a 0, a, 0⟩ else ⟨0, a, errF s a c⟩
def fstE (s : ByteArray) (a c : Nat) : Nat := if errF s a c = 0 then dgE s 7 a else a
theorem isdig_is (n : Int) (w : World) : Calls Tryz.prog 104 #[.int .u8 n] w fun e w' => e = .returned (.bool (dig46 n)) ∧ w = w' := by
  unfold dig46
  by_cases h1 : 48 ≤ n
  · have e1 : decide (48 ≤ n) = true := decide_eq_true h1
    go_enter Tryz.func104, Tryz.ntmps104
    go_wp2
    go_ret
    exact ⟨by rw [e1]; rfl, rfl⟩
  · have e1 : decide (48 ≤ n) = false := decide_eq_false h1
    go_enter Tryz.func104, Tryz.ntmps104
    go_wp2
    go_ret
    exact ⟨rfl, rfl⟩
def FstRel (s : ByteArray) (a : Nat) (w : World) (i8 i9 : Value) (wr : World) : Prop :=
  ∃ (j : Nat) (o : Int), i8 = .int .i64 ((a + j : Nat) : Int) ∧ i9 = .int .i64 o ∧ j ≤ 7 ∧ a + j ≤ s.size ∧ dgE s 7 a = dgE s (7 - j) (a + j) ∧ dgO s 7 a 0 = dgO s (7 - j) (a + j) o ∧ 0 ≤ o ∧ o < (10 : Int) ^ j ∧ wr = w
theorem pow10 {j : Nat} (h : j ≤ 6) : (10 : Int) ^ j ≤ 1000000 := by
  rcases (show j = 0 ∨ j = 1 ∨ j = 2 ∨ j = 3 ∨ j = 4 ∨ j = 5 ∨ j = 6 by omega) with rfl | rfl | rfl | rfl | rfl | rfl | rfl <;> decide
set_option maxRecDepth 100000 in
set_option maxHeartbeats 2000000 in
theorem lfirst_is {w : World} (s : ByteArray) {a c : Nat} (ha : a ≤ s.size) (ha2 : a ≤ 1000) (hc : c ≤ 8) : Calls Tryz.prog 84 #[.string s, .int .i64 a, .int .i64 c] w fun e w' => e = .returned (.tuple #[ptV (fstP s a c), .int .i64 (fstE s a c : Nat)]) ∧ Below w.heap.size w w' := by
  have rb := Blk.new w 152 #[.int .i64 0, .int .i64 0, .int .i64 0]; have r0 := rb.cell 0; have r1 := rb.cell 1; have r2 := rb.cell 2; have f0 := rb.frozen 0; have f1 := rb.frozen 1; have f2 := rb.frozen 2; simp only [qB, qC, qD] at r0 r1 r2; have HB := Lib.hid ((Below.refl w.heap.size w).alloc (Nat.le_refl _) (.cells #[.int .i64 0, .int .i64 0, .int .i64 0] 152)); clear rb
  go_enter Tryz.func84, Tryz.ntmps84
  go_upto_region 1 with (fail)
  generalize w.alloc (.cells #[.int .i64 0, .int .i64 0, .int .i64 0] 152) = W at *; generalize hcb : w.heap.size = cb at *; have HCB := Lib.hid hcb; clear hcb; have H0 : Hid (FstRel s a W (.int .i64 a) (.int .i64 0) W) := Lib.hid ⟨0, 0, rfl, rfl, by omega, ha, rfl, rfl, by omega, by decide, rfl⟩
  go_upto_block 0 with (fail)
  go_cut [8, 9] (fun v8 v9 wx => v8 = .int .i64 (dgE s 7 a : Nat) ∧ v9 = .int .i64 (dgO s 7 a 0) ∧ wx = W)
  case first =>
    go_wp2_with fail
    go_loopw [8, 9] (fun i8 i9 wr => FstRel s a W i8 i9 wr) (fun i8 _ _ => a + 7 - (intOf i8).toNat)
    case atStart => exact H0.out
    case round =>
      clear H0; obtain ⟨j, ov, rfl, rfl, hj, hjs, hE, hO, ho0, ho1, rfl⟩ := hrel; have HE := Lib.hid hE; have HO := Lib.hid hO; have HO1 := Lib.hid ho1; clear hE hO ho1; obtain ⟨p, hp⟩ : ∃ p, a + j = p := ⟨_, rfl⟩; have HP := Lib.hid hp; rw [hp] at HE HO hjs ⊢
      have hpa : p - a = j := by omega
      by_cases h1 : p < s.size
      · have e1 : decide ((p : Int) < (s.size : Int)) = true := decide_eq_true (by omega)
        by_cases h2 : j ≤ 6
        · have e2 : decide ((p : Int) - (a : Int) ≤ 6) = true := decide_eq_true (by omega)
          have ew : IntKind.i64.wrap ((p : Int) - (a : Int)) = (p : Int) - (a : Int) := IntWalk.i64_in _ (by omega); have hb := bt46_of s p h1; have hbd := bt46_bd s p; obtain ⟨b, hbv⟩ : ∃ b, bt46 s p = b := ⟨_, rfl⟩; rw [hbv] at hb hbd; have HBV := Lib.hid hbv
          have k1 : (0 : Int) ≤ (p : Int) := by omega
          have k2 : (p : Int) < (s.size : Int) := by omega
          have hov : ov < 1000000 := by have h10 := pow10 h2; have := HO1.out; omega
          clear hbv hp; obtain ⟨d, hd⟩ : ∃ d, dig46 b = d := ⟨_, rfl⟩; have HD := Lib.hid hd; clear hd
          cases d with
          | true =>
            have hdd : 48 ≤ b ∧ b ≤ 57 := by have := HD.out; unfold dig46 at this; simpa using this
            have w1 : IntKind.i64.wrap (ov * 10) = ov * 10 := IntWalk.i64_in _ (by omega); have w2 : IntKind.u8.wrap (b - 48) = b - 48 := IntWalk.u8_in _ (by omega); have w3 : IntKind.i64.wrap (b - 48) = b - 48 := IntWalk.i64_in _ (by omega); have w4 : IntKind.i64.wrap (ov * 10 + (b - 48)) = ov * 10 + (b - 48) := IntWalk.i64_in _ (by omega); have hcond : p < s.size ∧ dig46 (bt46 s p) = true := ⟨h1, by rw [HBV.out]; exact HD.out⟩; have HC := Lib.hid hcond; clear hcond
            go_wp2_with (go_at_call 104; refine (isdig_is _ _).mono ?_; rintro e w' ⟨rfl, rfl⟩; rw [HD.out])
            go_roundw
            case rel =>
              have h7 : 7 - j = (7 - (j + 1)) + 1 := by omega
              refine ⟨j + 1, ov * 10 + (b - 48), by have := HP.out; congr 1; omega, rfl, by omega, by have := HP.out; omega, ?_, ?_, by omega, ?_, rfl⟩
              · rw [HE.out, h7, dgE, if_pos HC.out, ← HP.out]; rfl
              · rw [HO.out, h7, dgO, if_pos HC.out, HBV.out, ← HP.out]; rfl
              · have := HO1.out; rw [Int.pow_succ]; omega
            case measure => have := HP.out; simp [intOf]; omega
          | false =>
            have hcond : ¬ (p < s.size ∧ dig46 (bt46 s p) = true) := fun h => by rw [HBV.out, HD.out] at h; cases h.2
            have HC := Lib.hid hcond; clear hcond
            go_wp2_with (go_at_call 104; refine (isdig_is _ _).mono ?_; rintro e w' ⟨rfl, rfl⟩; rw [HD.out])
            go_meet
            case rel =>
              have h7 : 7 - j = (7 - (j + 1)) + 1 := by omega
              exact ⟨by rw [HE.out, h7, dgE, if_neg HC.out], by rw [HO.out, h7, dgO, if_neg HC.out], rfl⟩
        · have e2 : decide ((p : Int) - (a : Int) ≤ 6) = false := decide_eq_false (by omega)
          have ew : IntKind.i64.wrap ((p : Int) - (a : Int)) = (p : Int) - (a : Int) := IntWalk.i64_in _ (by omega); have HJ7 := Lib.hid (show 7 - j = 0 by omega); clear hp
          go_wp2_with fail
          go_meet
          case rel => exact ⟨by rw [HE.out, HJ7.out]; rfl, by rw [HO.out, HJ7.out]; rfl, rfl⟩
      · have e1 : decide ((p : Int) < (s.size : Int)) = false := decide_eq_false (by omega)
        have HH := Lib.hid h1; clear hp
        go_wp2_with fail
        go_meet
        case rel =>
          refine ⟨?_, ?_, rfl⟩
          · rw [HE.out]
            cases h7 : 7 - j with
            | zero => rfl
            | succ f => rw [dgE, if_neg fun h => HH.out h.1]
          · rw [HO.out]
            cases h7 : 7 - j with
            | zero => rfl
            | succ f => rw [dgO, if_neg fun h => HH.out h.1]
  case rest =>
    obtain ⟨rfl, rfl, hwx⟩ := hcut; subst hwx; clear H0; obtain ⟨E, hE⟩ : ∃ E, dgE s 7 a = E := ⟨_, rfl⟩; obtain ⟨O, hO⟩ : ∃ O, dgO s 7 a 0 = O := ⟨_, rfl⟩; have hEl := dgE_le s 7 a ha; rw [hE] at hEl; obtain ⟨er, her⟩ : ∃ er, errF s a c = er := ⟨_, rfl⟩; have HER := Lib.hid her
    have HP1 : Hid (er = 0 → fstP s a c = ⟨O, a, 0⟩ ∧ fstE s a c = E) := Lib.hid fun h => by
      unfold fstP fstE
      rw [her, if_pos h, if_pos h, hE, hO]
      exact ⟨rfl, rfl⟩
    have HP2 : Hid (er ≠ 0 → fstP s a c = ⟨0, a, er⟩ ∧ fstE s a c = a) := Lib.hid fun h => by
      unfold fstP fstE
      rw [her, if_neg h, if_neg h]
      exact ⟨rfl, rfl⟩
    have HF : Hid (er = if c = 8 then 9 else if a = s.size then 4 else if E = a then 6 else if bt46 s a = 48 then 3 else if 6 < E - a then 2 else 0) := Lib.hid (by rw [← her, ← hE]; rfl); rw [hE, hO]; clear hE hO her
    by_cases q1 : c = 8
    · have e1 : ((c : Int) == 8) = true := by rw [beq_iff_eq]; omega
      have hf := HF.out; rw [if_pos q1] at hf; subst hf; clear q1
      go_wp2_with fail
      have hp := HP2.out (by decide)
      exact bodyPost_ret (v := .tuple #[.agg #[.int .i64 0, .int .i64 a, .int .i64 9], .int .i64 a]) (by simp [results, Tryz.results84, go_sem, r0, r1, r2]) rfl ⟨by rw [hp.1, hp.2]; rfl, by rw [HCB.out]; exact (((HB.out.setCell (p := ⟨cb, 0, none⟩) (Nat.le_refl _) _).setCell (p := ⟨cb, 1, none⟩) (Nat.le_refl _) _).setCell (p := ⟨cb, 2, none⟩) (Nat.le_refl _) _)⟩
    · have e1 : ((c : Int) == 8) = false := by rw [beq_eq_false_iff_ne]; omega
      by_cases q2 : a = s.size
      · have e2 : ((a : Int) == (s.size : Int)) = true := by rw [beq_iff_eq]; omega
        have hf := HF.out; rw [if_neg q1, if_pos q2] at hf; subst hf; clear q2
        go_wp2_with fail
        have hp := HP2.out (by decide)
        exact bodyPost_ret (v := .tuple #[.agg #[.int .i64 0, .int .i64 a, .int .i64 4], .int .i64 a]) (by simp [results, Tryz.results84, go_sem, r0, r1, r2]) rfl ⟨by rw [hp.1, hp.2]; rfl, by rw [HCB.out]; exact (((HB.out.setCell (p := ⟨cb, 0, none⟩) (Nat.le_refl _) _).setCell (p := ⟨cb, 1, none⟩) (Nat.le_refl _) _).setCell (p := ⟨cb, 2, none⟩) (Nat.le_refl _) _)⟩
      · have e2 : ((a : Int) == (s.size : Int)) = false := by rw [beq_eq_false_iff_ne]; omega
        by_cases q3 : E = a
        · have e3 : ((E : Int) == (a : Int)) = true := by rw [beq_iff_eq]; omega
          have hf := HF.out; rw [if_neg q1, if_neg q2, if_pos q3] at hf; subst hf; clear q3
          go_wp2_with fail
          have hp := HP2.out (by decide)
          exact bodyPost_ret (v := .tuple #[.agg #[.int .i64 0, .int .i64 a, .int .i64 6], .int .i64 a]) (by simp [results, Tryz.results84, go_sem, r0, r1, r2]) rfl ⟨by rw [hp.1, hp.2]; rfl, by rw [HCB.out]; exact (((HB.out.setCell (p := ⟨cb, 0, none⟩) (Nat.le_refl _) _).setCell (p := ⟨cb, 1, none⟩) (Nat.le_refl _) _).setCell (p := ⟨cb, 2, none⟩) (Nat.le_refl _) _)⟩
        · have e3 : ((E : Int) == (a : Int)) = false := by rw [beq_eq_false_iff_ne]; omega
          have hb := bt46_of s a (by omega)
          have k1 : (0 : Int) ≤ (a : Int) := by omega
          have k2 : (a : Int) < (s.size : Int) := by omega
          have ew : IntKind.i64.wrap ((E : Int) - (a : Int)) = (E : Int) - (a : Int) := IntWalk.i64_in _ (by omega); obtain ⟨b, hbv⟩ : ∃ b, bt46 s a = b := ⟨_, rfl⟩; rw [hbv] at hb; have hf := HF.out; rw [hbv] at hf; clear hbv
          by_cases q4 : b = 48
          · have e4 : (b == 48) = true := by rw [beq_iff_eq]; exact q4
            rw [if_neg q1, if_neg q2, if_neg q3, if_pos q4] at hf; subst hf; clear q4
            go_wp2_with fail
            have hp := HP2.out (by decide)
            exact bodyPost_ret (v := .tuple #[.agg #[.int .i64 0, .int .i64 a, .int .i64 3], .int .i64 a]) (by simp [results, Tryz.results84, go_sem, r0, r1, r2]) rfl ⟨by rw [hp.1, hp.2]; rfl, by rw [HCB.out]; exact (((HB.out.setCell (p := ⟨cb, 0, none⟩) (Nat.le_refl _) _).setCell (p := ⟨cb, 1, none⟩) (Nat.le_refl _) _).setCell (p := ⟨cb, 2, none⟩) (Nat.le_refl _) _)⟩
          · have e4 : (b == 48) = false := by rw [beq_eq_false_iff_ne]; exact q4
            by_cases q5 : 6 < E - a
            · have e5 : decide ((6 : Int) < (E : Int) - (a : Int)) = true := decide_eq_true (by omega)
              rw [if_neg q1, if_neg q2, if_neg q3, if_neg q4, if_pos q5] at hf; subst hf; clear q5
              go_wp2_with fail
              have hp := HP2.out (by decide)
              exact bodyPost_ret (v := .tuple #[.agg #[.int .i64 0, .int .i64 a, .int .i64 2], .int .i64 a]) (by simp [results, Tryz.results84, go_sem, r0, r1, r2]) rfl ⟨by rw [hp.1, hp.2]; rfl, by rw [HCB.out]; exact (((HB.out.setCell (p := ⟨cb, 0, none⟩) (Nat.le_refl _) _).setCell (p := ⟨cb, 1, none⟩) (Nat.le_refl _) _).setCell (p := ⟨cb, 2, none⟩) (Nat.le_refl _) _)⟩
            · have e5 : decide ((6 : Int) < (E : Int) - (a : Int)) = false := decide_eq_false (by omega)
              rw [if_neg q1, if_neg q2, if_neg q3, if_neg q4, if_neg q5] at hf; subst hf
              go_wp2_with fail
              have hp := HP1.out (by trivial)
              exact bodyPost_ret (v := .tuple #[.agg #[.int .i64 O, .int .i64 a, .int .i64 0], .int .i64 E]) (by simp [results, Tryz.results84, go_sem, r0, r1, r2]) rfl ⟨by rw [hp.1, hp.2]; rfl, by rw [HCB.out]; exact (((HB.out.setCell (p := ⟨cb, 0, none⟩) (Nat.le_refl _) _).setCell (p := ⟨cb, 1, none⟩) (Nat.le_refl _) _).setCell (p := ⟨cb, 2, none⟩) (Nat.le_refl _) _)⟩
end Go.Proofs.YtmjkcanjfjfkfaaGreat
namespace Go.Proofs.YtmjkcanjfjfkfaaGreat
open Go.RowKit Go.Shelf
set_option linter.unusedSimpArgs false
set_option linter.unusedVariables false
attribute [local go_sem] Oper.semAt_some
theorem fst_e (s : ByteArray) (a c : Nat) : (fstP s a c).e = errF s a c := by
  unfold fstP
  by_cases h : errF s a c = 0
  · rw [if_pos h, h]
  · rw [if_neg h]
theorem fst_bd {s : ByteArray} {a c : Nat} (ha : a ≤ s.size) (h : (fstP s a c).e = 0) : c ≠ 8 ∧ fstE s a c ≤ s.size ∧ fstE s a c ≤ a + 7 := by
  rw [fst_e] at h; have h1 := dgE_le s 7 a ha
  unfold fstE
  rw [if_pos h]
  refine ⟨fun e => ?_, h1.2.2, h1.2.1⟩
  unfold errF at h
  rw [if_pos e] at h
  cases h
def partsL (s : ByteArray) : Nat → Nat → Nat → List Pt
  | 0, _, _ => []
  | f + 1, a, c => fstP s a c :: (if (fstP s a c).e ≠ 0 then [] else if fstE s a c = s.size then [] else if bt46 s (fstE s a c) ≠ 46 then [⟨0, fstE s a c, 6⟩] else partsL s f (fstE s a c + 1) (c + 1))
def PS (s : ByteArray) : List Pt := if s.size = 0 then [] else partsL s 9 0 0
structure KpL (W W' : World) : Prop where
  size : W.heap.size ≤ W'.heap.size
  same : ∀ (i : Nat) (cs : Array Value) (e : TypeId) (fr : Nat × Nat), W.heap[i]? = some (.cells cs e fr) → e = 152 ∨ e = 9 → W'.heap[i]? = some (.cells cs e fr)
theorem KpL.refl (W : World) : KpL W W := ⟨Nat.le_refl _, fun _ _ _ _ h _ => h⟩
theorem KpL.trans {A B C : World} (h : KpL A B) (k : KpL B C) : KpL A C := ⟨Nat.le_trans h.size k.size, fun i cs e fr h1 h2 => k.same i cs e fr (h.same i cs e fr h1 h2) h2⟩
theorem KpL.below {W W' : World} (h : Below W.heap.size W W') : KpL W W' := ⟨h.size, fun i cs e fr h1 _ => (h.block i (Array.getElem?_eq_some_iff.1 h1).1).trans h1⟩
theorem KpL.blk {W W' : World} {g t : Nat} {cs : Array Value} (h : KpL W W') (hb : Blk W g t cs) (ht : t = 152 ∨ t = 9) : Blk W' g t cs := h.same g cs t (0, 0) hb ht
theorem grown_none {w w' : World} (hb : Below w.heap.size w w') : w.grownBy w' none := ⟨hb.os, hb.tape, hb.output, hb.size, fun i hi _ => hb.block i hi⟩
def PrtRel (s : ByteArray) (Bt : Nat) (J : List Pt → World → Prop) (i3 i4 : Value) (wr : World) : Prop :=
  ∃ (a c : Nat) (pre : List Pt), i3 = .int .i64 a ∧ i4 = .int .i64 c ∧ a ≤ s.size ∧ a ≤ 8 * c ∧ c ≤ 8 ∧ pre ++ partsL s (9 - c) a c = PS s ∧ J pre wr ∧ Blk wr Bt 9 #[.string s]
set_option maxRecDepth 100000 in
set_option maxHeartbeats 4000000 in
theorem parts1_in (n l Bt : Nat) (s : ByteArray) (J Jx : List Pt → World → Prop) (W0 : World) (hab : AbidesFrom W0.heap.size J)
    (hY : ∀ pre x W, J pre W → pre.length < (PS s).length → YieldAt Fence.wide (n - 1) Tryz.prog l #[ptV x] W fun e W' => (e = .returned (.bool true) ∧ J (pre ++ [x]) W' ∧ KpL W W') ∨ (e = .returned (.bool false) ∧ Jx (pre ++ [x]) W'))
    (W : World) (hBt : Blk W Bt 9 #[.string s]) (h0 : J [] W) :
    CallsIn Fence.wide n Tryz.prog 83 #[.func (.yield l) #[] #[], .pointer (some ⟨Bt, 0, none⟩)] W fun e W' => (∃ v, e = .returned v) ∧ ((∃ ys, ys = PS s ∧ J ys W') ∨ (∃ pre, pre <+: PS s ∧ Jx pre W')) := by
  have x0 := hBt.cell 0
  simp only [List.getElem?_toArray, List.getElem?_cons_zero] at x0
  by_cases hs : s.size = 0
  · have hps : PS s = [] := by unfold PS; rw [if_pos hs]
    have hse : s = ⟨#[]⟩ := by
      have : s.data = #[] := Array.size_eq_zero_iff.1 hs
      cases s; simp_all
    subst hse
    refine callsIn_of_wp Tryz.func83 rfl trivial ?_ rfl
    simp only [Tryz.ntmps83, List.size_toArray, List.length_cons, List.length_nil, Nat.reduceAdd, Nat.reduceSub, Array.replicate_succ, Array.replicate_zero, List.push_toArray, List.append_toArray, List.nil_append, List.cons_append]
    gi_wp2
    gi_loopw [3, 4] (fun i3 i4 wr => wr = W) (fun _ _ _ => 0)
    case atStart => rfl
    case round =>
      subst hrel
      gi_wp2
      go_end0
      exact ⟨⟨_, rfl⟩, .inl ⟨_, hps.symm, h0⟩⟩
  · have hne : ¬ s.data.toList = [] := fun e => hs (by
      have : s.data = #[] := by cases h : s.data; rw [h] at e; simp at e; rw [e]
      rw [ByteArray.size, this]; rfl)
    have H0 : PrtRel s Bt J (.int .i64 (0 : Nat)) (.int .i64 (0 : Nat)) W := ⟨0, 0, [], rfl, rfl, Nat.zero_le _, by omega, by omega, by unfold PS; rw [if_neg hs]; rfl, h0, hBt⟩; have H0 := Lib.hid H0
    have hemp : s.toList.isEmpty = false := by rw [Lib.toList_data]; simpa [List.isEmpty_iff] using hne
    clear h0 hBt hs hne
    refine callsIn_of_wp Tryz.func83 rfl trivial ?_ rfl
    simp only [Tryz.ntmps83, List.size_toArray, List.length_cons, List.length_nil, Nat.reduceAdd, Nat.reduceSub, Array.replicate_succ, Array.replicate_zero, List.push_toArray, List.append_toArray, List.nil_append, List.cons_append]
    gi_wp2
    gi_loopw [3, 4] (fun i3 i4 wr => PrtRel s Bt J i3 i4 wr) (fun _ i4 _ => 9 - (intOf i4).toNat)
    case atStart => exact H0.out
    case round =>
      clear H0 x0; obtain ⟨a, c, pre, rfl, rfl, ha, ha8, hc, hps, hJ, hBt⟩ := hrel; have x0 := hBt.cell 0
      simp only [List.getElem?_toArray, List.getElem?_cons_zero] at x0
      obtain ⟨p, hp⟩ : ∃ p, fstP s a c = p := ⟨_, rfl⟩; obtain ⟨E, hE⟩ : ∃ E, fstE s a c = E := ⟨_, rfl⟩; have HP := Lib.hid hp; have HE := Lib.hid hE
      have h9 : 9 - c = (8 - c) + 1 := by omega
      rw [h9, partsL, hp, hE] at hps
      have hlt : pre.length < (PS s).length := by rw [← hps, List.length_append, List.length_cons]; omega
      have HBD := Lib.hid (fun h : p.e = 0 => by have := fst_bd (c := c) ha (by rw [hp]; exact h); rw [hE] at this; exact this); have HPS := Lib.hid hps; clear hp hE hps h9
      by_cases q1 : p.e = 0
      · obtain ⟨hc8, hEs, hEa⟩ := HBD.out q1
        have n1 : (p.e != 0) = false := by rw [q1]; rfl
        have hE100 : E ≤ 100 := by omega
        by_cases q2 : E = s.size
        · have n2 : ((E : Int) == (s.size : Int)) = true := by rw [beq_iff_eq]; omega
          have HR1 : Hid (pre ++ [p] = PS s) := Lib.hid (by have := HPS.out; rw [if_neg (fun h => h q1), if_pos q2] at this; exact this); clear q1 q2
          gi_wp2_with (first
            | ((try refine ⟨trivial, ?_⟩); (try refine ⟨fun h => (by cases h), ?_⟩); gi_at_call 84; refine (callsIn_wide.2 (lfirst_is s ha (by omega) hc)).mono ?_; rintro e W1 ⟨rfl, hb1⟩; rw [HP.out, HE.out]; simp only [ptV]; have hbA := hb1.alloc hb1.size (.cells #[.int .i64 p.o, .int .i64 p.a, .int .i64 p.e] 152); have hJ2 := hab pre wr _ none hJ (grown_none hbA) (fun r e => by cases e); have hBt2 := hBt.next hbA hBt.lt; have hpb := Blk.new W1 152 #[.int .i64 p.o, .int .i64 p.a, .int .i64 p.e]; have d0 := hpb.cell 0; have d1 := hpb.cell 1; have d2 := hpb.cell 2; (simp only [qB, qC, qD] at d0 d1 d2); obtain ⟨fn, tmps, assign, body, hy, hR⟩ := hY pre p _ hJ2 hlt; (simp only [ptV] at hR hy); clear hJ2 hbA hb1)
            | ((try refine ⟨trivial, ?_⟩); (try refine ⟨fun h => (by cases h), ?_⟩); refine hR.mono ?_; clear hR; rintro e W3 (⟨rfl, hJ3, hk3⟩ | ⟨rfl, hx3⟩); (all_goals (try (have hBt3 := hk3.blk hBt2 (.inr rfl); have x3 := hBt3.cell 0; have hp3 := hk3.blk hpb (.inl rfl); have c3 := hp3.cell 2; (simp only [qB, qC, qD] at x3 c3))))))
          · refine bodyPost_ret (results_none rfl _ _ _) rfl ?_
            exact ⟨⟨_, rfl⟩, .inl ⟨_, rfl, by have := hJ3; rw [HR1.out] at this; exact this⟩⟩
          · refine bodyPost_ret (results_none rfl _ _ _) rfl ?_
            exact ⟨⟨_, rfl⟩, .inr ⟨pre ++ [p], by rw [HR1.out]; exact List.prefix_refl _, hx3⟩⟩
        · have n2 : ((E : Int) == (s.size : Int)) = false := by rw [beq_eq_false_iff_ne]; omega
          have hEl : E < s.size := by omega
          have hb := bt46_of s E hEl
          have k1 : (0 : Int) ≤ (E : Int) := by omega
          have k2 : (E : Int) < (s.size : Int) := by omega
          have k3 : IntKind.i64.wrap ((E : Int) + 1) = (E : Int) + 1 := IntWalk.i64_in _ (by omega); have k4 : IntKind.i64.wrap ((c : Int) + 1) = (c : Int) + 1 := IntWalk.i64_in _ (by omega); obtain ⟨b, hbv⟩ : ∃ b, bt46 s E = b := ⟨_, rfl⟩; rw [hbv] at hb; have HQ1 := Lib.hid q1; have HQ2 := Lib.hid q2; have HBV := Lib.hid hbv; clear q1 hbv
          by_cases q3 : b = 46
          · have n3 : (b != 46) = false := by rw [q3]; rfl
            have HR1 : Hid (pre ++ [p] ++ partsL s (8 - c) (E + 1) (c + 1) = PS s) := Lib.hid (by have := HPS.out; rw [if_neg (fun h => h HQ1.out), if_neg HQ2.out, if_neg (fun h => h (by rw [HBV.out]; exact q3))] at this; rw [List.append_assoc]; exact this); clear q3
            gi_wp2_with (first
              | ((try refine ⟨trivial, ?_⟩); (try refine ⟨fun h => (by cases h), ?_⟩); gi_at_call 84; refine (callsIn_wide.2 (lfirst_is s ha (by omega) hc)).mono ?_; rintro e W1 ⟨rfl, hb1⟩; rw [HP.out, HE.out]; simp only [ptV]; have hbA := hb1.alloc hb1.size (.cells #[.int .i64 p.o, .int .i64 p.a, .int .i64 p.e] 152); have hJ2 := hab pre wr _ none hJ (grown_none hbA) (fun r e => by cases e); have hBt2 := hBt.next hbA hBt.lt; have hpb := Blk.new W1 152 #[.int .i64 p.o, .int .i64 p.a, .int .i64 p.e]; have d0 := hpb.cell 0; have d1 := hpb.cell 1; have d2 := hpb.cell 2; (simp only [qB, qC, qD] at d0 d1 d2); obtain ⟨fn, tmps, assign, body, hy, hR⟩ := hY pre p _ hJ2 hlt; (simp only [ptV] at hR hy); clear hJ2 hbA hb1)
              | ((try refine ⟨trivial, ?_⟩); (try refine ⟨fun h => (by cases h), ?_⟩); refine hR.mono ?_; clear hR; rintro e W3 (⟨rfl, hJ3, hk3⟩ | ⟨rfl, hx3⟩); (all_goals (try (have hBt3 := hk3.blk hBt2 (.inr rfl); have x3 := hBt3.cell 0; have hp3 := hk3.blk hpb (.inl rfl); have c3 := hp3.cell 2; (simp only [qB, qC, qD] at x3 c3))))))
            · go_roundw
              case rel => exact ⟨E + 1, c + 1, pre ++ [p], by go_num, by go_num, by omega, by omega, by omega, by rw [show 9 - (c + 1) = 8 - c by omega]; exact HR1.out, hJ3, hBt3⟩
              case measure => simp [intOf]; omega
            · refine bodyPost_ret (results_none rfl _ _ _) rfl ?_
              exact ⟨⟨_, rfl⟩, .inr ⟨pre ++ [p], ⟨_, HR1.out⟩, hx3⟩⟩
          · have n3 : (b != 46) = true := by rw [bne_iff_ne]; exact q3
            have HR1 : Hid (pre ++ [p] ++ [⟨0, (E : Int), 6⟩] = PS s) := Lib.hid (by have := HPS.out; rw [if_neg (fun h => h HQ1.out), if_neg HQ2.out, if_pos (by rw [HBV.out]; exact q3)] at this; rw [List.append_assoc]; exact this)
            have hlt2 : (pre ++ [p]).length < (PS s).length := by rw [← HR1.out]; simp
            clear q3; have ONCE : True := trivial
            gi_wp2_with (first
              | ((try refine ⟨trivial, ?_⟩); (try refine ⟨fun h => (by cases h), ?_⟩); gi_at_call 84; refine (callsIn_wide.2 (lfirst_is s ha (by omega) hc)).mono ?_; rintro e W1 ⟨rfl, hb1⟩; rw [HP.out, HE.out]; simp only [ptV]; have hbA := hb1.alloc hb1.size (.cells #[.int .i64 p.o, .int .i64 p.a, .int .i64 p.e] 152); have hJ2 := hab pre wr _ none hJ (grown_none hbA) (fun r e => by cases e); have hBt2 := hBt.next hbA hBt.lt; have hpb := Blk.new W1 152 #[.int .i64 p.o, .int .i64 p.a, .int .i64 p.e]; have d0 := hpb.cell 0; have d1 := hpb.cell 1; have d2 := hpb.cell 2; (simp only [qB, qC, qD] at d0 d1 d2); obtain ⟨fn, tmps, assign, body, hy, hR⟩ := hY pre p _ hJ2 hlt; (simp only [ptV] at hR hy); clear hJ2 hbA hb1)
              | (clear ONCE; (try refine ⟨trivial, ?_⟩); (try refine ⟨fun h => (by cases h), ?_⟩); refine hR.mono ?_; clear hR; rintro e W3 (⟨rfl, hJ3, hk3⟩ | ⟨rfl, hx3⟩); (all_goals (try (have hBt3 := hk3.blk hBt2 (.inr rfl); have x3 := hBt3.cell 0; have hp3 := hk3.blk hpb (.inl rfl); have c3 := hp3.cell 2; obtain ⟨fn2, tmps2, assign2, body2, hy2, hR2⟩ := hY (pre ++ [p]) ⟨0, (E : Int), 6⟩ W3 hJ3 hlt2; (simp only [ptV] at hR2 hy2); (simp only [qB, qC, qD] at x3 c3)))))
              | ((try refine ⟨trivial, ?_⟩); (try refine ⟨fun h => (by cases h), ?_⟩); refine hR2.mono ?_; clear hR2; rintro e W4 (⟨rfl, hJ4, hk4⟩ | ⟨rfl, hx4⟩)))
            · refine bodyPost_ret (results_none rfl _ _ _) rfl ?_
              exact ⟨⟨_, rfl⟩, .inl ⟨_, rfl, by have := hJ4; rw [HR1.out] at this; exact this⟩⟩
            · refine bodyPost_ret (results_none rfl _ _ _) rfl ?_
              exact ⟨⟨_, rfl⟩, .inr ⟨_, by rw [HR1.out]; exact List.prefix_refl _, hx4⟩⟩
            · refine bodyPost_ret (results_none rfl _ _ _) rfl ?_
              exact ⟨⟨_, rfl⟩, .inr ⟨pre ++ [p], ⟨_, HR1.out⟩, hx3⟩⟩
      · have n1 : (p.e != 0) = true := by rw [bne_iff_ne]; exact q1
        have HR1 : Hid (pre ++ [p] = PS s) := Lib.hid (by have := HPS.out; rw [if_pos q1] at this; exact this); clear q1
        gi_wp2_with (first
          | ((try refine ⟨trivial, ?_⟩); (try refine ⟨fun h => (by cases h), ?_⟩); gi_at_call 84; refine (callsIn_wide.2 (lfirst_is s ha (by omega) hc)).mono ?_; rintro e W1 ⟨rfl, hb1⟩; rw [HP.out, HE.out]; simp only [ptV]; have hbA := hb1.alloc hb1.size (.cells #[.int .i64 p.o, .int .i64 p.a, .int .i64 p.e] 152); have hJ2 := hab pre wr _ none hJ (grown_none hbA) (fun r e => by cases e); have hBt2 := hBt.next hbA hBt.lt; have hpb := Blk.new W1 152 #[.int .i64 p.o, .int .i64 p.a, .int .i64 p.e]; have d0 := hpb.cell 0; have d1 := hpb.cell 1; have d2 := hpb.cell 2; (simp only [qB, qC, qD] at d0 d1 d2); obtain ⟨fn, tmps, assign, body, hy, hR⟩ := hY pre p _ hJ2 hlt; (simp only [ptV] at hR hy); clear hJ2 hbA hb1)
          | ((try refine ⟨trivial, ?_⟩); (try refine ⟨fun h => (by cases h), ?_⟩); refine hR.mono ?_; clear hR; rintro e W3 (⟨rfl, hJ3, hk3⟩ | ⟨rfl, hx3⟩); (all_goals (try (have hBt3 := hk3.blk hBt2 (.inr rfl); have x3 := hBt3.cell 0; have hp3 := hk3.blk hpb (.inl rfl); have c3 := hp3.cell 2; (simp only [qB, qC, qD] at x3 c3))))))
        · refine bodyPost_ret (results_none rfl _ _ _) rfl ?_
          exact ⟨⟨_, rfl⟩, .inl ⟨_, rfl, by have := hJ3; rw [HR1.out] at this; exact this⟩⟩
        · refine bodyPost_ret (results_none rfl _ _ _) rfl ?_
          exact ⟨⟨_, rfl⟩, .inr ⟨pre ++ [p], by rw [HR1.out]; exact List.prefix_refl _, hx3⟩⟩
end Go.Proofs.YtmjkcanjfjfkfaaGreat
namespace Go.Proofs.YtmjkcanjfjfkfaaGreat
open Go.RowKit Go.Shelf
set_option linter.unusedSimpArgs false
set_option linter.unusedVariables false
attribute [local go_sem] Oper.semAt_some
theorem parts_in (F : Fence) (n : Nat) (h4 : F.fn 75) (hro : F.round = none) (s : ByteArray) (w : World) :
    CallsIn F n Tryz.prog 75 #[.string s] w fun e w' => e = .returned (.func (.func 83) #[] #[.pointer (some ⟨w.heap.size, 0, none⟩)]) ∧ w' = w.alloc (.cells #[.string s] 9) := by
  refine callsIn_of_wp Tryz.func75 rfl h4 ?_ hro
  simp only [Tryz.ntmps75, List.size_toArray, List.length_cons, List.length_nil, Nat.reduceAdd, Nat.reduceSub, Array.replicate_succ, Array.replicate_zero, List.push_toArray, List.append_toArray, List.nil_append, List.cons_append]
  gi_wp2
  go_ret
  exact ⟨rfl, rfl⟩
theorem parts_stops (n Bt : Nat) (s : ByteArray) (w : World) (hBt : Blk w Bt 9 #[.string s]) :
    SeqStopsK Fence.wide n Tryz.prog 83 #[.pointer (some ⟨Bt, 0, none⟩)] (fun x : Pt => #[ptV x]) KpL (fun ys => ys = PS s) (fun pre => pre <+: PS s) (PS s).length w := fun l J Jx W hW hab _ hY h0 =>
  parts1_in n l Bt s J Jx W hab hY W (hBt.next hW hBt.lt) h0
theorem KpL.putObj {W : World} {l : Nat} {o o' : Obj} (h : W.heap[l]? = some o) (ho : o.isCells = false) : KpL W (W.putObj l o') :=
  ⟨(grownBy_putObj' W l o').size, fun i cs e fr h1 _ => ((grownBy_putObj' W l o').block i (Array.getElem?_eq_some_iff.1 h1).1 (fun e1 => by
    injection e1 with e1
    subst e1; rw [h] at h1
    injection h1 with h1
    subst h1
    cases ho)).trans h1⟩
theorem blk_own {B : Nat} {W W' : World} {row : Option Nat} {g t : Nat} {cs : Array Value} (h : Blk W g t cs) (hg : W.grownBy W' row) (hr : ∀ r, row = some r → B ≤ r ∧ ∃ o : Obj, W.heap[r]? = some o ∧ o.isCells = false) : Blk W' g t cs :=
  h.grown hg (fun e => by
    obtain ⟨_, o, ho, hc⟩ := hr g e.symm
    unfold Blk at h
    rw [h] at ho
    injection ho with ho
    subst ho
    cases hc)
def ResI (w : World) (c2 c3 c4 : Value) (W : World) : Prop := Blk W w.heap.size 33 #[c2] ∧ Blk W (w.heap.size + 1) 3 #[c3] ∧ Blk W (w.heap.size + 1 + 1) 40 #[c4] ∧ Below w.heap.size w W
theorem ResI.own {B : Nat} {w W W' : World} {row : Option Nat} {c2 c3 c4 : Value} (h : ResI w c2 c3 c4 W) (hB : w.heap.size ≤ B) (hg : W.grownBy W' row) (hr : ∀ r, row = some r → B ≤ r ∧ ∃ o : Obj, W.heap[r]? = some o ∧ o.isCells = false) : ResI w c2 c3 c4 W' := by
  obtain ⟨h1, h2, h3, h4⟩ := h
  refine ⟨blk_own h1 hg hr, blk_own h2 hg hr, blk_own h3 hg hr, ?_⟩
  exact h4.trans ⟨hg.os, hg.tape, hg.output, hg.size, fun i hi => hg.block i (Nat.lt_of_lt_of_le hi h4.size) (fun e => by have := (hr i e.symm).1; omega)⟩
theorem ResI.drew {w W : World} {c2 c3 c4 : Value} (h : ResI w c2 c3 c4 W) : ResI w c2 c3 c4 W.drew := ⟨h.1, h.2.1, h.2.2.1, h.2.2.2.drew⟩
theorem ResI.put3 {w W : World} {c2 c3 c4 : Value} (h : ResI w c2 c3 c4 W) (v2 v3 v4 : Value) : ResI w v2 v3 v4 (((W.setCell ⟨w.heap.size, 0, none⟩ v2).setCell ⟨w.heap.size + 1, 0, none⟩ v3).setCell ⟨w.heap.size + 1 + 1, 0, none⟩ v4) ∧
    KeepsOthers W (((W.setCell ⟨w.heap.size, 0, none⟩ v2).setCell ⟨w.heap.size + 1, 0, none⟩ v3).setCell ⟨w.heap.size + 1 + 1, 0, none⟩ v4) := by
  obtain ⟨h1, h2, h3, h4⟩ := h
  have g := fun (W : World) (n : Nat) (v : Value) => (show W.grownBy (W.setCell ⟨n, 0, none⟩ v) (some n) from only_setCell (only_of_below (Below.refl _ _) _) (.inl rfl) v)
  refine ⟨⟨((h1.set_ 0 v2).grown (g _ _ v3) (by simp)).grown (g _ _ v4) (by simp; omega), ((h2.grown (g _ _ v2) (by simp)).set_ 0 v3).grown (g _ _ v4) (by simp), ((h3.grown (g _ _ v2) (by simp; omega)).grown (g _ _ v3) (by simp)).set_ 0 v4, ?_⟩, ((KeepsOthers.setCell _ _ _).trans (KeepsOthers.setCell _ _ _)).trans (KeepsOthers.setCell _ _ _)⟩
  exact ((h4.setCell (p := ⟨w.heap.size, 0, none⟩) (Nat.le_refl _) v2).setCell (p := ⟨w.heap.size + 1, 0, none⟩) (by simp) v3).setCell (p := ⟨w.heap.size + 1 + 1, 0, none⟩) (by simp; omega) v4
def ParI (w : World) (pre : List Pt) (W : World) : Prop := (∀ p ∈ pre, p.e = 0) ∧ ResI w (.string ⟨#[]⟩) (.int .i64 0) (.int .i64 0) W
def ParX (w : World) (c : Code) (pre : List Pt) (W : World) : Prop := c = .ret ∧ ∃ p ∈ pre, p.e ≠ 0 ∧ ResI w (.string ⟨#[]⟩) (.int .i64 p.a) (.int .i64 p.e) W
def ParseP (s : ByteArray) (w : World) (e : Ending) (w' : World) : Prop := Below w.heap.size w w' ∧ ∃ (v1 v2 : Value) (E : Int), e = .returned (.tuple #[v1, v2, .int .i64 E]) ∧ (E = 0 ↔ ∀ p ∈ PS s, p.e = 0)
def PARW (w : World) (s : ByteArray) : World := (((w.alloc (.cells #[.string ⟨#[]⟩] 33)).alloc (.cells #[.int .i64 0] 3)).alloc (.cells #[.int .i64 0] 40)).alloc (.cells #[.string s] 9)
theorem parw_start (w : World) (s : ByteArray) : ResI w (.string ⟨#[]⟩) (.int .i64 0) (.int .i64 0) (PARW w s) ∧ Blk (PARW w s) (w.heap.size + 1 + 1 + 1) 9 #[.string s] ∧ (PARW w s).heap.size = w.heap.size + 1 + 1 + 1 + 1 := by
  have b1 := Blk.new w 33 #[.string ⟨#[]⟩]; have b2 := Blk.new (w.alloc (.cells #[.string ⟨#[]⟩] 33)) 3 #[.int .i64 0]; have b3 := Blk.new ((w.alloc (.cells #[.string ⟨#[]⟩] 33)).alloc (.cells #[.int .i64 0] 3)) 40 #[.int .i64 0]; have b4 := Blk.new (((w.alloc (.cells #[.string ⟨#[]⟩] 33)).alloc (.cells #[.int .i64 0] 3)).alloc (.cells #[.int .i64 0] 40)) 9 #[.string s]
  simp only [World.size_alloc] at b2 b3 b4
  have al := fun (W : World) (o : Obj) => (Below.refl W.heap.size W).alloc (Nat.le_refl _) o
  refine ⟨⟨((b1.next (al _ _) b1.lt).next (al _ _) (b1.next (al _ _) b1.lt).lt).next (al _ _) ((b1.next (al _ _) b1.lt).next (al _ _) (b1.next (al _ _) b1.lt).lt).lt, (b2.next (al _ _) b2.lt).next (al _ _) (b2.next (al _ _) b2.lt).lt, b3.next (al _ _) b3.lt, ?_⟩, b4, by simp [PARW]⟩
  exact ((((Below.refl _ _).alloc (Nat.le_refl _) _).alloc (by simp) _).alloc (by simp; omega) _).alloc (by simp; omega) _
set_option maxRecDepth 100000 in
set_option maxHeartbeats 4000000 in
theorem parse_is (s : ByteArray) (w : World) : Calls Tryz.prog 74 #[.string s] w (ParseP s w) := by
  obtain ⟨hR0, hBt, hSz⟩ := parw_start w s; refine (callsIn_wide (n := 6)).1 ?_
  refine callsIn_of_wp_marks Tryz.func74 rfl trivial ?_ rfl
  simp only [Tryz.ntmps74, List.size_toArray, List.length_cons, List.length_nil, Nat.reduceAdd, Nat.reduceSub, Array.replicate_succ, Array.replicate_zero, List.push_toArray, List.append_toArray, List.nil_append, List.cons_append]
  gi_wp2_with ((try refine ⟨trivial, ?_⟩); gi_at_call 75; refine (parts_in Fence.wide _ trivial rfl _ _).mono ?_; rintro e w' ⟨rfl, rfl⟩)
  refine wpIn_rangeFunc_ownH (w := PARW w s) rfl (by omega) (gf := 83) (lb := #[.pointer (some ⟨w.heap.size + 1 + 1 + 1, 0, none⟩)]) rfl trivial (enters_of Tryz.func83 (by kernel_rfl) rfl)
    (parts_stops _ _ s (PARW w s) hBt) (fun h k => h.trans k) (fun W l o o' _ h1 h2 _ => KpL.putObj h1 h2) (Below.refl _ _) (fun _ => rfl)
    (ParI w) (ParX w) (fun pre W W' row h hg hr => ⟨h.1, h.2.own (by rw [hSz]; omega) hg hr⟩) (fun c pre W W' row h hg hr => by
      obtain ⟨h1, p, hp, h2, h3⟩ := h
      exact ⟨h1, p, hp, h2, h3.own (by rw [hSz]; omega) hg hr⟩)
    ⟨fun p h => (by cases h), hR0⟩
    (fun x a' W => ∃ pb, a' = { tmps := #[.string s, undef, .pointer (some ⟨w.heap.size, 0, none⟩), .pointer (some ⟨w.heap.size + 1, 0, none⟩), .pointer (some ⟨w.heap.size + 1 + 1, 0, none⟩), .pointer (some ⟨pb, 0, none⟩), .string s, .func (.func 83) #[] #[.pointer (some ⟨w.heap.size + 1 + 1 + 1, 0, none⟩)], .agg #[.int .i64 x.o, .int .i64 x.a, .int .i64 x.e], undef, undef, undef, undef, undef, undef, undef, undef], defers := [] } ∧ Blk W pb 152 #[.int .i64 x.o, .int .i64 x.a, .int .i64 x.e]) (fun x a' _ W W' row h hg hr => by
      obtain ⟨pb, h1, h2⟩ := h
      exact ⟨pb, h1, blk_own h2 hg hr⟩) ?assign ?body ?done ?stop
  case assign =>
    intro l pre x W K hI hK
    have hb := Blk.new W 152 #[.int .i64 x.o, .int .i64 x.a, .int .i64 x.e]; have hal := (Below.refl W.heap.size W).alloc (Nat.le_refl _) (.cells #[.int .i64 x.o, .int .i64 x.a, .int .i64 x.e] 152)
    simp only [ptV]
    gi_wp2
    exact hK _ _ ((KeepsOthers.alloc W _).from _) (KpL.below hal) ⟨hI.1, hI.2.own (Nat.le_refl _) (grown_none hal) (fun r e => by cases e)⟩ ⟨W.heap.size, rfl, hb⟩
  case body =>
    rintro l pre x a' W hwl hr ⟨hI1, hI2⟩ ⟨pb, rfl, hb⟩ hlt; obtain ⟨r2, r3, r4, hbw⟩ := id hI2; have c1 := hb.cell 1; have c2 := hb.cell 2; have z2 := r2.cell 0; have z3 := r3.cell 0; have z4 := r4.cell 0; have f2 := r2.frozen 0; have f3 := r3.frozen 0; have f4 := r4.frozen 0; simp only [qB, qC, qD] at c1 c2 z2 z3 z4
    by_cases hx : x.e = 0
    · have n1 : (x.e != 0) = false := by rw [hx]; rfl
      have HX := Lib.hid hx; clear hx
      gi_wp2
      refine ⟨KeepsFrom.refl _ _, KpL.refl _, fun p hp => ?_, hI2⟩
      rcases List.mem_append.1 hp with h | h
      · exact hI1 p h
      · rw [List.mem_singleton] at h; rw [h]; exact HX.out
    · have n1 : (x.e != 0) = true := by rw [bne_iff_ne]; exact hx
      have HX := Lib.hid hx; clear hx
      gi_wp2
      obtain ⟨hr3, hk3⟩ := hI2.put3 (.string ⟨#[]⟩) (.int .i64 x.a) (.int .i64 x.e); have HR3 := Lib.hid hr3; have HK3 := Lib.hid hk3; clear hr3 hk3
      gi_region
      all_goals gi_wp2
      all_goals exact ⟨(HK3.out.trans (KeepsOthers.drew _)).from _, rfl, x, by simp, HX.out, HR3.out.drew⟩
  case done =>
    rintro D ys W hD rfl ⟨hI1, hI2⟩ hK; obtain ⟨r2, r3, r4, hbw⟩ := id hI2; have z2 := r2.cell 0; have z3 := r3.cell 0; have z4 := r4.cell 0; have f2 := r2.frozen 0; have f3 := r3.frozen 0; have f4 := r4.frozen 0; simp only [qB, qC, qD] at z2 z3 z4; obtain ⟨hr3, hk3⟩ := hI2.put3 (.string s) (.int .i64 0) (.int .i64 0); have HR3 := Lib.hid hr3; have hK2 := hk3.same D _ hK rfl; have HK2 := Lib.hid hK2; have HI1 := Lib.hid hI1; clear hr3 hk3 hK2 hI1
    gi_wp2
    have hK2 := HK2.out
    refine ⟨by simp, .inl ⟨_, _, rfl, run_takeDeferred hK2, ?_⟩⟩
    have hD2 : w.heap.size + 1 + 1 < D := by rw [hSz] at hD; omega
    have hgp := grownBy_putObj' (((W.setCell ⟨w.heap.size, 0, none⟩ (.string s)).setCell ⟨w.heap.size + 1, 0, none⟩ (.int .i64 0)).setCell ⟨w.heap.size + 1 + 1, 0, none⟩ (.int .i64 0)) D (.deferred none)
    have hrp : ∀ r, some D = some r → w.heap.size ≤ r ∧ ∃ o : Obj, ((((W.setCell ⟨w.heap.size, 0, none⟩ (.string s)).setCell ⟨w.heap.size + 1, 0, none⟩ (.int .i64 0)).setCell ⟨w.heap.size + 1 + 1, 0, none⟩ (.int .i64 0))).heap[r]? = some o ∧ o.isCells = false := fun r e => by injection e with e; subst e; exact ⟨by omega, _, hK2, rfl⟩
    have hI4 := HR3.out.own (Nat.le_refl _) hgp hrp; have y2 := hI4.1.cell 0; have y3 := hI4.2.1.cell 0; have y4 := hI4.2.2.1.cell 0; simp only [qB, qC, qD] at y2 y3 y4
    refine ⟨.tuple #[.string s, .int .i64 0, .int .i64 0], by simp [results, Tryz.results74, go_sem, y2, y3, y4], hI4.2.2.2, _, _, 0, rfl, ⟨fun _ => HI1.out, fun _ => rfl⟩⟩
  case stop =>
    rintro D c pre W hD hpre ⟨rfl, p, hp, hpe, hI2⟩ hK; have HI2 := Lib.hid hI2; have HK2 := Lib.hid hK; have HPE := Lib.hid hpe; have HPP := Lib.hid (hpre.subset hp); clear hI2 hK hpe hpre hp
    gi_wp2
    have hK2 := HK2.out
    refine ⟨by simp, .inl ⟨_, _, rfl, run_takeDeferred hK2, ?_⟩⟩
    have hD2 : w.heap.size + 1 + 1 < D := by rw [hSz] at hD; omega
    have hgp := grownBy_putObj' W D (.deferred none)
    have hrp : ∀ r, some D = some r → w.heap.size ≤ r ∧ ∃ o : Obj, (W).heap[r]? = some o ∧ o.isCells = false := fun r e => by injection e with e; subst e; exact ⟨by omega, _, hK2, rfl⟩
    have hI4 := HI2.out.own (Nat.le_refl _) hgp hrp; have y2 := hI4.1.cell 0; have y3 := hI4.2.1.cell 0; have y4 := hI4.2.2.1.cell 0; simp only [qB, qC, qD] at y2 y3 y4
    refine ⟨.tuple #[.string ⟨#[]⟩, .int .i64 p.a, .int .i64 p.e], by simp [results, Tryz.results74, go_sem, y2, y3, y4], hI4.2.2.2, _, _, p.e, rfl, ⟨fun h => absurd h HPE.out, fun h => absurd (h p HPP.out) HPE.out⟩⟩
end Go.Proofs.YtmjkcanjfjfkfaaGreat
namespace Go.Proofs.YtmjkcanjfjfkfaaGreat
open Go.RowKit Go.Shelf
set_option linter.unusedSimpArgs false
set_option linter.unusedVariables false
def okP (s : ByteArray) : Bool := (PS s).all fun p => p.e == 0
theorem okP_iff (s : ByteArray) : okP s = true ↔ ∀ p ∈ PS s, p.e = 0 := by simp [okP]
theorem valid_is (s : ByteArray) (w : World) : Calls Tryz.prog 57 #[.string s] w fun e w' => e = .returned (.bool (okP s)) ∧ Below w.heap.size w w' := by
  have HP := Lib.hid (parse_is s w); obtain ⟨q, hq⟩ : ∃ q, okP s = q := ⟨_, rfl⟩; rw [hq]; have HQ := Lib.hid hq; clear hq
  go_enter Tryz.func57, Tryz.ntmps57
  go_wp2_with fail
  refine HP.out.mono ?_
  rintro e w' ⟨hb, v1, v2, E, rfl, hE⟩
  have e1 : (E == 0) = q := by
    rw [← okP_iff, HQ.out] at hE
    cases q with
    | true => rw [beq_iff_eq]; exact hE.2 rfl
    | false => rw [beq_eq_false_iff_ne]; exact fun h => by have := hE.1 h; cases this
  have HB := Lib.hid hb; clear hE hb
  go_wp2_with fail
  go_ret
  exact ⟨rfl, HB.out⟩
theorem partsL_len (s : ByteArray) : ∀ (f a c : Nat), (partsL s f a c).length ≤ f + 1
  | 0, _, _ => Nat.zero_le _
  | f + 1, a, c => by
    unfold partsL
    have := partsL_len s f (fstE s a c + 1) (c + 1); rw [List.length_cons]
    split
    · simp
    · split
      · simp
      · split
        · simp
        · omega
theorem PS_len (s : ByteArray) : (PS s).length ≤ 10 := by
  unfold PS
  split
  · simp
  · exact partsL_len s 9 0 0
theorem KpL.grown {W W' : World} {row : Option Nat} (hg : W.grownBy W' row) (hr : ∀ i cs e fr, row = some i → W.heap[i]? = some (.cells cs e fr) → ¬ (e = 152 ∨ e = 9)) : KpL W W' :=
  ⟨hg.size, fun i cs e fr h1 h2 => (hg.block i (Array.getElem?_eq_some_iff.1 h1).1 (fun e1 => hr i cs e fr e1.symm h1 h2)).trans h1⟩
def OrdC (w : World) (pre : List Pt) (W : World) : Prop := (∃ v, Boxed W (w.heap.size + 1) 68 v ∧ W.ownsRow w.heap.size 3 1 v pre.length (pre.map fun p => Value.int .i64 p.o) ∧ True)
theorem ordC_own (w : World) (B : Nat) : OwnFrom B (OrdC w) := Own.from (holdsRow_own w.heap.size (w.heap.size + 1) 68 3 1 (fun (pre : List Pt) => pre.length) (fun (pre : List Pt) => pre.map fun (p : Pt) => Value.int .i64 p.o) (fun _ _ => True)) B
def OrdI (w : World) (pre : List Pt) (W : World) : Prop := (OrdC w pre W ∧ Below w.heap.size w W) ∧ (∀ p ∈ pre, p.e = 0) ∧ Blk W w.heap.size 68 #[.slice none 0 0]
def OrdX (w : World) (c : Code) (pre : List Pt) (W : World) : Prop := c = .ret ∧ (∃ p ∈ pre, p.e ≠ 0) ∧ Blk W w.heap.size 68 #[.slice none 0 0] ∧ Below w.heap.size w W
theorem infoIn : (Tryz.prog.info? 3).map (fun i => (i.zero, i.size, i.bytes)) = some (some (.int .i64 0), 1, 8) := by kernel_rfl
abbrev RdIn (w : World) (v : Value) (l : List Int) : Prop := RdP 3 inC w v l
def ordsL (s : ByteArray) : List Int := (PS s).map Pt.o
theorem ords_fm (l : List Pt) : (l.map Pt.o).flatMap inC = l.map fun p => Value.int .i64 p.o := by
  induction l with
  | nil => rfl
  | cons a l ih => simp only [List.map_cons, List.flatMap_cons, ih]; rfl
def OrdP (s : ByteArray) (w : World) (e : Ending) (w' : World) : Prop := Below w.heap.size w w' ∧ ∃ (A : Option Addr) (n c : Nat), e = .returned (.slice A n c) ∧ (okP s = true → n = (PS s).length ∧ RdIn w' (.slice A n c) (ordsL s))
def ORDW (w : World) (s : ByteArray) : World := ((w.alloc (.cells #[.slice none 0 0] 68)).alloc (.cells #[.slice none 0 0] 68)).alloc (.cells #[.string s] 9)
theorem ordw_start (w : World) (s : ByteArray) : OrdI w [] (ORDW w s) ∧ Blk (ORDW w s) (w.heap.size + 1 + 1) 9 #[.string s] ∧ (ORDW w s).heap.size = w.heap.size + 1 + 1 + 1 := by
  have b1 := Blk.new w 68 #[.slice none 0 0]; have b2 := Blk.new (w.alloc (.cells #[.slice none 0 0] 68)) 68 #[.slice none 0 0]; have b3 := Blk.new ((w.alloc (.cells #[.slice none 0 0] 68)).alloc (.cells #[.slice none 0 0] 68)) 9 #[.string s]
  simp only [World.size_alloc] at b2 b3
  have al := fun (W : World) (o : Obj) => (Below.refl W.heap.size W).alloc (Nat.le_refl _) o
  refine ⟨⟨⟨⟨_, show Boxed _ _ _ _ from b2.next (al _ _) b2.lt, World.ownsRow_nil _ _ _ _, trivial⟩, ?_⟩, fun p h => (by cases h), (b1.next (al _ _) b1.lt).next (al _ _) (b1.next (al _ _) b1.lt).lt⟩, b3, by simp [ORDW]⟩
  exact (((Below.refl _ _).alloc (Nat.le_refl _) _).alloc (by simp) _).alloc (by simp; omega) _
section
attribute [local go_sem] Oper.semAt_some
set_option maxRecDepth 100000 in
set_option maxHeartbeats 4000000 in
theorem ordinals_is (s : ByteArray) (w : World) : Calls Tryz.prog 59 #[.string s] w (OrdP s w) := by
  obtain ⟨hR0, hBt, hSz⟩ := ordw_start w s; obtain ⟨i0, hi, hz0, hz1, hz2⟩ := info_parts infoIn; refine (callsIn_wide (n := 6)).1 ?_
  refine callsIn_of_wp_marks Tryz.func59 rfl trivial ?_ rfl
  simp only [Tryz.ntmps59, List.size_toArray, List.length_cons, List.length_nil, Nat.reduceAdd, Nat.reduceSub, Array.replicate_succ, Array.replicate_zero, List.push_toArray, List.append_toArray, List.nil_append, List.cons_append]
  gi_wp2_with ((try refine ⟨trivial, ?_⟩); gi_at_call 75; refine (parts_in Fence.wide _ trivial rfl _ _).mono ?_; rintro e w' ⟨rfl, rfl⟩)
  refine wpIn_rangeFunc_ownH (w := ORDW w s) rfl (by omega) (gf := 83) (lb := #[.pointer (some ⟨w.heap.size + 1 + 1, 0, none⟩)]) rfl trivial (enters_of Tryz.func83 (by kernel_rfl) rfl)
    (parts_stops _ _ s (ORDW w s) hBt) (fun h k => h.trans k) (fun W l o o' _ h1 h2 _ => KpL.putObj h1 h2) (Below.refl _ _) (fun _ => rfl)
    (OrdI w) (OrdX w) (fun pre W W' row h hg hr => ⟨⟨ordC_own w _ pre W W' row h.1.1 hg hr, h.1.2.trans ⟨hg.os, hg.tape, hg.output, hg.size, fun i hi => hg.block i (Nat.lt_of_lt_of_le hi h.1.2.size) (fun e => by have := (hr i e.symm).1; rw [hSz] at this; omega)⟩⟩, h.2.1, blk_own h.2.2 hg hr⟩) (fun c pre W W' row h hg hr => by
      obtain ⟨h1, h2, h3, h4⟩ := h
      exact ⟨h1, h2, blk_own h3 hg hr, h4.trans ⟨hg.os, hg.tape, hg.output, hg.size, fun i hi => hg.block i (Nat.lt_of_lt_of_le hi h4.size) (fun e => by have := (hr i e.symm).1; rw [hSz] at this; omega)⟩⟩)
    hR0
    (fun x a' W => ∃ pb, a' = { tmps := #[.string s, undef, .pointer (some ⟨w.heap.size, 0, none⟩), .pointer (some ⟨w.heap.size + 1, 0, none⟩), .pointer (some ⟨pb, 0, none⟩), .string s, .func (.func 83) #[] #[.pointer (some ⟨w.heap.size + 1 + 1, 0, none⟩)], .agg #[.int .i64 x.o, .int .i64 x.a, .int .i64 x.e], undef, undef, undef, undef, undef, undef, undef, undef, undef], defers := [] } ∧ Blk W pb 152 #[.int .i64 x.o, .int .i64 x.a, .int .i64 x.e]) (fun x a' _ W W' row h hg hr => by
      obtain ⟨pb, h1, h2⟩ := h
      exact ⟨pb, h1, blk_own h2 hg hr⟩) ?assign ?body ?done ?stop
  case assign =>
    intro l pre x W K hI hK
    have hb := Blk.new W 152 #[.int .i64 x.o, .int .i64 x.a, .int .i64 x.e]; have hal := (Below.refl W.heap.size W).alloc (Nat.le_refl _) (.cells #[.int .i64 x.o, .int .i64 x.a, .int .i64 x.e] 152); obtain ⟨⟨⟨v, hv, hrow, _⟩, hB⟩, hp, hb2⟩ := hI
    simp only [ptV]
    gi_wp2
    exact hK _ _ ((KeepsOthers.alloc W _).from _) (KpL.below hal) ⟨⟨⟨v, hv.alloc _, own_next hrow hal, trivial⟩, hB.trans (hal.mono hB.size)⟩, hp, hb2.next hal hb2.lt⟩ ⟨W.heap.size, rfl, hb⟩
  case body =>
    rintro l pre x a' W hwl hr ⟨⟨⟨v, hv, hrow, _⟩, hB⟩, hpe, hb2⟩ ⟨pb, rfl, hb⟩ hlt; have hpl : pre.length ≤ 10 := Nat.le_of_lt (Nat.lt_of_lt_of_le hlt (PS_len s)); have c0 := hb.cell 0; have c2 := hb.cell 2; have y2 := hb2.cell 0; have f2 := hb2.frozen 0; have hc := hv.cell; simp only [qB, qC, qD] at c0 c2 y2
    by_cases hx : x.e = 0
    · have n1 : (x.e != 0) = false := by rw [hx]; rfl
      have HX := Lib.hid hx; have HPE := Lib.hid hpe; have HB2 := Lib.hid hb2; clear hx hpe hb2
      gi_wp2_with (gi_at_builtin; refine wpListIn_append_own _ rfl _ _ 68 rfl w.heap.size 3 i0 (.int .i64 0) 1 8 Tryz.underlying68 hi hz0 hz1 hz2 rfl (by decide) _ _ _ rfl (hrow.alloc _) ⟨W.heap.size, 0, none⟩ 1 1 [.int .i64 x.o] rfl rfl (cell_one_new _ _ _) (by simp [Value.oneCell']) (by unfold maxLen; omega) (by omega) (by have := hB.size; simp; omega) ?_; intro v' w1 hown' hgrow _; obtain ⟨g', cap', rfl⟩ := ownsRow_succ hown'; obtain ⟨hv1, hv2, hr2, hk2, hb5⟩ := hv.appended (by decide) hrow hB.size (by omega) hown' hgrow; have hc1 := hv1.cell; have hf1 := hv1.frozen; have HG1 := Lib.hid hgrow)
      have hkL : KpL W (w1.setCell ⟨w.heap.size + 1, 0, none⟩ (.slice (some ⟨g', 0, none⟩) (pre.length + 1) cap')) := by
        refine ((KpL.below ((Below.refl W.heap.size W).alloc (Nat.le_refl _) _)).trans (KpL.grown HG1.out ?_)).trans (KpL.grown (row := some (w.heap.size + 1)) (only_setCell (only_of_below (Below.refl _ _) _) (.inl rfl) _) ?_)
        · intro i cs e fr h1 h2 h3
          have ho := own_next hrow ((Below.refl W.heap.size W).alloc (Nat.le_refl _) (.cells #[.int .i64 x.o] 3)); obtain ⟨cur, hcur⟩ := own_cells_of ho h1; rw [hcur] at h2
          injection h2 with h2
          injection h2 with _ h2 _
          subst h2
          rcases h3 with h3 | h3 <;> cases h3
        · intro i cs e fr h1 h2 h3
          injection h1 with h1
          subst h1; have := hv1
          unfold Boxed at this
          rw [this] at h2
          injection h2 with h2
          injection h2 with _ h2 _
          subst h2
          rcases h3 with h3 | h3 <;> cases h3
      refine ⟨hk2.from _, hkL, ⟨⟨_, hv2, by simpa using hr2, trivial⟩, hB.trans hb5⟩, fun p hp => ?_, ?_⟩
      · rcases List.mem_append.1 hp with h | h
        · exact HPE.out p h
        · rw [List.mem_singleton] at h; rw [h]; exact HX.out
      · have hne : v.ownBlock ≠ some w.heap.size := fun e => by
          obtain ⟨cur, hcur⟩ := own_cells_of hrow e; have h3 := HB2.out
          unfold Blk at h3
          rw [h3] at hcur
          injection hcur with hcur
          injection hcur with _ h4 _
          cases h4
        have h4 : Blk w1 w.heap.size 68 #[.slice none 0 0] := (HB2.out.next ((Below.refl W.heap.size W).alloc (Nat.le_refl _) _) HB2.out.lt).grown HG1.out (fun e => hne e.symm)
        exact h4.grown (row := some (w.heap.size + 1)) (only_setCell (only_of_below (Below.refl _ _) _) (.inl rfl) _) (by simp)
    · have n1 : (x.e != 0) = true := by rw [bne_iff_ne]; exact hx
      have HX := Lib.hid hx; have HB2 := Lib.hid hb2; clear hx hb2
      gi_wp2
      have h5 : Blk (W.setCell ⟨w.heap.size, 0, none⟩ (.slice none 0 0)) w.heap.size 68 #[.slice none 0 0] := HB2.out.set_ 0 (.slice none 0 0)
      exact ⟨(KeepsOthers.setCell _ _ _).from _, rfl, ⟨x, by simp, HX.out⟩, h5, hB.setCell (p := ⟨w.heap.size, 0, none⟩) (Nat.le_refl _) _⟩
  case done =>
    rintro D ys W hD rfl ⟨⟨⟨v, hv, hrow, _⟩, hB⟩, hpe, hb2⟩ hK; have hc := hv.cell; have y2 := hb2.cell 0; have f2 := hb2.frozen 0
    simp only [List.getElem?_toArray, List.getElem?_cons_zero] at y2
    obtain ⟨A, cc, rfl, hcc⟩ := own_len hrow; have HB2 := Lib.hid hb2; have HKD := Lib.hid hK; have HRW := Lib.hid (Rd.of_own hrow); clear hb2 hK hpe
    gi_wp2
    have h5 : Blk (W.setCell ⟨w.heap.size, 0, none⟩ (.slice A (PS s).length cc)) w.heap.size 68 #[.slice A (PS s).length cc] := HB2.out.set_ 0 _; have hK2 : (W.setCell ⟨w.heap.size, 0, none⟩ (.slice A (PS s).length cc)).heap[D]? = some (.deferred (some [])) := (KeepsOthers.setCell _ _ _).same D _ HKD.out rfl; have hB5 := hB.setCell (p := ⟨w.heap.size, 0, none⟩) (Nat.le_refl _) (.slice A (PS s).length cc)
    refine ⟨by simp, .inl ⟨_, _, rfl, run_takeDeferred hK2, ?_⟩⟩
    have hgp := grownBy_putObj' (W.setCell ⟨w.heap.size, 0, none⟩ (.slice A (PS s).length cc)) D (.deferred none)
    have hrp : ∀ r, some D = some r → w.heap.size ≤ r ∧ ∃ o : Obj, (W.setCell ⟨w.heap.size, 0, none⟩ (.slice A (PS s).length cc)).heap[r]? = some o ∧ o.isCells = false := fun r e => by injection e with e; subst e; exact ⟨by rw [hSz] at hD; omega, _, hK2, rfl⟩
    have h6 := (blk_own h5 hgp hrp).cell 0
    simp only [List.getElem?_toArray, List.getElem?_cons_zero] at h6
    refine ⟨.slice A (PS s).length cc, by simp [results, Tryz.results59, go_sem, h6], hB5.trans ⟨hgp.os, hgp.tape, hgp.output, hgp.size, fun i hi => hgp.block i (Nat.lt_of_lt_of_le hi hB5.size) (fun e => by injection e with e; rw [hSz] at hD; omega)⟩, A, _, cc, rfl, fun _ => ⟨rfl, ?_⟩⟩
    have hr1 := HRW.out.blk HB2.out (only_setCell (only_of_below (Below.refl W.heap.size W) (some w.heap.size)) (p := ⟨w.heap.size, 0, none⟩) (.inl rfl) (.slice A (PS s).length cc)) (by decide); have hr2 := hr1.kept hgp (fun g cs fr hr hh => by injection hr with hr; subst hr; rw [hK2] at hh; cases hh)
    show Rd _ _ _ (ordsL s).length _
    unfold ordsL
    rw [List.length_map, ords_fm]
    exact hr2
  case stop =>
    rintro D c pre W hD hpre ⟨rfl, ⟨p, hp, hpe⟩, hb2, hB⟩ hK; have HB2 := Lib.hid hb2; have HKD := Lib.hid hK
    have HNO : Hid (okP s = true → False) := Lib.hid fun h => hpe ((okP_iff s).1 h p (hpre.subset hp))
    clear hb2 hK hpe hpre hp
    gi_wp2
    have hK2 := HKD.out
    refine ⟨by simp, .inl ⟨_, _, rfl, run_takeDeferred hK2, ?_⟩⟩
    have hgp := grownBy_putObj' W D (.deferred none)
    have hrp : ∀ r, some D = some r → w.heap.size ≤ r ∧ ∃ o : Obj, W.heap[r]? = some o ∧ o.isCells = false := fun r e => by injection e with e; subst e; exact ⟨by rw [hSz] at hD; omega, _, hK2, rfl⟩
    have h6 := (blk_own HB2.out hgp hrp).cell 0
    simp only [List.getElem?_toArray, List.getElem?_cons_zero] at h6
    refine ⟨.slice none 0 0, by simp [results, Tryz.results59, go_sem, h6], hB.trans ⟨hgp.os, hgp.tape, hgp.output, hgp.size, fun i hi => hgp.block i (Nat.lt_of_lt_of_le hi hB.size) (fun e => by injection e with e; rw [hSz] at hD; omega)⟩, none, 0, 0, rfl, fun h => (HNO.out h).elim⟩
end
def cmpL : List Int → List Int → Int
  | [], [] => 0
  | [], _ :: _ => -1
  | _ :: _, [] => 1
  | a :: l, b :: m => if cmpI a b ≠ 0 then cmpI a b else cmpL l m
def SlRel (a b : List Int) (w : World) (i : Value) (wr : World) : Prop := ∃ k : Nat, k ≤ a.length ∧ k ≤ b.length ∧ i = .int .i64 k ∧ cmpL (a.drop k) (b.drop k) = cmpL a b ∧ wr = w
set_option maxRecDepth 100000 in
set_option maxHeartbeats 1000000 in
theorem slcmp_is {A1 A2 : Option Addr} {c1 c2 : Nat} {a b : List Int} {w : World} (h1 : RdIn w (.slice A1 a.length c1) a) (h2 : RdIn w (.slice A2 b.length c2) b) (la : a.length ≤ 100) (lb : b.length ≤ 100) : Calls Tryz.prog 58 #[.slice A1 a.length c1, .slice A2 b.length c2] w fun e w' => e = .returned (.int .i64 (cmpL a b)) ∧ w = w' := by
  have H1 := Lib.hid h1; have H2 := Lib.hid h2; obtain ⟨Q, hQ⟩ : ∃ Q, cmpL a b = Q := ⟨_, rfl⟩; have HQ := Lib.hid hQ; rw [hQ]; clear h1 h2 hQ; have H0 : Hid (SlRel a b w (.int .i64 (0 : Nat)) w) := Lib.hid ⟨0, Nat.zero_le _, Nat.zero_le _, rfl, by simp, rfl⟩
  go_enter Tryz.func58, Tryz.ntmps58
  go_wp2_with fail
  go_loopw [11] (fun i wr => SlRel a b w i wr) (fun i _ => a.length - (intOf i).toNat)
  case atStart => exact H0.out
  case round =>
    clear H0; obtain ⟨k, hka, hkb, rfl, hz, hw⟩ := hrel; have HZ := Lib.hid hz; subst hw; clear hz
    have j1 : (0 : Int) ≤ (k : Int) := by omega
    by_cases hk : k < a.length
    · have j2 : (k : Int) < (a.length : Int) := by omega
      have j3 : decide ((k : Int) < (a.length : Int)) = true := decide_eq_true j2; obtain ⟨b1, o1, hb1, hl1, hc1⟩ := RdP.at_ H1.out inC_len hk; subst hb1; have x1 := hc1 0 _ rfl; rw [Nat.mul_one, Nat.add_zero] at x1; have HDA := Lib.hid (List.drop_eq_getElem_cons hk); obtain ⟨xa, hxa⟩ : ∃ x, a[k] = x := ⟨_, rfl⟩; rw [hxa] at x1 HDA; clear hc1 hxa
      by_cases hkb2 : k < b.length
      · have j4 : (k : Int) < (b.length : Int) := by omega
        have j5 : decide ((b.length : Int) ≤ (k : Int)) = false := decide_eq_false (by omega); obtain ⟨b2, o2, hb2, hl2, hc2⟩ := RdP.at_ H2.out inC_len hkb2; subst hb2; have x2 := hc2 0 _ rfl; rw [Nat.mul_one, Nat.add_zero] at x2; have HDB := Lib.hid (List.drop_eq_getElem_cons hkb2); obtain ⟨xb, hxb⟩ : ∃ x, b[k] = x := ⟨_, rfl⟩; rw [hxb] at x2 HDB; have HST := Lib.hid (show (if cmpI xa xb ≠ 0 then cmpI xa xb else cmpL (a.drop (k + 1)) (b.drop (k + 1))) = Q by rw [← HQ.out, ← HZ.out, HDA.out, HDB.out]; rfl); have HCI := Lib.hid (cmp_i xa xb wr); obtain ⟨q, hq⟩ : ∃ q, cmpI xa xb = q := ⟨_, rfl⟩; rw [hq] at HST HCI; clear hc2 hxb hq HDA HDB HZ
        by_cases hq0 : q = 0
        · have e1 : (q != 0) = false := by rw [hq0]; rfl
          have HQ0 := Lib.hid hq0; clear hq0
          go_wp2_with (go_at_call 36; refine HCI.out.mono ?_; rintro e w1 ⟨rfl, rfl⟩)
          go_roundw
          case rel => exact ⟨k + 1, by omega, by omega, by go_num, by rw [HQ.out, ← HST.out, if_neg (fun h => h HQ0.out)], rfl⟩
          case measure => simp [intOf]; omega
        · have e1 : (q != 0) = true := by rw [bne_iff_ne]; exact hq0
          have HQ0 := Lib.hid hq0; clear hq0
          go_wp2_with (go_at_call 36; refine HCI.out.mono ?_; rintro e w1 ⟨rfl, rfl⟩)
          go_ret
          exact ⟨by rw [← HST.out, if_pos HQ0.out]; rfl, rfl⟩
      · have j5 : decide ((b.length : Int) ≤ (k : Int)) = true := decide_eq_true (by omega)
        have HST := Lib.hid (show (1 : Int) = Q by rw [← HQ.out, ← HZ.out, HDA.out, List.drop_of_length_le (show b.length ≤ k by omega)]; rfl); clear HDA HZ
        go_wp2_with fail
        go_ret
        exact ⟨by rw [← HST.out]; rfl, rfl⟩
    · have j3 : decide ((k : Int) < (a.length : Int)) = false := decide_eq_false (by omega)
      have j4 : decide (k < a.length) = false := decide_eq_false hk
      have hka2 : k = a.length := by omega
      by_cases hl : a.length < b.length
      · have e1 : decide ((a.length : Int) < (b.length : Int)) = true := decide_eq_true (by omega)
        have e2 : decide (a.length < b.length) = true := decide_eq_true hl; have HST := Lib.hid (show (-1 : Int) = Q by rw [← HQ.out, ← HZ.out, List.drop_of_length_le (show a.length ≤ k by omega), List.drop_eq_getElem_cons (show k < b.length by omega)]; rfl); clear HZ hka2 hk
        go_wp2_with fail
        go_ret
        exact ⟨by rw [← HST.out]; rfl, rfl⟩
      · have e1 : decide ((a.length : Int) < (b.length : Int)) = false := decide_eq_false (by omega)
        have e2 : decide (a.length < b.length) = false := decide_eq_false hl; have HST := Lib.hid (show (0 : Int) = Q by rw [← HQ.out, ← HZ.out, List.drop_of_length_le (show a.length ≤ k by omega), List.drop_of_length_le (show b.length ≤ k by omega)]; rfl); clear HZ hka2 hk
        go_wp2_with fail
        go_ret
        exact ⟨by rw [← HST.out]; rfl, rfl⟩
set_option maxRecDepth 100000 in
theorem lin_cmp2 (a b : Bs) (w : World) (ha : okP (bs a) = true) (hb : okP (bs b) = true) : Calls Tryz.prog 37 #[.string (bs a), .string (bs b)] w fun e w' => e = .returned (.int .i64 (if a = b then 0 else cmpL (ordsL (bs a)) (ordsL (bs b)))) ∧ Below w.heap.size w w' := by
  by_cases hne : a = b
  · subst hne
    rw [if_pos rfl]; refine (lin_same (bs a) w).mono ?_; rintro e w' ⟨rfl, rfl⟩
    exact ⟨rfl, Below.refl _ _⟩
  · rw [if_neg hne]
    have e0 : ((bs a).toList == (bs b).toList) = false := by
      rw [bs_toList, bs_toList, beq_eq_false_iff_ne]
      exact hne
    have HA := Lib.hid ha; have HB := Lib.hid hb; have HLA := Lib.hid (show (ordsL (bs a)).length ≤ 100 by unfold ordsL; rw [List.length_map]; exact Nat.le_trans (PS_len _) (by omega)); have HLB := Lib.hid (show (ordsL (bs b)).length ≤ 100 by unfold ordsL; rw [List.length_map]; exact Nat.le_trans (PS_len _) (by omega)); have HEA := Lib.hid (show (PS (bs a)).length = (ordsL (bs a)).length by unfold ordsL; rw [List.length_map]); have HEB := Lib.hid (show (PS (bs b)).length = (ordsL (bs b)).length by unfold ordsL; rw [List.length_map]); have HVA := Lib.hid (fun W => valid_is (bs a) W); have HVB := Lib.hid (fun W => valid_is (bs b) W); have HOA := Lib.hid (fun W => ordinals_is (bs a) W); have HOB := Lib.hid (fun W => ordinals_is (bs b) W); clear ha hb hne; generalize bs a = sa at *; generalize bs b = sb at *
    go_enter Tryz.func37, Tryz.ntmps37
    have O1 : True := trivial; have O2 : True := trivial
    go_wp2_with (first
      | (clear O1; go_at_call 57; refine (HVA.out _).mono ?_; rintro e w1 ⟨rfl, hb1⟩; rw [HA.out]; have HB1 := Lib.hid hb1; clear hb1)
      | (go_at_call 57; refine (HVB.out _).mono ?_; rintro e w2 ⟨rfl, hb2⟩; rw [HB.out]; have HB2 := Lib.hid (HB1.out.trans (hb2.mono HB1.out.size)); clear hb2)
      | (clear O2; go_at_call 59; refine (HOA.out _).mono ?_; rintro e w3 ⟨hb3, A3, n3, c3, rfl, hn3⟩; obtain ⟨rfl, hr3⟩ := hn3 HA.out; rw [HEA.out] at hr3 ⊢; have HR3 := Lib.hid hr3; have HB3 := Lib.hid (HB2.out.trans (hb3.mono HB2.out.size)); clear hb3 hn3 hr3)
      | (go_at_call 59; refine (HOB.out _).mono ?_; rintro e w4 ⟨hb4, A4, n4, c4, rfl, hn4⟩; obtain ⟨rfl, hr4⟩ := hn4 HB.out; rw [HEB.out] at hr4 ⊢; have HR4 := Lib.hid hr4; have HR34 := Lib.hid (RdP.next HR3.out hb4); have HB4 := Lib.hid (HB3.out.trans (hb4.mono HB3.out.size)); clear hb4 hn4 hr4)
      | (go_at_call 58; refine (slcmp_is HR34.out HR4.out HLA.out HLB.out).mono ?_; rintro e w5 ⟨rfl, rfl⟩))
    go_ret
    exact ⟨rfl, HB4.out⟩
theorem lin5_ok : ∀ a ∈ lin5, okP (bs a) = true := by decide +kernel
theorem lin5_cmp : ∀ a ∈ lin5, ∀ b ∈ lin5, (if a = b then (0 : Int) else cmpL (ordsL (bs a)) (ordsL (bs b))) = cmpS a b := by decide +kernel
theorem lin_cmp5 {a b : Bs} (w : World) (ha : a ∈ lin5) (hb : b ∈ lin5) : Calls Tryz.prog 37 #[.string (bs a), .string (bs b)] w fun e w' => e = .returned (.int .i64 (cmpS a b)) ∧ Below w.heap.size w w' := by
  have h := lin_cmp2 a b w (lin5_ok a ha) (lin5_ok b hb); rw [lin5_cmp a ha b hb] at h
  exact h
end Go.Proofs.YtmjkcanjfjfkfaaGreat
namespace Go.Proofs.YtmjkcanjfjfkfaaGreat
open Go.RowKit
set_option linter.unusedSimpArgs false
set_option linter.unusedVariables false
attribute [local go_sem ↓] Go.wp_at_zero Go.wp_at_succ
theorem own_lt {w : World} {base e s n : Nat} {v : Value} {xs : List Value} (h : w.ownsRow base e s v n xs) {g : Nat} (hg : v.ownBlock = some g) : g < w.heap.size := by
  obtain ⟨_, ⟨rfl, _⟩ | ⟨g', cap', cur, rfl, _, hh, _⟩⟩ := h
  · simp [Value.ownBlock] at hg
  · simp [Value.ownBlock] at hg
    subst hg
    exact (Array.getElem?_eq_some_iff.1 hh).1
theorem or_4 (a b c d : Int) (w : World) (A : Nat) (h0 : w.cell? ⟨A, 0, none⟩ = some (.int .i64 a)) (h1 : w.cell? ⟨A, 1, none⟩ = some (.int .i64 b)) (h2 : w.cell? ⟨A, 2, none⟩ = some (.int .i64 c)) (h3 : w.cell? ⟨A, 3, none⟩ = some (.int .i64 d)) : Calls Tryz.prog 35 #[.slice (some ⟨A, 0, none⟩) 4 4] w fun e w' => e = .returned (.int .i64 (or4 a b c d)) ∧ w = w' := by
  have hc : Hid (or4 a b c d = if a ≠ 0 then a else if b ≠ 0 then b else if c ≠ 0 then c else d) := Lib.hid (by unfold or4 or3; by_cases h1 : a = 0 <;> by_cases h2 : b = 0 <;> by_cases h3 : c = 0 <;> simp [h1, h2, h3])
  go_enter Tryz.func35, Tryz.ntmps35
  go_wp2
  go_loop [8] (fun i => ∃ k : Nat, k ≤ 4 ∧ i = .int .i64 k ∧ (0 < k → a = 0) ∧ (1 < k → b = 0) ∧ (2 < k → c = 0) ∧ (3 < k → d = 0)) (fun i => 4 - (intOf i).toNat)
  case atStart => exact ⟨0, by omega, rfl, by omega, by omega, by omega, by omega⟩
  case round =>
    obtain ⟨k, hk, rfl, p0, p1, p2, p3⟩ := hrel
    have hcases : k = 0 ∨ k = 1 ∨ k = 2 ∨ k = 3 ∨ k = 4 := by omega
    rcases hcases with rfl | rfl | rfl | rfl | rfl
    · clear p0 p1 p2 p3 hk
      by_cases ha : a = 0
      · have e1 : (a != 0) = false := by simp [ha]
        go_wp2
        go_round
        case rel => exact ⟨1, by omega, rfl, fun _ => ha, by omega, by omega, by omega⟩
        case measure => simp [intOf]
      · have e1 : (a != 0) = true := by simp [ha]
        go_wp2
        go_ret
        exact ⟨by rw [hc.out, if_pos ha]; rfl, rfl⟩
    · have ha := p0 (by omega)
      clear p0 p1 p2 p3 hk
      by_cases hb : b = 0
      · have e1 : (b != 0) = false := by simp [hb]
        have HA := Lib.hid ha; clear ha
        go_wp2
        go_round
        case rel => exact ⟨2, by omega, rfl, fun _ => HA.out, fun _ => hb, by omega, by omega⟩
        case measure => simp [intOf]
      · have e1 : (b != 0) = true := by simp [hb]
        have HA := Lib.hid ha; clear ha
        go_wp2
        go_ret
        exact ⟨by rw [hc.out, if_neg (by simp [HA.out]), if_pos hb]; rfl, rfl⟩
    · have HA := Lib.hid (p0 (by omega))
      have HB := Lib.hid (p1 (by omega)); clear p0 p1 p2 p3 hk
      by_cases hcc : c = 0
      · have e1 : (c != 0) = false := by simp [hcc]
        go_wp2
        go_round
        case rel => exact ⟨3, by omega, rfl, fun _ => HA.out, fun _ => HB.out, fun _ => hcc, by omega⟩
        case measure => simp [intOf]
      · have e1 : (c != 0) = true := by simp [hcc]
        go_wp2
        go_ret
        exact ⟨by rw [hc.out, if_neg (by simp [HA.out]), if_neg (by simp [HB.out]), if_pos hcc]; rfl, rfl⟩
    · have HA := Lib.hid (p0 (by omega))
      have HB := Lib.hid (p1 (by omega)); have HC := Lib.hid (p2 (by omega)); clear p0 p1 p2 p3 hk
      by_cases hd : d = 0
      · have e1 : (d != 0) = false := by simp [hd]
        go_wp2
        go_round
        case rel => exact ⟨4, by omega, rfl, fun _ => HA.out, fun _ => HB.out, fun _ => HC.out, fun _ => hd⟩
        case measure => simp [intOf]
      · have e1 : (d != 0) = true := by simp [hd]
        go_wp2
        go_ret
        exact ⟨by rw [hc.out, if_neg (by simp [HA.out]), if_neg (by simp [HB.out]), if_neg (by simp [HC.out])]; rfl, rfl⟩
    · have HA := Lib.hid (p0 (by omega))
      have HB := Lib.hid (p1 (by omega)); have HC := Lib.hid (p2 (by omega)); have HD := Lib.hid (p3 (by omega)); clear p0 p1 p2 p3 hk
      go_wp2
      go_ret
      exact ⟨by rw [hc.out, if_neg (by simp [HA.out]), if_neg (by simp [HB.out]), if_neg (by simp [HC.out]), HD.out]; rfl, rfl⟩
set_option maxRecDepth 100000 in
set_option maxHeartbeats 1000000 in
theorem key_compare (a k : Ky) (w : World) (ha : a.lin ∈ lin5) (hk : k.lin ∈ lin5) : Calls Tryz.prog 11 #[kyV a, kyV k] w fun e w' => e = .returned (.int .i64 (cmpK a k)) ∧ Below w.heap.size w w' := by
  have HN := Lib.hid (cmp_i a.tick k.tick); have HI := Lib.hid (cmp_i a.cls k.cls); have HT := Lib.hid (cmp_i a.num k.num); have HO := Lib.hid (fun W => lin_cmp5 W ha hk)
  unfold kyV cmpK
  generalize cmpI a.tick k.tick = c1 at *; generalize cmpI a.cls k.cls = c2 at *; generalize cmpI a.num k.num = c3 at *; generalize cmpS a.lin k.lin = c4 at *; have hb : Below w.heap.size w ((w.alloc (.cells #[.int .i64 a.tick, .int .i64 a.cls, .int .i64 a.num, .string (bs a.lin)] 35)).alloc (.cells #[.int .i64 k.tick, .int .i64 k.cls, .int .i64 k.num, .string (bs k.lin)] 35)) := ((Below.refl _ _).alloc (Nat.le_refl _) _).alloc (by simp) _; have b0 := (Blk.new w 35 #[.int .i64 a.tick, .int .i64 a.cls, .int .i64 a.num, .string (bs a.lin)]).alloc (.cells #[.int .i64 k.tick, .int .i64 k.cls, .int .i64 k.num, .string (bs k.lin)] 35); have b1 := Blk.new (w.alloc (.cells #[.int .i64 a.tick, .int .i64 a.cls, .int .i64 a.num, .string (bs a.lin)] 35)) 35 #[.int .i64 k.tick, .int .i64 k.cls, .int .i64 k.num, .string (bs k.lin)]; rw [World.size_alloc] at b1; have x0 := b0.cell 0; have x1 := b0.cell 1; have x2 := b0.cell 2; have x3 := b0.cell 3; have y0 := b1.cell 0; have y1 := b1.cell 1; have y2 := b1.cell 2; have y3 := b1.cell 3; have hcb := b0.lt; have hdb := b1.lt; simp only [qB, qC, qD] at x0 x1 x2 x3 y0 y1 y2 y3; have HB := Lib.hid hb; clear b0 b1 hb ha hk
  go_enter Tryz.func11, Tryz.ntmps11
  go_upto_region 1 with (fail)
  generalize ((w.alloc (.cells #[.int .i64 a.tick, .int .i64 a.cls, .int .i64 a.num, .string (bs a.lin)] 35)).alloc (.cells #[.int .i64 k.tick, .int .i64 k.cls, .int .i64 k.num, .string (bs k.lin)] 35)) = W at *; obtain ⟨db, hdbe⟩ : ∃ db, w.heap.size + 1 = db := ⟨_, rfl⟩; rw [hdbe] at y0 y1 y2 y3 hdb ⊢; obtain ⟨cb, hcbe⟩ : ∃ cb, w.heap.size = cb := ⟨_, rfl⟩; have HCB := Lib.hid hcbe; rw [hcbe] at x0 x1 x2 x3 hcb ⊢; clear hdbe hcbe
  refine wp_region_noPanic ?_
  refine wp_region_held_drew (S := (fun (w' : World) => w'.cell? ⟨cb, 0, none⟩ = some (.int .i64 a.tick) ∧ w'.cell? ⟨cb, 1, none⟩ = some (.int .i64 a.cls) ∧ w'.cell? ⟨cb, 2, none⟩ = some (.int .i64 a.num) ∧ w'.cell? ⟨cb, 3, none⟩ = some (.string (bs a.lin)) ∧ w'.cell? ⟨db, 0, none⟩ = some (.int .i64 k.tick) ∧ w'.cell? ⟨db, 1, none⟩ = some (.int .i64 k.cls) ∧ w'.cell? ⟨db, 2, none⟩ = some (.int .i64 k.num) ∧ w'.cell? ⟨db, 3, none⟩ = some (.string (bs k.lin)))) (by kernel_rfl) ?_ (fun hHeld => ?_)
  · exact ⟨x0, x1, x2, x3, y0, y1, y2, y3⟩
  refine tk (v := ?_) 0 rfl (by kernel_rfl) (fun _ _ _ h => h) ?_ hHeld ?_; rotate_left
  · (intro w h; (try dsimp only at h); go_simp; try with_reducible rfl)
  try simp only [Act.put, pB, pC, pD]
  refine tk (v := ?_) 1 rfl (by kernel_rfl) (fun _ _ _ h => h) ?_ hHeld ?_; rotate_left
  · (intro w h; (try dsimp only at h); go_simp; try with_reducible rfl)
  try simp only [Act.put, pB, pC, pD]
  refine tk (v := ?_) 2 rfl (by kernel_rfl) (fun _ _ _ h => h) ?_ hHeld ?_; rotate_left
  · (intro w h; (try dsimp only at h); go_simp; try with_reducible rfl)
  try simp only [Act.put, pB, pC, pD]
  refine tk (v := ?_) 3 rfl (by kernel_rfl) (fun _ _ _ h => h) ?_ hHeld ?_; rotate_left
  · (intro w h; (try dsimp only at h); go_simp; try with_reducible rfl)
  try simp only [Act.put, pB, pC, pD]
  refine tk (v := ?_) 5 rfl (by kernel_rfl) (fun _ _ _ h => h) ?_ hHeld ?_; rotate_left
  · (intro w h; (try dsimp only at h); go_simp; try with_reducible rfl)
  try simp only [Act.put, pB, pC, pD]
  refine tk (v := ?_) 6 rfl (by kernel_rfl) (fun _ _ _ h => h) ?_ hHeld ?_; rotate_left
  · (intro w h; (try dsimp only at h); go_simp; try with_reducible rfl)
  try simp only [Act.put, pB, pC, pD]
  refine tk (v := ?_) 7 rfl (by kernel_rfl) (fun _ _ _ h => h) ?_ hHeld ?_; rotate_left
  · (intro w h; (try dsimp only at h); go_simp; try with_reducible rfl)
  try simp only [Act.put, pB, pC, pD]
  refine tk (v := ?_) 8 rfl (by kernel_rfl) (fun _ _ _ h => h) ?_ hHeld ?_; rotate_left
  · (intro w h; (try dsimp only at h); go_simp; try with_reducible rfl)
  try simp only [Act.put, pB, pC, pD]
  refine tk (v := ?_) 10 rfl (by kernel_rfl) (fun _ _ _ h => h) ?_ hHeld ?_; rotate_left
  · (intro w h; (try dsimp only at h); go_simp; try with_reducible rfl)
  try simp only [Act.put, pB, pC, pD]
  refine tk (v := ?_) 11 rfl (by kernel_rfl) (fun _ _ _ h => h) ?_ hHeld ?_; rotate_left
  · (intro w h; (try dsimp only at h); go_simp; try with_reducible rfl)
  try simp only [Act.put, pB, pC, pD]
  refine tk (v := ?_) 12 rfl (by kernel_rfl) (fun _ _ _ h => h) ?_ hHeld ?_; rotate_left
  · (intro w h; (try dsimp only at h); go_simp; try with_reducible rfl)
  try simp only [Act.put, pB, pC, pD]
  refine tk (v := ?_) 13 rfl (by kernel_rfl) (fun _ _ _ h => h) ?_ hHeld ?_; rotate_left
  · (intro w h; (try dsimp only at h); go_simp; try with_reducible rfl)
  try simp only [Act.put, pB, pC, pD]
  refine tk (v := ?_) 15 rfl (by kernel_rfl) (fun _ _ _ h => h) ?_ hHeld ?_; rotate_left
  · (intro w h; (try dsimp only at h); go_simp; try with_reducible rfl)
  try simp only [Act.put, pB, pC, pD]
  refine tk (v := ?_) 16 rfl (by kernel_rfl) (fun _ _ _ h => h) ?_ hHeld ?_; rotate_left
  · (intro w h; (try dsimp only at h); go_simp; try with_reducible rfl)
  try simp only [Act.put, pB, pC, pD]
  refine tk (v := ?_) 17 rfl (by kernel_rfl) (fun _ _ _ h => h) ?_ hHeld ?_; rotate_left
  · (intro w h; (try dsimp only at h); go_simp; try with_reducible rfl)
  try simp only [Act.put, pB, pC, pD]
  refine tk (v := ?_) 18 rfl (by kernel_rfl) (fun _ _ _ h => h) ?_ hHeld ?_; rotate_left
  · (intro w h; (try dsimp only at h); go_simp; try with_reducible rfl)
  try simp only [Act.put, pB, pC, pD]
  refine wpAnyH_ready (rs := [4]) (by kernel_rfl) (by simp) ?_; refine AllReadyH.cons rfl (fun K hK => ?_) AllReadyH.nil; go_simp; refine (HN.out _).mono ?_; rintro e w' ⟨rfl, rfl⟩
  try (go_wp2_with fail)
  refine hK.out _ _ ?_ (fun hNew => ?_)
  · exact ⟨x0, x1, x2, x3, y0, y1, y2, y3⟩
  clear hK K hHeld; have hHeld := hNew; clear hNew; try simp only [Act.put, pB, pC, pD]
  refine wpAnyH_ready (rs := [9]) (by kernel_rfl) (by simp) ?_; refine AllReadyH.cons rfl (fun K hK => ?_) AllReadyH.nil; go_simp; refine (HI.out _).mono ?_; rintro e w' ⟨rfl, rfl⟩
  try (go_wp2_with fail)
  refine hK.out _ _ ?_ (fun hNew => ?_)
  · exact ⟨x0, x1, x2, x3, y0, y1, y2, y3⟩
  clear hK K hHeld; have hHeld := hNew; clear hNew; try simp only [Act.put, pB, pC, pD]
  refine wpAnyH_ready (rs := [14]) (by kernel_rfl) (by simp) ?_; refine AllReadyH.cons rfl (fun K hK => ?_) AllReadyH.nil; go_simp; refine (HT.out _).mono ?_; rintro e w' ⟨rfl, rfl⟩
  try (go_wp2_with fail)
  refine hK.out _ _ ?_ (fun hNew => ?_)
  · exact ⟨x0, x1, x2, x3, y0, y1, y2, y3⟩
  clear hK K hHeld; have hHeld := hNew; clear hNew; try simp only [Act.put, pB, pC, pD]
  refine wpAnyH_ready (rs := [19]) (by kernel_rfl) (by simp) ?_; refine AllReadyH.cons rfl (fun K hK => ?_) AllReadyH.nil; go_simp; refine (HO.out W.drew).mono ?_; rintro e w3 ⟨rfl, hb3⟩; have HB3 := Lib.hid ((Below.refl W.heap.size W).drew.trans hb3); clear hb3
  try (go_wp2_with fail)
  refine hK.out _ _ ?_ (fun hNew => ?_)
  · exact ⟨(HB3.out.cell (p := ⟨cb, 0, none⟩) hcb).trans x0, (HB3.out.cell (p := ⟨cb, 1, none⟩) hcb).trans x1, (HB3.out.cell (p := ⟨cb, 2, none⟩) hcb).trans x2, (HB3.out.cell (p := ⟨cb, 3, none⟩) hcb).trans x3, (HB3.out.cell (p := ⟨db, 0, none⟩) hdb).trans y0, (HB3.out.cell (p := ⟨db, 1, none⟩) hdb).trans y1, (HB3.out.cell (p := ⟨db, 2, none⟩) hdb).trans y2, (HB3.out.cell (p := ⟨db, 3, none⟩) hdb).trans y3⟩
  clear hK K hHeld; have hHeld := hNew; clear hNew; try simp only [Act.put, pB, pC, pD]
  refine wpAnyH_ready (rs := [20]) (by kernel_rfl) (by simp) ?_; refine AllReadyH.cons rfl (fun K hK => ?_) AllReadyH.nil; go_simp
  refine hK.out _ _ ?_ (fun hNew => ?_)
  · exact ⟨((HB3.out.alloc HB3.out.size (.cells #[.int .i64 c1, .int .i64 c2, .int .i64 c3, .int .i64 c4] 3)).cell (p := ⟨cb, 0, none⟩) hcb).trans x0, ((HB3.out.alloc HB3.out.size (.cells #[.int .i64 c1, .int .i64 c2, .int .i64 c3, .int .i64 c4] 3)).cell (p := ⟨cb, 1, none⟩) hcb).trans x1, ((HB3.out.alloc HB3.out.size (.cells #[.int .i64 c1, .int .i64 c2, .int .i64 c3, .int .i64 c4] 3)).cell (p := ⟨cb, 2, none⟩) hcb).trans x2, ((HB3.out.alloc HB3.out.size (.cells #[.int .i64 c1, .int .i64 c2, .int .i64 c3, .int .i64 c4] 3)).cell (p := ⟨cb, 3, none⟩) hcb).trans x3, ((HB3.out.alloc HB3.out.size (.cells #[.int .i64 c1, .int .i64 c2, .int .i64 c3, .int .i64 c4] 3)).cell (p := ⟨db, 0, none⟩) hdb).trans y0, ((HB3.out.alloc HB3.out.size (.cells #[.int .i64 c1, .int .i64 c2, .int .i64 c3, .int .i64 c4] 3)).cell (p := ⟨db, 1, none⟩) hdb).trans y1, ((HB3.out.alloc HB3.out.size (.cells #[.int .i64 c1, .int .i64 c2, .int .i64 c3, .int .i64 c4] 3)).cell (p := ⟨db, 2, none⟩) hdb).trans y2, ((HB3.out.alloc HB3.out.size (.cells #[.int .i64 c1, .int .i64 c2, .int .i64 c3, .int .i64 c4] 3)).cell (p := ⟨db, 3, none⟩) hdb).trans y3⟩
  clear hK K hHeld; have hHeld := hNew; clear hNew; try simp only [Act.put, pB, pC, pD]
  refine wpAnyH_ready (rs := [21]) (by kernel_rfl) (by simp) ?_; refine AllReadyH.cons rfl (fun K hK => ?_) AllReadyH.nil; go_simp; refine (or_4 c1 c2 c3 c4 _ w3.heap.size ((Blk.new w3 3 #[.int .i64 c1, .int .i64 c2, .int .i64 c3, .int .i64 c4]).cell 0) ((Blk.new w3 3 #[.int .i64 c1, .int .i64 c2, .int .i64 c3, .int .i64 c4]).cell 1) ((Blk.new w3 3 #[.int .i64 c1, .int .i64 c2, .int .i64 c3, .int .i64 c4]).cell 2) ((Blk.new w3 3 #[.int .i64 c1, .int .i64 c2, .int .i64 c3, .int .i64 c4]).cell 3)).mono ?_; rintro e w' ⟨rfl, rfl⟩
  try (go_wp2_with fail)
  refine hK.out _ _ ?_ (fun hNew => ?_)
  · exact ⟨((HB3.out.alloc HB3.out.size (.cells #[.int .i64 c1, .int .i64 c2, .int .i64 c3, .int .i64 c4] 3)).cell (p := ⟨cb, 0, none⟩) hcb).trans x0, ((HB3.out.alloc HB3.out.size (.cells #[.int .i64 c1, .int .i64 c2, .int .i64 c3, .int .i64 c4] 3)).cell (p := ⟨cb, 1, none⟩) hcb).trans x1, ((HB3.out.alloc HB3.out.size (.cells #[.int .i64 c1, .int .i64 c2, .int .i64 c3, .int .i64 c4] 3)).cell (p := ⟨cb, 2, none⟩) hcb).trans x2, ((HB3.out.alloc HB3.out.size (.cells #[.int .i64 c1, .int .i64 c2, .int .i64 c3, .int .i64 c4] 3)).cell (p := ⟨cb, 3, none⟩) hcb).trans x3, ((HB3.out.alloc HB3.out.size (.cells #[.int .i64 c1, .int .i64 c2, .int .i64 c3, .int .i64 c4] 3)).cell (p := ⟨db, 0, none⟩) hdb).trans y0, ((HB3.out.alloc HB3.out.size (.cells #[.int .i64 c1, .int .i64 c2, .int .i64 c3, .int .i64 c4] 3)).cell (p := ⟨db, 1, none⟩) hdb).trans y1, ((HB3.out.alloc HB3.out.size (.cells #[.int .i64 c1, .int .i64 c2, .int .i64 c3, .int .i64 c4] 3)).cell (p := ⟨db, 2, none⟩) hdb).trans y2, ((HB3.out.alloc HB3.out.size (.cells #[.int .i64 c1, .int .i64 c2, .int .i64 c3, .int .i64 c4] 3)).cell (p := ⟨db, 3, none⟩) hdb).trans y3⟩
  clear hK K hHeld; have hHeld := hNew; clear hNew; try simp only [Act.put, pB, pC, pD]
  refine tk (v := ?_) 22 rfl (by kernel_rfl) (fun _ _ _ h => h) ?_ hHeld ?_; rotate_left
  · (intro w h; (try dsimp only at h); go_simp; try with_reducible rfl)
  try simp only [Act.put, pB, pC, pD]
  refine wpAnyH_done (by kernel_rfl) ?_ _; clear hHeld
  try simp only [List.getElem_toArray, List.getElem_cons_zero, List.getElem_cons_succ, Act.put, pB, pC, pD]
  refine NoPanic.normal ?_
  go_wp2_with fail
  go_ret
  exact ⟨rfl, HB.out.trans ((HB3.out.alloc HB3.out.size _).mono HB.out.size)⟩
end Go.Proofs.YtmjkcanjfjfkfaaGreat
namespace Go.Proofs.YtmjkcanjfjfkfaaGreat
open Go.RowKit Go.MapKept Go.ChangeMaps
set_option linter.unusedSimpArgs false
set_option linter.unusedVariables false
structure Lk where
  frm : Int
  to_ : Int
  name : Nm
deriving DecidableEq
def lkC (x : Lk) : List Value := [.int .i64 x.frm, .int .i64 x.to_, .int .i64 x.name.kind, .string (bs x.name.owner), .int .i64 x.name.num, .int .i64 x.name.idx, .string (bs x.name.text)]
def lkV (x : Lk) : Value := .agg #[.int .i64 x.frm, .int .i64 x.to_, .int .i64 x.name.kind, .string (bs x.name.owner), .int .i64 x.name.num, .int .i64 x.name.idx, .string (bs x.name.text)]
theorem lkC_len (x : Lk) : (lkC x).length = 7 := rfl
abbrev RdLk (w : World) (v : Value) (l : List Lk) : Prop := RdP 77 lkC w v l
theorem RdLk.piece {w : World} {A : Option Addr} {n c : Nat} {l : List Lk} (h : RdLk w (.slice A n c) l) {k : Nat} (hk : k < l.length) : ∃ b o, A = some ⟨b, o, none⟩ ∧ b < w.heap.size ∧
    w.cell? ⟨b, o + k * 7, none⟩ = some (.int .i64 l[k].frm) ∧ w.cell? ⟨b, o + k * 7 + 1, none⟩ = some (.int .i64 l[k].to_) ∧ w.cell? ⟨b, o + k * 7 + 2, none⟩ = some (.int .i64 l[k].name.kind) ∧ w.cell? ⟨b, o + k * 7 + 3, none⟩ = some (.string (bs l[k].name.owner)) ∧ w.cell? ⟨b, o + k * 7 + 4, none⟩ = some (.int .i64 l[k].name.num) ∧ w.cell? ⟨b, o + k * 7 + 5, none⟩ = some (.int .i64 l[k].name.idx) ∧ w.cell? ⟨b, o + k * 7 + 6, none⟩ = some (.string (bs l[k].name.text)) := by
  obtain ⟨b, o, e, hb, hc⟩ := RdP.at_ h lkC_len hk
  exact ⟨b, o, e, hb, hc 0 _ rfl, hc 1 _ rfl, hc 2 _ rfl, hc 3 _ rfl, hc 4 _ rfl, hc 5 _ rfl, hc 6 _ rfl⟩
def Apart (a b : Value) : Prop := ∀ g, a.ownBlock = some g → b.ownBlock ≠ some g
theorem Apart.symm {a b : Value} (h : Apart a b) : Apart b a := fun g hb ha => h g ha hb
theorem own_set1 {w : World} {base e g n c : Nat} {xs : List Value} (h : w.ownsRow base e 1 (.slice (some ⟨g, 0, none⟩) n c) n xs) {i : Nat} (hi : i < n) (u : Value) : (w.setCell ⟨g, i, none⟩ u).ownsRow base e 1 (.slice (some ⟨g, 0, none⟩) n c) n (xs.set i u) := by
  obtain ⟨hl, ⟨_, h0⟩ | ⟨g', cap, cur, hv, hg, hh, h1, h2, h3, h4⟩⟩ := h
  · omega
  · injection hv with hv _ h5
    injection hv with hv
    injection hv with hv _ _
    subst hv h5; have hb := Blk.set_ (show Blk w g e cur from hh) i u
    refine ⟨by simpa using hl, .inr ⟨g, c, _, rfl, hg, hb, h1, h2, by simpa using h3, ?_⟩⟩
    rw [Array.toList_setIfInBounds, List.take_set, h4]
theorem pair_set {l : List Value} (h : l.Pairwise Apart) (i : Nat) {v : Value} (hv : ∀ (j : Nat) (x : Value), j ≠ i → l[j]? = some x → Apart x v) : (l.set i v).Pairwise Apart := by
  rw [List.pairwise_iff_getElem] at h ⊢
  intro a b ha hb hab
  rw [List.length_set] at ha hb; rw [List.getElem_set, List.getElem_set]
  by_cases h1 : i = a
  · subst h1
    rw [if_pos rfl, if_neg (by omega)]
    exact (hv b _ (by omega) (List.getElem?_eq_getElem hb)).symm
  · rw [if_neg h1]
    by_cases h2 : i = b
    · subst h2
      rw [if_pos rfl]
      exact hv a _ (by omega) (List.getElem?_eq_getElem ha)
    · rw [if_neg h2]
      exact h a b ha hb hab
theorem pair_get {l : List Value} (h : l.Pairwise Apart) {i j : Nat} (hij : j ≠ i) {x y : Value} (hx : l[j]? = some x) (hy : l[i]? = some y) : Apart x y := by
  obtain ⟨h1, rfl⟩ := List.getElem?_eq_some_iff.1 hx; obtain ⟨h2, rfl⟩ := List.getElem?_eq_some_iff.1 hy; rw [List.pairwise_iff_getElem] at h
  rcases Nat.lt_or_ge j i with hl | hl
  · exact h j i h1 h2 hl
  · exact (h i j h2 h1 (by omega)).symm
theorem own_grown {w w1 : World} {b1 b2 e1 e2 s1 s2 n m : Nat} {v x : Value} {xs ys : List Value} (ho : w.ownsRow b1 e1 s1 v n xs) (hx : w.ownsRow b2 e2 s2 x m ys) (hg : w.grownBy w1 x.ownBlock) (hne : e1 ≠ e2 ∨ Apart v x) : w1.ownsRow b1 e1 s1 v n xs :=
  own_same ho fun g hgv => by
    obtain ⟨cur, hc⟩ := own_cells_of ho hgv
    refine hg.block g (Array.getElem?_eq_some_iff.1 hc).1 fun e => ?_
    rcases hne with hne | hne
    · obtain ⟨cur2, hc2⟩ := own_cells_of hx e.symm
      rw [hc] at hc2
      injection hc2 with hc2
      injection hc2 with _ hc2 _
      exact hne hc2
    · exact hne g hgv e.symm
structure LU (w : World) (B : Nat) (vl : Value) (vL : List Value) (L : List (List Lk)) (vu : Value) (vU : List Value) (U : List (List Lk)) : Prop where
  ln : w.ownsRow B 71 1 vl L.length vL
  us : w.ownsRow B 71 1 vu U.length vU
  lu : Apart vl vu
  el : ∀ (i : Nat) (x : Value) (y : List Lk), vL[i]? = some x → L[i]? = some y → w.ownsRow B 77 7 x y.length (y.flatMap lkC)
  eu : ∀ (i : Nat) (x : Value) (y : List Lk), vU[i]? = some x → U[i]? = some y → w.ownsRow B 77 7 x y.length (y.flatMap lkC)
  ap : (vL ++ vU).Pairwise Apart
section
variable {w w' : World} {B : Nat} {vl vu : Value} {vL vU : List Value} {L U : List (List Lk)}
theorem LU.swap (h : LU w B vl vL L vu vU U) : LU w B vu vU U vl vL L := ⟨h.us, h.ln, h.lu.symm, h.eu, h.el, by
  have := h.ap; rw [List.pairwise_append] at this ⊢
  exact ⟨this.2.1, this.1, fun a ha b hb => (this.2.2 b hb a ha).symm⟩⟩
theorem LU.keep {Ls : List TypeId} (h : LU w B vl vL L vu vU U) (k : Kept Ls w w') (h1 : Ls.contains 71 = false) (h2 : Ls.contains 77 = false) : LU w' B vl vL L vu vU U :=
  ⟨own_keep h.ln k h1, own_keep h.us k h1, h.lu, fun i x y hx hy => own_keep (h.el i x y hx hy) k h2, fun i x y hx hy => own_keep (h.eu i x y hx hy) k h2, h.ap⟩
theorem LU.lenL (h : LU w B vl vL L vu vU U) : vL.length = L.length := by have := h.ln.1; omega
theorem LU.lenU (h : LU w B vl vL L vu vU U) : vU.length = U.length := by have := h.us.1; omega
theorem LU.add (h : LU w B vl vL L vu vU U) {gl cl : Nat} (hvl : vl = .slice (some ⟨gl, 0, none⟩) L.length cl) {i : Nat} (hi : i < L.length) {x v : Value} (hx : vL[i]? = some x) {w1 : World} {y : Lk}
    (hg : w.grownBy w1 x.ownBlock) (hown : w1.ownsRow B 77 7 v (L[i].length + 1) (L[i].flatMap lkC ++ lkC y)) (hat : AtOr w x v) :
    LU (w1.setCell ⟨gl, i, none⟩ v) B vl (vL.set i v) (L.set i (L[i] ++ [y])) vu vU U ∧ Kept [77, 71] w (w1.setCell ⟨gl, i, none⟩ v) ∧ KpM w (w1.setCell ⟨gl, i, none⟩ v) ∧ Below B w (w1.setCell ⟨gl, i, none⟩ v) := by
  subst hvl; have hxo := h.el i x _ hx (List.getElem?_eq_getElem hi)
  have hiL : i < vL.length := by rw [h.lenL]; exact hi
  have hxi : vL[i] = x := by rw [List.getElem?_eq_getElem hiL] at hx; injection hx
  have hg2 : w1.grownBy (w1.setCell ⟨gl, i, none⟩ v) (some gl) := only_setCell (only_of_below (Below.refl _ _) _) (.inl rfl) v; have hln1 := own_grown h.ln hxo hg (.inl (by decide)); have hus1 := own_grown h.us hxo hg (.inl (by decide))
  have far : ∀ (j : Nat) (x' : Value), j ≠ i → (vL ++ vU)[j]? = some x' → Apart x' x := fun j x' hj hx' => by
    have := pair_get h.ap hj hx' (show (vL ++ vU)[i]? = some x by rw [List.getElem?_append_left hiL]; exact hx)
    exact this
  have lt : ∀ (j : Nat) (x' : Value), (vL ++ vU)[j]? = some x' → ∀ g, x'.ownBlock = some g → g < w.heap.size := fun j x' hx' g hgx => by
    by_cases hj : j < vL.length
    · rw [List.getElem?_append_left hj] at hx'
      obtain ⟨cur, hc⟩ := own_cells_of (h.el j x' _ hx' (List.getElem?_eq_getElem (by rw [← h.lenL]; exact hj))) hgx
      exact (Array.getElem?_eq_some_iff.1 hc).1
    · rw [List.getElem?_append_right (by omega)] at hx'
      have hj2 := (List.getElem?_eq_some_iff.1 hx').1; obtain ⟨cur, hc⟩ := own_cells_of (h.eu _ x' _ hx' (List.getElem?_eq_getElem (by rw [← h.lenU]; exact hj2))) hgx
      exact (Array.getElem?_eq_some_iff.1 hc).1
  have k1 : Kept [77, 71] w w1 := Kept.of_own _ hxo hg rfl; have k2 : Kept [77, 71] w1 (w1.setCell ⟨gl, i, none⟩ v) := Kept.of_own _ hln1 hg2 rfl
  refine ⟨⟨by rw [List.length_set]; exact own_set1 hln1 hi v, own_grown hus1 hln1 hg2 (.inr h.lu.symm), h.lu, ?_, ?_, ?_⟩, k1.trans k2, (KpM.of_own hxo hg).trans (KpM.of_own hln1 hg2), ?_⟩
  · intro j x' y' hx' hy'
    by_cases hj : i = j
    · subst hj
      rw [List.getElem?_set_self (by simpa using hiL)] at hx'; rw [List.getElem?_set_self hi] at hy'
      injection hx' with hx'
      injection hy' with hy'
      subst hx' hy'; rw [List.length_append, List.flatMap_append]
      exact own_grown (by simpa using hown) hln1 hg2 (.inl (by decide))
    · rw [List.getElem?_set_ne hj] at hx' hy'
      have hjl := (List.getElem?_eq_some_iff.1 hx').1
      exact own_grown (own_grown (h.el j x' y' hx' hy') hxo hg (.inr (far j x' (fun e => hj e.symm) (by rw [List.getElem?_append_left hjl]; exact hx')))) hln1 hg2 (.inl (by decide))
  · intro j x' y' hx' hy'
    have hjl := (List.getElem?_eq_some_iff.1 hx').1
    exact own_grown (own_grown (h.eu j x' y' hx' hy') hxo hg (.inr (far (vL.length + j) x' (by omega) (by rw [List.getElem?_append_right (by omega)]; simpa using hx')))) hln1 hg2 (.inl (by decide))
  · have := pair_set h.ap i (v := v) fun j x' hj hx' => by
      rcases hat with e | e
      · intro g hgx hv
        exact far j x' hj hx' g hgx (by rw [← e]; exact hv)
      · intro g hgx hv
        rw [e] at hv
        injection hv with hv
        have := lt j x' hx' g hgx
        omega
    rw [List.set_append_left _ _ hiL] at this
    exact this
  · have b1 : Below B w w1 := below_own (Below.refl B w) hxo hg (Nat.le_refl _) ?_
    · exact b1.setCell (p := ⟨gl, i, none⟩) (own_ge h.ln rfl) v
    · have := own_ge h.ln (g := gl) rfl
      obtain ⟨cur, hc⟩ := own_cells_of h.ln (g := gl) rfl; have := (Array.getElem?_eq_some_iff.1 hc).1
      omega
end
structure GIn (w : World) (B : Nat) (g : Nat) (vk vl vu : Value) (bw : Nat) (ks : List Ky) (vL vU : List Value) (L U : List (List Lk)) (D : Nm → List Int) : Prop where
  blk : Blk w g 111 #[vk, vl, vu, .map (some bw)]
  gB : B ≤ g
  ky : w.ownsRow B 35 4 vk ks.length (ks.flatMap kyC)
  lu : LU w B vl vL L vu vU U
  wr : MapRows 3 1 inC w (fun i => B ≤ i) bw D
section
variable {w w' : World} {B g : Nat} {vk vl vu : Value} {bw : Nat} {ks : List Ky} {vL vU : List Value} {L U : List (List Lk)} {D : Nm → List Int}
theorem GIn.next (h : GIn w B g vk vl vu bw ks vL vU L U D) (hb : Below w.heap.size w w') : GIn w' B g vk vl vu bw ks vL vU L U D :=
  ⟨h.blk.next hb h.blk.lt, h.gB, own_next h.ky hb, h.lu.keep (Kept.of_below [] hb) rfl rfl, h.wr.next hb⟩
theorem GIn.drewN (h : GIn w B g vk vl vu bw ks vL vU L U D) (n : Nat) : GIn (w.drewN n) B g vk vl vu bw ks vL vU L U D := h.next (below_drewN (Below.refl _ _) n)
theorem GIn.base {B' : Nat} (h : GIn w B g vk vl vu bw ks vL vU L U D) (hb : B' ≤ B) : GIn w B' g vk vl vu bw ks vL vU L U D :=
  ⟨h.blk, Nat.le_trans hb h.gB, own_base h.ky hb, ⟨own_base h.lu.ln hb, own_base h.lu.us hb, h.lu.lu, fun i x y hx hy => own_base (h.lu.el i x y hx hy) hb, fun i x y hx hy => own_base (h.lu.eu i x y hx hy) hb, h.lu.ap⟩, h.wr.kept (Kept.refl [] w) (fun _ _ _ h => h) rfl fun i hi => Nat.le_trans hb hi⟩
abbrev LG : List TypeId := [35, 111, 77, 71, 3]
theorem GIn.key_ (h : GIn w B g vk vl vu bw ks vL vU L U D) {w1 : World} {vk' : Value} {k : Ky} (hg : w.grownBy w1 vk.ownBlock) (hown : w1.ownsRow B 35 4 vk' (ks.length + 1) (ks.flatMap kyC ++ kyC k)) :
    GIn (w1.setCell ⟨g, 0, none⟩ vk') B g vk' vl vu bw (ks ++ [k]) vL vU L U D ∧ Below B w (w1.setCell ⟨g, 0, none⟩ vk') ∧ Kept LG w (w1.setCell ⟨g, 0, none⟩ vk') := by
  have hgne : vk.ownBlock ≠ some g := own_blk_ne h.ky h.blk (by decide); have b1 : Blk w1 g 111 #[vk, vl, vu, .map (some bw)] := h.blk.grown hg (fun e => hgne e.symm); have hg2 : w1.grownBy (w1.setCell ⟨g, 0, none⟩ vk') (some g) := only_setCell (only_of_below (Below.refl _ _) _) (.inl rfl) vk'; have k2 : Kept [35, 111] w (w1.setCell ⟨g, 0, none⟩ vk') := (Kept.of_own _ h.ky hg rfl).trans (Kept.of_blk _ b1 hg2 rfl); have m2 : KpM w (w1.setCell ⟨g, 0, none⟩ vk') := (KpM.of_own h.ky hg).trans (KpM.of_blk b1 hg2); have hown2 : (w1.setCell ⟨g, 0, none⟩ vk').ownsRow B 35 4 vk' (ks.length + 1) (ks.flatMap kyC ++ kyC k) := hown.kept hg2 (.inr (own_blk_ne hown b1 (by decide)))
  refine ⟨⟨b1.set_ 0 vk', h.gB, ?_, h.lu.keep k2 rfl rfl, h.wr.kept k2 m2 rfl fun _ h => h⟩, ?_, k2.mono fun e he => by simp [LG] at he ⊢; exact ⟨he.1, he.2.1⟩⟩
  · rw [List.length_append, List.flatMap_append]
    simpa using hown2
  · have hlt := h.blk.lt
    exact (below_own (Below.refl B w) h.ky hg (Nat.le_refl _) (by have := h.gB; omega)).setCell (p := ⟨g, 0, none⟩) h.gB vk'
theorem GIn.link_ (h : GIn w B g vk vl vu bw ks vL vU L U D) {gl cl : Nat} (hvl : vl = .slice (some ⟨gl, 0, none⟩) L.length cl) {i : Nat} (hi : i < L.length) {x v : Value} (hx : vL[i]? = some x) {w1 : World} {y : Lk}
    (hg : w.grownBy w1 x.ownBlock) (hown : w1.ownsRow B 77 7 v (L[i].length + 1) (L[i].flatMap lkC ++ lkC y)) (hat : AtOr w x v) :
    GIn (w1.setCell ⟨gl, i, none⟩ v) B g vk vl vu bw ks (vL.set i v) vU (L.set i (L[i] ++ [y])) U D ∧ Below B w (w1.setCell ⟨gl, i, none⟩ v) ∧ Kept LG w (w1.setCell ⟨gl, i, none⟩ v) := by
  obtain ⟨h1, h2, h3, h4⟩ := h.lu.add hvl hi hx hg hown hat
  exact ⟨⟨h.blk.keep h2 rfl, h.gB, own_keep h.ky h2 rfl, h1, h.wr.kept h2 h3 rfl fun _ h => h⟩, h4, h2.mono fun e he => by simp [LG] at he ⊢; exact ⟨he.2.2.1, he.2.2.2.1⟩⟩
theorem GIn.use_ (h : GIn w B g vk vl vu bw ks vL vU L U D) {gl cl : Nat} (hvl : vu = .slice (some ⟨gl, 0, none⟩) U.length cl) {i : Nat} (hi : i < U.length) {x v : Value} (hx : vU[i]? = some x) {w1 : World} {y : Lk}
    (hg : w.grownBy w1 x.ownBlock) (hown : w1.ownsRow B 77 7 v (U[i].length + 1) (U[i].flatMap lkC ++ lkC y)) (hat : AtOr w x v) :
    GIn (w1.setCell ⟨gl, i, none⟩ v) B g vk vl vu bw ks vL (vU.set i v) L (U.set i (U[i] ++ [y])) D ∧ Below B w (w1.setCell ⟨gl, i, none⟩ v) ∧ Kept LG w (w1.setCell ⟨gl, i, none⟩ v) := by
  obtain ⟨h1, h2, h3, h4⟩ := h.lu.swap.add hvl hi hx hg hown hat
  exact ⟨⟨h.blk.keep h2 rfl, h.gB, own_keep h.ky h2 rfl, h1.swap, h.wr.kept h2 h3 rfl fun _ h => h⟩, h4, h2.mono fun e he => by simp [LG] at he ⊢; exact ⟨he.2.2.1, he.2.2.2.1⟩⟩
theorem GIn.wr_ (h : GIn w B g vk vl vu bw ks vL vU L U D) (n : Nm) : ∃ ents A c, MapAt w bw ents ∧ (lookM n ents).getD (.slice none 0 0) = .slice A (D n).length c ∧ w.ownsRow 0 3 1 (.slice A (D n).length c) (D n).length ((D n).flatMap inC) ∧
    ∀ (w2 w3 : World) (v' : Value) (x : Int), Chg w w2 bw (Value.slice A (D n).length c).ownBlock → (∃ es c, w2.heap[bw]? = some (.map es c)) → w2.ownsRow 0 3 1 v' ((D n).length + 1) ((D n).flatMap inC ++ inC x) → (v'.ownBlock = (Value.slice A (D n).length c).ownBlock ∨ ∃ i, v'.ownBlock = some i ∧ w.heap.size ≤ i) →
      MapAt w3 bw (putM n v' ents) → w2.grownBy w3 (some bw) → GIn w3 B g vk vl vu bw ks vL vU L U (fun m => if m = n then D n ++ [x] else D m) ∧ Below B w w3 ∧ Kept LG w w3 := by
  obtain ⟨ents, v, hm, hve, hown, hback⟩ := h.wr.at_ n; obtain ⟨A, c, hvs, hc⟩ := own_len hown.1; subst hvs; obtain ⟨es, cl, hb, _⟩ := id hm
  refine ⟨ents, A, c, hm, hve.symm, hown.1, fun w2 w3 v' x hch hbm hown' hat hmap hg3 => ?_⟩
  obtain ⟨es2, c2, hb2⟩ := id hbm; have hs2 : w.heap.size ≤ w2.heap.size := hch.size; have hs3 : w2.heap.size ≤ w3.heap.size := hg3.size; have k2 : Kept [3] w w3 := (hch.kept hb hown.1).trans (Kept.of_map _ hb2 hg3)
  have hBs : B ≤ w.heap.size := by have := h.gB; have := h.blk.lt; omega
  have mw : MapRows 3 1 inC w3 (fun i => B ≤ i) bw (fun m => if m = n then D n ++ [x] else D m) :=
    hback w2 w3 v' x (fun i => B ≤ i) hch.block hbm hown' hat hmap hg3 (fun _ h => h) fun i h1 h2 => Nat.le_trans hBs h1
  refine ⟨⟨h.blk.keep k2 rfl, h.gB, own_keep h.ky k2 rfl, h.lu.keep k2 rfl rfl, mw⟩, ?_, k2.mono fun e he => by simp [LG] at he ⊢; exact he.2.2.2.2⟩
  have hfb : B ≤ bw := h.wr.1
  exact ((hch.outer (F := fun i => B ≤ i) hfb hown.2).trans (Outer.of_grown hg3 fun i hi => by injection hi with hi; subst hi; exact .inl hfb)).below hBs fun i hi => hi
end
end Go.Proofs.YtmjkcanjfjfkfaaGreat
