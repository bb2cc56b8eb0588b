/- Plain facts of layer 47: what a search visits. -/
import Derived.Test.YtmjkcanjfjfkfaaB11
namespace Go.Proofs.Ytmjkcanjfjfkfaa
set_option linter.unusedSimpArgs false
set_option linter.unusedVariables false
/-- The state of a search: the turns of processes that are left, and what has been seen, in order. -/
abbrev VSt := (Bs → List Int) × List Int
def upT (t : Bs → List Int) (k : Bs) : Bs → List Int := fun m => if m = k then [] else t m
section
variable (succ : Int → List Int) (own : Int → Option Bs)
/-- A visit, with n steps at most into the depth. -/
def visF : Nat → VSt → Int → VSt
  | 0, st, _ => st
  | n + 1, st, i => if i ∈ st.2 then st else
      match own i with
      | none => (succ i).foldl (visF n) (st.1, st.2 ++ [i])
      | some k => (((succ i).foldl (visF n) (st.1, st.2 ++ [i])).1 k).foldl (visF n) (upT ((succ i).foldl (visF n) (st.1, st.2 ++ [i])).1 k, ((succ i).foldl (visF n) (st.1, st.2 ++ [i])).2)
/-- All is within N. -/
structure VOk47 (N : Nat) (st : VSt) : Prop where
  nd : st.2.Nodup
  rg : ∀ x ∈ st.2, 0 ≤ x ∧ x < (N : Int)
  tr : ∀ k, ∀ x ∈ st.1 k, 0 ≤ x ∧ x < (N : Int)
/-- What a visit adds. -/
structure VExt (N : Nat) (a b : VSt) : Prop where
  ok : VOk47 N b
  sub : ∀ x ∈ a.2, x ∈ b.2
  tr : ∀ k, b.1 k = a.1 k ∨ (b.1 k = [] ∧ ∀ x ∈ a.1 k, x ∈ b.2)
  new : ∀ x ∈ b.2, x ∉ a.2 → (∀ y ∈ succ x, y ∈ b.2) ∧ ∀ k, own x = some k → b.1 k = []
variable {succ own}
theorem VExt.refl {N : Nat} {a : VSt} (h : VOk47 N a) : VExt succ own N a a := ⟨h, fun _ h => h, fun _ => .inl rfl, fun x h1 h2 => absurd h1 h2⟩
theorem VExt.trans {N : Nat} {a b c : VSt} (h : VExt succ own N a b) (g : VExt succ own N b c) : VExt succ own N a c where
  ok := g.ok
  sub x hx := g.sub x (h.sub x hx)
  tr k := by
    rcases h.tr k with h1 | ⟨h1, h2⟩ <;> rcases g.tr k with g1 | ⟨g1, g2⟩
    · exact .inl (g1.trans h1)
    · exact .inr ⟨g1, fun x hx => g2 x (by rw [h1]; exact hx)⟩
    · exact .inr ⟨g1.trans h1, fun x hx => g.sub x (h2 x hx)⟩
    · exact .inr ⟨g1, fun x hx => g.sub x (h2 x hx)⟩
  new x hx hn := by
    by_cases hb : x ∈ b.2
    · obtain ⟨h1, h2⟩ := h.new x hb hn
      refine ⟨fun y hy => g.sub y (h1 y hy), fun k hk => ?_⟩
      have h3 := h2 k hk
      rcases g.tr k with g1 | ⟨g1, _⟩
      · exact g1.trans h3
      · exact g1
    · exact g.new x hx hb
theorem full_range {N : Nat} : ∀ {l : List Int}, l.Nodup → (∀ x ∈ l, 0 ≤ x ∧ x < (N : Int)) → l.length ≤ N := by
  intro l hn hr
  have h1 : (l.map Int.toNat).Nodup := by
    unfold List.Nodup
    rw [List.pairwise_map]
    refine hn.imp_of_mem ?_
    intro a b ha hb hab e
    have := hr a ha
    have := hr b hb
    exact hab (by omega)
  have h2 : (l.map Int.toNat) ⊆ List.range N := by
    intro x hx
    obtain ⟨y, hy, rfl⟩ := List.mem_map.1 hx
    have := hr y hy
    rw [List.mem_range]
    omega
  have := h1.length_le_of_subset h2
  simpa using this
theorem VOk47.step {N : Nat} {st : VSt} (h : VOk47 N st) {i : Int} (hi : i ∉ st.2) (hr : 0 ≤ i ∧ i < (N : Int)) : VOk47 N (st.1, st.2 ++ [i]) where
  nd := by
    rw [List.nodup_append]
    refine ⟨h.nd, by simp, ?_⟩
    intro a ha b hb
    rw [List.mem_singleton] at hb
    subst hb
    exact fun e => hi (e ▸ ha)
  rg x hx := by
    rcases List.mem_append.1 hx with hx | hx
    · exact h.rg x hx
    · rw [List.mem_singleton] at hx; subst hx; exact hr
  tr := h.tr
theorem VOk47.up {N : Nat} {st : VSt} (h : VOk47 N st) (k : Bs) : VOk47 N (upT st.1 k, st.2) where
  nd := h.nd
  rg := h.rg
  tr m x hx := by
    unfold upT at hx
    simp only at hx
    split at hx
    · cases hx
    · exact h.tr m x hx
theorem foldVis {N n : Nat} (hv : ∀ st i, VOk47 N st → N ≤ st.2.length + n → 0 ≤ i ∧ i < (N : Int) → VExt succ own N st (visF succ own n st i) ∧ i ∈ (visF succ own n st i).2) : ∀ (xs : List Int) (st : VSt), VOk47 N st → N ≤ st.2.length + n → (∀ x ∈ xs, 0 ≤ x ∧ x < (N : Int)) →
    VExt succ own N st (xs.foldl (visF succ own n) st) ∧ (∀ x ∈ xs, x ∈ (xs.foldl (visF succ own n) st).2)
  | [], st, h, _, _ => ⟨VExt.refl h, by simp⟩
  | x :: xs, st, h, hn, hx => by
    obtain ⟨h1, h2⟩ := hv st x h hn (hx x (by simp))
    have hl : st.2.length ≤ (visF succ own n st x).2.length := by
      have := (h.nd).length_le_of_subset (l₂ := (visF succ own n st x).2) (fun y hy => h1.sub y hy)
      exact this
    obtain ⟨h3, h4⟩ := foldVis hv xs (visF succ own n st x) h1.ok (by omega) fun y hy => hx y (by simp [hy])
    refine ⟨h1.trans h3, fun y hy => ?_⟩
    rcases List.mem_cons.1 hy with rfl | hy
    · exact h3.sub _ h2
    · exact h4 y hy
theorem visF_ext {N : Nat} (hs : ∀ i : Int, 0 ≤ i ∧ i < (N : Int) → ∀ x ∈ succ i, 0 ≤ x ∧ x < (N : Int)) : ∀ (n : Nat) (st : VSt) (i : Int), VOk47 N st → N ≤ st.2.length + n → 0 ≤ i ∧ i < (N : Int) → VExt succ own N st (visF succ own n st i) ∧ i ∈ (visF succ own n st i).2
  | 0, st, i, h, hn, hi => by
    refine ⟨VExt.refl h, ?_⟩
    show i ∈ st.2
    by_cases hm : i ∈ st.2
    · exact hm
    · have := full_range (h.step hm hi).nd (h.step hm hi).rg
      simp at this
      omega
  | n + 1, st, i, h, hn, hi => by
    by_cases hm : i ∈ st.2
    · have e : visF succ own (n + 1) st i = st := by simp [visF, hm]
      rw [e]
      exact ⟨VExt.refl h, hm⟩
    · have ih := foldVis (visF_ext hs n)
      have h0 := h.step hm hi
      obtain ⟨h1, h2⟩ := ih (succ i) (st.1, st.2 ++ [i]) h0 (by simp; omega) (hs i hi)
      have hin : i ∈ ((succ i).foldl (visF succ own n) (st.1, st.2 ++ [i])).2 := h1.sub i (by simp)
      cases ho : own i with
      | none =>
        have e : visF succ own (n + 1) st i = (succ i).foldl (visF succ own n) (st.1, st.2 ++ [i]) := by rw [visF, if_neg hm, ho]
        rw [e]
        refine ⟨⟨h1.ok, fun x hx => h1.sub x (by simp [hx]), h1.tr, fun x hx hn2 => ?_⟩, hin⟩
        by_cases hxi : x = i
        · subst hxi
          exact ⟨h2, fun k hk => by rw [ho] at hk; cases hk⟩
        · exact h1.new x hx (by simp [hxi]; exact hn2)
      | some k =>
        have e : visF succ own (n + 1) st i = (((succ i).foldl (visF succ own n) (st.1, st.2 ++ [i])).1 k).foldl (visF succ own n) (upT ((succ i).foldl (visF succ own n) (st.1, st.2 ++ [i])).1 k, ((succ i).foldl (visF succ own n) (st.1, st.2 ++ [i])).2) := by rw [visF, if_neg hm, ho]
        rw [e]
        obtain ⟨s1, hs1⟩ : ∃ s1, (succ i).foldl (visF succ own n) (st.1, st.2 ++ [i]) = s1 := ⟨_, rfl⟩
        rw [hs1] at h1 h2 hin ⊢
        have hl1 : st.2.length + 1 ≤ s1.2.length := by
          have := h0.nd.length_le_of_subset (l₂ := s1.2) (fun y hy => h1.sub y hy)
          simpa using this
        obtain ⟨g1, g2⟩ := ih (s1.1 k) (upT s1.1 k, s1.2) (h1.ok.up k) (by show N ≤ s1.2.length + n; omega) (h1.ok.tr k)
        obtain ⟨s2, hs2⟩ : ∃ s2, (s1.1 k).foldl (visF succ own n) (upT s1.1 k, s1.2) = s2 := ⟨_, rfl⟩
        rw [hs2] at g1 g2 ⊢
        have hk0 : s2.1 k = [] := by
          rcases g1.tr k with g | ⟨g, _⟩
          · rw [g]; simp [upT]
          · exact g
        have hmono : ∀ m, s1.1 m = [] → s2.1 m = [] := fun m hm0 => by
          rcases g1.tr m with g | ⟨g, _⟩
          · rw [g]
            simp only [upT]
            split
            · rfl
            · exact hm0
          · exact g
        refine ⟨⟨g1.ok, fun x hx => g1.sub x (h1.sub x (by simp [hx])), fun m => ?_, fun x hx hn2 => ?_⟩, g1.sub i hin⟩
        · by_cases hmk : m = k
          · subst hmk
            refine .inr ⟨hk0, fun x hx => ?_⟩
            rcases h1.tr m with h3 | ⟨_, h3⟩
            · exact g2 x (by rw [h3]; exact hx)
            · exact g1.sub x (h3 x hx)
          · have hup : (upT s1.1 k) m = s1.1 m := by simp [upT, hmk]
            rcases h1.tr m with h3 | ⟨h3, h4⟩
            · rcases g1.tr m with g3 | ⟨g3, g4⟩
              · exact .inl (g3.trans (hup.trans h3))
              · exact .inr ⟨g3, fun x hx => g4 x (by show x ∈ (upT s1.1 k) m; rw [hup, h3]; exact hx)⟩
            · exact .inr ⟨hmono m h3, fun x hx => g1.sub x (h4 x hx)⟩
        · by_cases hx1 : x ∈ s1.2
          · by_cases hxi : x = i
            · subst hxi
              exact ⟨fun y hy => g1.sub y (h2 y hy), fun m hm2 => by rw [ho] at hm2; injection hm2 with hm2; rw [← hm2]; exact hk0⟩
            · obtain ⟨h5, h6⟩ := h1.new x hx1 (by simp [hxi]; exact hn2)
              exact ⟨fun y hy => g1.sub y (h5 y hy), fun m hm2 => hmono m (h6 m hm2)⟩
          · exact g1.new x hx hx1
/-- Whatever is closed holds what is visited. -/
theorem visF_in {P : Int → Prop} {t0 : Bs → List Int} (h1 : ∀ x, P x → ∀ y ∈ succ x, P y) (h2 : ∀ x k, P x → own x = some k → ∀ y ∈ t0 k, P y) : ∀ (n : Nat) (st : VSt) (i : Int), (∀ x ∈ st.2, P x) → (∀ k, ∀ x ∈ st.1 k, x ∈ t0 k) → P i →
    (∀ x ∈ (visF succ own n st i).2, P x) ∧ ∀ k, ∀ x ∈ (visF succ own n st i).1 k, x ∈ t0 k := by
  have fold : ∀ n, (∀ (st : VSt) (i : Int), (∀ x ∈ st.2, P x) → (∀ k, ∀ x ∈ st.1 k, x ∈ t0 k) → P i → (∀ x ∈ (visF succ own n st i).2, P x) ∧ ∀ k, ∀ x ∈ (visF succ own n st i).1 k, x ∈ t0 k) →
      ∀ (xs : List Int) (st : VSt), (∀ x ∈ st.2, P x) → (∀ k, ∀ x ∈ st.1 k, x ∈ t0 k) → (∀ x ∈ xs, P x) → (∀ x ∈ (xs.foldl (visF succ own n) st).2, P x) ∧ ∀ k, ∀ x ∈ (xs.foldl (visF succ own n) st).1 k, x ∈ t0 k := by
    intro n hn xs
    induction xs with
    | nil => intro st a b _; exact ⟨a, b⟩
    | cons x xs ih =>
      intro st a b c
      obtain ⟨d1, d2⟩ := hn st x a b (c x (by simp))
      exact ih _ d1 d2 fun y hy => c y (by simp [hy])
  intro n
  induction n with
  | zero => intro st i a b _; exact ⟨a, b⟩
  | succ n ih =>
    intro st i a b c
    by_cases hm : i ∈ st.2
    · have e : visF succ own (n + 1) st i = st := by simp [visF, hm]
      rw [e]; exact ⟨a, b⟩
    · have a2 : ∀ x ∈ st.2 ++ [i], P x := fun x hx => by
        rcases List.mem_append.1 hx with hx | hx
        · exact a x hx
        · rw [List.mem_singleton] at hx; subst hx; exact c
      obtain ⟨d1, d2⟩ := fold n ih (succ i) (st.1, st.2 ++ [i]) a2 b (h1 i c)
      cases ho : own i with
      | none =>
        have e : visF succ own (n + 1) st i = (succ i).foldl (visF succ own n) (st.1, st.2 ++ [i]) := by rw [visF, if_neg hm, ho]
        rw [e]; exact ⟨d1, d2⟩
      | some k =>
        have e : visF succ own (n + 1) st i = (((succ i).foldl (visF succ own n) (st.1, st.2 ++ [i])).1 k).foldl (visF succ own n) (upT ((succ i).foldl (visF succ own n) (st.1, st.2 ++ [i])).1 k, ((succ i).foldl (visF succ own n) (st.1, st.2 ++ [i])).2) := by rw [visF, if_neg hm, ho]
        rw [e]
        refine fold n ih _ _ d1 (fun m x hx => ?_) (fun x hx => h2 i k c ho x (d2 k x hx))
        unfold upT at hx
        simp only at hx
        split at hx
        · cases hx
        · exact d2 m x hx
/-- The least closed set: it holds l, is closed, and lies in every such set. -/
structure Lst (succ : Int → List Int) (own : Int → Option Bs) (t0 : Bs → List Int) (l : List Int) (M : Int → Prop) : Prop where
  has : ∀ x ∈ l, M x
  clo : ∀ x, M x → ∀ y ∈ succ x, M y
  cow : ∀ x k, M x → own x = some k → ∀ y ∈ t0 k, M y
  min : ∀ P : Int → Prop, (∀ x ∈ l, P x) → (∀ x, P x → ∀ y ∈ succ x, P y) → (∀ x k, P x → own x = some k → ∀ y ∈ t0 k, P y) → ∀ x, M x → P x
theorem Lst.same {t0 : Bs → List Int} {l : List Int} {M M' : Int → Prop} (h : Lst succ own t0 l M) (h' : Lst succ own t0 l M') (x : Int) : M x ↔ M' x :=
  ⟨h.min M' h'.has h'.clo h'.cow x, h'.min M h.has h.clo h.cow x⟩
/-- What is visited from a list. -/
theorem vis_lst {N : Nat} (hs : ∀ i : Int, 0 ≤ i ∧ i < (N : Int) → ∀ x ∈ succ i, 0 ≤ x ∧ x < (N : Int)) {t0 : Bs → List Int} (ht : ∀ k, ∀ x ∈ t0 k, 0 ≤ x ∧ x < (N : Int)) {l : List Int} (hl : ∀ x ∈ l, 0 ≤ x ∧ x < (N : Int)) :
    Lst succ own t0 l (fun x => x ∈ (l.foldl (visF succ own N) (t0, [])).2) ∧ (l.foldl (visF succ own N) (t0, [])).2.Nodup ∧ ∀ x ∈ (l.foldl (visF succ own N) (t0, [])).2, 0 ≤ x ∧ x < (N : Int) := by
  have h0 : VOk47 N (t0, []) := ⟨List.nodup_nil, fun x hx => by simp at hx, ht⟩
  obtain ⟨h1, h2⟩ := foldVis (visF_ext (own := own) hs N) l (t0, []) h0 (by simp) hl
  refine ⟨⟨h2, fun x hx y hy => (h1.new x hx (by simp)).1 y hy, fun x k hx ho y hy => ?_, fun P p1 p2 p3 x hx => ?_⟩, h1.ok.nd, h1.ok.rg⟩
  · have h3 := (h1.new x hx (by simp)).2 k ho
    rcases h1.tr k with h4 | ⟨_, h4⟩
    · have : t0 k = [] := h4.symm.trans h3
      rw [this] at hy
      cases hy
    · exact h4 y hy
  · have fold : ∀ (xs : List Int) (st : VSt), (∀ x ∈ st.2, P x) → (∀ k, ∀ x ∈ st.1 k, x ∈ t0 k) → (∀ x ∈ xs, P x) → ∀ x ∈ (xs.foldl (visF succ own N) st).2, P x := by
      intro xs
      induction xs with
      | nil => intro st a b _; exact a
      | cons x xs ih =>
        intro st a b c
        obtain ⟨d1, d2⟩ := visF_in p2 p3 N st x a b (c x (by simp))
        exact ih _ d1 d2 fun y hy => c y (by simp [hy])
    exact fold l (t0, []) (by simp) (fun _ _ h => h) p1 x hx
end
end Go.Proofs.Ytmjkcanjfjfkfaa
