/- Plain facts of layer 47: the distances of a search in breadth are the smallest numbers of links. -/
import Derived.Test.YtmjkcanjfjfkfaaB10
import Derived.Test.YtmjkcanjfjfkfaaP6
namespace Go.Proofs.Ytmjkcanjfjfkfaa
set_option linter.unusedSimpArgs false
set_option linter.unusedVariables false
theorem getD_at_ {α : Type} {L : List (List α)} {i : Int} {x : α} (hx : x ∈ L.getD i.toNat []) : ∃ h : i.toNat < L.length, x ∈ L[i.toNat] := by
  rw [List.getD_eq_getElem?_getD] at hx
  by_cases h : i.toNat < L.length
  · rw [List.getElem?_eq_getElem h, Option.getD_some] at hx
    exact ⟨h, hx⟩
  · rw [List.getElem?_eq_none (by omega), Option.getD_none] at hx
    cases hx
/-- A path of n links from a number. -/
inductive Pth (E : List Lk) (frm : Int) : Nat → Int → Prop
  | zero : Pth E frm 0 frm
  | step {n : Nat} {x : Lk} : Pth E frm n x.frm → x ∈ E → 0 ≤ x.frm → Pth E frm (n + 1) x.to_
/-- The smallest number of links. -/
def Mn (E : List Lk) (frm i : Int) (d : Int) : Prop := 0 ≤ d ∧ Pth E frm d.toNat i ∧ ∀ m, Pth E frm m i → d ≤ (m : Int)
theorem Pth.ge {E : List Lk} {frm : Int} (hE : ∀ x ∈ E, x.frm < x.to_) {n : Nat} {i : Int} (h : Pth E frm n i) : frm ≤ i := by
  induction h with
  | zero => exact Int.le_refl _
  | step h hx h0 ih => have := hE _ hx; omega
theorem Pth.pos {E : List Lk} {frm : Int} (hE : ∀ x ∈ E, x.frm < x.to_) {n : Nat} {i : Int} (h : Pth E frm n i) (hi : i ≠ frm) : ∃ (m : Nat) (x : Lk), n = m + 1 ∧ x ∈ E ∧ 0 ≤ x.frm ∧ x.to_ = i ∧ Pth E frm m x.frm := by
  cases h with
  | zero => exact absurd rfl hi
  | step h hx h0 => exact ⟨_, _, rfl, hx, h0, rfl, h⟩
/-- A search in breadth under way. -/
structure BI (E : List Lk) (frm : Int) (D : DM) (Q : List Int) : Prop where
  pth : ∀ i d, lookM i D = some d → 0 ≤ d ∧ Pth E frm d.toNat i
  st : lookM frm D = some 0
  inQ : ∀ q ∈ Q, (lookM q D).isSome = true
  asc : Q.Pairwise fun a b => (lookM a D).getD 0 ≤ (lookM b D).getD 0
  near : ∀ i d, lookM i D = some d → ∀ q ∈ Q, d ≤ (lookM q D).getD 0 + 1
  done : ∀ i d, lookM i D = some d → i ∉ Q → ∀ x ∈ E, x.frm = i → 0 ≤ x.frm → ∃ e, lookM x.to_ D = some e ∧ e ≤ d + 1
theorem lookM_snoc (n x m : Int) : ∀ D : DM, lookM m (D ++ [(n, x)]) = match lookM m D with | some d => some d | none => if n = m then some x else none
  | [] => by simp [lookM]
  | (a, v) :: D => by
    simp only [List.cons_append, lookM]
    by_cases h : a = m
    · simp [h]
    · simp only [h, if_false]
      exact lookM_snoc n x m D
/-- The inner loop's invariant: what has been taken of the row has a distance. -/
theorem BI.inner {E : List Lk} {frm i : Int} {N : Nat} : ∀ (row : List Lk) (D : DM) (Q : List Int), (∀ x ∈ row, x ∈ E ∧ x.frm = i ∧ 0 ≤ x.frm ∧ 0 ≤ x.to_ ∧ x.to_ < (N : Int)) →
    BOk N D → Q.head? = some i → (∀ i d, lookM i D = some d → 0 ≤ d ∧ Pth E frm d.toNat i) → lookM frm D = some 0 → (∀ q ∈ Q, (lookM q D).isSome = true) → (Q.Pairwise fun a b => (lookM a D).getD 0 ≤ (lookM b D).getD 0) → (∀ i d, lookM i D = some d → ∀ q ∈ Q, d ≤ (lookM q D).getD 0 + 1) →
    (∀ j d, lookM j D = some d → j ∉ Q → ∀ x ∈ E, x.frm = j → 0 ≤ x.frm → ∃ e, lookM x.to_ D = some e ∧ e ≤ d + 1) →
    BOk N (bfsIn i row (D, Q)).1 ∧ (bfsIn i row (D, Q)).2.head? = some i ∧ BI E frm (bfsIn i row (D, Q)).1 (bfsIn i row (D, Q)).2 ∧ (∀ j d, lookM j D = some d → lookM j (bfsIn i row (D, Q)).1 = some d) ∧ (∀ x ∈ row, (lookM x.to_ (bfsIn i row (D, Q)).1).isSome = true) ∧
    (bfsIn i row (D, Q)).1.length - (bfsIn i row (D, Q)).2.length = D.length - Q.length ∧ Q.length ≤ (bfsIn i row (D, Q)).2.length ∧ (Q.length ≤ D.length → (bfsIn i row (D, Q)).2.length ≤ (bfsIn i row (D, Q)).1.length)
  | [], D, Q, _, hB, hh, p1, p2, p3, p4, p5, p6 => ⟨hB, hh, ⟨p1, p2, p3, p4, p5, p6⟩, fun _ _ h => h, fun x hx => (by cases hx), rfl, Nat.le_refl _, fun h => h⟩
  | x :: row, D, Q, hr, hB, hh, p1, p2, p3, p4, p5, p6 => by
    obtain ⟨hxE, hxf, hx0, hxt, hxN⟩ := hr x (by simp)
    have hrow := fun y (hy : y ∈ row) => hr y (List.mem_cons_of_mem _ hy)
    cases Q with
    | nil => cases hh
    | cons q0 Q =>
    simp only [List.head?_cons, Option.some.injEq] at hh
    subst hh
    obtain ⟨di, hdi⟩ := Option.isSome_iff_exists.1 (p3 q0 (by simp))
    simp only [bfsIn]
    cases hl : lookM x.to_ D with
    | some d =>
      rw [if_pos (by rfl)]
      obtain ⟨a1, a2, a3, a4, a5, a6, a7, a8⟩ := BI.inner row D (q0 :: Q) hrow hB rfl p1 p2 p3 p4 p5 p6
      refine ⟨a1, a2, a3, a4, fun y hy => ?_, a6, a7, a8⟩
      rcases List.mem_cons.1 hy with rfl | hy
      · rw [a4 _ _ hl]; rfl
      · exact a5 y hy
    | none =>
      rw [if_neg (by simp)]
      simp only [hdi, Option.getD_some]
      have hnw : lookM x.to_ (D ++ [(x.to_, di + 1)]) = some (di + 1) := by rw [lookM_snoc, hl]; simp
      have hold : ∀ j d, lookM j D = some d → lookM j (D ++ [(x.to_, di + 1)]) = some d := fun j d h => by rw [lookM_snoc, h]
      have hinv : ∀ j d, lookM j (D ++ [(x.to_, di + 1)]) = some d → lookM j D = some d ∨ (j = x.to_ ∧ d = di + 1 ∧ lookM j D = none) := fun j d h => by
        rw [lookM_snoc] at h
        cases hj : lookM j D with
        | some e => rw [hj] at h; exact .inl h
        | none =>
          rw [hj] at h
          simp only at h
          split at h
          · rename_i e; injection h with h; exact .inr ⟨e.symm, h.symm, rfl⟩
          · cases h
      have hqd : ∀ q ∈ q0 :: Q, (lookM q (D ++ [(x.to_, di + 1)])).getD 0 = (lookM q D).getD 0 := fun q hq => by
        obtain ⟨e, he⟩ := Option.isSome_iff_exists.1 (p3 q hq)
        rw [hold _ _ he, he]
      have hmin : ∀ q ∈ q0 :: Q, di ≤ (lookM q D).getD 0 := fun q hq => by
        rcases List.mem_cons.1 hq with rfl | hq
        · rw [hdi]; exact Int.le_refl _
        · have := (List.pairwise_cons.1 p4).1 q hq
          rwa [hdi] at this
      have hdl := hB.dist q0
      rw [hdi] at hdl
      simp only [Option.getD_some] at hdl
      have hd0 := (p1 _ _ hdi).1
      obtain ⟨a1, a2, a3, a4, a5, a6, a7, a8⟩ := BI.inner row (D ++ [(x.to_, di + 1)]) (q0 :: (Q ++ [x.to_])) hrow (hB.add (by rw [hl]; rfl) hxt hxN (by omega) (by omega)) rfl
        (fun j d h => by
          rcases hinv j d h with h | ⟨rfl, rfl, _⟩
          · exact p1 j d h
          · refine ⟨by omega, ?_⟩
            have h2 := (p1 _ _ hdi).2
            rw [← hxf] at h2
            have := Pth.step h2 hxE hx0
            rwa [show (di + 1).toNat = di.toNat + 1 by omega])
        (hold _ _ p2)
        (fun q hq => by
          rw [← List.cons_append, List.mem_append, List.mem_singleton] at hq
          rcases hq with hq | rfl
          · obtain ⟨e, he⟩ := Option.isSome_iff_exists.1 (p3 q hq)
            rw [hold _ _ he]; rfl
          · rw [hnw]; rfl)
        (by
          rw [← List.cons_append]
          refine List.pairwise_append.2 ⟨p4.imp_of_mem fun ha hb h => by rw [hqd _ ha, hqd _ hb]; exact h, List.pairwise_singleton _ _, fun a ha b hb => ?_⟩
          rw [List.mem_singleton] at hb
          subst hb
          rw [hqd _ ha, hnw]
          obtain ⟨e, he⟩ := Option.isSome_iff_exists.1 (p3 a ha)
          have := p5 a e he q0 (by simp)
          rw [hdi] at this
          rw [he]
          exact this)
        (fun j d h q hq => by
          rw [← List.cons_append, List.mem_append, List.mem_singleton] at hq
          have hd : d ≤ di + 1 := by
            rcases hinv j d h with h | ⟨_, rfl, _⟩
            · have := p5 j d h q0 (by simp)
              rwa [hdi] at this
            · exact Int.le_refl _
          rcases hq with hq | rfl
          · rw [hqd _ hq]
            have := hmin q hq
            omega
          · rw [hnw]
            simp only [Option.getD_some]
            omega)
        (fun j d h hj y hy hyf hy0 => by
          rw [← List.cons_append, List.mem_append, List.mem_singleton] at hj
          rcases hinv j d h with h | ⟨rfl, _, _⟩
          · obtain ⟨e, he, hle⟩ := p6 j d h (fun hq => hj (.inl hq)) y hy hyf hy0
            exact ⟨e, hold _ _ he, hle⟩
          · exact absurd (.inr rfl) hj)
      refine ⟨a1, a2, a3, fun j d h => a4 _ _ (hold _ _ h), fun y hy => ?_, by rw [List.cons_append, a6]; simp only [List.length_cons, List.length_append, List.length_nil]; omega, ?_, fun h => ?_⟩
      · rcases List.mem_cons.1 hy with rfl | hy
        · rw [List.cons_append, a4 _ _ hnw]; rfl
        · exact a5 y hy
      · simp only [List.length_cons, List.length_append, List.length_nil] at a7 ⊢
        rw [List.cons_append]
        omega
      · rw [List.cons_append]
        refine a8 ?_
        simp only [List.length_cons, List.length_append, List.length_nil] at h ⊢
        omega
/-- A search that is over knows the smallest numbers. -/
theorem bfs_mn {E : List Lk} {frm : Int} {N : Nat} (hN : ∀ x ∈ E, 0 ≤ x.to_ ∧ x.to_ < (N : Int)) : ∀ (k : Nat) (D : DM) (Q : List Int), BOk N D → BI E frm D Q → Q.length ≤ D.length → N - D.length + Q.length ≤ k →
    ∀ i d, lookM i (bfs (UT N E) k D Q) = some d ↔ Mn E frm i d := by
  have fin : ∀ (D : DM), BI E frm D [] → ∀ i d, lookM i D = some d ↔ Mn E frm i d := by
    intro D h i d
    have hall : ∀ n j, Pth E frm n j → ∃ e, lookM j D = some e ∧ e ≤ (n : Int) := by
      intro n j hp
      induction hp with
      | zero => exact ⟨0, h.st, by simp⟩
      | step hp hx h0 ih =>
        obtain ⟨e, he, hle⟩ := ih
        obtain ⟨f, hf, hlf⟩ := h.done _ _ he (by simp) _ hx rfl h0
        exact ⟨f, hf, by omega⟩
    constructor
    · intro hl
      obtain ⟨h0, hp⟩ := h.pth i d hl
      refine ⟨h0, hp, fun m hm => ?_⟩
      obtain ⟨e, he, hle⟩ := hall m i hm
      rw [hl] at he
      injection he with he
      omega
    · rintro ⟨h0, hp, hm⟩
      obtain ⟨e, he, hle⟩ := hall _ _ hp
      obtain ⟨h1, hp1⟩ := h.pth i e he
      have := hm _ hp1
      rw [he]
      congr 1
      omega
  intro k
  induction k with
  | zero =>
    intro D Q hB h hl hk
    have := hB.le
    obtain rfl : Q = [] := List.length_eq_zero_iff.1 (by omega)
    exact fin D h
  | succ k ih =>
    intro D Q hB h hl hk
    cases Q with
    | nil => exact fin D h
    | cons i Q =>
      have hrow : ∀ x ∈ (UT N E).getD i.toNat [], x ∈ E ∧ x.frm = i ∧ 0 ≤ x.frm ∧ 0 ≤ x.to_ ∧ x.to_ < (N : Int) := by
        intro x hx
        have hi : 0 ≤ i := by
          obtain ⟨d, hd⟩ := Option.isSome_iff_exists.1 (h.inQ i (by simp))
          exact (hB.node (by rw [hd]; rfl)).1
        obtain ⟨h1, h2⟩ := getD_at_ hx
        rw [UT_get] at h2
        obtain ⟨h3, h4⟩ := List.mem_filter.1 h2
        have h5 := of_decide_eq_true h4
        have := hN x h3
        exact ⟨h3, by omega, by omega, this.1, this.2⟩
      obtain ⟨a1, a2, a3, a4, a5, a6, a7, a8⟩ := BI.inner _ D (i :: Q) hrow hB rfl h.pth h.st h.inQ h.asc h.near h.done
      simp only [bfs]
      obtain ⟨R, hR⟩ : ∃ R, bfsIn i ((UT N E).getD i.toNat []) (D, i :: Q) = R := ⟨_, rfl⟩
      rw [hR] at a1 a2 a3 a4 a5 a6 a7 a8 ⊢
      obtain ⟨D2, Q2⟩ := R
      simp only at a1 a2 a3 a4 a5 a6 a7 a8 ⊢
      cases Q2 with
      | nil => cases a2
      | cons j Q2 =>
      simp only [List.head?_cons, Option.some.injEq] at a2
      subst a2
      simp only [List.tail_cons]
      obtain ⟨di, hdi⟩ := Option.isSome_iff_exists.1 (a3.inQ j (by simp))
      have hD := a1.le
      have hD1 := hB.le
      have a9 := a8 hl
      simp only [List.length_cons] at *
      refine ih D2 Q2 a1 ⟨a3.pth, a3.st, fun q hq => a3.inQ q (by simp [hq]), (List.pairwise_cons.1 a3.asc).2, fun m d hm q hq => a3.near m d hm q (by simp [hq]), fun m d hm hmq x hx hxf hx0 => ?_⟩ (by omega) (by omega)
      by_cases hmj : m = j
      · subst hmj
        have hxr : x ∈ (UT N E).getD m.toNat [] := by
          have hm0 := (a1.node (by rw [hm]; rfl))
          rw [List.getD_eq_getElem?_getD, List.getElem?_eq_getElem (by rw [UT_len]; omega), Option.getD_some, UT_get]
          exact List.mem_filter.2 ⟨hx, decide_eq_true (by omega)⟩
        obtain ⟨e, he⟩ := Option.isSome_iff_exists.1 (a5 x hxr)
        have := a3.near _ _ he m (by simp)
        rw [hm] at this
        exact ⟨e, he, this⟩
      · exact a3.done m d hm (by simp [hmj, hmq]) x hx hxf hx0
/-- The search from a number within a graph knows the smallest numbers. -/
theorem bfsD_mn (l : List Ac) {frm : Int} (h0 : 0 ≤ frm) (h1 : frm < (l.length : Int)) (i d : Int) : lookM i (bfsD l frm) = some d ↔ Mn (lnkD l).flatten frm i d := by
  unfold bfsD
  have hl : lookM frm ([(frm, 0)] : DM) = some 0 := by simp [lookM]
  have hi : ∀ j e, lookM j ([(frm, 0)] : DM) = some e → j = frm ∧ e = 0 := fun j e h => by
    simp only [lookM] at h
    split at h
    · rename_i e2; injection h with h; exact ⟨e2.symm, h.symm⟩
    · cases h
  refine bfs_mn (fun x hx => lnkD_to hx) l.length _ _ ⟨by simp, fun p hp => ?_, by simp⟩ ⟨fun j e h => ?_, hl, fun q hq => ?_, List.pairwise_singleton _ _, fun j e h q hq => ?_, fun j e h hj => ?_⟩ (by simp) ?_ i d
  · simp only [List.mem_singleton] at hp
    subst hp
    simp only [List.length_singleton]
    omega
  · obtain ⟨rfl, rfl⟩ := hi j e h
    exact ⟨Int.le_refl _, .zero⟩
  · simp only [List.mem_singleton] at hq
    subst hq
    rw [hl]; rfl
  · obtain ⟨rfl, rfl⟩ := hi j e h
    simp only [List.mem_singleton] at hq
    subst hq
    rw [hl]; simp
  · obtain ⟨rfl, rfl⟩ := hi j e h
    simp at hj
  · simp only [List.length_singleton]; omega
/-- A number of a row of numbers. -/
def gt (ds : List Int) (j : Int) : Int := ds.getD j.toNat (-1)
theorem gt_set {ds : List Int} {i : Nat} {j : Int} (y : Int) (hi : i < ds.length) (hj : 0 ≤ j) : gt (ds.set i y) j = if j = (i : Int) then y else gt ds j := by
  unfold gt
  rw [List.getD_eq_getElem?_getD, List.getD_eq_getElem?_getD, List.getElem?_set]
  by_cases h : j = (i : Int)
  · subst h
    simp [hi]
  · rw [if_neg (by omega), if_neg h]
/-- The distances of the definition. -/
def dst1 (i : Nat) (ds : List Int) (x : Lk) : List Int := if x.to_ = (i : Int) ∧ 0 ≤ x.frm ∧ 0 ≤ gt ds x.frm ∧ (gt ds i < 0 ∨ gt ds x.frm + 1 < gt ds i) then ds.set i (gt ds x.frm + 1) else ds
def dstI (E : List Lk) (ds : List Int) (i : Nat) : List Int := E.foldl (dst1 i) ds
def dst0 (N f : Nat) : List Int := (List.replicate N (-1)).set f 0
def dstTo (E : List Lk) (N f m : Nat) : List Int := (List.range m).foldl (fun ds j => dstI E ds (f + 1 + j)) (dst0 N f)
def dstS (E : List Lk) (N f : Nat) : List Int := dstTo E N f (N - (f + 1))
theorem dst1_len (i : Nat) (ds : List Int) (x : Lk) : (dst1 i ds x).length = ds.length := by unfold dst1; split <;> simp
theorem dstI_len (i : Nat) : ∀ (E : List Lk) (ds : List Int), (dstI E ds i).length = ds.length
  | [], ds => rfl
  | x :: E, ds => by
    have := dstI_len i E (dst1 i ds x)
    rw [dst1_len] at this
    exact this
theorem dstTo_len (E : List Lk) (N f : Nat) : ∀ m, (dstTo E N f m).length = N
  | 0 => by simp [dstTo, dst0]
  | m + 1 => by
    unfold dstTo
    rw [List.range_succ, List.foldl_append]
    simp only [List.foldl_cons, List.foldl_nil]
    rw [dstI_len]
    exact dstTo_len E N f m
/-- What a link offers. -/
def Cand (E : List Lk) (ds : List Int) (i : Nat) (y : Int) : Prop := ∃ x ∈ E, x.to_ = (i : Int) ∧ 0 ≤ x.frm ∧ 0 ≤ gt ds x.frm ∧ y = gt ds x.frm + 1
theorem dstI_spec {i : Nat} : ∀ (E : List Lk) (ds : List Int), i < ds.length → (∀ x ∈ E, x.frm < x.to_) → 
    (∀ j : Int, 0 ≤ j → j ≠ (i : Int) → gt (dstI E ds i) j = gt ds j) ∧ (∀ y, Cand E ds i y → 0 ≤ gt (dstI E ds i) i ∧ gt (dstI E ds i) i ≤ y) ∧ (gt (dstI E ds i) i = gt ds i ∨ Cand E ds i (gt (dstI E ds i) i)) ∧ (0 ≤ gt ds i → 0 ≤ gt (dstI E ds i) i ∧ gt (dstI E ds i) i ≤ gt ds i)
  | [], ds, _, _ => ⟨fun _ _ _ => rfl, fun y ⟨x, hx, _⟩ => (by cases hx), .inl rfl, fun h => ⟨h, Int.le_refl _⟩⟩
  | x :: E, ds, hi, hE => by
    have hx := hE x (by simp)
    have hs : ∀ j : Int, 0 ≤ j → j ≠ (i : Int) → gt (dst1 i ds x) j = gt ds j := fun j h0 hj => by
      unfold dst1
      split
      · rw [gt_set _ hi h0, if_neg hj]
      · rfl
    obtain ⟨a1, a2, a3, a4⟩ := dstI_spec (i := i) E (dst1 i ds x) (by rw [dst1_len]; exact hi) (fun y hy => hE y (by simp [hy]))
    have hstep : dstI (x :: E) ds i = dstI E (dst1 i ds x) i := rfl
    rw [hstep]
    have hc : ∀ y, Cand E (dst1 i ds x) i y ↔ Cand E ds i y := fun y => by
      have key : ∀ z ∈ E, z.to_ = (i : Int) → 0 ≤ z.frm → gt (dst1 i ds x) z.frm = gt ds z.frm := fun z hz h1 h2 => by
        have := hE z (by simp [hz])
        exact hs _ h2 (by omega)
      constructor
      · rintro ⟨z, hz, h1, h2, h3, h4⟩
        rw [key z hz h1 h2] at h3 h4
        exact ⟨z, hz, h1, h2, h3, h4⟩
      · rintro ⟨z, hz, h1, h2, h3, h4⟩
        rw [← key z hz h1 h2] at h3 h4
        exact ⟨z, hz, h1, h2, h3, h4⟩
    have hcc : ∀ y, Cand (x :: E) ds i y ↔ (x.to_ = (i : Int) ∧ 0 ≤ x.frm ∧ 0 ≤ gt ds x.frm ∧ y = gt ds x.frm + 1) ∨ Cand E ds i y := fun y => by
      constructor
      · rintro ⟨z, hz, h⟩
        rcases List.mem_cons.1 hz with rfl | hz
        · exact .inl h
        · exact .inr ⟨z, hz, h⟩
      · rintro (h | ⟨z, hz, h⟩)
        · exact ⟨x, by simp, h⟩
        · exact ⟨z, by simp [hz], h⟩
    have hv : (gt (dst1 i ds x) i = gt ds i ∨ (x.to_ = (i : Int) ∧ 0 ≤ x.frm ∧ 0 ≤ gt ds x.frm ∧ gt (dst1 i ds x) i = gt ds x.frm + 1)) ∧ (x.to_ = (i : Int) → 0 ≤ x.frm → 0 ≤ gt ds x.frm → 0 ≤ gt (dst1 i ds x) i ∧ gt (dst1 i ds x) i ≤ gt ds x.frm + 1) ∧ (0 ≤ gt ds i → 0 ≤ gt (dst1 i ds x) i ∧ gt (dst1 i ds x) i ≤ gt ds i) := by
      unfold dst1
      split
      · rename_i h
        rw [gt_set _ hi (by omega), if_pos rfl]
        refine ⟨.inr ⟨h.1, h.2.1, h.2.2.1, rfl⟩, fun _ _ _ => by omega, fun _ => by omega⟩
      · rename_i h
        refine ⟨.inl rfl, fun h1 h2 h3 => ?_, fun h => ⟨h, Int.le_refl _⟩⟩
        have h4 : ¬ (gt ds i < 0 ∨ gt ds x.frm + 1 < gt ds i) := fun h4 => h ⟨h1, h2, h3, h4⟩
        omega
    refine ⟨fun j h0 hj => (a1 j h0 hj).trans (hs j h0 hj), fun y hy => ?_, ?_, fun h0 => ?_⟩
    · rcases (hcc y).1 hy with ⟨h1, h2, h3, rfl⟩ | hy
      · have h4 := hv.2.1 h1 h2 h3
        have h5 := a4 h4.1
        omega
      · exact a2 y ((hc y).2 hy)
    · rcases a3 with h | h
      · rcases hv.1 with h2 | h2
        · exact .inl (h.trans h2)
        · exact .inr ((hcc _).2 (.inl ⟨h2.1, h2.2.1, h2.2.2.1, h.trans h2.2.2.2⟩))
      · exact .inr ((hcc _).2 (.inr ((hc _).1 h)))
    · have h1 := hv.2.2 h0
      have h2 := a4 h1.1
      omega
/-- A number is the smallest number of links, or there is no path. -/
def DOk (E : List Lk) (frm : Int) (ds : List Int) (j : Int) : Prop := (gt ds j = -1 ∧ ∀ n, ¬ Pth E frm n j) ∨ Mn E frm j (gt ds j)
theorem dstTo_ok {E : List Lk} {N f : Nat} (hE : ∀ x ∈ E, x.frm < x.to_) (hf : f < N) : ∀ m, f + 1 + m ≤ N → (∀ j : Int, 0 ≤ j → j < (f + 1 + m : Nat) → DOk E f (dstTo E N f m) j) ∧ (∀ j : Int, ((f + 1 + m : Nat) : Int) ≤ j → j < (N : Int) → gt (dstTo E N f m) j = -1)
  | 0, hm => by
    have h0 : ∀ j : Int, 0 ≤ j → gt (dstTo E N f 0) j = if j = (f : Int) then 0 else -1 := fun j hj => by
      unfold dstTo dst0
      simp only [List.range_zero, List.foldl_nil]
      rw [gt_set _ (by simpa using hf) hj]
      congr 1
      unfold gt
      rw [List.getD_eq_getElem?_getD, List.getElem?_replicate]
      split <;> rfl
    refine ⟨fun j h1 h2 => ?_, fun j h1 h2 => by rw [h0 j (by omega), if_neg (by omega)]⟩
    unfold DOk
    rw [h0 j h1]
    by_cases hj : j = (f : Int)
    · subst hj
      rw [if_pos rfl]
      exact .inr ⟨Int.le_refl _, .zero, fun m _ => by omega⟩
    · rw [if_neg hj]
      refine .inl ⟨rfl, fun n hn => ?_⟩
      have := hn.ge hE
      omega
  | m + 1, hm => by
    obtain ⟨a, b⟩ := dstTo_ok hE hf m (by omega)
    have hst : dstTo E N f (m + 1) = dstI E (dstTo E N f m) (f + 1 + m) := by
      unfold dstTo
      rw [List.range_succ, List.foldl_append]
      rfl
    rw [hst]
    obtain ⟨c1, c2, c3, c4⟩ := dstI_spec (i := f + 1 + m) E (dstTo E N f m) (by rw [dstTo_len]; omega) hE
    obtain ⟨ds, hds⟩ : ∃ ds, dstTo E N f m = ds := ⟨_, rfl⟩
    rw [hds] at a b c1 c2 c3 c4 ⊢
    have hold := b ((f + 1 + m : Nat) : Int) (Int.le_refl _) (by omega)
    refine ⟨fun j h1 h2 => ?_, fun j h1 h2 => by rw [c1 j (by omega) (by omega)]; exact b j (by omega) h2⟩
    by_cases hj : j = ((f + 1 + m : Nat) : Int)
    · subst hj
      unfold DOk
      have hpth : ∀ n, Pth E f n ((f + 1 + m : Nat) : Int) → ∃ y, Cand E ds (f + 1 + m) y ∧ y ≤ (n : Int) := fun n hn => by
        obtain ⟨n', x, rfl, hx, hx0, hxt, hp⟩ := hn.pos hE (by omega)
        have hlt := hE x hx
        rcases a x.frm hx0 (by omega) with ⟨_, h⟩ | ⟨h3, _, h4⟩
        · exact absurd hp (h n')
        · have := h4 _ hp
          exact ⟨_, ⟨x, hx, hxt, hx0, h3, rfl⟩, by omega⟩
      rcases c3 with h | h
      · refine .inl ⟨h.trans hold, fun n hn => ?_⟩
        obtain ⟨y, hy, _⟩ := hpth n hn
        have := c2 y hy
        omega
      · obtain ⟨x, hx, hxt, hx0, hg, hy⟩ := h
        have hlt := hE x hx
        refine .inr ⟨by omega, ?_, fun n hn => ?_⟩
        · rcases a x.frm hx0 (by omega) with ⟨h5, _⟩ | ⟨h3, h4, _⟩
          · omega
          · have := Pth.step h4 hx hx0
            rw [hxt] at this
            rwa [hy, show (gt ds x.frm + 1).toNat = (gt ds x.frm).toNat + 1 by omega]
        · obtain ⟨y, hy2, hle⟩ := hpth n hn
          have := c2 y hy2
          omega
    · have := a j h1 (by omega)
      unfold DOk at this ⊢
      rwa [c1 j h1 hj]
theorem Mn.uniq {E : List Lk} {frm i d e : Int} (h : Mn E frm i d) (g : Mn E frm i e) : d = e := by
  have h1 := h.2.2 _ g.2.1
  have h2 := g.2.2 _ h.2.1
  have := h.1
  have := g.1
  omega
/-- The distances of the definition are those of the search. -/
theorem dst_bfs {l : List Ac} (hE : ∀ x ∈ (lnkD l).flatten, x.frm < x.to_) {f : Nat} (hf : f < l.length) (j : Int) (h0 : 0 ≤ j) (h1 : j < (l.length : Int)) : gt (dstS (lnkD l).flatten l.length f) j = (lookM j (bfsD l f)).getD (-1) := by
  have h := (dstTo_ok hE hf (l.length - (f + 1)) (by omega)).1 j h0 (by omega)
  have hb := bfsD_mn l (frm := (f : Int)) (by omega) (by omega) j
  unfold dstS
  rcases h with ⟨h2, h3⟩ | h2
  · rw [h2]
    cases hl : lookM j (bfsD l f) with
    | none => rfl
    | some d => exact absurd ((hb d).1 hl).2.1 (h3 _)
  · rw [(hb _).2 h2]
    rfl
/-- The link of the definition: from the smallest number that is nearer by one. -/
def bst1 (ds : List Int) (at_ : Int) (b : Option Lk) (x : Lk) : Option Lk := if x.to_ = at_ ∧ 0 ≤ x.frm ∧ gt ds x.frm = gt ds at_ - 1 ∧ lessB x b = true then some x else b
def bstS (E : List Lk) (ds : List Int) (at_ : Int) : Option Lk := E.foldl (bst1 ds at_) none
theorem bst_filter (ds : List Int) (at_ : Int) : ∀ (E : List Lk) (b : Option Lk), E.foldl (bst1 ds at_) b = (E.filter fun x => decide (x.to_ = at_)).foldl (bst1 ds at_) b
  | [], b => rfl
  | x :: E, b => by
    rw [List.filter_cons]
    by_cases h : x.to_ = at_
    · rw [if_pos (decide_eq_true h), List.foldl_cons, List.foldl_cons]
      exact bst_filter ds at_ E _
    · rw [if_neg (by simp [h]), List.foldl_cons]
      rw [show bst1 ds at_ b x = b by unfold bst1; rw [if_neg (fun g => h g.1)]]
      exact bst_filter ds at_ E _
theorem bst_step {D : DM} {ds : List Int} {at_ : Int} (hd : (lookM at_ D).getD (-1) = gt ds at_) (hp : 1 ≤ gt ds at_) : ∀ (row : List Lk) (b : Option Lk), (∀ x ∈ row, x.to_ = at_ ∧ (0 ≤ x.frm → (lookM x.frm D).getD (-1) = gt ds x.frm) ∧ (¬ 0 ≤ x.frm → lookM x.frm D = none)) → (∀ x ∈ row, ∀ d, lookM x.frm D = some d → 0 ≤ d) → row.foldl (bst1 ds at_) b = stepF D at_ row b
  | [], b, _, _ => rfl
  | x :: row, b, h, h0 => by
    obtain ⟨h1, h2, h3⟩ := h x (by simp)
    rw [List.foldl_cons, stepF, ← bst_step hd hp row _ (fun y hy => h y (by simp [hy])) (fun y hy => h0 y (by simp [hy]))]
    congr 1
    unfold bst1 better
    have hda : (lookM at_ D).getD 0 = gt ds at_ := by
      cases hl : lookM at_ D with
      | none => rw [hl] at hd; simp at hd; omega
      | some d => rw [hl] at hd; exact hd
    rw [hda]
    have : (x.to_ = at_ ∧ 0 ≤ x.frm ∧ gt ds x.frm = gt ds at_ - 1 ∧ lessB x b = true) ↔ ((lookM x.frm D).isSome && ((lookM x.frm D).getD 0 == gt ds at_ - 1) && lessB x b) = true := by
      rw [Bool.and_eq_true, Bool.and_eq_true, beq_iff_eq]
      by_cases hx0 : 0 ≤ x.frm
      · have h4 := h2 hx0
        cases hl : lookM x.frm D with
        | none =>
          rw [hl] at h4
          simp only [Option.getD_none] at h4
          constructor
          · rintro ⟨_, _, h5, _⟩; omega
          · rintro ⟨⟨h5, _⟩, _⟩; cases h5
        | some d =>
          rw [hl] at h4
          simp only [Option.getD_some] at h4
          constructor
          · rintro ⟨_, _, h5, h6⟩; exact ⟨⟨rfl, by simp only [Option.getD_some]; omega⟩, h6⟩
          · rintro ⟨⟨_, h5⟩, h6⟩; exact ⟨h1, hx0, by simp only [Option.getD_some] at h5; omega, h6⟩
      · rw [h3 hx0]
        constructor
        · rintro ⟨_, h5, _⟩; exact absurd h5 hx0
        · rintro ⟨⟨h5, _⟩, _⟩; cases h5
    by_cases hc : x.to_ = at_ ∧ 0 ≤ x.frm ∧ gt ds x.frm = gt ds at_ - 1 ∧ lessB x b = true
    · rw [if_pos hc, if_pos (this.1 hc)]
    · rw [if_neg hc, if_neg (fun g => hc (this.2 g))]
theorem stepF_mem {D : DM} {i : Int} : ∀ {l : List Lk} {b : Option Lk} {x : Lk}, stepF D i l b = some x → x ∈ l ∨ b = some x
  | [], b, x, h => .inr h
  | y :: l, b, x, h => by
    simp only [stepF] at h
    rcases stepF_mem h with h | h
    · exact .inl (by simp [h])
    · split at h
      · injection h with h; exact .inl (by simp [h])
      · exact .inr h
theorem stepF_some {D : DM} {i : Int} : ∀ {l : List Lk} {b : Option Lk}, (b.isSome = true ∨ ∃ x ∈ l, (lookM x.frm D).isSome = true ∧ (lookM x.frm D).getD 0 = (lookM i D).getD 0 - 1) → (stepF D i l b).isSome = true
  | [], b, h => by
    rcases h with h | ⟨x, hx, _⟩
    · exact h
    · cases hx
  | y :: l, b, h => by
    simp only [stepF]
    refine stepF_some (l := l) ?_
    cases hb : b with
    | some z =>
      left
      split <;> rfl
    | none =>
      rw [hb] at h
      rcases h with h | ⟨x, hx, h1, h2⟩
      · cases h
      · rcases List.mem_cons.1 hx with rfl | hx
        · left
          rw [if_pos]
          · rfl
          · unfold better
            rw [h1, h2]
            simp [lessB]
        · exact .inr ⟨x, hx, h1, h2⟩
/-- Behind the search: the definition's link is the search's, and there is one. -/
theorem bst_is {l : List Ac} (hE : ∀ x ∈ (lnkD l).flatten, x.frm < x.to_) {f : Nat} (hf : f < l.length) {i : Int} (h0 : 0 ≤ i) (h1 : i < (l.length : Int)) (hp : 0 ≤ gt (dstS (lnkD l).flatten l.length f) i) (hi : i ≠ (f : Int)) :
    ∃ x, bstS (lnkD l).flatten (dstS (lnkD l).flatten l.length f) i = some x ∧ stepS (lnkD l) (bfsD l f) i = some x ∧ 0 ≤ x.frm ∧ x.frm < i ∧ gt (dstS (lnkD l).flatten l.length f) x.frm = gt (dstS (lnkD l).flatten l.length f) i - 1 ∧ 0 ≤ gt (dstS (lnkD l).flatten l.length f) x.frm := by
  have hd := dst_bfs hE hf
  obtain ⟨ds, hds⟩ : ∃ ds, dstS (lnkD l).flatten l.length f = ds := ⟨_, rfl⟩
  rw [hds] at hd hp ⊢
  have hmn : Mn (lnkD l).flatten f i (gt ds i) := by
    rw [← bfsD_mn l (by omega) (by omega)]
    have := hd i h0 h1
    cases hl : lookM i (bfsD l f) with
    | none => rw [hl] at this; simp at this; omega
    | some d => rw [hl] at this; rw [this]; rfl
  obtain ⟨n, x0, hn, hx, hx0, hxt, hpx⟩ := hmn.2.1.pos hE hi
  have hpos : 1 ≤ gt ds i := by omega
  have hlen : i.toNat < (lnkD l).length := by rw [lnkD_len]; omega
  have hrow : (lnkD l).flatten.filter (fun x => decide (x.to_ = i)) = (lnkD l).getD i.toNat [] := by
    rw [List.getD_eq_getElem?_getD, List.getElem?_eq_getElem hlen, Option.getD_some, ← lnkD_row l i.toNat hlen, Int.toNat_of_nonneg h0]
  have hst : bstS (lnkD l).flatten ds i = stepS (lnkD l) (bfsD l f) i := by
    unfold bstS stepS
    rw [bst_filter, hrow]
    refine bst_step (hd i h0 h1).symm hpos _ _ (fun x hx => ?_) (fun x hx d hd2 => ((bfsD_mn l (by omega) (by omega) _ _).1 hd2).1)
    rw [← hrow, List.mem_filter] at hx
    have hxi := of_decide_eq_true hx.2
    have hxlt := hE x hx.1
    refine ⟨hxi, fun hx0 => (hd x.frm hx0 (by omega)).symm, fun hx0 => ?_⟩
    cases hl : lookM x.frm (bfsD l f) with
    | none => rfl
    | some d =>
      have := ((bfsD_mn l (by omega) (by omega) _ _).1 hl).2.1.ge hE
      omega
  have hx0lt := hE x0 hx
  have hg0 : Mn (lnkD l).flatten f x0.frm (gt ds i - 1) := by
    refine ⟨by omega, ?_, fun m hm => ?_⟩
    · rwa [show (gt ds i - 1).toNat = n by omega]
    · have := Pth.step hm hx hx0
      rw [hxt] at this
      have := hmn.2.2 _ this
      omega
  have hsome : (stepS (lnkD l) (bfsD l f) i).isSome = true := by
    unfold stepS
    refine stepF_some (.inr ⟨x0, by rw [← hrow]; exact List.mem_filter.2 ⟨hx, decide_eq_true hxt⟩, ?_, ?_⟩)
    · rw [(bfsD_mn l (by omega) (by omega) _ _).2 hg0]; rfl
    · rw [(bfsD_mn l (by omega) (by omega) _ _).2 hg0, (bfsD_mn l (by omega) (by omega) _ _).2 hmn]; rfl
  obtain ⟨x, hxs⟩ := Option.isSome_iff_exists.1 hsome
  obtain ⟨s1, s2⟩ := stepS_of hxs
  have hmem : x ∈ (lnkD l).getD i.toNat [] := by
    unfold stepS at hxs
    rcases stepF_mem hxs with h | h
    · exact h
    · cases h
  rw [← hrow, List.mem_filter] at hmem
  have hxi := of_decide_eq_true hmem.2
  have hxlt := hE x hmem.1
  obtain ⟨e, he⟩ := Option.isSome_iff_exists.1 s1
  have hem := (bfsD_mn l (by omega) (by omega) _ _).1 he
  have hx0' : 0 ≤ x.frm := by
    have := hem.2.1.ge hE
    omega
  have hgx := hd x.frm hx0' (by omega)
  rw [he] at hgx s2
  rw [(bfsD_mn l (by omega) (by omega) _ _).2 hmn] at s2
  simp only [Option.getD_some] at hgx s2
  exact ⟨x, hst.trans hxs, hxs, hx0', by omega, by omega, by omega⟩
/-- The chain of the definition, from its end. -/
def wantS (E : List Lk) (ds : List Int) (f : Int) : Nat → Int → List Lk → List Lk
  | 0, _, l => l
  | k + 1, i, l => if i = f then l else match bstS E ds i with
    | none => l
    | some x => wantS E ds f k x.frm (x :: l)
theorem want_is {l : List Ac} (hE : ∀ x ∈ (lnkD l).flatten, x.frm < x.to_) {f : Nat} (hf : f < l.length) : ∀ (k : Nat) (i : Int) (ls : List Lk), 0 ≤ i → i < (l.length : Int) → 0 ≤ gt (dstS (lnkD l).flatten l.length f) i → gt (dstS (lnkD l).flatten l.length f) i < (k : Int) →
    (backS (lnkD l) (bfsD l f) f k i ls).map List.reverse = some (wantS (lnkD l).flatten (dstS (lnkD l).flatten l.length f) f k i ls.reverse)
  | 0, i, ls, _, _, h2, h3 => by omega
  | k + 1, i, ls, h0, h1, h2, h3 => by
    simp only [backS, wantS]
    by_cases hi : i = (f : Int)
    · rw [if_pos hi, if_pos hi]; rfl
    · rw [if_neg hi, if_neg hi]
      obtain ⟨x, b1, b2, b3, b4, b5, b6⟩ := bst_is hE hf h0 h1 h2 hi
      rw [b1, b2]
      simp only
      rw [want_is hE hf k x.frm (ls ++ [x]) b3 (by omega) b6 (by omega)]
      simp
theorem chain_want {l : List Ac} (hE : ∀ x ∈ (lnkD l).flatten, x.frm < x.to_) {f t : Nat} (hf : f < l.length) (ht : t < l.length) : chainS l f t = if 0 ≤ gt (dstS (lnkD l).flatten l.length f) t then some (wantS (lnkD l).flatten (dstS (lnkD l).flatten l.length f) f ((gt (dstS (lnkD l).flatten l.length f) t).toNat + 1) t []) else none := by
  have hd := dst_bfs hE hf (t : Int) (by omega) (by omega)
  unfold chainS
  rw [if_pos ⟨by omega, by omega, by omega, by omega⟩]
  cases hl : lookM (t : Int) (bfsD l f) with
  | none =>
    rw [hl] at hd
    simp only [Option.getD_none] at hd
    rw [if_neg (by simp), if_neg (by omega)]
  | some d =>
    have hmn := ((bfsD_mn l (by omega) (by omega) _ _).1 hl).1
    rw [hl] at hd
    simp only [Option.getD_some] at hd
    rw [if_pos (show (some d).isSome = true from rfl), if_pos (by omega), Option.getD_some, ← hd]
    exact want_is hE hf _ _ [] (by omega) (by omega) (by omega) (by omega)
theorem lnkA_back {d : List Ac} {a : Ac} {x : Lk} (h : x ∈ lnkA d a) : x.frm < x.to_ := by
  obtain ⟨c, _, rfl⟩ := List.mem_map.1 h
  simp only
  rcases wrI_mem (wls d c.name) d.length with e | e
  · rw [e]; omega
  · have := wls_bd e; omega
theorem lnkF_back : ∀ (d r : List Ac), ∀ x ∈ (lnkF d r).flatten, x.frm < x.to_
  | d, [], x, h => by simp [lnkF] at h
  | d, a :: r, x, h => by
    simp only [lnkF, List.flatten_cons, List.mem_append] at h
    rcases h with h | h
    · exact lnkA_back h
    · exact lnkF_back (d ++ [a]) r x h
/-- Links lead to later actions. -/
theorem lnkD_back {l : List Ac} {x : Lk} (h : x ∈ (lnkD l).flatten) : x.frm < x.to_ := lnkF_back [] l x h
end Go.Proofs.Ytmjkcanjfjfkfaa
