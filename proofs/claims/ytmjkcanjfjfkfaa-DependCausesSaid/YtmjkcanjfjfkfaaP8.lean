/- Plain facts of layer 47: the definition's reach is the least closed set. -/
import Derived.Test.YtmjkcanjfjfkfaaC1
import Derived.Test.YtmjkcanjfjfkfaaE1
import Derived.Test.YtmjkcanjfjfkfaaP7
namespace Go.Proofs.Ytmjkcanjfjfkfaa
set_option linter.unusedSimpArgs false
set_option linter.unusedVariables false
/-- A mark. -/
def mkd (m : List Bool) (j : Int) : Bool := m.getD j.toNat false
abbrev MSt := List Bool × Bool
theorem mk_set {m : List Bool} {i : Nat} {j : Int} (hi : i < m.length) (hj : 0 ≤ j) : mkd (m.set i true) j = if j = (i : Int) then true else mkd m j := by
  unfold mkd
  rw [List.getD_eq_getElem?_getD, List.getD_eq_getElem?_getD, List.getElem?_set]
  by_cases h : j = (i : Int)
  · subst h
    simp [hi]
  · rw [if_neg (by omega), if_neg h]
def cntF (m : List Bool) : Nat := m.countP fun b => !b
theorem cntF_set : ∀ {m : List Bool} {i : Nat}, m.getD i false = false → i < m.length → cntF (m.set i true) < cntF m
  | [], i, _, h => by simp at h
  | b :: m, 0, h, _ => by
    simp only [List.getD_cons_zero] at h
    subst h
    simp [cntF, List.countP_cons]
  | b :: m, i + 1, h, hl => by
    have := cntF_set (m := m) (i := i) (by simpa using h) (by simpa using hl)
    simp only [cntF, List.set_cons_succ, List.countP_cons] at this ⊢
    omega
theorem cntF_le (m : List Bool) : cntF m ≤ m.length := List.countP_le_length
/-- Marks grow. -/
structure Grw (st st' : MSt) : Prop where
  len : st'.1.length = st.1.length
  mono : ∀ j, mkd st.1 j = true → mkd st'.1 j = true
  alt : st' = st ∨ (st'.2 = true ∧ cntF st'.1 < cntF st.1)
theorem Grw.refl (st : MSt) : Grw st st := ⟨rfl, fun _ h => h, .inl rfl⟩
theorem Grw.trans {a b c : MSt} (h : Grw a b) (g : Grw b c) : Grw a c := by
  refine ⟨g.len.trans h.len, fun j hj => g.mono j (h.mono j hj), ?_⟩
  rcases h.alt with h1 | ⟨h1, h2⟩ <;> rcases g.alt with g1 | ⟨g1, g2⟩
  · exact .inl (g1.trans h1)
  · exact .inr ⟨g1, by rw [← h1]; exact g2⟩
  · exact .inr (by rw [g1]; exact ⟨h1, h2⟩)
  · exact .inr ⟨g1, by omega⟩
theorem Grw.set {st : MSt} {i : Nat} (h : mkd st.1 i = false) (hi : i < st.1.length) : Grw st (st.1.set i true, true) := by
  refine ⟨by simp, fun j hj => ?_, .inr ⟨rfl, cntF_set (by unfold mkd at h; rwa [Int.toNat_natCast] at h) hi⟩⟩
  by_cases h0 : 0 ≤ j
  · rw [mk_set hi h0]
    split
    · rfl
    · exact hj
  · have : mkd (st.1.set i true) ((0 : Nat) : Int) = true := by
      rw [mk_set hi (by omega)]
      split
      · rfl
      · unfold mkd at hj ⊢
        rwa [show j.toNat = 0 by omega] at hj
    unfold mkd at this ⊢
    rwa [show j.toNat = 0 by omega]
theorem Grw.fold {α : Type} {f : MSt → α → MSt} {N : Nat} : ∀ (l : List α) (st : MSt), st.1.length = N → (∀ st : MSt, st.1.length = N → ∀ x ∈ l, Grw st (f st x)) → Grw st (l.foldl f st)
  | [], st, _, _ => Grw.refl st
  | x :: l, st, hs, h => (h st hs x (by simp)).trans (Grw.fold l (f st x) ((h st hs x (by simp)).len.trans hs) fun s hs y hy => h s hs y (by simp [hy]))
theorem Grw.still {a b c : MSt} (h : Grw a b) (g : Grw b c) (ha : a.2 = false) (hc : c.2 = false) : b = a ∧ c = b := by
  rcases h.alt with h1 | ⟨h1, _⟩
  · refine ⟨h1, ?_⟩
    rcases g.alt with g1 | ⟨g1, _⟩
    · exact g1
    · rw [hc] at g1; cases g1
  · rcases g.alt with g1 | ⟨g1, _⟩
    · rw [g1, h1] at hc; cases hc
    · rw [hc] at g1; cases g1
theorem fold_still {α : Type} {f : MSt → α → MSt} {N : Nat} : ∀ (l : List α) (st : MSt), st.1.length = N → (∀ st : MSt, st.1.length = N → ∀ x ∈ l, Grw st (f st x)) → st.2 = false → (l.foldl f st).2 = false → l.foldl f st = st ∧ ∀ x ∈ l, f st x = st
  | [], st, _, _, _, _ => ⟨rfl, fun x hx => by cases hx⟩
  | x :: l, st, hs, h, h0, h1 => by
    have g1 := h st hs x (by simp)
    have g2 := Grw.fold l (f st x) (g1.len.trans hs) fun s hs y hy => h s hs y (by simp [hy])
    obtain ⟨e1, e2⟩ := g1.still g2 h0 h1
    simp only [List.foldl_cons] at h1 ⊢
    rw [e1] at h1 ⊢
    obtain ⟨e3, e4⟩ := fold_still l st hs (fun s hs y hy => h s hs y (by simp [hy])) h0 h1
    refine ⟨e3, fun y hy => ?_⟩
    rcases List.mem_cons.1 hy with rfl | hy
    · exact e1
    · exact e4 y hy
/-- Where a link begins, as the pass goes. -/
def srcF (fwd : Bool) (x : Lk) : Int := if fwd then x.frm else x.to_
def dstF (fwd : Bool) (x : Lk) : Int := if fwd then x.to_ else x.frm
/-- One link of a pass. -/
def pas1 (fwd : Bool) (st : MSt) (x : Lk) : MSt := if x.frm < 0 then st else
  if mkd st.1 (srcF fwd x) && !mkd st.1 (dstF fwd x) then (st.1.set (dstF fwd x).toNat true, true) else st
/-- One pair of actions of a pass. -/
def pasO (ks : List Ky) (i : Nat) (st : MSt) (k : Nat) : MSt := if mkd st.1 i && !mkd st.1 k && (prK ks i).isSome && (prK ks i == prK ks k) then (st.1.set k true, true) else st
def oRow (ks : List Ky) (i m : Nat) (st : MSt) : MSt := (List.range m).foldl (pasO ks i) st
def oAll (ks : List Ky) (L : Nat) (st : MSt) (n : Nat) : MSt := (List.range n).foldl (fun st i => oRow ks i L st) st
def pasS (E : List Lk) (ks : List Ky) (fwd own : Bool) (L : Nat) (m : List Bool) : MSt := if own then oAll ks L (E.foldl (pas1 fwd) (m, false)) ks.length else E.foldl (pas1 fwd) (m, false)
/-- A set is closed as the definition's reach asks. -/
structure ClR (E : List Lk) (ks : List Ky) (fwd own : Bool) (L : Nat) (P : Int → Prop) : Prop where
  lk : ∀ x ∈ E, 0 ≤ x.frm → P (srcF fwd x) → P (dstF fwd x)
  ow : own = true → ∀ i k : Nat, i < ks.length → k < L → (prK ks i).isSome = true → prK ks i = prK ks k → P i → P k
theorem pas1_grw {E : List Lk} {N : Nat} (hE : ∀ x ∈ E, x.frm < (N : Int) ∧ 0 ≤ x.to_ ∧ x.to_ < (N : Int)) (fwd : Bool) (st : MSt) (hs : st.1.length = N) (x : Lk) (hx : x ∈ E) : Grw st (pas1 fwd st x) := by
  have h := hE x hx
  unfold pas1
  split
  · exact Grw.refl _
  · rename_i h0
    split
    · rename_i h1
      rw [Bool.and_eq_true] at h1
      obtain ⟨j, hj⟩ : ∃ j, dstF fwd x = j := ⟨_, rfl⟩
      rw [hj] at h1 ⊢
      have hjr : 0 ≤ j ∧ j < (N : Int) := by rw [← hj]; unfold dstF; cases fwd <;> simp <;> omega
      have hb : mkd st.1 j = false := by simpa using h1.2
      exact Grw.set (by rw [Int.toNat_of_nonneg hjr.1]; exact hb) (by omega)
    · exact Grw.refl _
theorem pasO_grw {ks : List Ky} {i : Nat} {L : Nat} (hL : L ≤ ks.length) (st : MSt) (hs : st.1.length = ks.length) (k : Nat) (hk : k ∈ List.range L) : Grw st (pasO ks i st k) := by
  rw [List.mem_range] at hk
  unfold pasO
  split
  · rename_i h
    simp only [Bool.and_eq_true] at h
    exact Grw.set (by simpa using h.1.1.2) (by omega)
  · exact Grw.refl _
theorem oRow_grw {ks : List Ky} {L : Nat} (hL : L ≤ ks.length) (i : Nat) {m : Nat} (hm : m ≤ L) (st : MSt) (hs : st.1.length = ks.length) : Grw st (oRow ks i m st) :=
  Grw.fold _ st hs fun s h k hk => pasO_grw hL s h k (List.mem_range.2 (by have := List.mem_range.1 hk; omega))
theorem oAll_grw {ks : List Ky} {L : Nat} (hL : L ≤ ks.length) (n : Nat) (st : MSt) (hs : st.1.length = ks.length) : Grw st (oAll ks L st n) :=
  Grw.fold _ st hs fun s h i _ => oRow_grw hL i (Nat.le_refl _) s h
theorem fold1_grw {E : List Lk} {N : Nat} (hE : ∀ x ∈ E, x.frm < (N : Int) ∧ 0 ≤ x.to_ ∧ x.to_ < (N : Int)) (fwd : Bool) (st : MSt) (hs : st.1.length = N) : Grw st (E.foldl (pas1 fwd) st) :=
  Grw.fold _ st hs fun s h x hx => pas1_grw hE fwd s h x hx
/-- What is closed holds what a pass marks. -/
def InP (P : Int → Prop) (m : List Bool) : Prop := ∀ j : Int, 0 ≤ j → mkd m j = true → P j
theorem InP.set {P : Int → Prop} {m : List Bool} (h : InP P m) {j : Nat} (hj : j < m.length) (hp : P j) : InP P (m.set j true) := fun i h0 hi => by
  rw [mk_set hj h0] at hi
  split at hi
  · rename_i e; rw [e]; exact hp
  · exact h i h0 hi
theorem pas1_in {E : List Lk} {N : Nat} (hE : ∀ x ∈ E, x.frm < (N : Int) ∧ 0 ≤ x.to_ ∧ x.to_ < (N : Int)) {ks : List Ky} {fwd own : Bool} {L : Nat} {P : Int → Prop} (hP : ClR E ks fwd own L P) : ∀ (F : List Lk) (st : MSt), (∀ x ∈ F, x ∈ E) → st.1.length = N → InP P st.1 → InP P (F.foldl (pas1 fwd) st).1
  | [], st, _, _, h => h
  | x :: F, st, hF, hs, h => by
    have hx := hF x (by simp)
    rw [List.foldl_cons]
    refine pas1_in hE hP F _ (fun y hy => hF y (by simp [hy])) ((pas1_grw hE fwd st hs x hx).len.trans hs) ?_
    have hr := hE x hx
    unfold pas1
    split
    · exact h
    · rename_i h0
      split
      · rename_i h1
        rw [Bool.and_eq_true] at h1
        have hk := hP.lk x hx (by omega) (h _ (by unfold srcF; cases fwd <;> simp <;> omega) h1.1)
        obtain ⟨j, hj⟩ : ∃ j, dstF fwd x = j := ⟨_, rfl⟩
        rw [hj] at hk ⊢
        have hjr : 0 ≤ j ∧ j < (N : Int) := by rw [← hj]; unfold dstF; cases fwd <;> simp <;> omega
        exact h.set (by omega) (by rw [Int.toNat_of_nonneg hjr.1]; exact hk)
      · exact h
theorem pasO_in {E : List Lk} {ks : List Ky} {fwd : Bool} {L : Nat} {P : Int → Prop} (hL : L ≤ ks.length) (hP : ClR E ks fwd true L P) {i : Nat} (hi : i < ks.length) : ∀ (F : List Nat) (st : MSt), (∀ k ∈ F, k < L) → st.1.length = ks.length → InP P st.1 → InP P (F.foldl (pasO ks i) st).1
  | [], st, _, _, h => h
  | k :: F, st, hF, hs, h => by
    have hk := hF k (by simp)
    rw [List.foldl_cons]
    refine pasO_in hL hP hi F _ (fun y hy => hF y (by simp [hy])) ((pasO_grw hL st hs k (List.mem_range.2 hk)).len.trans hs) ?_
    unfold pasO
    split
    · rename_i h1
      simp only [Bool.and_eq_true, beq_iff_eq] at h1
      exact h.set (by omega) (hP.ow rfl i k hi hk h1.1.2 h1.2 (h i (by omega) h1.1.1.1))
    · exact h
theorem oAll_in {E : List Lk} {ks : List Ky} {fwd : Bool} {L : Nat} {P : Int → Prop} (hL : L ≤ ks.length) (hP : ClR E ks fwd true L P) : ∀ (F : List Nat) (st : MSt), (∀ i ∈ F, i < ks.length) → st.1.length = ks.length → InP P st.1 → InP P (F.foldl (fun st i => oRow ks i L st) st).1
  | [], st, _, _, h => h
  | i :: F, st, hF, hs, h => by
    rw [List.foldl_cons]
    refine oAll_in hL hP F _ (fun y hy => hF y (by simp [hy])) ((oRow_grw hL i (Nat.le_refl _) st hs).len.trans hs) ?_
    exact pasO_in hL hP (hF i (by simp)) _ st (fun k hk => List.mem_range.1 hk) hs h
/-- A pass: it marks more, or all is closed. -/
theorem pasS_is {E : List Lk} {ks : List Ky} (hE : ∀ x ∈ E, x.frm < (ks.length : Int) ∧ 0 ≤ x.to_ ∧ x.to_ < (ks.length : Int)) (fwd own : Bool) {L : Nat} (hL : L ≤ ks.length) (m : List Bool) (hm : m.length = ks.length) :
    Grw (m, false) (pasS E ks fwd own L m) ∧ (∀ P, ClR E ks fwd own L P → InP P m → InP P (pasS E ks fwd own L m).1) ∧ ((pasS E ks fwd own L m).2 = false → (pasS E ks fwd own L m).1 = m ∧ ClR E ks fwd own L fun j => mkd m j = true) := by
  have g1 := fold1_grw hE fwd (m, false) hm
  have hl1 : ∀ x ∈ E, pas1 fwd (m, false) x = (m, false) → 0 ≤ x.frm → mkd m (srcF fwd x) = true → mkd m (dstF fwd x) = true := fun x hx hp h0 h1 => by
    unfold pas1 at hp
    rw [if_neg (by omega)] at hp
    simp only [h1, Bool.true_and] at hp
    cases hb : mkd m (dstF fwd x) with
    | true => rfl
    | false =>
      rw [hb] at hp
      simp at hp
  unfold pasS
  cases own with
  | false =>
    simp only [Bool.false_eq_true, if_false]
    refine ⟨g1, fun P hP h => pas1_in hE hP E _ (fun _ h => h) hm h, fun h => ?_⟩
    obtain ⟨e1, e2⟩ := fold_still E (m, false) hm (fun s hs x hx => pas1_grw hE fwd s hs x hx) rfl h
    rw [e1]
    exact ⟨rfl, fun x hx h0 h1 => hl1 x hx (e2 x hx) h0 h1, fun h => by cases h⟩
  | true =>
    simp only [if_true]
    obtain ⟨st1, hst1⟩ : ∃ st1, E.foldl (pas1 fwd) (m, false) = st1 := ⟨_, rfl⟩
    have hin1 : ∀ P, ClR E ks fwd true L P → InP P m → InP P st1.1 := fun P hP h => by rw [← hst1]; exact pas1_in hE hP E _ (fun _ h => h) hm h
    rw [hst1] at g1 ⊢
    have hs1 : st1.1.length = ks.length := g1.len.trans hm
    have g2 := oAll_grw hL ks.length st1 hs1
    refine ⟨g1.trans g2, fun P hP h => oAll_in hL hP _ st1 (fun i hi => List.mem_range.1 hi) hs1 (hin1 P hP h), fun h => ?_⟩
    obtain ⟨e1, e2⟩ := g1.still g2 rfl h
    rw [e1] at e2 h hst1
    rw [e1, e2]
    obtain ⟨_, e4⟩ := fold_still E (m, false) hm (fun s hs x hx => pas1_grw hE fwd s hs x hx) rfl (by rw [hst1])
    refine ⟨rfl, fun x hx h0 h1 => hl1 x hx (e4 x hx) h0 h1, fun _ i k hi hk ho he h1 => ?_⟩
    obtain ⟨_, e5⟩ := fold_still (f := fun st i => oRow ks i L st) (List.range ks.length) (m, false) hm (fun s hs i _ => oRow_grw hL i (Nat.le_refl _) s hs) rfl h
    have e6 := e5 i (List.mem_range.2 hi)
    obtain ⟨_, e7⟩ := fold_still (f := pasO ks i) (List.range L) (m, false) hm (fun s hs k hk => pasO_grw hL s hs k hk) rfl (by have : (List.range L).foldl (pasO ks i) (m, false) = (m, false) := e6; rw [this])
    have e8 := e7 k (List.mem_range.2 hk)
    unfold pasO at e8
    cases hb : mkd m (k : Int) with
    | true => rfl
    | false =>
      exfalso
      skip
      rw [h1, hb, ho, he] at e8
      simp at e8
/-- The numbers of marks. -/
def outS (m : List Bool) (n : Nat) : List Int := ((List.range n).filter fun (i : Nat) => mkd m (i : Int)).map fun (i : Nat) => (i : Int)
theorem outS_succ (m : List Bool) (n : Nat) : outS m (n + 1) = outS m n ++ (if mkd m (n : Int) then [(n : Int)] else []) := by
  unfold outS
  rw [List.range_succ, List.filter_append, List.map_append]
  congr 1
  rw [List.filter_cons, List.filter_nil]
  split <;> rfl
theorem outS_mem (m : List Bool) (n : Nat) (x : Int) : x ∈ outS m n ↔ 0 ≤ x ∧ x < (n : Int) ∧ mkd m x = true := by
  unfold outS
  rw [List.mem_map]
  constructor
  · rintro ⟨i, hi, rfl⟩
    obtain ⟨h1, h2⟩ := List.mem_filter.1 hi
    rw [List.mem_range] at h1
    exact ⟨by omega, by omega, h2⟩
  · rintro ⟨h0, h1, h2⟩
    refine ⟨x.toNat, List.mem_filter.2 ⟨List.mem_range.2 (by omega), ?_⟩, Int.toNat_of_nonneg h0⟩
    show mkd m ((x.toNat : Nat) : Int) = true
    rw [Int.toNat_of_nonneg h0]; exact h2
theorem outS_asc (m : List Bool) (n : Nat) : (outS m n).Pairwise (· < ·) := by
  unfold outS
  rw [List.pairwise_map]
  exact (List.pairwise_lt_range.filter _).imp fun h => by omega
theorem outS_len (m : List Bool) (n : Nat) : (outS m n).length ≤ n := by
  unfold outS
  rw [List.length_map]
  exact Nat.le_trans (List.length_filter_le _ _) (by simp)
/-- What the definition's reach answers. -/
def RchP (E : List Lk) (ks : List Ky) (fwd own : Bool) (L : Nat) (m0 : List Bool) (out : List Int) : Prop :=
  ∃ m : List Bool, m.length = ks.length ∧ out = outS m ks.length ∧ (∀ j, mkd m0 j = true → mkd m j = true) ∧ ClR E ks fwd own L (fun j => mkd m j = true) ∧ ∀ P, ClR E ks fwd own L P → InP P m0 → InP P m
/-- The last mark. -/
def lstS (m : List Bool) (n : Nat) : Int := (List.range n).foldl (fun (a : Int) (i : Nat) => if mkd m (i : Int) then (i : Int) else a) (-1)
theorem lstS_succ (m : List Bool) (n : Nat) : lstS m (n + 1) = if mkd m (n : Int) then (n : Int) else lstS m n := by
  unfold lstS
  rw [List.range_succ, List.foldl_append]
  rfl
theorem lstS_spec (m : List Bool) : ∀ n, (-1 ≤ lstS m n ∧ lstS m n < (n : Int)) ∧ (∀ i : Nat, i < n → mkd m (i : Int) = true → (i : Int) ≤ lstS m n) ∧ (lstS m n = -1 ∨ mkd m (lstS m n) = true)
  | 0 => ⟨by simp [lstS], fun i h => absurd h (Nat.not_lt_zero _), .inl rfl⟩
  | n + 1 => by
    obtain ⟨a, b, c⟩ := lstS_spec m n
    rw [lstS_succ]
    cases hb : mkd m (n : Int) with
    | true =>
      simp only [if_true]
      exact ⟨by omega, fun i hi _ => by omega, .inr hb⟩
    | false =>
      simp only [Bool.false_eq_true, if_false]
      refine ⟨by omega, fun i hi hm => ?_, c⟩
      rcases Nat.lt_succ_iff_lt_or_eq.1 hi with h | h
      · exact b i h hm
      · subst h; rw [hb] at hm; cases hm
/-- The greatest of some numbers. -/
def grtS (xs : List Int) : Int := xs.foldl max (-1)
theorem fold_max : ∀ (xs : List Int) (a : Int), a ≤ xs.foldl max a ∧ (∀ x ∈ xs, x ≤ xs.foldl max a) ∧ (xs.foldl max a = a ∨ xs.foldl max a ∈ xs)
  | [], a => ⟨Int.le_refl _, fun x h => (by cases h), .inl rfl⟩
  | x :: xs, a => by
    obtain ⟨h1, h2, h3⟩ := fold_max xs (max a x)
    rw [List.foldl_cons]
    refine ⟨by omega, fun y hy => ?_, ?_⟩
    · rcases List.mem_cons.1 hy with rfl | hy
      · omega
      · exact h2 y hy
    · rcases h3 with h | h
      · rcases (show max a x = a ∨ max a x = x by omega) with e | e
        · exact .inl (h.trans e)
        · exact .inr (by rw [h, e]; simp)
      · exact .inr (by simp [h])
/-- The marks of a list. -/
def MkOf (m : List Bool) (xs : List Int) (N : Nat) : Prop := m.length = N ∧ ∀ j : Int, 0 ≤ j → j < (N : Int) → (mkd m j = true ↔ j ∈ xs)
theorem lst_grt {m : List Bool} {xs : List Int} {N : Nat} (h : MkOf m xs N) (hx : ∀ x ∈ xs, 0 ≤ x ∧ x < (N : Int)) : lstS m N = grtS xs := by
  obtain ⟨a1, a2, a3⟩ := lstS_spec m N
  obtain ⟨b1, b2, b3⟩ := fold_max xs (-1)
  unfold grtS
  have h1 : lstS m N ≤ xs.foldl max (-1) := by
    rcases a3 with e | e
    · omega
    · by_cases h0 : 0 ≤ lstS m N
      · exact b2 _ ((h.2 _ h0 a1.2).1 e)
      · omega
  have h2 : xs.foldl max (-1) ≤ lstS m N := by
    rcases b3 with e | e
    · omega
    · have hr := hx _ e
      have := a2 (xs.foldl max (-1)).toNat (by omega) (by rw [Int.toNat_of_nonneg hr.1]; exact (h.2 _ hr.1 hr.2).2 e)
      omega
  omega
end Go.Proofs.Ytmjkcanjfjfkfaa
