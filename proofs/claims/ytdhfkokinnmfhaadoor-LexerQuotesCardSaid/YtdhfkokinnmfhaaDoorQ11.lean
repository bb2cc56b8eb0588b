/- Plain lemmas of layer 21: what is found does not hang on what stands behind a blank. -/
import Derived.Test.YtdhfkokinnmfhaaDoorQ10
namespace Go.Proofs.YtdhfkokinnmfhaaDoor
set_option linter.unusedSimpArgs false
set_option linter.unusedVariables false
def Blk (n : Int) : Prop := n = 10 ∨ n = 32 ∨ n = 9
/-- Two texts agree on their first n bytes. -/
def Loc (x y : ByteArray) (n : Nat) : Prop := n ≤ x.size ∧ n ≤ y.size ∧ ∀ i, i < n → bt x i = bt y i
theorem Loc.mono {x y : ByteArray} {n m : Nat} (h : Loc x y n) (hm : m ≤ n) : Loc x y m := ⟨Nat.le_trans hm h.1, Nat.le_trans hm h.2.1, fun i hi => h.2.2 i (by omega)⟩
theorem Loc.ext {x y : ByteArray} {n : Nat} (h : Loc x y n) : x.extract 0 n = y.extract 0 n := by
  apply ext_bt
  · rw [size_extract _ _ _ h.1, size_extract _ _ _ h.2.1]
  · intro i hi
    rw [size_extract _ _ _ h.1] at hi
    rw [bt_extract x 0 n i h.1 (by omega), bt_extract y 0 n i h.2.1 (by omega), Nat.zero_add, h.2.2 i (by omega)]
theorem blk_aln (n : Int) (h : Blk n) : alnI n = false := by
  rcases h with rfl | rfl | rfl <;> decide
theorem lead_loc (x y : ByteArray) (h : Loc x y (leadB alnI x)) (hd : y.size = leadB alnI x ∨ Blk (bt y (leadB alnI x))) : leadB alnI y = leadB alnI x :=
  leadB_at alnI y _ h.2.1 (fun i hi => by rw [← h.2.2 i hi]; exact leadB_spec alnI x i hi) (by
    rcases hd with h | h
    · exact .inl h.symm
    · exact .inr (blk_aln _ h))
theorem escS_loc (x y : ByteArray) (k m : Nat) (b : Int) (hl : Loc x y m) (hk : k + 1 ≤ x.size) (h : escS x k = (b, (m : Int), 0)) : escS y k = (b, (m : Int), 0) := by
  unfold escS at h ⊢
  by_cases h1 : k + 1 = x.size
  · rw [if_pos h1] at h; simp at h
  rw [if_neg h1] at h
  by_cases h2 : bt x (k + 1) ≠ 120
  · rw [if_pos h2] at h
    by_cases h3 : 128 ≤ bt x (k + 1) ∨ escT (bt x (k + 1)) = 0
    · rw [if_pos h3] at h; simp at h
    rw [if_neg h3] at h
    have hm : m = k + 2 := by simp at h; omega
    have e1 : bt y (k + 1) = bt x (k + 1) := (hl.2.2 (k + 1) (by omega)).symm
    rw [if_neg (by have := hl.2.1; omega), e1, if_pos h2, if_neg h3]
    exact h
  rw [if_neg h2] at h
  by_cases h3 : k + 2 = x.size
  · rw [if_pos h3] at h; simp at h
  rw [if_neg h3] at h
  by_cases h4 : hexI (bt x (k + 2)) = false
  · rw [if_pos h4] at h; simp at h
  rw [if_neg h4] at h
  by_cases h5 : k + 3 = x.size
  · rw [if_pos h5] at h; simp at h
  rw [if_neg h5] at h
  by_cases h6 : hexI (bt x (k + 3)) = false
  · rw [if_pos h6] at h; simp at h
  rw [if_neg h6] at h
  have hm : m = k + 4 := by simp at h; omega
  have hy := hl.2.1
  have e1 : bt y (k + 1) = bt x (k + 1) := (hl.2.2 (k + 1) (by omega)).symm
  have e2 : bt y (k + 2) = bt x (k + 2) := (hl.2.2 (k + 2) (by omega)).symm
  have e3 : bt y (k + 3) = bt x (k + 3) := (hl.2.2 (k + 3) (by omega)).symm
  rw [e1, e2, e3, if_neg (show ¬ k + 1 = y.size by omega), if_neg h2, if_neg (show ¬ k + 2 = y.size by omega), if_neg h4, if_neg (show ¬ k + 3 = y.size by omega), if_neg h6]
  exact h
theorem oneS_loc (x y : ByteArray) (k m : Nat) (q b : Int) (hl : Loc x y m) (hk : k ≤ x.size) (h : oneS x k q = (b, (m : Int), 0)) : oneS y k q = (b, (m : Int), 0) := by
  obtain ⟨b', m', h', m1, _⟩ := oneS_ok x k q hk (by rw [h])
  have hmm : m' = m := by rw [h'] at h; simp at h; omega
  subst hmm
  have hy := hl.2.1
  have e0 : bt y k = bt x k := (hl.2.2 k (by omega)).symm
  unfold oneS at h ⊢
  by_cases h1 : k = x.size
  · rw [if_pos h1] at h; simp at h
  rw [if_neg h1] at h
  rw [if_neg (show ¬ k = y.size by omega), e0]
  by_cases h2 : bt x k = 92
  · rw [if_pos h2] at h ⊢
    exact escS_loc x y k m' b hl (by omega) h
  rw [if_neg h2] at h ⊢
  exact h
theorem quoL_size (s : ByteArray) : ∀ (f k : Nat) (acc : List Int), k ≤ s.size → (quoL s f k acc).e = 0 → (quoL s f k acc).kind = 3 → k < (quoL s f k acc).size
  | 0, k, acc, _, _, h => by simp [quoL, attE] at h
  | f + 1, k, acc, hk, he, h3 => by
    rw [quoL_step] at he h3 ⊢
    by_cases h1 : k < s.size ∧ bt s k = 34
    · rw [if_pos h1] at he h3 ⊢
      by_cases h2 : 200 < acc.length
      · rw [if_pos h2] at he; simp [attE] at he
      · rw [if_neg h2]; simp
    rw [if_neg h1] at he h3 ⊢
    by_cases h2 : (oneS s k 34).2.2 ≠ 0
    · rw [if_pos h2] at he; simp [attE] at he; exact absurd he h2
    rw [if_neg h2] at he h3 ⊢
    obtain ⟨b, m, hO, m1, m2, _⟩ := oneS_ok s k 34 hk (by simpa using h2)
    rw [hO] at he h3 ⊢
    have := quoL_size s f m _ m2 he h3
    exact Nat.lt_trans (show k < m by omega) this
theorem quoL_kind (s : ByteArray) : ∀ (f k : Nat) (acc : List Int), k ≤ s.size → s.size < f + k → (quoL s f k acc).e = 0 → (quoL s f k acc).kind = 3
  | 0, k, acc, _, hf, _ => by omega
  | f + 1, k, acc, hk, hf, he => by
    rw [quoL_step] at he ⊢
    by_cases h1 : k < s.size ∧ bt s k = 34
    · rw [if_pos h1] at he ⊢
      by_cases h2 : 200 < acc.length
      · rw [if_pos h2] at he; simp [attE] at he
      · rw [if_neg h2]
    rw [if_neg h1] at he ⊢
    by_cases h2 : (oneS s k 34).2.2 ≠ 0
    · rw [if_pos h2] at he; simp [attE] at he; exact absurd he h2
    rw [if_neg h2] at he ⊢
    obtain ⟨b, m, hO, m1, m2, _⟩ := oneS_ok s k 34 hk (by simpa using h2)
    rw [hO] at he ⊢
    exact quoL_kind s f m _ m2 (by omega) he
theorem quoL_loc (x y : ByteArray) : ∀ (f g k : Nat) (acc : List Int), k ≤ x.size → x.size < f + k → y.size < g + k → (quoL x f k acc).e = 0 → Loc x y (quoL x f k acc).size → quoL y g k acc = quoL x f k acc
  | 0, g, k, acc, hk, hf, _, he, hl => by omega
  | f + 1, 0, k, acc, hk, hf, hg, he, hl => by
    have h3 := quoL_kind x (f + 1) k acc hk hf he
    have := quoL_size x (f + 1) k acc hk he h3
    have := hl.2.1
    omega
  | f + 1, g + 1, k, acc, hk, hf, hg, he, hl => by
    have h3 := quoL_kind x (f + 1) k acc hk hf he
    have hsz := quoL_size x (f + 1) k acc hk he h3
    rw [quoL_step] at he hl h3 hsz
    rw [quoL_step, quoL_step x]
    by_cases h1 : k < x.size ∧ bt x k = 34
    · rw [if_pos h1] at he hl hsz ⊢
      by_cases h2 : 200 < acc.length
      · rw [if_pos h2] at he; simp [attE] at he
      · rw [if_neg h2] at hl hsz ⊢
        have hy : k + 1 ≤ y.size := hl.2.1
        rw [if_pos ⟨by omega, by rw [← hl.2.2 k (by show k < k + 1; omega)]; exact h1.2⟩, if_neg h2, (show x.extract 0 (k + 1) = y.extract 0 (k + 1) from Loc.ext hl)]
    rw [if_neg h1] at he hl h3 hsz ⊢
    by_cases h2 : (oneS x k 34).2.2 ≠ 0
    · rw [if_pos h2] at he; simp [attE] at he; exact absurd he h2
    rw [if_neg h2] at he hl h3 hsz ⊢
    obtain ⟨b, m, hO, m1, m2, _, _, hkx⟩ := oneS_ok x k 34 hk (by simpa using h2)
    rw [hO] at he hl h3 hsz ⊢
    simp only [Int.toNat_natCast] at he hl h3 hsz ⊢
    have hmm := quoL_size x f m _ m2 he h3
    have hOy := oneS_loc x y k m 34 b (hl.mono (by omega)) hk hO
    have ey : bt y k = bt x k := (hl.2.2 k (by omega)).symm
    rw [if_neg (by rw [ey]; exact fun hh => h1 ⟨hkx, hh.2⟩), hOy, if_neg (by simp)]
    simp only [Int.toNat_natCast]
    exact quoL_loc x y f g m _ m2 (by omega) (by omega) he hl
theorem syms_2 : ∀ z ∈ syms, z.size = 2 → ¬ (bt z 1 = 10 ∨ bt z 1 = 32 ∨ bt z 1 = 9) := by decide +kernel
theorem symS_eq (x : ByteArray) (a : Att) (h : symS x = some a) : (symT x).size ≠ 0 ∧ a = ⟨5, symT x, 0, ⟨#[]⟩, (symT x).size, 0, 0⟩ := by
  unfold symS at h
  generalize symT x = T at *
  by_cases h0 : T.size = 0
  · rw [if_pos h0] at h; cases h
  · rw [if_neg h0] at h; injection h with h; exact ⟨h0, h.symm⟩
theorem sym_loc (x y : ByteArray) (a : Att) (h : symS x = some a) (hl : Loc x y a.size) (hd : y.size = a.size ∨ Blk (bt y a.size)) : symS y = some a := by
  have hg := symS_good x a h
  have hin := symT_in x
  obtain ⟨h0, t3⟩ := symS_eq x a h
  have he : a.e = 0 := by rw [t3]
  have t1 : a.text = symT x := by rw [t3]
  have t2 : a.size = (symT x).size := by rw [t3]
  obtain ⟨_, g1, g2, g3, _⟩ := hg.1 he
  have key : symT y = symT x := by
    have hex := Loc.ext hl
    have hx := g3
    rw [t1] at hx
    generalize symT x = T at *
    rcases hin with rfl | ⟨hm, hp⟩
    · have : a.size = 0 := t2; omega
    · rcases syms_no _ hm with h1 | h2
      · have ha1 : a.size = 1 := by omega
        rw [ha1] at hx hex hd hl
        rw [hx, hex]
        refine symT_one y hl.2.1 ?_ ?_
        · rintro ⟨h2, h3⟩
          have hb := syms_2 _ h3 (by rw [size_extract _ _ _ h2])
          rw [bt_extract y 0 2 1 h2 (by omega)] at hb
          rcases hd with h | h
          · omega
          · exact hb h
        · rw [← hex, ← hx]; exact hm
      · have ha2 : a.size = 2 := by omega
        rw [ha2] at hx hex hd hl
        rw [hx, hex]
        exact symT_two y hl.2.1 (by rw [← hex, ← hx]; exact hm)
  unfold symS
  rw [key, if_neg h0]
  exact congrArg some t3.symm
theorem find_loc (x y : ByteArray) (a : Att) (hx : 0 < x.size) (h : findS x = some a) (he : a.e = 0) (hl : Loc x y a.size) (hd : y.size = a.size ∨ Blk (bt y a.size)) : findS y = some a := by
  obtain ⟨hg, _⟩ := findS_good x a hx h
  obtain ⟨_, g1, g2, g3, _⟩ := hg he
  have e0 : bt y 0 = bt x 0 := (hl.2.2 0 (by omega)).symm
  have hy1 : 1 ≤ y.size := Nat.le_trans g1 hl.2.1
  unfold findS at h ⊢
  by_cases c1 : ltrI (bt x 0) = false
  · have w1 : wordS x = none := by unfold wordS; rw [if_pos c1]
    have w2 : wordS y = none := by unfold wordS; rw [e0, if_pos c1]
    rw [w1] at h
    rw [w2]
    by_cases c2 : digI (bt x 0) = false
    · have n1 : numS x = none := by unfold numS; rw [if_pos c2]
      have n2 : numS y = none := by unfold numS; rw [e0, if_pos c2]
      rw [n1] at h
      rw [n2]
      by_cases c3 : bt x 0 ≠ 39
      · have k1 : charS x = none := by unfold charS; rw [if_pos c3]
        have k2 : charS y = none := by unfold charS; rw [e0, if_pos c3]
        rw [k1] at h
        rw [k2]
        by_cases c4 : bt x 0 ≠ 34
        · have q1 : quoS x = none := by unfold quoS; rw [if_pos c4]
          have q2 : quoS y = none := by unfold quoS; rw [e0, if_pos c4]
          rw [q1] at h
          rw [q2]
          exact sym_loc x y a h hl hd
        · have q1 : quoS x = some (quoL x x.size 1 []) := by unfold quoS; rw [if_neg c4]
          have q2 : quoS y = some (quoL y y.size 1 []) := by unfold quoS; rw [e0, if_neg c4]
          rw [q1] at h
          rw [q2]
          injection h with h
          subst h
          show some (quoL y y.size 1 []) = _
          rw [quoL_loc x y x.size y.size 1 [] hx (by omega) (by omega) he hl]
      · have hc : charS x = some a := by
          cases hh : charS x with
          | some b => rw [hh] at h; exact h
          | none =>
            exfalso
            unfold charS at hh
            rw [if_neg c3] at hh
            (repeat' split at hh) <;> cases hh
        have hc2 : charS y = some a := by
          unfold charS at hc ⊢
          rw [if_neg c3] at hc
          rw [e0, if_neg c3]
          by_cases d1 : (oneS x 1 39).2.2 ≠ 0
          · rw [if_pos d1] at hc; injection hc with hc; subst hc; exact absurd he d1
          rw [if_neg d1] at hc
          obtain ⟨b, m, hO, m1, m2, _⟩ := oneS_ok x 1 39 hx (by simpa using d1)
          rw [hO] at hc
          by_cases d2 : (m : Int) = x.size
          · rw [if_pos d2] at hc; injection hc with hc; subst hc; simp [attE] at he
          rw [if_neg d2] at hc
          simp only [Int.toNat_natCast] at hc
          by_cases d3 : bt x m ≠ 39
          · rw [if_pos d3] at hc; injection hc with hc; subst hc; simp [attE] at he
          rw [if_neg d3] at hc
          injection hc with hc
          subst hc
          have hl' : Loc x y (m + 1) := hl
          have hOy := oneS_loc x y 1 m 39 b (hl'.mono (by omega)) hx hO
          rw [hOy, if_neg (by simp), if_neg (show ¬ (m : Int) = y.size by have := hl'.2.1; omega)]
          simp only [Int.toNat_natCast]
          rw [← hl'.2.2 m (by omega), if_neg d3, Loc.ext hl']
        rw [hc2]
    · have hn : numS x = some a := by
        cases hh : numS x with
        | some b => rw [hh] at h; exact h
        | none =>
          exfalso
          unfold numS at hh
          rw [if_neg c2] at hh
          (repeat' split at hh) <;> cases hh
      have hn2 : numS y = some a := by
        unfold numS at hn ⊢
        rw [if_neg c2] at hn
        rw [e0, if_neg c2]
        by_cases d1 : (valS (x.extract 0 (leadB alnI x))).2 ≠ 0
        · rw [if_pos d1] at hn; injection hn with hn; subst hn; exact absurd he d1
        rw [if_neg d1] at hn
        injection hn with hn
        subst hn
        have hl' : Loc x y (leadB alnI x) := hl
        rw [lead_loc x y hl' hd, ← Loc.ext hl', if_neg d1]
      rw [hn2]
  · have hw : wordS x = some a := by
      cases hh : wordS x with
      | some b => rw [hh] at h; exact h
      | none =>
        exfalso
        unfold wordS at hh
        rw [if_neg c1] at hh
        split at hh <;> cases hh
    have hw2 : wordS y = some a := by
      unfold wordS at hw ⊢
      rw [if_neg c1] at hw
      rw [e0, if_neg c1]
      by_cases d1 : 32 < leadB alnI x
      · rw [if_pos d1] at hw; injection hw with hw; subst hw; simp [attE] at he
      rw [if_neg d1] at hw
      injection hw with hw
      subst hw
      have hl' : Loc x y (leadB alnI x) := hl
      rw [lead_loc x y hl' hd, ← Loc.ext hl', if_neg d1]
    rw [hw2]
end Go.Proofs.YtdhfkokinnmfhaaDoor
