/- Plain lemmas of layer 21: what is found lies on one line. -/
import Derived.Test.YtdhfkokinnmfhaaDoorQ4
namespace Go.Proofs.YtdhfkokinnmfhaaDoor
set_option linter.unusedSimpArgs false
set_option linter.unusedVariables false
theorem aln10 (n : Int) (h : alnI n = true) : n ≠ 10 := by
  rintro rfl; exact absurd h (by decide)
theorem hex10 (n : Int) (h : hexI n = true) : n ≠ 10 := by
  rintro rfl; exact absurd h (by decide)
theorem escT10 (n : Int) (h : escT n ≠ 0) : n ≠ 10 := by
  rintro rfl; exact absurd h (by decide)
/-- What escape reads is no end of a line; nor is what stands before its error. -/
theorem escS_no (s : ByteArray) (k : Nat) (h : k + 1 ≤ s.size) (h0 : bt s k = 92) : 0 ≤ (escS s k).2.1 ∧ (escS s k).2.1 ≤ s.size ∧ ∀ i : Nat, k ≤ i → (i : Int) < (escS s k).2.1 → bt s i ≠ 10 := by
  unfold escS
  by_cases h1 : k + 1 = s.size
  · rw [if_pos h1]; exact ⟨by simp, by simp, fun i _ hi => by simp at hi; omega⟩
  rw [if_neg h1]
  by_cases h2 : bt s (k + 1) ≠ 120
  · rw [if_pos h2]
    by_cases h3 : 128 ≤ bt s (k + 1) ∨ escT (bt s (k + 1)) = 0
    · rw [if_pos h3]
      refine ⟨by simp; omega, by simp; omega, fun i hk hi => ?_⟩
      simp at hi
      obtain rfl : i = k := by omega
      omega
    · rw [if_neg h3]
      refine ⟨by simp; omega, by simp; omega, fun i hk hi => ?_⟩
      simp at hi
      obtain rfl | rfl : i = k ∨ i = k + 1 := by omega
      · omega
      · exact escT10 _ (fun e => h3 (.inr e))
  · rw [if_neg h2]
    by_cases h3 : k + 2 = s.size
    · rw [if_pos h3]; exact ⟨by simp, by simp, fun i _ hi => by simp at hi; omega⟩
    rw [if_neg h3]
    by_cases h4 : hexI (bt s (k + 2)) = false
    · rw [if_pos h4]
      refine ⟨by simp; omega, by simp; omega, fun i hk hi => ?_⟩
      simp at hi
      obtain rfl | rfl : i = k ∨ i = k + 1 := by omega
      · omega
      · omega
    rw [if_neg h4]
    by_cases h5 : k + 3 = s.size
    · rw [if_pos h5]; exact ⟨by simp, by simp, fun i _ hi => by simp at hi; omega⟩
    rw [if_neg h5]
    by_cases h6 : hexI (bt s (k + 3)) = false
    · rw [if_pos h6]
      refine ⟨by simp; omega, by simp; omega, fun i hk hi => ?_⟩
      simp at hi
      obtain rfl | rfl | rfl : i = k ∨ i = k + 1 ∨ i = k + 2 := by omega
      · omega
      · omega
      · exact hex10 _ (by simpa using h4)
    rw [if_neg h6]
    refine ⟨by simp; omega, by simp; omega, fun i hk hi => ?_⟩
    simp at hi
    obtain rfl | rfl | rfl | rfl : i = k ∨ i = k + 1 ∨ i = k + 2 ∨ i = k + 3 := by omega
    · omega
    · omega
    · exact hex10 _ (by simpa using h4)
    · exact hex10 _ (by simpa using h6)
theorem oneS_no (s : ByteArray) (k : Nat) (q : Int) (h : k ≤ s.size) : 0 ≤ (oneS s k q).2.1 ∧ (oneS s k q).2.1 ≤ s.size ∧ ∀ i : Nat, k ≤ i → (i : Int) < (oneS s k q).2.1 → bt s i ≠ 10 := by
  unfold oneS
  by_cases h1 : k = s.size
  · rw [if_pos h1]; exact ⟨by simp, by simp, fun i _ hi => by simp at hi; omega⟩
  rw [if_neg h1]
  by_cases h2 : bt s k = 92
  · rw [if_pos h2]; exact escS_no s k (by omega) h2
  rw [if_neg h2]
  by_cases h3 : bt s k = q ∨ bt s k < 32 ∨ 126 < bt s k
  · rw [if_pos h3]; exact ⟨by simp, by simp; omega, fun i _ hi => by simp at hi; omega⟩
  rw [if_neg h3]
  refine ⟨by simp; omega, by simp; omega, fun i hk hi => ?_⟩
  simp at hi
  obtain rfl : i = k := by omega
  omega
/-- What is found: its text, on one line; or an error and what stands before it, on one line. -/
def Good (s : ByteArray) (a : Att) : Prop :=
  (a.e = 0 → a.off = 0 ∧ 1 ≤ a.size ∧ a.size ≤ s.size ∧ a.text = s.extract 0 a.size ∧ ∀ i, i < a.size → bt s i ≠ 10) ∧
  (a.e ≠ 0 → 0 ≤ a.off ∧ a.off ≤ s.size ∧ ∀ i : Nat, (i : Int) < a.off → bt s i ≠ 10)
theorem good_err0 (s : ByteArray) (e : Int) (he : e ≠ 0) : Good s (attE 0 e) :=
  ⟨fun h => absurd h he, fun _ => ⟨by simp [attE], by simp [attE], fun i hi => by simp [attE] at hi; omega⟩⟩
theorem lead_pos (p : Int → Bool) (s : ByteArray) (h : 0 < s.size) (hp : p (bt s 0) = true) : 1 ≤ leadB p s := by
  rcases Nat.eq_zero_or_pos (leadB p s) with h0 | h0
  · have := leadB_end p s (by omega)
    rw [h0, hp] at this
    cases this
  · exact h0
theorem wordS_good (s : ByteArray) (a : Att) (h : 0 < s.size) (ha : wordS s = some a) : Good s a := by
  unfold wordS at ha
  by_cases h1 : ltrI (bt s 0) = false
  · rw [if_pos h1] at ha; cases ha
  rw [if_neg h1] at ha
  by_cases h2 : 32 < leadB alnI s
  · rw [if_pos h2] at ha; injection ha with ha; subst ha; exact good_err0 s 5 (by decide)
  rw [if_neg h2] at ha
  injection ha with ha
  subst ha
  exact ⟨fun _ => ⟨rfl, lead_pos alnI s h (by unfold alnI; simp at h1; rw [h1]; rfl), leadB_le _ _, rfl, fun i hi => aln10 _ (leadB_spec alnI s i hi)⟩, fun h => absurd rfl h⟩
theorem numS_good (s : ByteArray) (a : Att) (h : 0 < s.size) (ha : numS s = some a) : Good s a := by
  unfold numS at ha
  by_cases h1 : digI (bt s 0) = false
  · rw [if_pos h1] at ha; cases ha
  rw [if_neg h1] at ha
  by_cases h2 : (valS (s.extract 0 (leadB alnI s))).2 ≠ 0
  · rw [if_pos h2] at ha; injection ha with ha; subst ha; exact good_err0 s _ h2
  rw [if_neg h2] at ha
  injection ha with ha
  subst ha
  exact ⟨fun _ => ⟨rfl, lead_pos alnI s h (by unfold alnI; simp at h1; rw [h1]; simp), leadB_le _ _, rfl, fun i hi => aln10 _ (leadB_spec alnI s i hi)⟩, fun h => absurd rfl h⟩
theorem charS_good (s : ByteArray) (a : Att) (h : 0 < s.size) (ha : charS s = some a) : Good s a := by
  unfold charS at ha
  obtain ⟨n0, n1, n2⟩ := oneS_no s 1 39 h
  by_cases h1 : bt s 0 ≠ 39
  · rw [if_pos h1] at ha; cases ha
  rw [if_neg h1] at ha
  have b0 : bt s 0 ≠ 10 := by omega
  by_cases h2 : (oneS s 1 39).2.2 ≠ 0
  · rw [if_pos h2] at ha; injection ha with ha; subst ha
    exact ⟨fun h => absurd h h2, fun _ => ⟨n0, n1, fun i hi => by
      rcases Nat.eq_zero_or_pos i with rfl | hp
      · exact b0
      · exact n2 i hp hi⟩⟩
  rw [if_neg h2] at ha
  obtain ⟨b, m, hO, m1, m2, _, _, _⟩ := oneS_ok s 1 39 h (by simpa using h2)
  rw [hO] at ha n2
  by_cases h3 : ((m : Int)) = s.size
  · rw [if_pos h3] at ha; injection ha with ha; subst ha; exact good_err0 s 4 (by decide)
  rw [if_neg h3] at ha
  simp only [Int.toNat_natCast] at ha
  by_cases h4 : bt s m ≠ 39
  · rw [if_pos h4] at ha; injection ha with ha; subst ha
    exact ⟨fun h => absurd h (by simp [attE]), fun _ => ⟨by simp [attE], by simp [attE]; omega, fun i hi => by
      rcases Nat.eq_zero_or_pos i with rfl | hp
      · exact b0
      · exact n2 i hp hi⟩⟩
  rw [if_neg h4] at ha
  injection ha with ha
  subst ha
  refine ⟨fun _ => ⟨rfl, by simp, by show m + 1 ≤ s.size; omega, rfl, fun i hi => ?_⟩, fun h => absurd rfl h⟩
  rcases Nat.eq_zero_or_pos i with rfl | hp
  · exact b0
  · by_cases e : i = m
    · subst e; omega
    · exact n2 i hp (by show (i : Int) < m; have : i < m + 1 := hi; omega)
theorem quoL_good (s : ByteArray) : ∀ (f k : Nat) (acc : List Int), 1 ≤ k → k ≤ s.size → s.size < f + k → (∀ i, i < k → bt s i ≠ 10) → Good s (quoL s f k acc)
  | 0, k, _, _, hk, hf, _ => by omega
  | f + 1, k, acc, h1, hk, hf, hn => by
    rw [quoL_step]
    obtain ⟨n0, n1, n2⟩ := oneS_no s k 34 hk
    by_cases g1 : k < s.size ∧ bt s k = 34
    · rw [if_pos g1]
      by_cases g2 : 200 < acc.length
      · rw [if_pos g2]; exact good_err0 s 5 (by decide)
      · rw [if_neg g2]
        refine ⟨fun _ => ⟨rfl, by simp, g1.1, rfl, fun i hi => ?_⟩, fun h => absurd rfl h⟩
        by_cases e : i = k
        · subst e; omega
        · exact hn i (by have : i < k + 1 := hi; omega)
    rw [if_neg g1]
    by_cases g2 : (oneS s k 34).2.2 ≠ 0
    · rw [if_pos g2]
      exact ⟨fun h => absurd h g2, fun _ => ⟨n0, n1, fun i hi => by
        by_cases e : i < k
        · exact hn i e
        · exact n2 i (by omega) hi⟩⟩
    rw [if_neg g2]
    obtain ⟨b, m, hO, m1, m2, _⟩ := oneS_ok s k 34 hk (by simpa using g2)
    rw [hO] at n2 ⊢
    exact quoL_good s f m _ (by omega) m2 (by omega) (fun i hi => by
      by_cases e : i < k
      · exact hn i e
      · exact n2 i (by omega) (by show (i : Int) < m; omega))
theorem quoS_good (s : ByteArray) (a : Att) (h : 0 < s.size) (ha : quoS s = some a) : Good s a := by
  unfold quoS at ha
  by_cases h1 : bt s 0 ≠ 34
  · rw [if_pos h1] at ha; cases ha
  rw [if_neg h1] at ha
  injection ha with ha
  subst ha
  have h10 : ∀ i, i < 1 → bt s i ≠ 10 := by
    intro i hi
    obtain rfl : i = 0 := by omega
    omega
  exact quoL_good s _ 1 [] (Nat.le_refl _) h (by omega) h10
/-- The longest symbol is none, or one that stands at the beginning. -/
theorem symT_in (s : ByteArray) : symT s = ⟨#[]⟩ ∨ (symT s ∈ syms ∧ preB s (symT s) = true) := by
  have gen : ∀ (l : List ByteArray) (t : ByteArray), (∀ x ∈ l, x ∈ syms) → (t = ⟨#[]⟩ ∨ (t ∈ syms ∧ preB s t = true)) → (l.foldl (symF s) t = ⟨#[]⟩ ∨ (l.foldl (symF s) t ∈ syms ∧ preB s (l.foldl (symF s) t) = true)) := by
    intro l
    induction l with
    | nil => intro t _ h; exact h
    | cons x l ih =>
      intro t hl ht
      refine ih (symF s t x) (fun y hy => hl y (List.mem_cons_of_mem _ hy)) ?_
      unfold symF
      by_cases hc : t.size < x.size ∧ preB s x = true
      · rw [if_pos hc]; exact .inr ⟨hl x (List.mem_cons_self ..), hc.2⟩
      · rw [if_neg hc]; exact ht
  exact gen syms _ (fun x hx => hx) (.inl rfl)
theorem preB_bt (s x : ByteArray) (h : preB s x = true) : x.size ≤ s.size ∧ ∀ i, i < x.size → bt s i = bt x i := by
  unfold preB Lib.hasPrefix at h
  have h' : x.data.toList <+: s.data.toList := List.isPrefixOf_iff_prefix.1 h
  obtain ⟨r, hr⟩ := h'
  have hsz : s.data.toList.length = x.data.toList.length + r.length := by rw [← hr]; simp
  refine ⟨by simp at hsz; omega, fun i hi => ?_⟩
  unfold bt
  rw [← hr, List.getD_eq_getElem?_getD, List.getD_eq_getElem?_getD, List.getElem?_append_left (by simpa using hi)]
theorem syms_no : ∀ x ∈ syms, x.size = 1 ∨ x.size = 2 := by decide +kernel
set_option maxRecDepth 100000 in
theorem syms_10 : ∀ x ∈ syms, ∀ i, i < 2 → bt x i ≠ 10 := by decide +kernel
theorem symS_good (s : ByteArray) (a : Att) (ha : symS s = some a) : Good s a := by
  unfold symS at ha
  by_cases h1 : (symT s).size = 0
  · rw [if_pos h1] at ha; cases ha
  rw [if_neg h1] at ha
  injection ha with ha
  subst ha
  have hi := symT_in s
  generalize symT s = T at *
  rcases hi with h | ⟨hm, hp⟩
  · subst h; exact absurd rfl h1
  obtain ⟨hl, hb⟩ := preB_bt s _ hp
  have hsz := syms_no _ hm
  refine ⟨fun _ => ⟨rfl, by show 1 ≤ T.size; omega, hl, ?_, fun i hi => ?_⟩, fun h => absurd rfl h⟩
  · show T = s.extract 0 T.size
    apply ext_bt
    · rw [size_extract _ _ _ hl]; omega
    · intro i hi
      rw [bt_extract s 0 _ i hl (by omega), Nat.zero_add, hb i hi]
  · have hi' : i < T.size := hi
    rw [hb i hi']
    exact syms_10 _ hm i (by omega)
theorem findS_good (s : ByteArray) (a : Att) (h : 0 < s.size) (ha : findS s = some a) : Good s a := by
  unfold findS at ha
  cases h1 : wordS s with
  | some b => rw [h1] at ha; injection ha with ha; subst ha; exact wordS_good s b h h1
  | none =>
    rw [h1] at ha
    cases h2 : numS s with
    | some b => rw [h2] at ha; injection ha with ha; subst ha; exact numS_good s b h h2
    | none =>
      rw [h2] at ha
      cases h3 : charS s with
      | some b => rw [h3] at ha; injection ha with ha; subst ha; exact charS_good s b h h3
      | none =>
        rw [h3] at ha
        cases h4 : quoS s with
        | some b => rw [h4] at ha; injection ha with ha; subst ha; exact quoS_good s b h h4
        | none => rw [h4] at ha; exact symS_good s a ha
end Go.Proofs.YtdhfkokinnmfhaaDoor
