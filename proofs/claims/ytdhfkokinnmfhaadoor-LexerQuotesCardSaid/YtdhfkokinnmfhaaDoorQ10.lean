/- Plain lemmas of layer 21: identifiers. -/
import Derived.Test.YtdhfkokinnmfhaaDoorQ9
namespace Go.Proofs.YtdhfkokinnmfhaaDoor
set_option linter.unusedSimpArgs false
set_option linter.unusedVariables false
def idP (s : ByteArray) : Prop := 0 < s.size ∧ s.size ≤ 32 ∧ ltrI (bt s 0) = true ∧ leadB alnI s = s.size ∧ Lib.containsS kws s = false
instance (s : ByteArray) : Decidable (idP s) := by unfold idP; exact inferInstance
def idB (s : ByteArray) : Bool := decide (idP s)
theorem ext_self (s : ByteArray) : s.extract 0 s.size = s := by
  apply ext_bt
  · rw [size_extract _ _ _ (Nat.le_refl _)]; omega
  · intro i hi
    rw [size_extract _ _ _ (Nat.le_refl _)] at hi
    rw [bt_extract s 0 s.size i (Nat.le_refl _) (by omega), Nat.zero_add]
theorem ltr_stop (n : Int) (h : ltrI n = true) : n ≠ 10 ∧ n ≠ 32 ∧ n ≠ 9 ∧ n ≠ 47 := by
  refine ⟨?_, ?_, ?_, ?_⟩ <;> (rintro rfl; exact absurd h (by decide))
/-- An identifier is scanned as one. -/
theorem id_scan (s : ByteArray) (h : idP s) : scanS s = .ok [(⟨1, s, 0, ⟨#[]⟩, s.size, 0, 0⟩, 0)] := by
  obtain ⟨h0, h1, h2, h3, h4⟩ := h
  obtain ⟨n1, n2, n3, n4⟩ := ltr_stop _ h2
  have hsk : skp s 0 = 0 := skp_stop s 0 (by omega) (by omega)
  unfold scanS
  rw [hsk]
  refine chain_scan s _ 0 (Nat.zero_le _) ⟨rfl, h0, ?_, rfl, ?_⟩
  · rw [ext_self]
    have hw : wordS s = some ⟨1, s, 0, ⟨#[]⟩, s.size, 0, 0⟩ := by
      unfold wordS
      rw [if_neg (by rw [h2]; simp), h3, if_neg (by omega), ext_self, h4]
      rfl
    unfold findS
    rw [hw]
  · show skp s (0 + s.size) = s.size
    rw [Nat.zero_add]
    exact skp_end s s.size (Nat.le_refl _)
theorem findS_kind1 (s : ByteArray) (a : Att) (ha : findS s = some a) (hk : a.kind = 1) : wordS s = some a := by
  unfold findS at ha
  cases h1 : wordS s with
  | some b => rw [h1] at ha; injection ha with ha; rw [ha]
  | none =>
    exfalso
    rw [h1] at ha
    cases h2 : numS s with
    | some b =>
      rw [h2] at ha; injection ha with ha; subst ha
      unfold numS at h2
      (repeat' split at h2) <;> first | (cases h2; done) | (cases h2; exact absurd hk (by simp [attE]))
    | none =>
      rw [h2] at ha
      cases h3 : charS s with
      | some b =>
        rw [h3] at ha; injection ha with ha; subst ha
        unfold charS at h3
        (repeat' split at h3) <;> first | (cases h3; done) | (cases h3; exact absurd hk (by simp [attE]))
      | none =>
        rw [h3] at ha
        cases h4 : quoS s with
        | some b =>
          rw [h4] at ha; injection ha with ha; subst ha
          unfold quoS at h4
          split at h4
          · cases h4
          · injection h4 with h4
            have gen : ∀ (f k : Nat) (acc : List Int), (quoL s f k acc).kind ≠ 1 := by
              intro f
              induction f with
              | zero => intro k acc; simp [quoL, attE]
              | succ f ih =>
                intro k acc
                rw [quoL_step]
                (repeat' split) <;> first | exact ih _ _ | simp [attE]
            exact gen _ _ _ (by rw [h4]; exact hk)
        | none =>
          rw [h4] at ha
          have hs : symS s = some a := ha
          unfold symS at hs
          by_cases h5 : (symT s).size = 0
          · rw [if_pos h5] at hs; cases hs
          · rw [if_neg h5] at hs
            injection hs with hs
            subst hs
            exact absurd hk (show ¬ (5 : Int) = 1 by decide)
/-- What is scanned as one identifier is one. -/
theorem scan_id (s : ByteArray) (a : Att) (p : Nat) (h : scanS s = .ok [(a, p)]) (hk : a.kind = 1) (ht : a.text = s) : idP s := by
  obtain ⟨hp, h1, h2, h3, _⟩ := scanS_chain s _ h
  rw [← hp] at h1 h2
  obtain ⟨g1, g2, _, g4, _⟩ := rest_good s p a h1 h2 h3
  have hsz : s.size = a.size := by
    have := congrArg ByteArray.size g4
    rw [ht, size_extract _ _ _ g2] at this
    omega
  obtain rfl : p = 0 := by omega
  rw [ext_self] at h2
  have hw := findS_kind1 s a h2 hk
  unfold wordS at hw
  by_cases c1 : ltrI (bt s 0) = false
  · rw [if_pos c1] at hw; cases hw
  rw [if_neg c1] at hw
  by_cases c2 : 32 < leadB alnI s
  · rw [if_pos c2] at hw; injection hw with hw; subst hw; exact absurd hk (by simp [attE])
  rw [if_neg c2] at hw
  injection hw with hw
  subst hw
  have hl : leadB alnI s = s.size := hsz.symm
  refine ⟨by omega, by omega, by simpa using c1, hl, ?_⟩
  have hk' : (if Lib.containsS kws (s.extract 0 (leadB alnI s)) = true then (4 : Int) else 1) = 1 := hk
  rw [hl, ext_self] at hk'
  cases hc : Lib.containsS kws s with
  | false => rfl
  | true => rw [hc] at hk'; exact absurd hk' (by decide)
end Go.Proofs.YtdhfkokinnmfhaaDoor
