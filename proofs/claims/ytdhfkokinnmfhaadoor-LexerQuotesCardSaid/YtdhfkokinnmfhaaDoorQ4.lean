/- Plain lemmas of layer 21: places, blanks and comments. -/
import Derived.Test.YtdhfkokinnmfhaaDoorQ3
namespace Go.Proofs.YtdhfkokinnmfhaaDoor
set_option linter.unusedSimpArgs false
set_option linter.unusedVariables false
def lineN (s : ByteArray) : Nat → Nat
  | 0 => 1
  | k + 1 => if bt s k = 10 then lineN s k + 1 else lineN s k
def begN (s : ByteArray) : Nat → Nat
  | 0 => 0
  | k + 1 => if bt s k = 10 then k + 1 else begN s k
theorem begN_le (s : ByteArray) : ∀ k, begN s k ≤ k
  | 0 => Nat.le_refl _
  | k + 1 => by have := begN_le s k; unfold begN; split <;> omega
theorem lineN_le (s : ByteArray) : ∀ k, lineN s k ≤ k + 1
  | 0 => Nat.le_refl _
  | k + 1 => by have := lineN_le s k; unfold lineN; split <;> omega
theorem lineN_nl (s : ByteArray) (k : Nat) (h : bt s k = 10) : lineN s (k + 1) = lineN s k + 1 := by rw [lineN, if_pos h]
theorem begN_nl (s : ByteArray) (k : Nat) (h : bt s k = 10) : begN s (k + 1) = k + 1 := by rw [begN, if_pos h]
theorem lineN_no (s : ByteArray) (k : Nat) (h : bt s k ≠ 10) : lineN s (k + 1) = lineN s k := by rw [lineN, if_neg h]
theorem begN_no (s : ByteArray) (k : Nat) (h : bt s k ≠ 10) : begN s (k + 1) = begN s k := by rw [begN, if_neg h]
theorem line_run (s : ByteArray) (k : Nat) : ∀ n, (∀ i, i < n → bt s (k + i) ≠ 10) → lineN s (k + n) = lineN s k ∧ begN s (k + n) = begN s k
  | 0, _ => ⟨rfl, rfl⟩
  | n + 1, h => by
    obtain ⟨h1, h2⟩ := line_run s k n (fun i hi => h i (by omega))
    rw [← Nat.add_assoc, lineN_no s _ (h n (by omega)), begN_no s _ (h n (by omega))]
    exact ⟨h1, h2⟩
/-- The end of the line on which an offset stands. -/
def cmtE (s : ByteArray) (k : Nat) : Nat := k + leadB nlI (s.extract k s.size)
def skipF (s : ByteArray) : Nat → Nat → Nat
  | 0, k => k
  | f + 1, k =>
    if k < s.size then
      (if bt s k = 10 ∨ bt s k = 32 ∨ bt s k = 9 then skipF s f (k + 1)
      else if bt s k = 47 ∧ bt s (k + 1) = 47 then skipF s f (cmtE s k) else k)
    else k
/-- The offset behind blanks and comments. -/
def skp (s : ByteArray) (k : Nat) : Nat := skipF s s.size k
theorem cmtE_bd (s : ByteArray) (k : Nat) (h : k ≤ s.size) : k ≤ cmtE s k ∧ cmtE s k ≤ s.size := by
  unfold cmtE
  have := leadB_le nlI (s.extract k s.size)
  rw [size_extract _ _ _ (Nat.le_refl _)] at this
  omega
theorem bt_out (s : ByteArray) (k : Nat) (h : s.size ≤ k) : bt s k = 0 := by
  unfold bt
  rw [List.getD_eq_getElem?_getD, List.getElem?_eq_none (by simpa using h)]
  rfl
theorem cmtE_gt (s : ByteArray) (k : Nat) (h : k < s.size) (h1 : bt s k = 47) : k < cmtE s k := by
  unfold cmtE
  rcases Nat.eq_zero_or_pos (leadB nlI (s.extract k s.size)) with h0 | h0
  · have hz := size_extract s k s.size (Nat.le_refl _)
    have := leadB_end nlI (s.extract k s.size) (by omega)
    rw [h0, bt_extract s k s.size 0 (Nat.le_refl _) (by omega)] at this
    unfold nlI at this
    rw [Nat.add_zero] at this
    rw [h1] at this
    cases this
  · omega
theorem cmtE_no (s : ByteArray) (k i : Nat) (h : k ≤ s.size) (hi : k + i < cmtE s k) : bt s (k + i) ≠ 10 := by
  have hb := (cmtE_bd s k h).2
  unfold cmtE at hi
  have := leadB_spec nlI (s.extract k s.size) i (by omega)
  rw [bt_extract s k s.size i (Nat.le_refl _) (by unfold cmtE at hb; omega)] at this
  unfold nlI at this
  simpa using this
theorem cmtE_end (s : ByteArray) (k : Nat) (h : k ≤ s.size) (hi : cmtE s k < s.size) : bt s (cmtE s k) = 10 := by
  have hz := size_extract s k s.size (Nat.le_refl _)
  unfold cmtE at hi ⊢
  have := leadB_end nlI (s.extract k s.size) (by omega)
  rw [bt_extract s k s.size _ (Nat.le_refl _) (by omega)] at this
  have h10 : ∀ n, nlI n = false → n = 10 := fun n h => by unfold nlI at h; simpa using h
  exact h10 _ this
theorem skipF_fuel (s : ByteArray) : ∀ (f g k : Nat), s.size ≤ f + k → s.size ≤ g + k → skipF s f k = skipF s g k
  | 0, 0, _, _, _ => rfl
  | 0, g + 1, k, h, _ => by rw [skipF, skipF, if_neg (by omega)]
  | f + 1, 0, k, _, h => by rw [skipF, skipF, if_neg (by omega)]
  | f + 1, g + 1, k, hf, hg => by
    rw [skipF, skipF]
    by_cases h : k < s.size
    · rw [if_pos h, if_pos h]
      by_cases h1 : bt s k = 10 ∨ bt s k = 32 ∨ bt s k = 9
      · rw [if_pos h1, if_pos h1]
        exact skipF_fuel s f g (k + 1) (by omega) (by omega)
      · rw [if_neg h1, if_neg h1]
        by_cases h2 : bt s k = 47 ∧ bt s (k + 1) = 47
        · rw [if_pos h2, if_pos h2]
          have := cmtE_gt s k h h2.1
          exact skipF_fuel s f g _ (by omega) (by omega)
        · rw [if_neg h2, if_neg h2]
    · rw [if_neg h, if_neg h]
theorem skp_eq (s : ByteArray) (k : Nat) : skp s k =
    if k < s.size then
      (if bt s k = 10 ∨ bt s k = 32 ∨ bt s k = 9 then skp s (k + 1)
      else if bt s k = 47 ∧ bt s (k + 1) = 47 then skp s (cmtE s k) else k)
    else k := by
  unfold skp
  cases hs : s.size with
  | zero => rw [skipF, if_neg (by omega)]
  | succ f =>
    rw [← hs]
    by_cases h : k < s.size
    · rw [if_pos h]
      conv => lhs; rw [hs]
      rw [skipF, if_pos h]
      by_cases h1 : bt s k = 10 ∨ bt s k = 32 ∨ bt s k = 9
      · rw [if_pos h1, if_pos h1]
        exact skipF_fuel s _ _ _ (by omega) (by omega)
      · rw [if_neg h1, if_neg h1]
        by_cases h2 : bt s k = 47 ∧ bt s (k + 1) = 47
        · rw [if_pos h2, if_pos h2]
          have := cmtE_gt s k h h2.1
          exact skipF_fuel s _ _ _ (by omega) (by omega)
        · rw [if_neg h2, if_neg h2]
    · rw [if_neg h]
      conv => lhs; rw [hs]
      rw [skipF, if_neg h]
theorem skp_blank (s : ByteArray) (k : Nat) (h : k < s.size) (h1 : bt s k = 10 ∨ bt s k = 32 ∨ bt s k = 9) : skp s k = skp s (k + 1) := by
  rw [skp_eq s k, if_pos h, if_pos h1]
theorem skp_cmt (s : ByteArray) (k : Nat) (h : k < s.size) (h1 : bt s k = 47) (h2 : bt s (k + 1) = 47) : skp s k = skp s (cmtE s k) := by
  rw [skp_eq s k, if_pos h, if_neg (by omega), if_pos ⟨h1, h2⟩]
theorem skp_stop (s : ByteArray) (k : Nat) (h1 : ¬(bt s k = 10 ∨ bt s k = 32 ∨ bt s k = 9)) (h2 : ¬(bt s k = 47 ∧ bt s (k + 1) = 47)) : skp s k = k := by
  rw [skp_eq s k]
  by_cases h : k < s.size
  · rw [if_pos h, if_neg h1, if_neg h2]
  · rw [if_neg h]
theorem skp_end (s : ByteArray) (k : Nat) (h : s.size ≤ k) : skp s k = k := by
  rw [skp_eq s k, if_neg (by omega)]
theorem skp_bd (s : ByteArray) : ∀ (n k : Nat), s.size - k = n → k ≤ s.size → k ≤ skp s k ∧ skp s k ≤ s.size := by
  intro n
  induction n using Nat.strongRecOn with
  | ind n ih =>
    intro k hn hk
    rw [skp_eq]
    by_cases h : k < s.size
    · rw [if_pos h]
      by_cases h1 : bt s k = 10 ∨ bt s k = 32 ∨ bt s k = 9
      · rw [if_pos h1]
        have := ih (s.size - (k + 1)) (by omega) (k + 1) rfl (by omega)
        omega
      · rw [if_neg h1]
        by_cases h2 : bt s k = 47 ∧ bt s (k + 1) = 47
        · rw [if_pos h2]
          have g := cmtE_gt s k h h2.1
          have g2 := (cmtE_bd s k hk).2
          have := ih (s.size - cmtE s k) (by omega) (cmtE s k) rfl g2
          omega
        · rw [if_neg h2]; omega
    · rw [if_neg h]; omega
theorem skp_le (s : ByteArray) (k : Nat) (hk : k ≤ s.size) : k ≤ skp s k ∧ skp s k ≤ s.size := skp_bd s _ k rfl hk
/-- Where skipping ends, neither a blank nor a comment begins. -/
theorem skp_at (s : ByteArray) : ∀ (n k : Nat), s.size - k = n → k ≤ s.size → skp s k < s.size → ¬(bt s (skp s k) = 10 ∨ bt s (skp s k) = 32 ∨ bt s (skp s k) = 9) ∧ ¬(bt s (skp s k) = 47 ∧ bt s (skp s k + 1) = 47) := by
  intro n
  induction n using Nat.strongRecOn with
  | ind n ih =>
    intro k hn hk
    rw [skp_eq]
    by_cases h : k < s.size
    · rw [if_pos h]
      by_cases h1 : bt s k = 10 ∨ bt s k = 32 ∨ bt s k = 9
      · rw [if_pos h1]
        exact ih (s.size - (k + 1)) (by omega) (k + 1) rfl (by omega)
      · rw [if_neg h1]
        by_cases h2 : bt s k = 47 ∧ bt s (k + 1) = 47
        · rw [if_pos h2]
          have g := cmtE_gt s k h h2.1
          exact ih (s.size - cmtE s k) (by omega) (cmtE s k) rfl (cmtE_bd s k hk).2
        · rw [if_neg h2]; exact fun _ => ⟨h1, h2⟩
    · rw [if_neg h]; exact fun hh => absurd hh h
theorem hasPrefix_2 (s : ByteArray) (x y : UInt8) : Lib.hasPrefix s.data.toList [x, y] = decide (2 ≤ s.size ∧ bt s 0 = (x.toNat : Int) ∧ bt s 1 = (y.toNat : Int)) := by
  unfold bt
  have hsz : s.size = s.data.toList.length := by simp
  rw [hsz]
  generalize s.data.toList = l
  match l with
  | [] => rfl
  | [a] => simp [Lib.hasPrefix, List.isPrefixOf]
  | a :: b :: l =>
    rw [Bool.eq_iff_iff]
    simp only [Lib.hasPrefix, List.isPrefixOf, Bool.and_true, Bool.and_eq_true, beq_iff_eq, decide_eq_true_eq, List.length_cons, List.getD_cons_zero, List.getD_cons_succ]
    constructor
    · rintro ⟨rfl, rfl⟩; exact ⟨by omega, rfl, rfl⟩
    · rintro ⟨_, h1, h2⟩
      exact ⟨(UInt8.toNat_inj.1 (by omega)).symm, (UInt8.toNat_inj.1 (by omega)).symm⟩
end Go.Proofs.YtdhfkokinnmfhaaDoor
