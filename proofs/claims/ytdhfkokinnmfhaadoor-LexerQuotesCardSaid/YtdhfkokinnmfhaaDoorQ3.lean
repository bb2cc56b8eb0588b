/- Plain lemmas of layer 21: bytes between quotes. -/
import Derived.Test.YtdhfkokinnmfhaaDoorQ2
namespace Go.Proofs.YtdhfkokinnmfhaaDoor
set_option linter.unusedSimpArgs false
set_option linter.unusedVariables false
theorem escT_bd (n : Int) : 0 ≤ escT n ∧ escT n ≤ 93 := by unfold escT; (repeat' split) <;> omega
theorem escS_ok (s : ByteArray) (k : Nat) (h : k + 1 ≤ s.size) (he : (escS s k).2.2 = 0) : ∃ (b : Int) (m : Nat), escS s k = (b, (m : Int), 0) ∧ k + 2 ≤ m ∧ m ≤ s.size ∧ 0 ≤ b ∧ b < 256 := by
  have ht := escT_bd (bt s (k + 1))
  unfold escS at he ⊢
  by_cases h1 : k + 1 = s.size
  · rw [if_pos h1] at he; simp at he
  rw [if_neg h1] at he ⊢
  by_cases h2 : bt s (k + 1) ≠ 120
  · rw [if_pos h2] at he ⊢
    by_cases h3 : 128 ≤ bt s (k + 1) ∨ escT (bt s (k + 1)) = 0
    · rw [if_pos h3] at he; simp at he
    · rw [if_neg h3]
      exact ⟨_, k + 2, rfl, by omega, by omega, by omega, by omega⟩
  · rw [if_neg h2] at he ⊢
    by_cases h3 : k + 2 = s.size
    · rw [if_pos h3] at he; simp at he
    rw [if_neg h3] at he ⊢
    by_cases h4 : hexI (bt s (k + 2)) = false
    · rw [if_pos h4] at he; simp at he
    rw [if_neg h4] at he ⊢
    by_cases h5 : k + 3 = s.size
    · rw [if_pos h5] at he; simp at he
    rw [if_neg h5] at he ⊢
    by_cases h6 : hexI (bt s (k + 3)) = false
    · rw [if_pos h6] at he; simp at he
    rw [if_neg h6]
    have b1 := hexV_bd _ (by simpa using h4)
    have b2 := hexV_bd _ (by simpa using h6)
    exact ⟨_, k + 4, rfl, by omega, by omega, by omega, by omega⟩
theorem oneS_ok (s : ByteArray) (k : Nat) (q : Int) (h : k ≤ s.size) (he : (oneS s k q).2.2 = 0) : ∃ (b : Int) (m : Nat), oneS s k q = (b, (m : Int), 0) ∧ k + 1 ≤ m ∧ m ≤ s.size ∧ 0 ≤ b ∧ b < 256 ∧ k < s.size := by
  unfold oneS at he ⊢
  by_cases h1 : k = s.size
  · rw [if_pos h1] at he; simp at he
  rw [if_neg h1] at he ⊢
  by_cases h2 : bt s k = 92
  · rw [if_pos h2] at he ⊢
    obtain ⟨b, m, e, h1, h2, h3, h4⟩ := escS_ok s k (by omega) he
    exact ⟨b, m, e, by omega, h2, h3, h4, by omega⟩
  rw [if_neg h2] at he ⊢
  by_cases h3 : bt s k = q ∨ bt s k < 32 ∨ 126 < bt s k
  · rw [if_pos h3] at he; simp at he
  rw [if_neg h3]
  have := bt_bd s k
  exact ⟨_, k + 1, rfl, by omega, by omega, by omega, by omega, by omega⟩
/-- The errors of escape are 4 and 6. -/
theorem oneS_trip (s : ByteArray) (k : Nat) (q : Int) : ∃ b a e, oneS s k q = (b, a, e) := ⟨_, _, _, rfl⟩
theorem quoL_step (s : ByteArray) (f k : Nat) (acc : List Int) : quoL s (f + 1) k acc =
    if k < s.size ∧ bt s k = 34 then (if 200 < acc.length then attE 0 5 else ⟨3, s.extract 0 (k + 1), 0, strOfNums acc, k + 1, 0, 0⟩)
    else if (oneS s k 34).2.2 ≠ 0 then attE (oneS s k 34).2.1 (oneS s k 34).2.2
    else quoL s f (oneS s k 34).2.1.toNat (acc ++ [(oneS s k 34).1]) := rfl
/-- More fuel changes nothing. -/
theorem quoL_fuel (s : ByteArray) : ∀ (f g k : Nat) (acc : List Int), k ≤ s.size → s.size < f + k → s.size < g + k → quoL s f k acc = quoL s g k acc
  | 0, _, _, _, hk, h, _ => by omega
  | _, 0, _, _, hk, _, h => by omega
  | f + 1, g + 1, k, acc, hk, hf, hg => by
    rw [quoL_step, quoL_step]
    by_cases h1 : k < s.size ∧ bt s k = 34
    · rw [if_pos h1, if_pos h1]
    rw [if_neg h1, if_neg h1]
    by_cases h2 : (oneS s k 34).2.2 ≠ 0
    · rw [if_pos h2, if_pos h2]
    rw [if_neg h2, if_neg h2]
    obtain ⟨b, m, e, h3, h4, _⟩ := oneS_ok s k 34 hk (by simpa using h2)
    rw [e]
    exact quoL_fuel s f g m _ h4 (by omega) (by omega)
end Go.Proofs.YtdhfkokinnmfhaaDoor
