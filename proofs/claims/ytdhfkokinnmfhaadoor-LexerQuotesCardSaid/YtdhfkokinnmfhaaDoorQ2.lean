/- Plain lemmas of layer 21: leading bytes, values of numbers. -/
import Derived.Test.YtdhfkokinnmfhaaDoorQ1
namespace Go.Proofs.YtdhfkokinnmfhaaDoor
set_option linter.unusedSimpArgs false
set_option linter.unusedVariables false
theorem lead_spec (p : Int → Bool) : ∀ (l : List UInt8) (i : Nat), i < lead p l → p ((l.getD i 0).toNat : Int) = true
  | [], i, h => by simp [lead] at h
  | b :: l, i, h => by
    unfold lead at h
    split at h
    · cases i with
      | zero => simpa using ‹_›
      | succ i => simpa using lead_spec p l i (by omega)
    · omega
theorem lead_end (p : Int → Bool) : ∀ (l : List UInt8), lead p l < l.length → p ((l.getD (lead p l) 0).toNat : Int) = false
  | [], h => by simp at h
  | b :: l, h => by
    unfold lead at h ⊢
    split
    · rw [if_pos ‹_›] at h
      simpa using lead_end p l (by simpa using h)
    · rename_i hh
      simpa using hh
theorem leadB_spec (p : Int → Bool) (s : ByteArray) (i : Nat) (h : i < leadB p s) : p (bt s i) = true := lead_spec p _ i h
theorem leadB_end (p : Int → Bool) (s : ByteArray) (h : leadB p s < s.size) : p (bt s (leadB p s)) = false := lead_end p _ (by simpa [leadB] using h)
theorem drop_bt (s : ByteArray) (k : Nat) (h : k < s.size) : ∃ b : UInt8, (b.toNat : Int) = bt s k ∧ s.data.toList.drop k = b :: s.data.toList.drop (k + 1) := by
  have h' : k < s.data.toList.length := by simpa using h
  refine ⟨s.data.toList[k], ?_, List.drop_eq_getElem_cons h'⟩
  unfold bt
  rw [List.getD_eq_getElem?_getD, List.getElem?_eq_getElem h']
  rfl
theorem decS_step (s : ByteArray) (v : Int) (k : Nat) (h : k < s.size) : decS v (s.data.toList.drop k) = if 4294967295 < v * 10 + (bt s k - 48) then (0, 2) else decS (v * 10 + (bt s k - 48)) (s.data.toList.drop (k + 1)) := by
  obtain ⟨b, hb, hd⟩ := drop_bt s k h
  rw [hd, decS, hb]
theorem decS_end (s : ByteArray) (v : Int) (k : Nat) (h : k = s.size) : decS v (s.data.toList.drop k) = (v, 0) := by
  rw [List.drop_of_length_le (by simp; omega)]; rfl
theorem hexF_step (s : ByteArray) (v : Int) (k : Nat) (h : k < s.size) : hexF v (s.data.toList.drop k) = hexF (16 * v + hexV (bt s k)) (s.data.toList.drop (k + 1)) := by
  obtain ⟨b, hb, hd⟩ := drop_bt s k h
  rw [hd, hexF, hb]
theorem hexF_end (s : ByteArray) (v : Int) (k : Nat) (h : k = s.size) : hexF v (s.data.toList.drop k) = v := by
  rw [List.drop_of_length_le (by simp; omega)]; rfl
theorem pow16 (k : Nat) (h : k ≤ 8) : (16 : Int) ^ k ≤ 4294967296 := by
  obtain rfl | rfl | rfl | rfl | rfl | rfl | rfl | rfl | rfl : k = 0 ∨ k = 1 ∨ k = 2 ∨ k = 3 ∨ k = 4 ∨ k = 5 ∨ k = 6 ∨ k = 7 ∨ k = 8 := by omega
  all_goals decide
theorem pow16s (k : Nat) (v h : Int) (hv : v < 16 ^ k) (h1 : h < 16) : 16 * v + h < 16 ^ (k + 1) := by
  rw [Int.pow_succ]; omega
theorem bt_extract (s : ByteArray) (a b i : Nat) (hb : b ≤ s.size) (hi : a + i < b) : bt (s.extract a b) i = bt s (a + i) := by
  unfold bt
  congr 2
  rw [List.getD_eq_getElem?_getD, List.getD_eq_getElem?_getD]
  simp [ByteArray.extract, List.getElem?_take, List.getElem?_drop, ByteArray.copySlice]
  by_cases h : i < b - a
  · simp [h]
  · omega
theorem size_extract (s : ByteArray) (a b : Nat) (hb : b ≤ s.size) : (s.extract a b).size = b - a := by
  simp [ByteArray.size_extract]; omega
/-- Two texts with the same bytes are the same. -/
theorem ext_bt (s t : ByteArray) (hs : s.size = t.size) (h : ∀ i, i < s.size → bt s i = bt t i) : s = t := by
  apply ByteArray.ext
  apply Array.toList_inj.1
  apply List.ext_getElem?
  intro i
  by_cases hi : i < s.size
  · have h1 : i < s.data.toList.length := by simpa using hi
    have h2 : i < t.data.toList.length := by rw [hs] at hi; simpa using hi
    have := h i hi
    unfold bt at this
    rw [List.getD_eq_getElem?_getD, List.getD_eq_getElem?_getD, List.getElem?_eq_getElem h1, List.getElem?_eq_getElem h2] at this
    rw [List.getElem?_eq_getElem h1, List.getElem?_eq_getElem h2]
    simp at this
    have e : s.data.toList[i].toNat = t.data.toList[i].toNat := by simp at this ⊢; omega
    exact congrArg some (UInt8.toNat_inj.1 e)
  · rw [List.getElem?_eq_none (by simpa using hi), List.getElem?_eq_none (by rw [hs] at hi; simpa using hi)]
theorem hasPrefix_0x (s : ByteArray) : Lib.hasPrefix s.data.toList [48, 120] = decide (2 ≤ s.size ∧ bt s 0 = 48 ∧ bt s 1 = 120) := by
  unfold bt
  have hsz : s.size = s.data.toList.length := by simp
  rw [hsz]
  generalize s.data.toList = l
  match l with
  | [] => rfl
  | [a] => simp [Lib.hasPrefix, List.isPrefixOf]
  | a :: b :: l =>
    rw [Bool.eq_iff_iff]
    simp only [Lib.hasPrefix, List.isPrefixOf, Bool.and_true, Bool.and_eq_true, beq_iff_eq, decide_eq_true_eq, List.length_cons, List.getD_cons_zero, List.getD_cons_succ]
    constructor
    · rintro ⟨rfl, rfl⟩; exact ⟨by omega, rfl, rfl⟩
    · rintro ⟨_, h1, h2⟩
      exact ⟨(UInt8.toNat_inj.1 (by simpa using Int.ofNat_inj.1 h1.symm |>.symm)).symm, (UInt8.toNat_inj.1 (by simpa using Int.ofNat_inj.1 h2.symm |>.symm)).symm⟩
theorem trim_0x (s : ByteArray) (h : 2 ≤ s.size ∧ bt s 0 = 48 ∧ bt s 1 = 120) : (⟨(Lib.trimPrefix s.data.toList [48, 120]).toArray⟩ : ByteArray) = s.extract 2 s.size := by
  have hp : Lib.hasPrefix s.data.toList [48, 120] = true := by rw [hasPrefix_0x]; simpa using h
  unfold Lib.trimPrefix
  rw [if_pos hp]
  apply ByteArray.ext
  apply Array.toList_inj.1
  simp [ByteArray.extract, ByteArray.copySlice]
  rw [List.take_of_length_le (by simp)]
theorem trim_no (s : ByteArray) (h : ¬(2 ≤ s.size ∧ bt s 0 = 48 ∧ bt s 1 = 120)) : (⟨(Lib.trimPrefix s.data.toList [48, 120]).toArray⟩ : ByteArray) = s := by
  have hp : Lib.hasPrefix s.data.toList [48, 120] = false := by rw [hasPrefix_0x]; simpa using h
  unfold Lib.trimPrefix
  rw [if_neg (by rw [hp]; simp)]
end Go.Proofs.YtdhfkokinnmfhaaDoor
