/- Walks of layer 41: classes of bytes, IsVariable, badByte. -/
import Derived.Test.YtiddchpkmcncdaaProg
import Derived.Test.YtiddchpkmcncdaaK1
import Derived.WalkKit
import Derived.WalkLawsBesides
import Derived.WalkSpells
import Derived.Outline
import Derived.Lib.Hide
namespace Go.Proofs.Ytiddchpkmcncdaa
open Go.RowKit
set_option linter.unusedSimpArgs false
set_option linter.unusedVariables false
theorem ret_bool {a b : Bool} (h : a = b) : Ending.returned (.bool a) = .returned (.bool b) := by rw [h]
theorem ret_int {k : IntKind} {a b : Int} (h : a = b) : Ending.returned (.int k a) = .returned (.int k b) := by rw [h]
theorem ret_str {a b : ByteArray} (h : a = b) : Ending.returned (.string a) = .returned (.string b) := by rw [h]
theorem isLetter_any (n : Int) (w : World) : Calls Try.prog 50 #[.int .u8 n] w fun e w' => e = .returned (.bool (ltrI n)) ∧ w = w' := by
  go_enter Try.func50, Try.ntmps50
  go_wp2
  all_goals
    go_ret
    refine ⟨ret_bool ?_, rfl⟩
    unfold ltrI
    rw [Bool.eq_iff_iff]
    simp
    omega
theorem letter_any (n : Int) (w : World) : Calls Try.prog 52 #[.int .u8 n] w fun e w' => e = .returned (.bool (ltrI n)) ∧ w = w' := by
  go_enter Try.func52, Try.ntmps52
  go_wp2
  all_goals
    go_ret
    refine ⟨ret_bool ?_, rfl⟩
    unfold ltrI
    rw [Bool.eq_iff_iff]
    simp
    omega
theorem digit_any (n : Int) (w : World) : Calls Try.prog 53 #[.int .u8 n] w fun e w' => e = .returned (.bool (digI n)) ∧ w = w' := by
  go_enter Try.func53, Try.ntmps53
  go_wp2
  all_goals
    go_ret
    refine ⟨ret_bool ?_, rfl⟩
    unfold digI
    rw [Bool.eq_iff_iff]
    simp
    omega
theorem isPermitted_any (n : Int) (w : World) : Calls Try.prog 69 #[.int .u8 n] w fun e w' => e = .returned (.bool (perI n)) ∧ w = w' := by
  go_enter Try.func69, Try.ntmps69
  go_wp2
  all_goals
    go_ret
    refine ⟨ret_bool ?_, rfl⟩
    unfold perI
    rw [Bool.eq_iff_iff]
    simp
    omega
theorem permitted_any (n : Int) (w : World) : Calls Try.prog 42 #[.int .u8 n] w fun e w' => e = .returned (.bool (perI n)) ∧ w = w' := by
  go_enter Try.func42, Try.ntmps42
  go_wp2
  all_goals
    go_ret
    refine ⟨ret_bool ?_, rfl⟩
    unfold perI
    rw [Bool.eq_iff_iff]
    simp
    omega
theorem isBlank_any (n : Int) (w : World) : Calls Try.prog 70 #[.int .u8 n] w fun e w' => e = .returned (.bool (blkI n)) ∧ w = w' := by
  go_enter Try.func70, Try.ntmps70
  go_wp2
  all_goals
    go_ret
    refine ⟨ret_bool ?_, rfl⟩
    unfold blkI
    rw [Bool.eq_iff_iff]
    simp
    try omega
theorem isAlphanumeric_any (n : Int) (w : World) : Calls Try.prog 51 #[.int .u8 n] w fun e w' => e = .returned (.bool (alnI n)) ∧ w = w' := by
  cases hd : ltrI n with
  | true =>
    have HD := Lib.hid hd
    go_enter Try.func51, Try.ntmps51
    go_wp2_with (go_at_call 50; refine (isLetter_any _ _).mono ?_; rintro e w' ⟨rfl, rfl⟩)
    go_ret
    exact ⟨ret_bool (by unfold alnI; rw [HD.out]; rfl), rfl⟩
  | false =>
    have HD := Lib.hid hd
    go_enter Try.func51, Try.ntmps51
    go_wp2_with (go_at_call 50; refine (isLetter_any _ _).mono ?_; rintro e w' ⟨rfl, rfl⟩)
    all_goals
      go_ret
      refine ⟨ret_bool ?_, rfl⟩
      unfold alnI digI
      rw [HD.out, Bool.eq_iff_iff]
      simp
      try omega
/-- A text as a list of bytes. -/
def isVarB (s : ByteArray) : Bool := isVarS s.data.toList
theorem isVar_empty (s : ByteArray) (h : s.size = 0) : isVarB s = false := by
  unfold isVarB isVarS
  have : s.data.toList = [] := by have h2 : s.data.toList.length = 0 := by simpa using h
                                  exact List.length_eq_zero_iff.1 h2
  rw [this]; rfl
theorem isVar_long (s : ByteArray) (h : 16 < s.size) : isVarB s = false := by
  unfold isVarB isVarS
  have : decide (s.data.toList.length ≤ 16) = false := by simp; exact h
  rw [this]; simp
theorem head_bt (s : ByteArray) : n8 (s.data.toList.headD 0) = bt s 0 := by
  unfold bt
  cases s.data.toList <;> rfl
theorem isVar_first (s : ByteArray) (h : ltrI (bt s 0) = false) : isVarB s = false := by
  unfold isVarB isVarS
  rw [head_bt, h]; simp
theorem isVar_bad (s : ByteArray) (k : Nat) (hk : k < s.size) (h : alnI (bt s k) = false) : isVarB s = false := by
  unfold isVarB isVarS
  have : s.data.toList.all (fun b => alnI (n8 b)) = false := by
    rw [List.all_eq_false]
    have hk' : k < s.data.toList.length := by simpa using hk
    refine ⟨s.data.toList[k], List.getElem_mem hk', ?_⟩
    unfold bt at h
    rw [List.getD_eq_getElem?_getD, List.getElem?_eq_getElem hk'] at h
    simpa using h
  rw [this]; simp
theorem isVar_good (s : ByteArray) (h0 : 0 < s.size) (h1 : s.size ≤ 16) (h2 : ltrI (bt s 0) = true) (h : ∀ k, k < s.size → alnI (bt s k) = true) : isVarB s = true := by
  unfold isVarB isVarS
  have a0 : s.data.toList.isEmpty = false := by
    cases hs : s.data.toList with
    | nil => have : s.data.toList.length = 0 := by rw [hs]; rfl
             have h3 : s.size = 0 := by simpa using this
             omega
    | cons _ _ => rfl
  have a1 : decide (s.data.toList.length ≤ 16) = true := by simp; exact h1
  have a2 : s.data.toList.all (fun b => alnI (n8 b)) = true := by
    rw [List.all_eq_true]
    intro b hb
    obtain ⟨k, hk, rfl⟩ := List.getElem_of_mem hb
    have := h k (by simpa using hk)
    unfold bt at this
    rw [List.getD_eq_getElem?_getD, List.getElem?_eq_getElem hk] at this
    simpa using this
  rw [a0, a1, a2, head_bt, h2]; rfl
theorem empty_list (s : ByteArray) (h : s.size = 0) : s.toList.isEmpty = true := by
  have : s = ⟨#[]⟩ := by
    cases s with | mk d => congr; exact Array.eq_empty_of_size_eq_zero h
  subst this; decide +kernel
end Go.Proofs.Ytiddchpkmcncdaa
