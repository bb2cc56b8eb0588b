/- Walks of layer 41: IsVariable, badByte, in. -/
import Derived.Test.YtiddchpkmcncdaaX1
import Derived.Lib.Strings
namespace Go.Proofs.Ytiddchpkmcncdaa
open Go.RowKit
set_option linter.unusedSimpArgs false
set_option linter.unusedVariables false
theorem isEmpty_of (t : ByteArray) (h : t.size ≠ 0) : t.toList.isEmpty = false := by
  rw [Lib.toList_data]
  cases ht : t.data.toList with
  | nil => have : t.data.toList.length = 0 := by rw [ht]; rfl
           have h3 : t.size = 0 := by simpa using this
           exact absurd h3 h
  | cons _ _ => rfl
theorem IsVariable_any (s : ByteArray) (w : World) (hs : s.size ≤ 100000) :
    Calls Try.prog 18 #[.string s] w fun e w' => e = .returned (.bool (isVarB s)) ∧ w = w' := by
  by_cases h0 : s.size = 0
  · have HV := Lib.hid (isVar_empty s h0)
    have e0 := empty_list s h0
    clear h0
    go_enter Try.func18, Try.ntmps18
    go_wp2
    go_ret
    exact ⟨ret_bool HV.out.symm, rfl⟩
  have e0 := isEmpty_of s h0
  have h0' : 0 < s.size := by omega
  clear h0
  by_cases h1 : 16 < s.size
  · have HV := Lib.hid (isVar_long s h1)
    go_enter Try.func18, Try.ntmps18
    go_wp2
    go_ret
    exact ⟨ret_bool HV.out.symm, rfl⟩
  have h1' : s.size ≤ 16 := by omega
  have hb := bt_of s 0 h0'
  cases h2 : ltrI (bt s 0) with
  | false =>
    have HV := Lib.hid (isVar_first s h2)
    go_enter Try.func18, Try.ntmps18
    go_wp2_with (go_at_call 50; refine (isLetter_any _ _).mono ?_; rintro e w' ⟨rfl, rfl⟩)
    go_ret
    exact ⟨ret_bool HV.out.symm, rfl⟩
  | true =>
    have H2 := Lib.hid h2
    go_enter Try.func18, Try.ntmps18
    go_wp2_with (go_at_call 50; refine (isLetter_any _ _).mono ?_; rintro e w' ⟨rfl, rfl⟩)
    clear hb h2
    go_loop [19] (fun i => ∃ k : Nat, k ≤ s.size ∧ i = .int .i64 k ∧ (∀ j, j < k → alnI (bt s j) = true)) (fun i => s.size - (intOf i).toNat)
    case atStart => exact ⟨0, Nat.zero_le _, rfl, fun j h => by omega⟩
    case round =>
      obtain ⟨k, hk, rfl, hj⟩ := hrel
      have HJ := Lib.hid hj
      clear hj
      by_cases hlt : k < s.size
      · have hb := bt_of s k hlt
        cases hq : alnI (bt s k) with
        | true =>
          have HQ := Lib.hid hq
          go_wp2_with (go_at_call 51; refine (isAlphanumeric_any _ _).mono ?_; rintro e w' ⟨rfl, rfl⟩)
          go_round
          case rel => exact ⟨k + 1, by omega, by go_num, fun j hj => (by by_cases e : j = k; (subst e; exact HQ.out); exact HJ.out j (by omega))⟩
          case measure => simp [intOf]; omega
        | false =>
          have HV := Lib.hid (isVar_bad s k hlt hq)
          go_wp2_with (go_at_call 51; refine (isAlphanumeric_any _ _).mono ?_; rintro e w' ⟨rfl, rfl⟩)
          go_ret
          exact ⟨ret_bool HV.out.symm, rfl⟩
      · have HV := Lib.hid (isVar_good s h0' h1' H2.out (fun j hj => HJ.out j (by omega)))
        go_wp2
        go_ret
        exact ⟨ret_bool HV.out.symm, rfl⟩
theorem isVar_all (s : ByteArray) (h : ∀ k, k < s.size → ltrI (bt s k) = true ∨ (k ≠ 0 ∧ digI (bt s k) = true)) : isVarB s = (decide (0 < s.size) && decide (s.size ≤ 16)) := by
  by_cases h0 : 0 < s.size
  · by_cases h1 : s.size ≤ 16
    · rw [isVar_good s h0 h1 ((h 0 h0).resolve_right (by simp)) (fun k hk => by
        unfold alnI
        rcases h k hk with h | ⟨_, h⟩ <;> rw [h] <;> simp)]
      simp [h0, h1]
    · rw [isVar_long s (by omega)]
      simp [h1]
  · rw [isVar_empty s (by omega)]
    simp [h0]
theorem ref_IsVariable_any (s : ByteArray) (w : World) (hs : s.size ≤ 100000) :
    Calls Try.prog 19 #[.string s] w fun e w' => e = .returned (.bool (isVarB s)) ∧ w = w' := by
  go_enter Try.func19, Try.ntmps19
  go_wp2
  go_loop [3] (fun i => ∃ k : Nat, k ≤ s.size ∧ i = .int .i64 k ∧ (∀ j, j < k → ltrI (bt s j) = true ∨ (j ≠ 0 ∧ digI (bt s j) = true))) (fun i => s.size - (intOf i).toNat)
  case atStart => exact ⟨0, Nat.zero_le _, rfl, fun j h => by omega⟩
  case round =>
    obtain ⟨k, hk, rfl, hj⟩ := hrel
    have HJ := Lib.hid hj
    clear hj
    by_cases hlt : k < s.size
    · have hb := bt_of s k hlt
      cases hq : ltrI (bt s k) with
      | true =>
        have HQ := Lib.hid hq
        go_wp2_with (go_at_call 52; refine (letter_any _ _).mono ?_; rintro e w' ⟨rfl, rfl⟩)
        go_round
        case rel => exact ⟨k + 1, by omega, by go_num, fun j hj => (by by_cases e : j = k; (subst e; exact .inl HQ.out); exact HJ.out j (by omega))⟩
        case measure => simp [intOf]; omega
      | false =>
        by_cases hk0 : k = 0
        · subst hk0
          have HV := Lib.hid (isVar_first s hq)
          go_wp2_with (go_at_call 52; refine (letter_any _ _).mono ?_; rintro e w' ⟨rfl, rfl⟩)
          go_ret
          exact ⟨ret_bool HV.out.symm, rfl⟩
        have hk1 : ((k : Int) == 0) = false := by simpa using hk0
        have HK := Lib.hid hk0
        clear hk0
        cases hd : digI (bt s k) with
        | true =>
          have HD := Lib.hid hd
          go_wp2_with (first | (go_at_call 52; refine (letter_any _ _).mono ?_; rintro e w' ⟨rfl, rfl⟩) | (go_at_call 53; refine (digit_any _ _).mono ?_; rintro e w' ⟨rfl, rfl⟩))
          go_round
          case rel => exact ⟨k + 1, by omega, by go_num, fun j hj => (by by_cases e : j = k; (subst e; exact .inr ⟨HK.out, HD.out⟩); exact HJ.out j (by omega))⟩
          case measure => simp [intOf]; omega
        | false =>
          have HV := Lib.hid (isVar_bad s k hlt (by unfold alnI; rw [hq, hd]; rfl))
          go_wp2_with (first | (go_at_call 52; refine (letter_any _ _).mono ?_; rintro e w' ⟨rfl, rfl⟩) | (go_at_call 53; refine (digit_any _ _).mono ?_; rintro e w' ⟨rfl, rfl⟩))
          go_ret
          exact ⟨ret_bool HV.out.symm, rfl⟩
    · have HV := Lib.hid (isVar_all s (fun j hj => HJ.out j (by omega)))
      by_cases h0 : s.size = 0
      · have e0 := empty_list s h0
        have H0 := Lib.hid h0
        clear h0
        go_wp2
        go_ret
        exact ⟨ret_bool (by rw [HV.out, H0.out]; rfl), rfl⟩
      · have e0 := isEmpty_of s h0
        have H0 := Lib.hid h0
        clear h0
        by_cases h1 : s.size ≤ 16
        · go_wp2
          go_ret
          exact ⟨ret_bool (by have := H0.out; rw [HV.out]; simp [h1]; omega), rfl⟩
        · have h1' : 16 < s.size := by omega
          go_wp2
          go_ret
          exact ⟨ret_bool (by rw [HV.out, decide_eq_false h1, Bool.and_false]; simp; omega), rfl⟩
theorem tw_at (p : UInt8 → Bool) : ∀ (l : Bs) (k : Nat), k ≤ l.length → (∀ i, i < k → p (l.getD i 0) = true) → (k = l.length ∨ p (l.getD k 0) = false) → (l.takeWhile p).length = k
  | [], k, h, _, _ => by simp at h; subst h; rfl
  | b :: l, 0, _, _, h => by
    rcases h with h | h
    · simp at h
    · simp at h; simp [List.takeWhile_cons, h]
  | b :: l, k + 1, h, h1, h2 => by
    have h0 := h1 0 (by omega)
    simp at h0
    rw [List.takeWhile_cons, if_pos h0, List.length_cons]
    congr 1
    exact tw_at p l k (by simpa using h) (fun i hi => by simpa using h1 (i + 1) (by omega)) (by simpa using h2)
def badB (s : ByteArray) : Int := if badS s.data.toList < s.size then (badS s.data.toList : Int) else -1
theorem bad_at (s : ByteArray) (k : Nat) (hk : k < s.size) (h1 : ∀ i, i < k → perI (bt s i) = true) (h2 : perI (bt s k) = false) : badB s = k := by
  have : badS s.data.toList = k := tw_at _ s.data.toList k (by simpa using Nat.le_of_lt hk) h1 (.inr h2)
  unfold badB; rw [this, if_pos hk]
theorem bad_no (s : ByteArray) (h1 : ∀ i, i < s.size → perI (bt s i) = true) : badB s = -1 := by
  have : badS s.data.toList = s.size := tw_at _ s.data.toList s.size (by simp) h1 (.inl (by simp))
  unfold badB; rw [this, if_neg (by omega)]
theorem badByte_any (s : ByteArray) (w : World) (hs : s.size ≤ 100000) :
    Calls Try.prog 39 #[.string s] w fun e w' => e = .returned (.int .i64 (badB s)) ∧ w = w' := by
  go_enter Try.func39, Try.ntmps39
  go_wp2
  go_loop [6] (fun i => ∃ k : Nat, k ≤ s.size ∧ i = .int .i64 k ∧ (∀ j, j < k → perI (bt s j) = true)) (fun i => s.size - (intOf i).toNat)
  case atStart => exact ⟨0, Nat.zero_le _, rfl, fun j h => by omega⟩
  case round =>
    obtain ⟨k, hk, rfl, hj⟩ := hrel
    have HJ := Lib.hid hj
    clear hj
    by_cases hlt : k < s.size
    · have hb := bt_of s k hlt
      cases hq : perI (bt s k) with
      | true =>
        have HQ := Lib.hid hq
        go_wp2_with (go_at_call 69; refine (isPermitted_any _ _).mono ?_; rintro e w' ⟨rfl, rfl⟩)
        go_round
        case rel => exact ⟨k + 1, by omega, by go_num, fun j hj => (by by_cases e : j = k; (subst e; exact HQ.out); exact HJ.out j (by omega))⟩
        case measure => simp [intOf]; omega
      | false =>
        have HV := Lib.hid (bad_at s k hlt HJ.out hq)
        go_wp2_with (go_at_call 69; refine (isPermitted_any _ _).mono ?_; rintro e w' ⟨rfl, rfl⟩)
        go_ret
        exact ⟨ret_int HV.out.symm, rfl⟩
    · have HV := Lib.hid (bad_no s (fun j hj => HJ.out j (by omega)))
      go_wp2
      go_ret
      exact ⟨ret_int HV.out.symm, rfl⟩
/-- Whether a text contains a byte. -/
def inB (s : ByteArray) (n : Int) : Bool := s.data.toList.any fun b => decide (n8 b = n)
theorem in_yes (s : ByteArray) (n : Int) (k : Nat) (hk : k < s.size) (h : bt s k = n) : inB s n = true := by
  unfold inB
  rw [List.any_eq_true]
  have hk' : k < s.data.toList.length := by simpa using hk
  refine ⟨s.data.toList[k], List.getElem_mem hk', ?_⟩
  unfold bt at h
  rw [List.getD_eq_getElem?_getD, List.getElem?_eq_getElem hk'] at h
  simpa using h
theorem in_no (s : ByteArray) (n : Int) (h : ∀ k, k < s.size → bt s k ≠ n) : inB s n = false := by
  unfold inB
  rw [List.any_eq_false]
  intro b hb
  obtain ⟨k, hk, rfl⟩ := List.getElem_of_mem hb
  have := h k (by simpa using hk)
  unfold bt at this
  rw [List.getD_eq_getElem?_getD, List.getElem?_eq_getElem hk] at this
  simpa using this
theorem in_any (s : ByteArray) (n : Int) (w : World) (hs : s.size ≤ 100000) :
    Calls Try.prog 64 #[.string s, .int .u8 n] w fun e w' => e = .returned (.bool (inB s n)) ∧ w = w' := by
  go_enter Try.func64, Try.ntmps64
  go_wp2
  go_loop [5] (fun i => ∃ k : Nat, k ≤ s.size ∧ i = .int .i64 k ∧ (∀ j, j < k → bt s j ≠ n)) (fun i => s.size - (intOf i).toNat)
  case atStart => exact ⟨0, Nat.zero_le _, rfl, fun j h => by omega⟩
  case round =>
    obtain ⟨k, hk, rfl, hj⟩ := hrel
    have HJ := Lib.hid hj
    clear hj
    by_cases hlt : k < s.size
    · have hb := bt_of s k hlt
      cases hq : (bt s k == n) with
      | false =>
        have HQ := Lib.hid (show bt s k ≠ n by simpa using hq)
        go_wp2
        go_round
        case rel => exact ⟨k + 1, by omega, by go_num, fun j hj => (by by_cases e : j = k; (subst e; exact HQ.out); exact HJ.out j (by omega))⟩
        case measure => simp [intOf]; omega
      | true =>
        have HV := Lib.hid (in_yes s n k hlt (by simpa using hq))
        go_wp2
        go_ret
        exact ⟨ret_bool HV.out.symm, rfl⟩
    · have HV := Lib.hid (in_no s n (fun j hj => HJ.out j (by omega)))
      go_wp2
      go_ret
      exact ⟨ret_bool HV.out.symm, rfl⟩
end Go.Proofs.Ytiddchpkmcncdaa
