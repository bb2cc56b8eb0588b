/- Walks of layer 21: classes of bytes, leading. -/
import Derived.Test.YtdhfkokinnmfhaaDoorProg
import Derived.Test.YtdhfkokinnmfhaaDoorX1
import Derived.WalkKit
import Derived.WalkLawsBesides
import Derived.WalkSpells
import Derived.Outline
import Derived.Lib.Hide
namespace Go.Proofs.YtdhfkokinnmfhaaDoor
open Go.RowKit
set_option linter.unusedSimpArgs false
set_option linter.unusedVariables false
theorem ret_bool {a b : Bool} (h : a = b) : Ending.returned (.bool a) = .returned (.bool b) := by rw [h]
theorem ret_int {k : IntKind} {a b : Int} (h : a = b) : Ending.returned (.int k a) = .returned (.int k b) := by rw [h]
theorem isLetter_any (n : Int) (w : World) : Calls Tryd.prog 31 #[.int .u8 n] w fun e w' => e = .returned (.bool (ltrI n)) ∧ w = w' := by
  go_enter Tryd.func31, Tryd.ntmps31
  go_wp2
  all_goals
    go_ret
    refine ⟨ret_bool ?_, rfl⟩
    unfold ltrI
    rw [Bool.eq_iff_iff]
    simp
    omega
theorem isDigit_any (n : Int) (w : World) : Calls Tryd.prog 51 #[.int .u8 n] w fun e w' => e = .returned (.bool (digI n)) ∧ w = w' := by
  go_enter Tryd.func51, Tryd.ntmps51
  go_wp2
  all_goals
    go_ret
    refine ⟨ret_bool ?_, rfl⟩
    unfold digI
    rw [Bool.eq_iff_iff]
    simp
    omega
theorem isHex_any (n : Int) (w : World) : Calls Tryd.prog 64 #[.int .u8 n] w fun e w' => e = .returned (.bool (hexI n)) ∧ w = w' := by
  cases hd : digI n with
  | true =>
    have HD := Lib.hid hd
    go_enter Tryd.func64, Tryd.ntmps64
    go_wp2_with (go_at_call 51; refine (isDigit_any _ _).mono ?_; rintro e w' ⟨rfl, rfl⟩)
    go_ret
    exact ⟨ret_bool (by unfold hexI; rw [HD.out]; rfl), rfl⟩
  | false =>
    have HD := Lib.hid hd
    go_enter Tryd.func64, Tryd.ntmps64
    go_wp2_with (go_at_call 51; refine (isDigit_any _ _).mono ?_; rintro e w' ⟨rfl, rfl⟩)
    all_goals
      go_ret
      refine ⟨ret_bool ?_, rfl⟩
      unfold hexI
      rw [HD.out, Bool.eq_iff_iff]
      simp
      try omega
theorem isAlphanumeric_any (n : Int) (w : World) : Calls Tryd.prog 33 #[.int .u8 n] w fun e w' => e = .returned (.bool (alnI n)) ∧ w = w' := by
  cases hd : ltrI n with
  | true =>
    have HD := Lib.hid hd
    go_enter Tryd.func33, Tryd.ntmps33
    go_wp2_with (first | (go_at_call 31; refine (isLetter_any _ _).mono ?_; rintro e w' ⟨rfl, rfl⟩) | (go_at_call 51; refine (isDigit_any _ _).mono ?_; rintro e w' ⟨rfl, rfl⟩))
    go_ret
    exact ⟨ret_bool (by unfold alnI; rw [HD.out]; rfl), rfl⟩
  | false =>
    have HD := Lib.hid hd
    go_enter Tryd.func33, Tryd.ntmps33
    go_wp2_with (first | (go_at_call 31; refine (isLetter_any _ _).mono ?_; rintro e w' ⟨rfl, rfl⟩) | (go_at_call 51; refine (isDigit_any _ _).mono ?_; rintro e w' ⟨rfl, rfl⟩))
    go_ret
    exact ⟨ret_bool (by unfold alnI; rw [HD.out]; rfl), rfl⟩
theorem notNl_any (n : Int) (w : World) : Calls Tryd.prog 42 #[.int .u8 n] w fun e w' => e = .returned (.bool (nlI n)) ∧ w = w' := by
  go_enter Tryd.func42, Tryd.ntmps42
  go_wp2
  go_ret
  refine ⟨ret_bool ?_, rfl⟩
  unfold nlI
  rw [Bool.eq_iff_iff]
  simp
theorem leading_aln (s : ByteArray) (w : World) (hs : s.size ≤ 100000) :
    Calls Tryd.prog 32 #[.string s, .func (.func 33) #[] #[]] w fun e w' => e = .returned (.int .i64 (leadB alnI s)) ∧ w = w' := by
  go_enter Tryd.func32, Tryd.ntmps32
  go_wp2
  go_loop [5] (fun i => ∃ k : Nat, k ≤ s.size ∧ i = .int .i64 k ∧ (∀ j, j < k → alnI (bt s j) = true)) (fun i => s.size - (intOf i).toNat)
  case atStart => exact ⟨0, Nat.zero_le _, rfl, fun j h => by omega⟩
  case round =>
    obtain ⟨k, hk, rfl, hj⟩ := hrel
    have HJ := Lib.hid hj
    clear hj
    by_cases hlt : k < s.size
    · have hb := bt_of s k hlt
      cases hq : alnI (bt s k) with
      | true =>
        have HQ := Lib.hid hq
        go_wp2_with (go_at_call 33; refine (isAlphanumeric_any _ _).mono ?_; rintro e w' ⟨rfl, rfl⟩)
        go_round
        case rel => exact ⟨k + 1, by omega, by go_num, fun j hj => (by by_cases e : j = k; (subst e; exact HQ.out); exact HJ.out j (by omega))⟩
        case measure => simp [intOf]; omega
      | false =>
        have HQ := Lib.hid hq
        go_wp2_with (go_at_call 33; refine (isAlphanumeric_any _ _).mono ?_; rintro e w' ⟨rfl, rfl⟩)
        go_ret
        exact ⟨ret_int (by rw [leadB_at alnI s k hk HJ.out (.inr HQ.out)]), rfl⟩
    · have hks : k = s.size := by omega
      have HK := Lib.hid hks
      clear hks
      go_wp2
      go_ret
      exact ⟨ret_int (by rw [leadB_at alnI s k hk HJ.out (.inl HK.out)]), rfl⟩
theorem leading_hex (s : ByteArray) (w : World) (hs : s.size ≤ 100000) :
    Calls Tryd.prog 32 #[.string s, .func (.func 64) #[] #[]] w fun e w' => e = .returned (.int .i64 (leadB hexI s)) ∧ w = w' := by
  go_enter Tryd.func32, Tryd.ntmps32
  go_wp2
  go_loop [5] (fun i => ∃ k : Nat, k ≤ s.size ∧ i = .int .i64 k ∧ (∀ j, j < k → hexI (bt s j) = true)) (fun i => s.size - (intOf i).toNat)
  case atStart => exact ⟨0, Nat.zero_le _, rfl, fun j h => by omega⟩
  case round =>
    obtain ⟨k, hk, rfl, hj⟩ := hrel
    have HJ := Lib.hid hj
    clear hj
    by_cases hlt : k < s.size
    · have hb := bt_of s k hlt
      cases hq : hexI (bt s k) with
      | true =>
        have HQ := Lib.hid hq
        go_wp2_with (go_at_call 64; refine (isHex_any _ _).mono ?_; rintro e w' ⟨rfl, rfl⟩)
        go_round
        case rel => exact ⟨k + 1, by omega, by go_num, fun j hj => (by by_cases e : j = k; (subst e; exact HQ.out); exact HJ.out j (by omega))⟩
        case measure => simp [intOf]; omega
      | false =>
        have HQ := Lib.hid hq
        go_wp2_with (go_at_call 64; refine (isHex_any _ _).mono ?_; rintro e w' ⟨rfl, rfl⟩)
        go_ret
        exact ⟨ret_int (by rw [leadB_at hexI s k hk HJ.out (.inr HQ.out)]), rfl⟩
    · have hks : k = s.size := by omega
      have HK := Lib.hid hks
      clear hks
      go_wp2
      go_ret
      exact ⟨ret_int (by rw [leadB_at hexI s k hk HJ.out (.inl HK.out)]), rfl⟩
theorem leading_dig (s : ByteArray) (w : World) (hs : s.size ≤ 100000) :
    Calls Tryd.prog 32 #[.string s, .func (.func 51) #[] #[]] w fun e w' => e = .returned (.int .i64 (leadB digI s)) ∧ w = w' := by
  go_enter Tryd.func32, Tryd.ntmps32
  go_wp2
  go_loop [5] (fun i => ∃ k : Nat, k ≤ s.size ∧ i = .int .i64 k ∧ (∀ j, j < k → digI (bt s j) = true)) (fun i => s.size - (intOf i).toNat)
  case atStart => exact ⟨0, Nat.zero_le _, rfl, fun j h => by omega⟩
  case round =>
    obtain ⟨k, hk, rfl, hj⟩ := hrel
    have HJ := Lib.hid hj
    clear hj
    by_cases hlt : k < s.size
    · have hb := bt_of s k hlt
      cases hq : digI (bt s k) with
      | true =>
        have HQ := Lib.hid hq
        go_wp2_with (go_at_call 51; refine (isDigit_any _ _).mono ?_; rintro e w' ⟨rfl, rfl⟩)
        go_round
        case rel => exact ⟨k + 1, by omega, by go_num, fun j hj => (by by_cases e : j = k; (subst e; exact HQ.out); exact HJ.out j (by omega))⟩
        case measure => simp [intOf]; omega
      | false =>
        have HQ := Lib.hid hq
        go_wp2_with (go_at_call 51; refine (isDigit_any _ _).mono ?_; rintro e w' ⟨rfl, rfl⟩)
        go_ret
        exact ⟨ret_int (by rw [leadB_at digI s k hk HJ.out (.inr HQ.out)]), rfl⟩
    · have hks : k = s.size := by omega
      have HK := Lib.hid hks
      clear hks
      go_wp2
      go_ret
      exact ⟨ret_int (by rw [leadB_at digI s k hk HJ.out (.inl HK.out)]), rfl⟩
theorem leading_nl (s : ByteArray) (w : World) (hs : s.size ≤ 100000) :
    Calls Tryd.prog 32 #[.string s, .func (.func 42) #[] #[]] w fun e w' => e = .returned (.int .i64 (leadB nlI s)) ∧ w = w' := by
  go_enter Tryd.func32, Tryd.ntmps32
  go_wp2
  go_loop [5] (fun i => ∃ k : Nat, k ≤ s.size ∧ i = .int .i64 k ∧ (∀ j, j < k → nlI (bt s j) = true)) (fun i => s.size - (intOf i).toNat)
  case atStart => exact ⟨0, Nat.zero_le _, rfl, fun j h => by omega⟩
  case round =>
    obtain ⟨k, hk, rfl, hj⟩ := hrel
    have HJ := Lib.hid hj
    clear hj
    by_cases hlt : k < s.size
    · have hb := bt_of s k hlt
      cases hq : nlI (bt s k) with
      | true =>
        have HQ := Lib.hid hq
        go_wp2_with (go_at_call 42; refine (notNl_any _ _).mono ?_; rintro e w' ⟨rfl, rfl⟩)
        go_round
        case rel => exact ⟨k + 1, by omega, by go_num, fun j hj => (by by_cases e : j = k; (subst e; exact HQ.out); exact HJ.out j (by omega))⟩
        case measure => simp [intOf]; omega
      | false =>
        have HQ := Lib.hid hq
        go_wp2_with (go_at_call 42; refine (notNl_any _ _).mono ?_; rintro e w' ⟨rfl, rfl⟩)
        go_ret
        exact ⟨ret_int (by rw [leadB_at nlI s k hk HJ.out (.inr HQ.out)]), rfl⟩
    · have hks : k = s.size := by omega
      have HK := Lib.hid hks
      clear hks
      go_wp2
      go_ret
      exact ⟨ret_int (by rw [leadB_at nlI s k hk HJ.out (.inl HK.out)]), rfl⟩
end Go.Proofs.YtdhfkokinnmfhaaDoor
