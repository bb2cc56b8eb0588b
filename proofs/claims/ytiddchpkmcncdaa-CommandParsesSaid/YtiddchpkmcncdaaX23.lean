/- Walks of layer 41: isPlain, quote. -/
import Derived.Test.YtiddchpkmcncdaaX22
import Derived.Test.YtiddchpkmcncdaaK6
namespace Go.Proofs.Ytiddchpkmcncdaa
open Go.RowKit
set_option linter.unusedSimpArgs false
set_option linter.unusedVariables false
theorem bt_u8 (s : ByteArray) (k : Nat) : (bt s k).toNat.toUInt8 = b8 s k := by
  unfold bt b8 n8; simp
theorem sgn_no (s : ByteArray) (k : Nat) (w : World) (h : sgnL.contains (b8 s k) = false) : Calls Try.prog 104 #[.string ⟨#[46, 47, 45, 43, 58, 44, 64, 37]⟩, .int .u8 (bt s k)] w fun e w' => e = .returned (.int .i64 (-1)) ∧ w = w' := by
  refine (Try.strings_IndexByte _ _ _).mono ?_
  rintro e w' ⟨rfl, rfl⟩
  exact ⟨ret_int (by rw [bt_u8]; exact (idx_contains sgnL _).1 h), rfl⟩
theorem sgn_yes (s : ByteArray) (k : Nat) (w : World) (h : sgnL.contains (b8 s k) = true) : Calls Try.prog 104 #[.string ⟨#[46, 47, 45, 43, 58, 44, 64, 37]⟩, .int .u8 (bt s k)] w fun e w' => e = .returned (.int .i64 (Lib.indexByte sgnL (b8 s k))) ∧ w = w' := by
  refine (Try.strings_IndexByte _ _ _).mono ?_
  rintro e w' ⟨rfl, rfl⟩
  exact ⟨ret_int (by rw [bt_u8]; rfl), rfl⟩
set_option maxRecDepth 100000 in
set_option maxHeartbeats 1000000 in
theorem isPlain_any (s : ByteArray) (w : World) (hs : s.size ≤ 100000) :
    Calls Try.prog 88 #[.string s] w fun e w' => e = .returned (.bool (isPlnS s.data.toList)) ∧ w = w' := by
  go_enter Try.func88, Try.ntmps88
  go_wp2
  go_loop [6] (fun i => ∃ k : Nat, k ≤ s.size ∧ i = .int .i64 k ∧ (∀ j, j < k → plnB (b8 s j) = true)) (fun i => s.size - (intOf i).toNat)
  case atStart => exact ⟨0, Nat.zero_le _, rfl, fun j h => by omega⟩
  case round =>
    obtain ⟨k, hk, rfl, hj⟩ := hrel
    have HJ := Lib.hid hj
    clear hj
    by_cases hlt : k < s.size
    · have hb := bt_of s k hlt
      cases hq : alnI (bt s k) with
      | true =>
        have HQ := Lib.hid (show plnB (b8 s k) = true by unfold plnB aln8; rw [← bt_b8, hq]; rfl)
        have HQ1 := Lib.hid hq
        go_wp2_with (go_at_call 51; refine (isAlphanumeric_any _ _).mono ?_; rintro e w' ⟨rfl, rfl⟩)
        go_round
        case rel => exact ⟨k + 1, by omega, by go_num, fun j hj => (by by_cases e : j = k; (subst e; exact HQ.out); exact HJ.out j (by omega))⟩
        case measure => simp [intOf]; omega
      | false =>
        cases hc : sgnL.contains (b8 s k) with
        | true =>
          have HQ := Lib.hid (show plnB (b8 s k) = true by unfold plnB; rw [hc]; simp)
          have HC := Lib.hid hc
          have h9 := (idx_contains sgnL (b8 s k)).2 hc
          have h8 : ¬ Lib.indexByte sgnL (b8 s k) < 0 := by omega
          clear hc
          generalize hI : Lib.indexByte sgnL (b8 s k) = I at *
          have HI := Lib.hid hI
          clear hI
          go_wp2_with (first | (go_at_call 51; refine (isAlphanumeric_any _ _).mono ?_; rintro e w' ⟨rfl, rfl⟩) | (go_at_call 104; refine (sgn_yes s k _ HC.out).mono ?_; rintro e w' ⟨rfl, rfl⟩; rw [HI.out]))
          go_round
          case rel => exact ⟨k + 1, by omega, by go_num, fun j hj => (by by_cases e : j = k; (subst e; exact HQ.out); exact HJ.out j (by omega))⟩
          case measure => simp [intOf]; omega
        | false =>
          have HV := Lib.hid (isPln_bad s k hlt (show plnB (b8 s k) = false by unfold plnB aln8; rw [← bt_b8, hq, hc]; rfl))
          have HC := Lib.hid hc
          clear hc
          go_wp2_with (first | (go_at_call 51; refine (isAlphanumeric_any _ _).mono ?_; rintro e w' ⟨rfl, rfl⟩) | (go_at_call 104; refine (sgn_no s k _ HC.out).mono ?_; rintro e w' ⟨rfl, rfl⟩))
          go_ret
          exact ⟨ret_bool HV.out.symm, rfl⟩
    · have HV := Lib.hid (isPln_good s (fun j hj => HJ.out j (by omega)))
      go_wp2
      go_ret
      exact ⟨ret_bool (by rw [HV.out, Lib.toList_data]), rfl⟩
end Go.Proofs.Ytiddchpkmcncdaa
