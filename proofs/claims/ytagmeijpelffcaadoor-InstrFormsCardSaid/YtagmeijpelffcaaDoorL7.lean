/- The law InstrForms, walked. -/
import Derived.Test.YtagmeijpelffcaaDoorW14
import Derived.Test.YtagmeijpelffcaaDoorW11
namespace Go.Proofs.YtagmeijpelffcaaDoor
open Go.RowKit
set_option linter.unusedSimpArgs false
set_option linter.unusedVariables false
theorem find_is (s : ByteArray) (n : Int) (b : Bool) (w : World) (ho : TabAt w) (h : findR s = .returned (.tuple #[.int .i64 n, .bool b])) :
    Calls Tryd.prog 34 #[.string s] w fun e w' => e = .returned (.tuple #[.int .i64 n, .bool b]) ∧ Below w.heap.size w w' := by
  rw [← h]; exact find_any s w ho
theorem refFind_is (s : ByteArray) (n : Int) (b : Bool) (w : World) (h : findR s = .returned (.tuple #[.int .i64 n, .bool b])) :
    Calls Tryd.prog 35 #[.string s] w fun e w' => e = .returned (.tuple #[.int .i64 n, .bool b]) ∧ Below w.heap.size w w' := by
  rw [← h]; exact refFind_any s w
theorem limits_any (op : Int) (w : World) (ho : OpsAt w) (h0 : 0 ≤ op) (h1 : op < 27) (hf : 4 ≤ formI op.toNat) :
    Calls Tryd.prog 32 #[.int .i64 op] w fun e w' => e = .returned (.tuple #[.int .i64 (lowI op.toNat), .int .i64 (highI op.toNat), .int .i64 0]) ∧ Below w.heap.size w w' := by
  refine (limits_f op _ w ho h0 h1 rfl (by have := form_cases op.toNat (by omega); omega)).mono fun e w' ⟨he, n, hw⟩ => ⟨he, ?_⟩
  rw [hw]
  exact below_drewN (Below.refl _ _) n
theorem forms_long (op : Int) (s : ByteArray) (w : World) (ho : OpsAt w) (h : 40 < s.size) :
    Calls Tryd.prog 10 #[.int .i64 op, .string s] w fun e w' => e = .returned (.bool true) ∧ Below w.heap.size w w' := by
  go_enter Tryd.func10, Tryd.ntmps10
  go_wp2_with fail
  refine (known_any _ ho).mono ?_
  rintro e w1 ⟨rfl, k1⟩
  go_wp2_with fail
  refine (known_any _ (ho.next k1)).mono ?_
  rintro e w2 ⟨rfl, k2⟩
  go_wp2
  go_ret
  exact ⟨rfl, bnext k1 k2⟩
set_option maxRecDepth 100000 in
set_option maxHeartbeats 1000000 in
theorem forms_out (op n : Int) (b : Bool) (s : ByteArray) (w : World) (ho : OpsAt w) (hT : TabAt w) (hs : s.size ≤ 40) (hF : Hid (findR s = .returned (.tuple #[.int .i64 n, .bool b]))) (h : op < 0 ∨ 27 ≤ op) :
    Calls Tryd.prog 10 #[.int .i64 op, .string s] w fun e w' => e = .returned (.bool true) ∧ Below w.heap.size w w' := by
  have H := Lib.hid h
  clear h
  go_enter Tryd.func10, Tryd.ntmps10
  go_wp2_with fail
  refine (known_any _ ho).mono ?_
  rintro e w1 ⟨rfl, k1⟩
  have O1 := ho.next k1
  have T1 := hT.next k1
  go_wp2_with fail
  refine (form_out _ _ H.out).mono ?_
  rintro e w' ⟨rfl, rfl⟩
  go_wp2_with fail
  refine (refForm_out _ _ H.out).mono ?_
  rintro e w' ⟨rfl, rfl⟩
  go_wp2_with fail
  refine (limits_out _ _ H.out).mono ?_
  rintro e w2 ⟨rfl, k2⟩
  subst k2
  have O2 := O1
  have T2 := T1
  have B2 := k1
  go_wp2_with fail
  refine (refLimits_out _ _ H.out).mono ?_
  rintro e w' ⟨rfl, rfl⟩
  go_wp2_with fail
  refine (find_is s n b _ T2 hF.out).mono ?_
  rintro e w3 ⟨rfl, k3⟩
  have O3 := O2.next k3
  have T3 := T2.next k3
  have B3 := bnext B2 k3
  clear k3
  go_wp2_with fail
  refine (refFind_is s n b _ hF.out).mono ?_
  rintro e w4 ⟨rfl, k4⟩
  have O4 := O3.next k4
  have T4 := T3.next k4
  have B4 := bnext B3 k4
  clear k4
  go_wp2_with fail
  refine (word_out _ _ H.out).mono ?_
  rintro e w' ⟨rfl, rfl⟩
  go_wp2_with fail
  refine (find_is _ 0 false _ T4 find_empty).mono ?_
  rintro e w5 ⟨rfl, k5⟩
  have B5 := bnext B4 k5
  clear k5
  go_wp2_with fail
  refine (refWord_out _ _ H.out).mono ?_
  rintro e w6 ⟨rfl, k6⟩
  go_wp2
  go_ret
  exact ⟨rfl, bnext B5 k6⟩
set_option maxRecDepth 100000 in
set_option maxHeartbeats 1000000 in
theorem forms_none (op n : Int) (b : Bool) (s : ByteArray) (w : World) (ho : OpsAt w) (hT : TabAt w) (hs : s.size ≤ 40) (hF : Hid (findR s = .returned (.tuple #[.int .i64 n, .bool b]))) (h0 : 0 ≤ op) (h1 : op < 27) (hf : formI op.toNat < 4) :
    Calls Tryd.prog 10 #[.int .i64 op, .string s] w fun e w' => e = .returned (.bool true) ∧ Below w.heap.size w w' := by
  have hw := Lib.hid (find_word op.toNat (by omega))
  rw [show ((op.toNat : Nat) : Int) = op by omega] at hw
  go_enter Tryd.func10, Tryd.ntmps10
  go_wp2_with fail
  refine (known_any _ ho).mono ?_
  rintro e w1 ⟨rfl, k1⟩
  have O1 := ho.next k1
  have T1 := hT.next k1
  go_wp2_with fail
  refine (form_any _ _ O1 h0 h1).mono ?_
  rintro e w' ⟨rfl, rfl⟩
  go_wp2_with fail
  refine (refForm_any _ _ h0 h1).mono ?_
  rintro e w' ⟨rfl, rfl⟩
  go_wp2_with fail
  refine (limits_none _ _ O1 h0 h1 hf).mono ?_
  rintro e w2 ⟨rfl, k2⟩
  subst k2
  have O2 := O1
  have T2 := T1
  have B2 := k1
  go_wp2_with fail
  refine (refLimits_none _ _ h0 h1 hf).mono ?_
  rintro e w' ⟨rfl, rfl⟩
  go_wp2_with fail
  refine (find_is s n b _ T2 hF.out).mono ?_
  rintro e w3 ⟨rfl, k3⟩
  have O3 := O2.next k3
  have T3 := T2.next k3
  have B3 := bnext B2 k3
  clear k3
  go_wp2_with fail
  refine (refFind_is s n b _ hF.out).mono ?_
  rintro e w4 ⟨rfl, k4⟩
  have O4 := O3.next k4
  have T4 := T3.next k4
  have B4 := bnext B3 k4
  clear k4
  go_wp2_with fail
  refine (word_any _ _ O4 h0 h1).mono ?_
  rintro e w' ⟨rfl, rfl⟩
  go_wp2_with fail
  refine (find_is _ op true _ T4 hw.out).mono ?_
  rintro e w5 ⟨rfl, k5⟩
  have B5 := bnext B4 k5
  clear k5
  go_wp2_with fail
  refine (refWord_any _ _ h0 h1).mono ?_
  rintro e w6 ⟨rfl, k6⟩
  go_wp2
  go_ret
  exact ⟨rfl, bnext B5 k6⟩
set_option maxRecDepth 100000 in
set_option maxHeartbeats 1000000 in
theorem forms_num (op n : Int) (b : Bool) (s : ByteArray) (w : World) (ho : OpsAt w) (hT : TabAt w) (hs : s.size ≤ 40) (hF : Hid (findR s = .returned (.tuple #[.int .i64 n, .bool b]))) (h0 : 0 ≤ op) (h1 : op < 27) (hf : 4 ≤ formI op.toNat) :
    Calls Tryd.prog 10 #[.int .i64 op, .string s] w fun e w' => e = .returned (.bool true) ∧ Below w.heap.size w w' := by
  have hw := Lib.hid (find_word op.toNat (by omega))
  rw [show ((op.toNat : Nat) : Int) = op by omega] at hw
  go_enter Tryd.func10, Tryd.ntmps10
  go_wp2_with fail
  refine (known_any _ ho).mono ?_
  rintro e w1 ⟨rfl, k1⟩
  have O1 := ho.next k1
  have T1 := hT.next k1
  go_wp2_with fail
  refine (form_any _ _ O1 h0 h1).mono ?_
  rintro e w' ⟨rfl, rfl⟩
  go_wp2_with fail
  refine (refForm_any _ _ h0 h1).mono ?_
  rintro e w' ⟨rfl, rfl⟩
  go_wp2_with fail
  refine (limits_any _ _ O1 h0 h1 hf).mono ?_
  rintro e w2 ⟨rfl, k2⟩
  have O2 := O1.next k2
  have T2 := T1.next k2
  have B2 := bnext k1 k2
  clear k2
  go_wp2_with fail
  refine (refLimits_any _ _ h0 h1 hf).mono ?_
  rintro e w' ⟨rfl, rfl⟩
  go_wp2_with fail
  refine (find_is s n b _ T2 hF.out).mono ?_
  rintro e w3 ⟨rfl, k3⟩
  have O3 := O2.next k3
  have T3 := T2.next k3
  have B3 := bnext B2 k3
  clear k3
  go_wp2_with fail
  refine (refFind_is s n b _ hF.out).mono ?_
  rintro e w4 ⟨rfl, k4⟩
  have O4 := O3.next k4
  have T4 := T3.next k4
  have B4 := bnext B3 k4
  clear k4
  go_wp2_with fail
  refine (word_any _ _ O4 h0 h1).mono ?_
  rintro e w' ⟨rfl, rfl⟩
  go_wp2_with fail
  refine (find_is _ op true _ T4 hw.out).mono ?_
  rintro e w5 ⟨rfl, k5⟩
  have B5 := bnext B4 k5
  clear k5
  go_wp2_with fail
  refine (refWord_any _ _ h0 h1).mono ?_
  rintro e w6 ⟨rfl, k6⟩
  go_wp2
  go_ret
  exact ⟨rfl, bnext B5 k6⟩
theorem forms_walk (op : Int) (s : ByteArray) (w : World) (ho : OpsAt w) (hT : TabAt w) :
    Calls Tryd.prog 10 #[.int .i64 op, .string s] w fun e w' => e = .returned (.bool true) ∧ Below w.heap.size w w' := by
  by_cases hs : 40 < s.size
  · exact forms_long op s w ho hs
  have hF : findR s = .returned (.tuple #[.int .i64 (if findK s < 27 then (findK s : Int) else 0), .bool (decide (findK s < 27))]) := rfl
  by_cases h : 0 ≤ op ∧ op < 27
  · by_cases hf : 4 ≤ formI op.toNat
    · exact forms_num op _ _ s w ho hT (by omega) (Lib.hid hF) h.1 h.2 hf
    · exact forms_none op _ _ s w ho hT (by omega) (Lib.hid hF) h.1 h.2 (by omega)
  · exact forms_out op _ _ s w ho hT (by omega) (Lib.hid hF) (by omega)
end Go.Proofs.YtagmeijpelffcaaDoor
