/- The law InstrEncodes, walked. -/
import Derived.Test.YtagmeijpelffcaaDoorW11
import Derived.Deep.RegionHeld3
namespace Go.Proofs.YtagmeijpelffcaaDoor
open Go.RowKit
set_option linter.unusedSimpArgs false
set_option linter.unusedVariables false
theorem dec_enc {op a b c : Int} (h : chk op a b c = 0) : decC op (c % 256) (c / 256 % 256) = c := by
  obtain ⟨h0, h1, h2, h3, h4, h5, h6, h7⟩ := chk_zero h
  have ht := tab_bd op.toNat (by omega)
  unfold decC
  by_cases hn : lowI op.toNat < 0
  · obtain ⟨f4, hh, hl⟩ := ht.2.2.2 hn
    have hc : -32768 ≤ c ∧ c ≤ 32767 := by
      rw [chk_in a b c h0 h1] at h
      unfold chkF at h
      split at h
      · omega
      split at h
      · omega
      split at h
      · omega
      omega
    simp only [hn, true_and]
    split <;> omega
  · have hc : 0 ≤ c := by
      rw [chk_in a b c h0 h1] at h
      unfold chkF at h
      split at h
      · omega
      split at h
      · omega
      split at h
      · omega
      by_cases h4 : 4 ≤ formI op.toNat
      · omega
      · by_cases h5 : formI op.toNat = 3 <;> omega
    rw [if_neg (by omega)]
    omega
theorem encode_yes (op a b c : Int) (w : World) (ho : OpsAt w) (h : chk op a b c = 0) :
    Calls Tryd.prog 23 #[.agg #[.int .i64 op, .int .i64 a, .int .i64 b, .int .i64 c]] w fun e w' => e = .returned (.tuple #[.agg #[.int .u8 op, .int .u8 (16 * a + b), .int .u8 (c % 256), .int .u8 (c / 256 % 256)], .int .i64 0]) ∧ Below w.heap.size w w' := encode_ok op a b c w ho h
theorem refEncode_yes (op a b c : Int) (w : World) (h : chk op a b c = 0) :
    Calls Tryd.prog 24 #[.agg #[.int .i64 op, .int .i64 a, .int .i64 b, .int .i64 c]] w fun e w' => e = .returned (.tuple #[.agg #[.int .u8 op, .int .u8 (16 * a + b), .int .u8 (c % 256), .int .u8 (c / 256 % 256)], .int .i64 0]) ∧ Below w.heap.size w w' := refEncode_ok op a b c w h
theorem encode_non (op a b c : Int) (w : World) (ho : OpsAt w) (h : chk op a b c ≠ 0) :
    Calls Tryd.prog 23 #[.agg #[.int .i64 op, .int .i64 a, .int .i64 b, .int .i64 c]] w fun e w' => e = .returned (.tuple #[.agg #[.int .u8 0, .int .u8 0, .int .u8 0, .int .u8 0], .int .i64 (chk op a b c)]) ∧ Below w.heap.size w w' := encode_no op a b c w ho h
theorem refEncode_non (op a b c : Int) (w : World) (h : chk op a b c ≠ 0) :
    Calls Tryd.prog 24 #[.agg #[.int .i64 op, .int .i64 a, .int .i64 b, .int .i64 c]] w fun e w' => e = .returned (.tuple #[.agg #[.int .u8 0, .int .u8 0, .int .u8 0, .int .u8 0], .int .i64 (chk op a b c)]) ∧ Below w.heap.size w w' := refEncode_no op a b c w h
theorem decode_back (op a b c : Int) (w : World) (ho : OpsAt w) (h : chk op a b c = 0) :
    Calls Tryd.prog 25 #[.agg #[.int .u8 op, .int .u8 (16 * a + b), .int .u8 (c % 256), .int .u8 (c / 256 % 256)]] w fun e w' => e = .returned (.tuple #[.agg #[.int .i64 op, .int .i64 a, .int .i64 b, .int .i64 c], .int .i64 0]) ∧ Below w.heap.size w w' := by
  obtain ⟨h0, h1, h2, h3, h4, h5, h6, h7⟩ := chk_zero h
  have e1 : (16 * a + b) / 16 = a := by omega
  have e2 : (16 * a + b) % 16 = b := by omega
  have e3 := dec_enc h
  have := decode_ok op (16 * a + b) (c % 256) (c / 256 % 256) w ho (by omega) (by omega) (by omega) (by omega) (by omega) (by omega) (by rw [e1, e2, e3]; exact h)
  rw [e1, e2, e3] at this
  exact this
set_option maxHeartbeats 400000 in
set_option maxHeartbeats 400000 in
theorem encodes_no (op a b c : Int) (w : World) (ho : OpsAt w) (h : chk op a b c ≠ 0) :
    Calls Tryd.prog 7 #[.agg #[.int .i64 op, .int .i64 a, .int .i64 b, .int .i64 c]] w fun e w' => e = .returned (.bool true) ∧ Below w.heap.size w w' := by
  have H := Lib.hid h
  have hne : (chk op a b c != 0) = true := by simpa using h
  clear h
  have hn := neq41_same 0 0 0 0
  have O0 := ho.alloc (.cells #[.int .i64 op, .int .i64 a, .int .i64 b, .int .i64 c] 23)
  have B0 := balloc (Below.refl w.heap.size w) (.cells #[.int .i64 op, .int .i64 a, .int .i64 b, .int .i64 c] 23)
  have A0 := At4.new w (.int .i64 op) (.int .i64 a) (.int .i64 b) (.int .i64 c) 23
  go_enter Tryd.func7, Tryd.ntmps7
  go_wp2_with fail
  refine (known_any _ O0).mono ?_
  rintro e w1 ⟨rfl, k1⟩
  have O1 := O0.next k1
  have B1 := bnext B0 k1
  have A1 := A0.next k1
  clear O0 B0 A0 k1
  obtain ⟨z1, q0, q1, q2, q3⟩ := id A1
  go_wp2_with fail
  refine (to_any _ _ _ _ _).mono ?_
  rintro e w2 ⟨rfl, k2⟩
  have O2 := O1.next k2
  have B2 := bnext B1 k2
  have A2 := A1.next k2
  clear O1 B1 A1 k2 z1 q0 q1 q2 q3
  go_wp2_with fail
  refine (encode_non _ _ _ _ _ O2 H.out).mono ?_
  rintro e w3 ⟨rfl, k3⟩
  have A3 := A2.next k3
  obtain ⟨z1, q0, q1, q2, q3⟩ := id A3
  have O4 := (O2.next k3).alloc (.cells #[.int .u8 0, .int .u8 0, .int .u8 0, .int .u8 0] 41)
  have A4 := A3.alloc (.cells #[.int .u8 0, .int .u8 0, .int .u8 0, .int .u8 0] 41)
  have B4 := balloc (bnext B2 k3) (.cells #[.int .u8 0, .int .u8 0, .int .u8 0, .int .u8 0] 41)
  have C4 := At4.new w3 (.int .u8 0) (.int .u8 0) (.int .u8 0) (.int .u8 0) 41
  clear O2 B2 A2 k3
  go_wp2_with fail
  refine (refEncode_non _ _ _ _ _ H.out).mono ?_
  rintro e w4 ⟨rfl, k4⟩
  have O5 := O4.next k4
  have A5 := A4.next k4
  have B5 := bnext B4 k4
  have C5 := C4.next k4
  clear O4 A4 B4 C4 k4 A3 z1 q0 q1 q2 q3
  obtain ⟨z1, q0, q1, q2, q3⟩ := id A5
  obtain ⟨y1, p0, p1, p2, p3⟩ := id C5
  go_wp2
  go_ret
  exact ⟨rfl, balloc B5 _⟩
set_option maxHeartbeats 400000 in
theorem encodes_ok (op a b c : Int) (w : World) (ho : OpsAt w) (h : chk op a b c = 0) :
    Calls Tryd.prog 7 #[.agg #[.int .i64 op, .int .i64 a, .int .i64 b, .int .i64 c]] w fun e w' => e = .returned (.bool true) ∧ Below w.heap.size w w' := by
  have H := Lib.hid h
  clear h
  have hn := neq41_same op (16 * a + b) (c % 256) (c / 256 % 256)
  have he := eql23_same op a b c
  have O0 := ho.alloc (.cells #[.int .i64 op, .int .i64 a, .int .i64 b, .int .i64 c] 23)
  have B0 := balloc (Below.refl w.heap.size w) (.cells #[.int .i64 op, .int .i64 a, .int .i64 b, .int .i64 c] 23)
  have A0 := At4.new w (.int .i64 op) (.int .i64 a) (.int .i64 b) (.int .i64 c) 23
  go_enter Tryd.func7, Tryd.ntmps7
  go_wp2_with fail
  refine (known_any _ O0).mono ?_
  rintro e w1 ⟨rfl, k1⟩
  have O1 := O0.next k1
  have B1 := bnext B0 k1
  have A1 := A0.next k1
  clear O0 B0 A0 k1
  obtain ⟨z1, q0, q1, q2, q3⟩ := id A1
  go_wp2_with fail
  refine (to_any _ _ _ _ _).mono ?_
  rintro e w2 ⟨rfl, k2⟩
  have O2 := O1.next k2
  have B2 := bnext B1 k2
  have A2 := A1.next k2
  clear O1 B1 A1 k2 z1 q0 q1 q2 q3
  go_wp2_with fail
  refine (encode_yes _ _ _ _ _ O2 H.out).mono ?_
  rintro e w3 ⟨rfl, k3⟩
  have A3 := A2.next k3
  obtain ⟨z1, q0, q1, q2, q3⟩ := id A3
  have O4 := (O2.next k3).alloc (.cells #[.int .u8 op, .int .u8 (16 * a + b), .int .u8 (c % 256), .int .u8 (c / 256 % 256)] 41)
  have A4 := A3.alloc (.cells #[.int .u8 op, .int .u8 (16 * a + b), .int .u8 (c % 256), .int .u8 (c / 256 % 256)] 41)
  have B4 := balloc (bnext B2 k3) (.cells #[.int .u8 op, .int .u8 (16 * a + b), .int .u8 (c % 256), .int .u8 (c / 256 % 256)] 41)
  have C4 := At4.new w3 (.int .u8 op) (.int .u8 (16 * a + b)) (.int .u8 (c % 256)) (.int .u8 (c / 256 % 256)) 41
  clear O2 B2 A2 k3
  go_wp2_with fail
  refine (refEncode_yes _ _ _ _ _ H.out).mono ?_
  rintro e w4 ⟨rfl, k4⟩
  have O5 := O4.next k4
  have A5 := A4.next k4
  have B5 := bnext B4 k4
  have C5 := C4.next k4
  clear O4 A4 B4 C4 k4 A3 z1 q0 q1 q2 q3
  obtain ⟨z1, q0, q1, q2, q3⟩ := id A5
  obtain ⟨y1, p0, p1, p2, p3⟩ := id C5
  have O6 := O5.alloc (.cells #[.int .u8 op, .int .u8 (16 * a + b), .int .u8 (c % 256), .int .u8 (c / 256 % 256)] 41)
  have A6 := A5.alloc (.cells #[.int .u8 op, .int .u8 (16 * a + b), .int .u8 (c % 256), .int .u8 (c / 256 % 256)] 41)
  have B6 := balloc B5 (.cells #[.int .u8 op, .int .u8 (16 * a + b), .int .u8 (c % 256), .int .u8 (c / 256 % 256)] 41)
  clear O5 A5 B5 C5
  go_wp2_with fail
  refine (decode_back _ _ _ _ _ O6 H.out).mono ?_
  rintro e w5 ⟨rfl, k5⟩
  have A7 := A6.next k5
  have B7 := bnext B6 k5
  have A8 := A7.alloc (.cells #[.int .i64 op, .int .i64 a, .int .i64 b, .int .i64 c] 26)
  have B8 := balloc B7 (.cells #[.int .i64 op, .int .i64 a, .int .i64 b, .int .i64 c] 26)
  have D8 := At4.new w5 (.int .i64 op) (.int .i64 a) (.int .i64 b) (.int .i64 c) 26
  clear A6 B6 k5 O6 z1 q0 q1 q2 q3 y1 p0 p1 p2 p3
  obtain ⟨z1, q0, q1, q2, q3⟩ := id A7
  go_wp2_with fail
  have S0 : At4 (w5.alloc (.cells #[.int .i64 op, .int .i64 a, .int .i64 b, .int .i64 c] 26)) w.heap.size (.int .i64 op) (.int .i64 a) (.int .i64 b) (.int .i64 c) ∧ At4 (w5.alloc (.cells #[.int .i64 op, .int .i64 a, .int .i64 b, .int .i64 c] 26)) w5.heap.size (.int .i64 op) (.int .i64 a) (.int .i64 b) (.int .i64 c) ∧ Below w.heap.size w (w5.alloc (.cells #[.int .i64 op, .int .i64 a, .int .i64 b, .int .i64 c] 26)) := ⟨A8, D8, B8⟩
  generalize hW : w5.alloc (.cells #[.int .i64 op, .int .i64 a, .int .i64 b, .int .i64 c] 26) = W at *
  clear hW q0 q1 q2 q3 A7 B7 A8 D8 B8
  have S1 := S0
  obtain ⟨⟨_, q0, q1, q2, q3⟩, ⟨_, p0, p1, p2, p3⟩, _⟩ := S1
  go_region_held3 (fun w' => (At4 w' w.heap.size (.int .i64 op) (.int .i64 a) (.int .i64 b) (.int .i64 c) ∧ At4 w' w5.heap.size (.int .i64 op) (.int .i64 a) (.int .i64 b) (.int .i64 c) ∧ Below w.heap.size w w') ∧ (w'.cell? ⟨w.heap.size, 0, none⟩ = some (.int .i64 op) ∧ w'.cell? ⟨w.heap.size, 1, none⟩ = some (.int .i64 a) ∧ w'.cell? ⟨w.heap.size, 2, none⟩ = some (.int .i64 b) ∧ w'.cell? ⟨w.heap.size, 3, none⟩ = some (.int .i64 c)) ∧ (w'.cell? ⟨w5.heap.size, 0, none⟩ = some (.int .i64 op) ∧ w'.cell? ⟨w5.heap.size, 1, none⟩ = some (.int .i64 a) ∧ w'.cell? ⟨w5.heap.size, 2, none⟩ = some (.int .i64 b) ∧ w'.cell? ⟨w5.heap.size, 3, none⟩ = some (.int .i64 c)))
    (first | exact ⟨S0, S0.1.2, S0.2.1.2⟩ | exact ⟨⟨S0.1, S0.2.1, S0.2.2.drew⟩, S0.1.2, S0.2.1.2⟩ | exact ⟨S2, S2.1.2, S2.2.1.2⟩ | exact ⟨S3, S3.1.2, S3.2.1.2⟩)
    (first | (go_at_call 26; have S2 : At4 W.drew w.heap.size (.int .i64 op) (.int .i64 a) (.int .i64 b) (.int .i64 c) ∧ At4 W.drew w5.heap.size (.int .i64 op) (.int .i64 a) (.int .i64 b) (.int .i64 c) ∧ Below w.heap.size w W.drew := ⟨S0.1, S0.2.1, S0.2.2.drew⟩; refine (of_any _ _ _ _ _).mono ?_; rintro e w6 ⟨rfl, k6⟩; have S3 := And.intro (S2.1.next k6) (And.intro (S2.2.1.next k6) (bnext S2.2.2 k6))))
  go_wp2
  go_ret
  exact ⟨rfl, S3.2.2⟩
theorem encodes_walk (op a b c : Int) (w : World) (ho : OpsAt w) :
    Calls Tryd.prog 7 #[.agg #[.int .i64 op, .int .i64 a, .int .i64 b, .int .i64 c]] w fun e w' => e = .returned (.bool true) ∧ Below w.heap.size w w' := by
  by_cases h : chk op a b c = 0
  · exact encodes_ok op a b c w ho h
  · exact encodes_no op a b c w ho h
end Go.Proofs.YtagmeijpelffcaaDoor
