/- The law InstrDecodes, walked. -/
import Derived.Test.YtagmeijpelffcaaDoorL4
namespace Go.Proofs.YtagmeijpelffcaaDoor
open Go.RowKit
set_option linter.unusedSimpArgs false
set_option linter.unusedVariables false
theorem decC_bytes (op x y : Int) (h4 : 0 ≤ x) (h5 : x < 256) (h6 : 0 ≤ y) (h7 : y < 256) : decC op x y % 256 = x ∧ decC op x y / 256 % 256 = y := by
  unfold decC
  split <;> omega
theorem encode_back (b0 b1 b2 b3 : Int) (w : World) (ho : OpsAt w) (h4 : 0 ≤ b2) (h5 : b2 < 256) (h6 : 0 ≤ b3) (h7 : b3 < 256) (h : chk b0 (b1 / 16) (b1 % 16) (decC b0 b2 b3) = 0) :
    Calls Tryd.prog 23 #[.agg #[.int .i64 b0, .int .i64 (b1 / 16), .int .i64 (b1 % 16), .int .i64 (decC b0 b2 b3)]] w fun e w' => e = .returned (.tuple #[.agg #[.int .u8 b0, .int .u8 b1, .int .u8 b2, .int .u8 b3], .int .i64 0]) ∧ Below w.heap.size w w' := by
  have e1 : 16 * (b1 / 16) + b1 % 16 = b1 := by omega
  obtain ⟨e2, e3⟩ := decC_bytes b0 b2 b3 h4 h5 h6 h7
  have := encode_yes b0 (b1 / 16) (b1 % 16) (decC b0 b2 b3) w ho h
  rw [e1, e2, e3] at this
  exact this
theorem encode_zero (w : World) (ho : OpsAt w) :
    Calls Tryd.prog 23 #[.agg #[.int .i64 0, .int .i64 0, .int .i64 0, .int .i64 0]] w fun e w' => e = .returned (.tuple #[.agg #[.int .u8 0, .int .u8 0, .int .u8 0, .int .u8 0], .int .i64 0]) ∧ Below w.heap.size w w' :=
  encode_yes 0 0 0 0 w ho (by decide)
set_option maxHeartbeats 400000 in
theorem decodes_no (b0 b1 b2 b3 : Int) (w : World) (ho : OpsAt w) (h0 : 0 ≤ b0) (h1 : b0 < 256) (h2 : 0 ≤ b1) (h3 : b1 < 256) (h4 : 0 ≤ b2) (h5 : b2 < 256) (h6 : 0 ≤ b3) (h7 : b3 < 256) (h : chk b0 (b1 / 16) (b1 % 16) (decC b0 b2 b3) ≠ 0) :
    Calls Tryd.prog 8 #[.agg #[.int .u8 b0, .int .u8 b1, .int .u8 b2, .int .u8 b3]] w fun e w' => e = .returned (.bool true) ∧ Below w.heap.size w w' := by
  have H := Lib.hid h
  clear h
  have hn := neq23_same 0 0 0 0
  have O0 := ho.alloc (.cells #[.int .u8 b0, .int .u8 b1, .int .u8 b2, .int .u8 b3] 41)
  have B0 := balloc (Below.refl w.heap.size w) (.cells #[.int .u8 b0, .int .u8 b1, .int .u8 b2, .int .u8 b3] 41)
  have A0 := At4.new w (.int .u8 b0) (.int .u8 b1) (.int .u8 b2) (.int .u8 b3) 41
  go_enter Tryd.func8, Tryd.ntmps8
  go_wp2_with fail
  refine (known_any _ O0).mono ?_
  rintro e w1 ⟨rfl, k1⟩
  have O1 := O0.next k1
  have B1 := bnext B0 k1
  have A1 := A0.next k1
  clear O0 B0 A0 k1
  obtain ⟨z1, q0, q1, q2, q3⟩ := id A1
  go_wp2_with fail
  refine (decode_no _ _ _ _ _ O1 h0 h1 h2 h3 h4 h5 h6 h7 H.out).mono ?_
  rintro e w2 ⟨rfl, k2⟩
  have A2 := A1.next k2
  clear z1 q0 q1 q2 q3
  obtain ⟨z1, q0, q1, q2, q3⟩ := id A2
  have O3 := (O1.next k2).alloc (.cells #[.int .i64 0, .int .i64 0, .int .i64 0, .int .i64 0] 26)
  have B3 := balloc (bnext B1 k2) (.cells #[.int .i64 0, .int .i64 0, .int .i64 0, .int .i64 0] 26)
  have A3 := A2.alloc (.cells #[.int .i64 0, .int .i64 0, .int .i64 0, .int .i64 0] 26)
  have D3 := At4.new w2 (.int .i64 0) (.int .i64 0) (.int .i64 0) (.int .i64 0) 26
  clear O1 B1 A1 A2 k2
  go_wp2_with fail
  refine (refDecode_no _ _ _ _ _ h0 h1 h2 h3 h4 h5 h6 h7 H.out).mono ?_
  rintro e w3 ⟨rfl, k3⟩
  have O4 := (O3.next k3).alloc (.cells #[.int .i64 0, .int .i64 0, .int .i64 0, .int .i64 0] 23)
  have B4 := balloc (bnext B3 k3) (.cells #[.int .i64 0, .int .i64 0, .int .i64 0, .int .i64 0] 23)
  have A4 := (A3.next k3).alloc (.cells #[.int .i64 0, .int .i64 0, .int .i64 0, .int .i64 0] 23)
  have D4 := (D3.next k3).alloc (.cells #[.int .i64 0, .int .i64 0, .int .i64 0, .int .i64 0] 23)
  have F4 := At4.new w3 (.int .i64 0) (.int .i64 0) (.int .i64 0) (.int .i64 0) 23
  have D3' := D3.next k3
  clear z1 q0 q1 q2 q3 O3 B3 A3 k3 D3
  obtain ⟨y1, p0, p1, p2, p3⟩ := id D3'
  go_wp2_with fail
  have S0 : OpsAt (w3.alloc (.cells #[.int .i64 0, .int .i64 0, .int .i64 0, .int .i64 0] 23)) ∧ Below w.heap.size w (w3.alloc (.cells #[.int .i64 0, .int .i64 0, .int .i64 0, .int .i64 0] 23)) ∧ At4 (w3.alloc (.cells #[.int .i64 0, .int .i64 0, .int .i64 0, .int .i64 0] 23)) w.heap.size (.int .u8 b0) (.int .u8 b1) (.int .u8 b2) (.int .u8 b3) ∧ At4 (w3.alloc (.cells #[.int .i64 0, .int .i64 0, .int .i64 0, .int .i64 0] 23)) w2.heap.size (.int .i64 0) (.int .i64 0) (.int .i64 0) (.int .i64 0) ∧ At4 (w3.alloc (.cells #[.int .i64 0, .int .i64 0, .int .i64 0, .int .i64 0] 23)) w3.heap.size (.int .i64 0) (.int .i64 0) (.int .i64 0) (.int .i64 0) := ⟨O4, B4, A4, D4, F4⟩
  clear O4 B4 A4 D4 F4 D3' y1 p0 p1 p2 p3
  generalize hW : w3.alloc (.cells #[.int .i64 0, .int .i64 0, .int .i64 0, .int .i64 0] 23) = W at *
  clear hW
  have S1 := S0
  obtain ⟨_, _, _, ⟨_, q0, q1, q2, q3⟩, ⟨_, p0, p1, p2, p3⟩⟩ := S1
  go_region_held3 (fun w' => (OpsAt w' ∧ Below w.heap.size w w' ∧ At4 w' w.heap.size (.int .u8 b0) (.int .u8 b1) (.int .u8 b2) (.int .u8 b3) ∧ At4 w' w2.heap.size (.int .i64 0) (.int .i64 0) (.int .i64 0) (.int .i64 0) ∧ At4 w' w3.heap.size (.int .i64 0) (.int .i64 0) (.int .i64 0) (.int .i64 0)) ∧ (w'.cell? ⟨w2.heap.size, 0, none⟩ = some (.int .i64 0) ∧ w'.cell? ⟨w2.heap.size, 1, none⟩ = some (.int .i64 0) ∧ w'.cell? ⟨w2.heap.size, 2, none⟩ = some (.int .i64 0) ∧ w'.cell? ⟨w2.heap.size, 3, none⟩ = some (.int .i64 0)) ∧ (w'.cell? ⟨w3.heap.size, 0, none⟩ = some (.int .i64 0) ∧ w'.cell? ⟨w3.heap.size, 1, none⟩ = some (.int .i64 0) ∧ w'.cell? ⟨w3.heap.size, 2, none⟩ = some (.int .i64 0) ∧ w'.cell? ⟨w3.heap.size, 3, none⟩ = some (.int .i64 0)))
    (first | exact ⟨S0, S0.2.2.2.1.2, S0.2.2.2.2.2⟩ | exact ⟨⟨S0.1, S0.2.1.drew, S0.2.2.1, S0.2.2.2.1, S0.2.2.2.2⟩, S0.2.2.2.1.2, S0.2.2.2.2.2⟩ | exact ⟨S3, S3.2.2.2.1.2, S3.2.2.2.2.2⟩)
    (first | (go_at_call 26; have S2 : OpsAt W.drew ∧ Below w.heap.size w W.drew ∧ At4 W.drew w.heap.size (.int .u8 b0) (.int .u8 b1) (.int .u8 b2) (.int .u8 b3) ∧ At4 W.drew w2.heap.size (.int .i64 0) (.int .i64 0) (.int .i64 0) (.int .i64 0) ∧ At4 W.drew w3.heap.size (.int .i64 0) (.int .i64 0) (.int .i64 0) (.int .i64 0) := ⟨S0.1, S0.2.1.drew, S0.2.2.1, S0.2.2.2.1, S0.2.2.2.2⟩; refine (of_any _ _ _ _ _).mono ?_; rintro e w4 ⟨rfl, k4⟩; have S3 := And.intro (S2.1.next k4) (And.intro (bnext S2.2.1 k4) (And.intro (S2.2.2.1.next k4) (And.intro (S2.2.2.2.1.next k4) (S2.2.2.2.2.next k4))))))
  obtain ⟨O5, B5, A5, ⟨_, q0, q1, q2, q3⟩, _⟩ := id S3
  go_wp2_with fail
  refine (encode_zero _ O5).mono ?_
  rintro e w5 ⟨rfl, k5⟩
  obtain ⟨_, q0, q1, q2, q3⟩ := A5.next k5
  go_wp2
  go_ret
  exact ⟨rfl, balloc (bnext B5 k5) _⟩
set_option maxHeartbeats 400000 in
theorem decodes_ok (b0 b1 b2 b3 : Int) (w : World) (ho : OpsAt w) (h0 : 0 ≤ b0) (h1 : b0 < 256) (h2 : 0 ≤ b1) (h3 : b1 < 256) (h4 : 0 ≤ b2) (h5 : b2 < 256) (h6 : 0 ≤ b3) (h7 : b3 < 256) (h : chk b0 (b1 / 16) (b1 % 16) (decC b0 b2 b3) = 0) :
    Calls Tryd.prog 8 #[.agg #[.int .u8 b0, .int .u8 b1, .int .u8 b2, .int .u8 b3]] w fun e w' => e = .returned (.bool true) ∧ Below w.heap.size w w' := by
  have H := Lib.hid h
  clear h
  have hn := neq23_same b0 (b1 / 16) (b1 % 16) (decC b0 b2 b3)
  have he := eql41_same b0 b1 b2 b3
  have O0 := ho.alloc (.cells #[.int .u8 b0, .int .u8 b1, .int .u8 b2, .int .u8 b3] 41)
  have B0 := balloc (Below.refl w.heap.size w) (.cells #[.int .u8 b0, .int .u8 b1, .int .u8 b2, .int .u8 b3] 41)
  have A0 := At4.new w (.int .u8 b0) (.int .u8 b1) (.int .u8 b2) (.int .u8 b3) 41
  go_enter Tryd.func8, Tryd.ntmps8
  go_wp2_with fail
  refine (known_any _ O0).mono ?_
  rintro e w1 ⟨rfl, k1⟩
  have O1 := O0.next k1
  have B1 := bnext B0 k1
  have A1 := A0.next k1
  clear O0 B0 A0 k1
  obtain ⟨z1, q0, q1, q2, q3⟩ := id A1
  go_wp2_with fail
  refine (decode_ok _ _ _ _ _ O1 h2 h3 h4 h5 h6 h7 H.out).mono ?_
  rintro e w2 ⟨rfl, k2⟩
  have A2 := A1.next k2
  clear z1 q0 q1 q2 q3
  obtain ⟨z1, q0, q1, q2, q3⟩ := id A2
  have O3 := (O1.next k2).alloc (.cells #[.int .i64 b0, .int .i64 (b1 / 16), .int .i64 (b1 % 16), .int .i64 (decC b0 b2 b3)] 26)
  have B3 := balloc (bnext B1 k2) (.cells #[.int .i64 b0, .int .i64 (b1 / 16), .int .i64 (b1 % 16), .int .i64 (decC b0 b2 b3)] 26)
  have A3 := A2.alloc (.cells #[.int .i64 b0, .int .i64 (b1 / 16), .int .i64 (b1 % 16), .int .i64 (decC b0 b2 b3)] 26)
  have D3 := At4.new w2 (.int .i64 b0) (.int .i64 (b1 / 16)) (.int .i64 (b1 % 16)) (.int .i64 (decC b0 b2 b3)) 26
  clear O1 B1 A1 A2 k2
  go_wp2_with fail
  refine (refDecode_ok _ _ _ _ _ h2 h3 h4 h5 h6 h7 H.out).mono ?_
  rintro e w3 ⟨rfl, k3⟩
  have O4 := (O3.next k3).alloc (.cells #[.int .i64 b0, .int .i64 (b1 / 16), .int .i64 (b1 % 16), .int .i64 (decC b0 b2 b3)] 23)
  have B4 := balloc (bnext B3 k3) (.cells #[.int .i64 b0, .int .i64 (b1 / 16), .int .i64 (b1 % 16), .int .i64 (decC b0 b2 b3)] 23)
  have A4 := (A3.next k3).alloc (.cells #[.int .i64 b0, .int .i64 (b1 / 16), .int .i64 (b1 % 16), .int .i64 (decC b0 b2 b3)] 23)
  have D4 := (D3.next k3).alloc (.cells #[.int .i64 b0, .int .i64 (b1 / 16), .int .i64 (b1 % 16), .int .i64 (decC b0 b2 b3)] 23)
  have F4 := At4.new w3 (.int .i64 b0) (.int .i64 (b1 / 16)) (.int .i64 (b1 % 16)) (.int .i64 (decC b0 b2 b3)) 23
  have D3' := D3.next k3
  clear z1 q0 q1 q2 q3 O3 B3 A3 k3 D3
  obtain ⟨y1, p0, p1, p2, p3⟩ := id D3'
  go_wp2_with fail
  have S0 : OpsAt (w3.alloc (.cells #[.int .i64 b0, .int .i64 (b1 / 16), .int .i64 (b1 % 16), .int .i64 (decC b0 b2 b3)] 23)) ∧ Below w.heap.size w (w3.alloc (.cells #[.int .i64 b0, .int .i64 (b1 / 16), .int .i64 (b1 % 16), .int .i64 (decC b0 b2 b3)] 23)) ∧ At4 (w3.alloc (.cells #[.int .i64 b0, .int .i64 (b1 / 16), .int .i64 (b1 % 16), .int .i64 (decC b0 b2 b3)] 23)) w.heap.size (.int .u8 b0) (.int .u8 b1) (.int .u8 b2) (.int .u8 b3) ∧ At4 (w3.alloc (.cells #[.int .i64 b0, .int .i64 (b1 / 16), .int .i64 (b1 % 16), .int .i64 (decC b0 b2 b3)] 23)) w2.heap.size (.int .i64 b0) (.int .i64 (b1 / 16)) (.int .i64 (b1 % 16)) (.int .i64 (decC b0 b2 b3)) ∧ At4 (w3.alloc (.cells #[.int .i64 b0, .int .i64 (b1 / 16), .int .i64 (b1 % 16), .int .i64 (decC b0 b2 b3)] 23)) w3.heap.size (.int .i64 b0) (.int .i64 (b1 / 16)) (.int .i64 (b1 % 16)) (.int .i64 (decC b0 b2 b3)) := ⟨O4, B4, A4, D4, F4⟩
  clear O4 B4 A4 D4 F4 D3' y1 p0 p1 p2 p3
  generalize hW : w3.alloc (.cells #[.int .i64 b0, .int .i64 (b1 / 16), .int .i64 (b1 % 16), .int .i64 (decC b0 b2 b3)] 23) = W at *
  clear hW
  have S1 := S0
  obtain ⟨_, _, _, ⟨_, q0, q1, q2, q3⟩, ⟨_, p0, p1, p2, p3⟩⟩ := S1
  go_region_held3 (fun w' => (OpsAt w' ∧ Below w.heap.size w w' ∧ At4 w' w.heap.size (.int .u8 b0) (.int .u8 b1) (.int .u8 b2) (.int .u8 b3) ∧ At4 w' w2.heap.size (.int .i64 b0) (.int .i64 (b1 / 16)) (.int .i64 (b1 % 16)) (.int .i64 (decC b0 b2 b3)) ∧ At4 w' w3.heap.size (.int .i64 b0) (.int .i64 (b1 / 16)) (.int .i64 (b1 % 16)) (.int .i64 (decC b0 b2 b3))) ∧ (w'.cell? ⟨w2.heap.size, 0, none⟩ = some (.int .i64 b0) ∧ w'.cell? ⟨w2.heap.size, 1, none⟩ = some (.int .i64 (b1 / 16)) ∧ w'.cell? ⟨w2.heap.size, 2, none⟩ = some (.int .i64 (b1 % 16)) ∧ w'.cell? ⟨w2.heap.size, 3, none⟩ = some (.int .i64 (decC b0 b2 b3))) ∧ (w'.cell? ⟨w3.heap.size, 0, none⟩ = some (.int .i64 b0) ∧ w'.cell? ⟨w3.heap.size, 1, none⟩ = some (.int .i64 (b1 / 16)) ∧ w'.cell? ⟨w3.heap.size, 2, none⟩ = some (.int .i64 (b1 % 16)) ∧ w'.cell? ⟨w3.heap.size, 3, none⟩ = some (.int .i64 (decC b0 b2 b3))))
    (first | exact ⟨S0, S0.2.2.2.1.2, S0.2.2.2.2.2⟩ | exact ⟨⟨S0.1, S0.2.1.drew, S0.2.2.1, S0.2.2.2.1, S0.2.2.2.2⟩, S0.2.2.2.1.2, S0.2.2.2.2.2⟩ | exact ⟨S3, S3.2.2.2.1.2, S3.2.2.2.2.2⟩)
    (first | (go_at_call 26; have S2 : OpsAt W.drew ∧ Below w.heap.size w W.drew ∧ At4 W.drew w.heap.size (.int .u8 b0) (.int .u8 b1) (.int .u8 b2) (.int .u8 b3) ∧ At4 W.drew w2.heap.size (.int .i64 b0) (.int .i64 (b1 / 16)) (.int .i64 (b1 % 16)) (.int .i64 (decC b0 b2 b3)) ∧ At4 W.drew w3.heap.size (.int .i64 b0) (.int .i64 (b1 / 16)) (.int .i64 (b1 % 16)) (.int .i64 (decC b0 b2 b3)) := ⟨S0.1, S0.2.1.drew, S0.2.2.1, S0.2.2.2.1, S0.2.2.2.2⟩; refine (of_any _ _ _ _ _).mono ?_; rintro e w4 ⟨rfl, k4⟩; have S3 := And.intro (S2.1.next k4) (And.intro (bnext S2.2.1 k4) (And.intro (S2.2.2.1.next k4) (And.intro (S2.2.2.2.1.next k4) (S2.2.2.2.2.next k4))))))
  obtain ⟨O5, B5, A5, ⟨_, q0, q1, q2, q3⟩, _⟩ := id S3
  go_wp2_with fail
  refine (encode_back b0 b1 b2 b3 _ O5 h4 h5 h6 h7 H.out).mono ?_
  rintro e w5 ⟨rfl, k5⟩
  obtain ⟨_, q0, q1, q2, q3⟩ := A5.next k5
  go_wp2
  go_ret
  exact ⟨rfl, balloc (bnext B5 k5) _⟩
theorem decodes_walk (b0 b1 b2 b3 : Int) (w : World) (ho : OpsAt w) (h0 : 0 ≤ b0) (h1 : b0 < 256) (h2 : 0 ≤ b1) (h3 : b1 < 256) (h4 : 0 ≤ b2) (h5 : b2 < 256) (h6 : 0 ≤ b3) (h7 : b3 < 256) :
    Calls Tryd.prog 8 #[.agg #[.int .u8 b0, .int .u8 b1, .int .u8 b2, .int .u8 b3]] w fun e w' => e = .returned (.bool true) ∧ Below w.heap.size w w' := by
  by_cases h : chk b0 (b1 / 16) (b1 % 16) (decC b0 b2 b3) = 0
  · exact decodes_ok b0 b1 b2 b3 w ho h0 h1 h2 h3 h4 h5 h6 h7 h
  · exact decodes_no b0 b1 b2 b3 w ho h0 h1 h2 h3 h4 h5 h6 h7 h
end Go.Proofs.YtagmeijpelffcaaDoor
