/- The law InstrLists, walked. -/
import Derived.Test.YtagmeijpelffcaaDoorW15
namespace Go.Proofs.YtagmeijpelffcaaDoor
open Go.RowKit
set_option linter.unusedSimpArgs false
set_option linter.unusedVariables false
theorem lists_long (a : Option Addr) (len cap : Nat) (w : World) (ho : OpsAt w) (h : 40 < len) :
    Calls Tryd.prog 11 #[.slice a len cap] w fun e w' => e = .returned (.bool true) ∧ Below w.heap.size w w' := by
  go_enter Tryd.func11, Tryd.ntmps11
  go_wp2_with fail
  refine (known_any _ ho).mono ?_
  rintro e w1 ⟨rfl, k1⟩
  go_wp2_with fail
  refine (known_any _ (ho.next k1)).mono ?_
  rintro e w2 ⟨rfl, k2⟩
  go_wp2
  go_ret
  exact ⟨rfl, bnext k1 k2⟩
theorem lists_zero (a : Option Addr) (cap : Nat) (w : World) (ho : OpsAt w) :
    Calls Tryd.prog 11 #[.slice a 0 cap] w fun e w' => e = .returned (.bool true) ∧ Below w.heap.size w w' := by
  have hcv := fun w => conv_zero w none 0
  go_enter Tryd.func11, Tryd.ntmps11
  go_wp2_with (first | (go_at_call 13; refine (known_any _ ho).mono ?_; rintro e w1 ⟨rfl, k1⟩) | (go_at_call 39; refine (list_zero _ _ _).mono ?_; rintro e w' ⟨rfl, rfl⟩) | (go_at_call 38; refine (encodeAll_zero _ _ _).mono ?_; rintro e w' ⟨rfl, rfl⟩) | (go_at_call 40; refine (refEncodeAll_zero _ _ _).mono ?_; rintro e w' ⟨rfl, rfl⟩) | (go_at_call 28; refine (decodeAll_nil _ _ _).mono ?_; rintro e w' ⟨rfl, rfl⟩))
  refine wp_loop_rounds 1 ?_; rw [rounds_succ]
  go_wp2
  go_ret
  exact ⟨rfl, k1⟩
/-- The cells of the instruction number k, from the address on. -/
def In4 (w : World) (g off : Nat) (zs : List Int) (k : Nat) : Prop := g < w.heap.size ∧ w.cell? ⟨g, off + k * 4, none⟩ = some (.int .i64 (byteAt zs (4 * k))) ∧ w.cell? ⟨g, off + k * 4 + 1, none⟩ = some (.int .i64 (byteAt zs (4 * k + 1))) ∧ w.cell? ⟨g, off + k * 4 + 2, none⟩ = some (.int .i64 (byteAt zs (4 * k + 2))) ∧ w.cell? ⟨g, off + k * 4 + 3, none⟩ = some (.int .i64 (byteAt zs (4 * k + 3)))
theorem In4.of {w : World} {b off n : Nat} {zs : List Int} (h : InsAt w b off zs n) (k : Nat) (hk : k < n) : In4 w b off zs k := ⟨h.1, h.cells k hk⟩
theorem In4.drew {w : World} {g off : Nat} {zs : List Int} {k : Nat} (h : In4 w g off zs k) : In4 w.drew g off zs k := h
theorem In4.cells {w : World} {g off : Nat} {zs : List Int} {k : Nat} (h : In4 w g off zs k) : w.cell? ⟨g, off + k * 4, none⟩ = some (.int .i64 (byteAt zs (4 * k))) ∧ w.cell? ⟨g, off + k * 4 + 1, none⟩ = some (.int .i64 (byteAt zs (4 * k + 1))) ∧ w.cell? ⟨g, off + k * 4 + 2, none⟩ = some (.int .i64 (byteAt zs (4 * k + 2))) ∧ w.cell? ⟨g, off + k * 4 + 3, none⟩ = some (.int .i64 (byteAt zs (4 * k + 3))) := h.2
theorem In4.cells0 {w : World} {g : Nat} {zs : List Int} {k : Nat} (h : In4 w g 0 zs k) : w.cell? ⟨g, k * 4, none⟩ = some (.int .i64 (byteAt zs (4 * k))) ∧ w.cell? ⟨g, k * 4 + 1, none⟩ = some (.int .i64 (byteAt zs (4 * k + 1))) ∧ w.cell? ⟨g, k * 4 + 2, none⟩ = some (.int .i64 (byteAt zs (4 * k + 2))) ∧ w.cell? ⟨g, k * 4 + 3, none⟩ = some (.int .i64 (byteAt zs (4 * k + 3))) := by
  have := h.2
  simpa using this
theorem In4.next {w w' : World} {g off : Nat} {zs : List Int} {k : Nat} (h : In4 w g off zs k) (hb : Below w.heap.size w w') : In4 w' g off zs k := by
  obtain ⟨hc, _⟩ := bcell hb
  obtain ⟨h0, h1, h2, h3, h4⟩ := h
  exact ⟨Nat.lt_of_lt_of_le h0 hb.size, by rw [hc _ _ h0]; exact h1, by rw [hc _ _ h0]; exact h2, by rw [hc _ _ h0]; exact h3, by rw [hc _ _ h0]; exact h4⟩
set_option maxRecDepth 100000 in
set_option maxHeartbeats 2000000 in
theorem lists_mid (b off len cap : Nat) (zs : List Int) (w : World) (ho : OpsAt w) (hz : InsAt w b off zs len) (h0 : 0 < len) (hlen : len ≤ 40) :
    Calls Tryd.prog 11 #[.slice (some ⟨b, off, none⟩) len cap] w fun e w' => e = .returned (.bool true) ∧ Below w.heap.size w w' := by
  have hcv0 := fun w => conv_zero w none 0
  go_enter Tryd.func11, Tryd.ntmps11
  go_wp2_with fail
  refine (known_any _ ho).mono ?_
  rintro e w1 ⟨rfl, k1⟩
  have O1 := ho.next k1
  have Z1 := hz.next k1
  go_wp2_with fail
  refine (list_any b off len cap zs _ Z1 hlen).mono ?_
  rintro e w2 ⟨⟨v, rfl, hv⟩, k2⟩
  obtain ⟨_, ⟨_, hc⟩ | ⟨g, vc, cur, rfl, _⟩⟩ := id hv
  · omega
  have I2 := ins_of_own hv h0
  have O2 := O1.next k2
  have Z2 := Z1.next k2
  have B2 := bnext k1 k2
  clear hv k1 k2 O1 Z1
  go_wp2_with fail
  refine (encodeAll_any g 0 len vc zs _ O2 I2 hlen).mono ?_
  rintro e w3 ⟨k3, hp3⟩
  have O3 := O2.next k3
  have Z3 := Z2.next k3
  have B3 := bnext B2 k3
  clear O2 Z2 B2 I2 k3
  rcases hp3 with ⟨hbad, rfl⟩ | ⟨hall, v, hv, rfl⟩
  · have hE := Lib.hid (firstBad_spec (okI zs) len)
    go_wp2_with fail
    refine (refEncodeAll_any b off len cap zs _ Z3 hlen).mono ?_
    rintro e w4 ⟨k4, hp4⟩
    rcases hp4 with ⟨_, rfl⟩ | ⟨hall, _⟩
    · generalize hK : firstBad (okI zs) len = K at *
      have hne : (errI zs K != 0) = true := by
        have := okI_false (hE.out.2.2 (by omega))
        simpa [errI] using this
      clear hK
      go_wp2
      go_ret
      exact ⟨rfl, bnext B3 k4⟩
    · exfalso
      have := firstBad_all (n := len) hall
      omega
  · have HA := Lib.hid hall
    clear hall
    go_wp2_with fail
    refine (refEncodeAll_any b off len cap zs _ Z3 hlen).mono ?_
    rintro e w4 ⟨k4, hp4⟩
    rcases hp4 with ⟨hbad, _⟩ | ⟨_, u, hu, rfl⟩
    · exfalso
      have := firstBad_all (n := len) HA.out
      omega
    have O4 := O3.next k4
    have Z4 := Z3.next k4
    have B4 := bnext B3 k4
    have hv4 := own_next hv k4
    clear O3 Z3 B3 k4 hv
    obtain ⟨_, ⟨_, hc⟩ | ⟨g1, c1, cur1, rfl, _, _, hn1, _⟩⟩ := id hv4
    · omega
    obtain ⟨_, ⟨_, hc⟩ | ⟨g2, c2, cur2, rfl, _, _, hn2, _⟩⟩ := id hu
    · omega
    have hbl := encBytes_length zs len
    have hrg := enc_range zs len HA.out
    have Y1 := bytes_of_own hv4 (by omega) (fun i hi => hrg i (by omega))
    have Y2 := bytes_of_own hu (by omega) (fun i hi => hrg i (by omega))
    have hcv1 := conv_of Y1 (len * 4) c1 (by omega)
    have hcv2 := conv_of Y2 (len * 4) c2 (by omega)
    have HB := Lib.hid (show len * 4 ≤ (encBytes zs len).length by omega)
    have HF := Lib.hid (firstBad_all (p := okAt (encBytes zs len)) (n := len * 4 / 4) (fun k hk => (enc_ok zs len k (by omega) (HA.out k (by omega))).1))
    have HC := Lib.hid (enc_cells zs len HA.out len (Nat.le_refl _))
    clear hbl hrg hv4 hu Y2
    go_wp2_with fail
    refine (decodeAll_any g1 0 (len * 4) c1 (encBytes zs len) _ O4 Y1 HB.out hn1 (by omega)).mono ?_
    rintro e w5 ⟨k5, hp5⟩
    rcases hp5 with ⟨hbad, _⟩ | ⟨_, hr, _⟩ | ⟨_, _, t, ht, rfl⟩
    · have := HF.out; omega
    · omega
    have e4 : len * 4 / 4 = len := by omega
    rw [e4, HC.out] at ht
    obtain ⟨_, ⟨_, hc⟩ | ⟨g5, c5, cur5, rfl, _, _, hn5, _⟩⟩ := id ht
    · omega
    have I5 := ins_of_own ht h0
    have Z5 := Z4.next k5
    have B5 := bnext B4 k5
    clear ht e4 k5 B4 Z4 O4 Y1 hcv1 hcv2
    go_wp2
    go_loopw [10] (fun i wr => ∃ k : Nat, k ≤ len ∧ i = .int .i64 k ∧ Below w5.heap.size w5 wr) (fun i _ => len - (intOf i).toNat)
    case atStart => exact ⟨0, Nat.zero_le _, rfl, Below.refl _ _⟩
    case round =>
      obtain ⟨k, hk, rfl, hb⟩ := hrel
      by_cases hlt : k < len
      · have S0 := In4.of (I5.next hb) k hlt
        have S1 := In4.of (Z5.next hb) k hlt
        have hne := neq23_same (byteAt zs (4 * k)) (byteAt zs (4 * k + 1)) (byteAt zs (4 * k + 2)) (byteAt zs (4 * k + 3))
        have P0 : (0 : Int) ≤ (k : Int) := by omega
        have P1 : (k : Int) < (len : Int) := by omega
        obtain ⟨q0, q1, q2, q3⟩ := In4.cells0 S0
        obtain ⟨p0, p1, p2, p3⟩ := In4.cells S1
        go_wp2
        go_region_held3 (fun w' => In4 w' g5 0 zs k ∧ In4 w' b off zs k ∧ (w'.cell? ⟨g5, k * 4, none⟩ = some (.int .i64 (byteAt zs (4 * k))) ∧ w'.cell? ⟨g5, k * 4 + 1, none⟩ = some (.int .i64 (byteAt zs (4 * k + 1))) ∧ w'.cell? ⟨g5, k * 4 + 2, none⟩ = some (.int .i64 (byteAt zs (4 * k + 2))) ∧ w'.cell? ⟨g5, k * 4 + 3, none⟩ = some (.int .i64 (byteAt zs (4 * k + 3)))) ∧ (w'.cell? ⟨b, off + k * 4, none⟩ = some (.int .i64 (byteAt zs (4 * k))) ∧ w'.cell? ⟨b, off + k * 4 + 1, none⟩ = some (.int .i64 (byteAt zs (4 * k + 1))) ∧ w'.cell? ⟨b, off + k * 4 + 2, none⟩ = some (.int .i64 (byteAt zs (4 * k + 2))) ∧ w'.cell? ⟨b, off + k * 4 + 3, none⟩ = some (.int .i64 (byteAt zs (4 * k + 3)))))
          (first | (with_reducible exact ⟨S0, S1, ⟨q0, q1, q2, q3⟩, ⟨p0, p1, p2, p3⟩⟩) | (with_reducible exact ⟨In4.drew S0, In4.drew S1, In4.cells0 (In4.drew S0), In4.cells (In4.drew S1)⟩) | (with_reducible exact ⟨T0, T1, In4.cells0 T0, In4.cells T1⟩))
          (first | (go_at_call 26; refine (of_any _ _ _ _ _).mono ?_; rintro e w6 ⟨rfl, k6⟩; have T0 := In4.next (In4.drew S0) k6; have T1 := In4.next (In4.drew S1) k6))
        go_wp2
        go_roundw
        case rel => exact ⟨k + 1, by omega, by go_num, (hb.drew).trans (k6.mono hb.size)⟩
        case measure => simp [intOf]; omega
      · go_wp2
        go_ret
        exact ⟨rfl, bnext B5 hb⟩
end Go.Proofs.YtagmeijpelffcaaDoor
