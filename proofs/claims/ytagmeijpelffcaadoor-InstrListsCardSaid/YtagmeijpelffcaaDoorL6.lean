/- The law InstrBytes, walked. -/
import Derived.Test.YtagmeijpelffcaaDoorW13
import Derived.Test.YtagmeijpelffcaaDoorW7
import Derived.Laws.BytesArg
import Derived.Laws.BytesString
import Derived.Deep.RegionHeld3
import Derived.OpenShut
namespace Go.Proofs.YtagmeijpelffcaaDoor
open Go.RowKit
set_option linter.unusedSimpArgs false
set_option linter.unusedVariables false
def strB (zs : List Int) (len : Nat) : ByteArray := strOfNums (zs.take len)
theorem conv_of {w : World} {b off : Nat} {zs : List Int} (h : BytesAt w b off zs) (len cap : Nat) (hl : len ≤ zs.length) :
    (convert 52 9 (.slice (some ⟨b, off, none⟩) len cap)).run Tryd.prog w = .ok (.string (strB zs len)) w :=
  run_convert_bytes_arg w 52 5 Tryd.underlying52 Tryd.underlying5 b off len cap (zs.take len) (by simp; omega) (fun i hi => by
    rw [(h.2 i (by omega)).1]
    simp [byteAt, List.getElem?_take, hi]) 9 Tryd.underlying9
theorem conv_zero (w : World) (p : Option Addr) (c : Nat) : (convert 52 9 (.slice p 0 c)).run Tryd.prog w = .ok (.string ByteArray.empty) w := by
  rw [run_convert_bytes_string w 52 9 5 _ 0 c Tryd.underlying52 Tryd.underlying5 Tryd.underlying9]
  cases p <;> simp [Conv.bytesToString, loadCells]
  all_goals rfl
theorem bytes_long (a : Option Addr) (len cap : Nat) (w : World) (ho : OpsAt w) (h : 200 < len) :
    Calls Tryd.prog 9 #[.slice a len cap] w fun e w' => e = .returned (.bool true) ∧ Below w.heap.size w w' := by
  go_enter Tryd.func9, Tryd.ntmps9
  go_wp2_with fail
  refine (known_any _ ho).mono ?_
  rintro e w1 ⟨rfl, k1⟩
  go_wp2_with fail
  refine (known_any _ (ho.next k1)).mono ?_
  rintro e w2 ⟨rfl, k2⟩
  go_wp2
  go_ret
  exact ⟨rfl, bnext k1 k2⟩
theorem bytes_zero (a : Option Addr) (cap : Nat) (w : World) (ho : OpsAt w) :
    Calls Tryd.prog 9 #[.slice a 0 cap] w fun e w' => e = .returned (.bool true) ∧ Below w.heap.size w w' := by
  have hcv := fun w => conv_zero w a cap
  go_enter Tryd.func9, Tryd.ntmps9
  go_wp2_with (first | (go_at_call 13; refine (known_any _ ho).mono ?_; rintro e w1 ⟨rfl, k1⟩) | (go_at_call 28; refine (decodeAll_nil _ _ _).mono ?_; rintro e w' ⟨rfl, rfl⟩) | (go_at_call 29; refine (refDecodeAll_nil _ _ _).mono ?_; rintro e w' ⟨rfl, rfl⟩))
  refine wp_loop_rounds 1 ?_; rw [rounds_succ]
  go_wp2
  go_ret
  exact ⟨rfl, k1⟩
/-- The four cells of the instruction number k of a row. -/
def Row4 (w : World) (g : Nat) (zs : List Int) (k : Nat) : Prop := g < w.heap.size ∧ w.cell? ⟨g, k * 4, none⟩ = some (.int .i64 (byteAt zs (4 * k))) ∧ w.cell? ⟨g, k * 4 + 1, none⟩ = some (.int .i64 (byteAt zs (4 * k + 1) / 16)) ∧ w.cell? ⟨g, k * 4 + 2, none⟩ = some (.int .i64 (byteAt zs (4 * k + 1) % 16)) ∧ w.cell? ⟨g, k * 4 + 3, none⟩ = some (.int .i64 (decC (byteAt zs (4 * k)) (byteAt zs (4 * k + 2)) (byteAt zs (4 * k + 3))))
theorem row4 {w : World} {base : Nat} {e : TypeId} {g len cap n : Nat} {zs : List Int} (h : w.ownsRow base e 4 (.slice (some ⟨g, 0, none⟩) len cap) n (insCells zs n)) (k : Nat) (hk : k < n) : Row4 w g zs k := by
  have hl := insCells_length zs n
  obtain ⟨_, _, c0, hg⟩ := own_cell h (k * 4) (by omega)
  obtain ⟨_, _, c1, _⟩ := own_cell h (k * 4 + 1) (by omega)
  obtain ⟨_, _, c2, _⟩ := own_cell h (k * 4 + 2) (by omega)
  obtain ⟨_, _, c3, _⟩ := own_cell h (k * 4 + 3) (by omega)
  have g0 := insCells_get zs k 0 (by omega) n hk
  have g1 := insCells_get zs k 1 (by omega) n hk
  have g2 := insCells_get zs k 2 (by omega) n hk
  have g3 := insCells_get zs k 3 (by omega) n hk
  exact ⟨hg, c0.trans g0, c1.trans g1, c2.trans g2, c3.trans g3⟩
theorem Row4.next {w w' : World} {g : Nat} {zs : List Int} {k : Nat} (h : Row4 w g zs k) (hb : Below w.heap.size w w') : Row4 w' g zs k := by
  obtain ⟨hc, _⟩ := bcell hb
  obtain ⟨h0, h1, h2, h3, h4⟩ := h
  exact ⟨Nat.lt_of_lt_of_le h0 hb.size, by rw [hc _ _ h0]; exact h1, by rw [hc _ _ h0]; exact h2, by rw [hc _ _ h0]; exact h3, by rw [hc _ _ h0]; exact h4⟩
theorem Row4.drew {w : World} {g : Nat} {zs : List Int} {k : Nat} (h : Row4 w g zs k) : Row4 w.drew g zs k := h
theorem Row4.cells {w : World} {g : Nat} {zs : List Int} {k : Nat} (h : Row4 w g zs k) : w.cell? ⟨g, k * 4, none⟩ = some (.int .i64 (byteAt zs (4 * k))) ∧ w.cell? ⟨g, k * 4 + 1, none⟩ = some (.int .i64 (byteAt zs (4 * k + 1) / 16)) ∧ w.cell? ⟨g, k * 4 + 2, none⟩ = some (.int .i64 (byteAt zs (4 * k + 1) % 16)) ∧ w.cell? ⟨g, k * 4 + 3, none⟩ = some (.int .i64 (decC (byteAt zs (4 * k)) (byteAt zs (4 * k + 2)) (byteAt zs (4 * k + 3)))) := h.2
set_option maxRecDepth 100000 in
set_option maxHeartbeats 2000000 in
theorem bytes_mid (b off len cap : Nat) (zs : List Int) (w : World) (ho : OpsAt w) (hz : BytesAt w b off zs) (hl : len ≤ zs.length) (hlc : len ≤ cap) (hlen : len ≤ 200) :
    Calls Tryd.prog 9 #[.slice (some ⟨b, off, none⟩) len cap] w fun e w' => e = .returned (.bool true) ∧ Below w.heap.size w w' := by
  go_enter Tryd.func9, Tryd.ntmps9
  go_wp2_with fail
  refine (known_any _ ho).mono ?_
  rintro e w1 ⟨rfl, k1⟩
  have hz1 := hz.next k1
  have hcv := conv_of hz1 len cap (by omega)
  go_wp2_with fail
  refine (decodeAll_any b off len cap zs _ (ho.next k1) hz1 hl hlc hlen).mono ?_
  rintro e w2 ⟨k2, hp2⟩
  have hz2 := hz1.next k2
  rcases hp2 with ⟨hbad, rfl⟩ | ⟨hall, hr, rfl⟩ | ⟨hall, hr, v, hv, rfl⟩
  · go_wp2_with fail
    refine (refDecodeAll_any b off len cap zs _ hz2 hl hlc hlen).mono ?_
    rintro e w3 ⟨k3, hp3⟩
    have hz3 := hz2.next k3
    have hcv3 := conv_of hz3 len cap (by omega)
    rcases hp3 with ⟨_, rfl⟩ | ⟨hall, _⟩ | ⟨hall, _⟩
    · go_wp2
      refine wp_loop_rounds 1 ?_; rw [rounds_succ]
      go_wp2
      go_ret
      exact ⟨rfl, bnext (bnext k1 k2) k3⟩
    · omega
    · omega
  · go_wp2_with fail
    refine (refDecodeAll_any b off len cap zs _ hz2 hl hlc hlen).mono ?_
    rintro e w3 ⟨k3, hp3⟩
    have hz3 := hz2.next k3
    have hcv3 := conv_of hz3 len cap (by omega)
    rcases hp3 with ⟨_, _⟩ | ⟨_, _, rfl⟩ | ⟨_, _, _⟩
    · omega
    · go_wp2
      refine wp_loop_rounds 1 ?_; rw [rounds_succ]
      go_wp2
      go_ret
      exact ⟨rfl, bnext (bnext k1 k2) k3⟩
    · omega
  · go_wp2_with fail
    refine (refDecodeAll_any b off len cap zs _ hz2 hl hlc hlen).mono ?_
    rintro e w3 ⟨k3, hp3⟩
    have hz3 := hz2.next k3
    have hcv3 := conv_of hz3 len cap (by omega)
    rcases hp3 with ⟨_, _⟩ | ⟨_, _, _⟩ | ⟨_, _, u, hu, rfl⟩
    · omega
    · omega
    · have hv3 := own_next hv k3
      have B3 := bnext (bnext k1 k2) k3
      generalize hn : len / 4 = n at *
      have HN := Lib.hid hn
      clear hn hv k1 k2 k3 hz hz1 hz2 ho hall
      by_cases hn0 : n = 0
      · subst hn0
        obtain ⟨_, ⟨rfl, _⟩ | ⟨g, vc, cur, rfl, _⟩⟩ := id hv3
        all_goals obtain ⟨_, ⟨rfl, _⟩ | ⟨g', vc', cur', rfl, _⟩⟩ := id hu
        all_goals
          go_wp2
          refine wp_loop_rounds 1 ?_; rw [rounds_succ]
          go_wp2
          go_ret
          exact ⟨rfl, B3⟩
      · obtain ⟨_, ⟨_, h0⟩ | ⟨g, vc, cur, rfl, _⟩⟩ := id hv3
        · omega
        obtain ⟨_, ⟨_, h0⟩ | ⟨g', vc', cur', rfl, _⟩⟩ := id hu
        · omega
        have hn50 : n ≤ 50 := by have := HN.out; omega
        go_wp2
        go_loopw [10] (fun i wr => ∃ k : Nat, k ≤ n ∧ i = .int .i64 k ∧ Below w3.heap.size w3 wr) (fun i _ => n - (intOf i).toNat)
        case atStart => exact ⟨0, Nat.zero_le _, rfl, Below.refl _ _⟩
        case round =>
          obtain ⟨k, hk, rfl, hb⟩ := hrel
          by_cases hlt : k < n
          · have S0 := row4 (own_next hv3 hb) k hlt
            have S1 := row4 (own_next hu hb) k hlt
            have hne := neq23_same (byteAt zs (4 * k)) (byteAt zs (4 * k + 1) / 16) (byteAt zs (4 * k + 1) % 16) (decC (byteAt zs (4 * k)) (byteAt zs (4 * k + 2)) (byteAt zs (4 * k + 3)))
            go_wp2
            have P0 : (0 : Int) ≤ (k : Int) := by omega
            have P1 : (k : Int) < (n : Int) := by omega
            obtain ⟨_, q0, q1, q2, q3⟩ := id S0
            obtain ⟨_, p0, p1, p2, p3⟩ := id S1
            go_region_held3 (fun w' => Row4 w' g zs k ∧ Row4 w' g' zs k ∧ (w'.cell? ⟨g, k * 4, none⟩ = some (.int .i64 (byteAt zs (4 * k))) ∧ w'.cell? ⟨g, k * 4 + 1, none⟩ = some (.int .i64 (byteAt zs (4 * k + 1) / 16)) ∧ w'.cell? ⟨g, k * 4 + 2, none⟩ = some (.int .i64 (byteAt zs (4 * k + 1) % 16)) ∧ w'.cell? ⟨g, k * 4 + 3, none⟩ = some (.int .i64 (decC (byteAt zs (4 * k)) (byteAt zs (4 * k + 2)) (byteAt zs (4 * k + 3))))) ∧ (w'.cell? ⟨g', k * 4, none⟩ = some (.int .i64 (byteAt zs (4 * k))) ∧ w'.cell? ⟨g', k * 4 + 1, none⟩ = some (.int .i64 (byteAt zs (4 * k + 1) / 16)) ∧ w'.cell? ⟨g', k * 4 + 2, none⟩ = some (.int .i64 (byteAt zs (4 * k + 1) % 16)) ∧ w'.cell? ⟨g', k * 4 + 3, none⟩ = some (.int .i64 (decC (byteAt zs (4 * k)) (byteAt zs (4 * k + 2)) (byteAt zs (4 * k + 3))))))
              (first | (with_reducible exact ⟨S0, S1, ⟨q0, q1, q2, q3⟩, ⟨p0, p1, p2, p3⟩⟩) | (with_reducible exact ⟨Row4.drew S0, Row4.drew S1, Row4.cells (Row4.drew S0), Row4.cells (Row4.drew S1)⟩) | (with_reducible exact ⟨T0, T1, Row4.cells T0, Row4.cells T1⟩))
              (first | (go_at_call 26; refine (of_any _ _ _ _ _).mono ?_; rintro e w5 ⟨rfl, k5⟩; have T0 := Row4.next (Row4.drew S0) k5; have T1 := Row4.next (Row4.drew S1) k5))
            go_wp2
            go_roundw
            case rel => exact ⟨k + 1, by omega, by go_num, (hb.drew).trans (k5.mono hb.size)⟩
            case measure => simp [intOf]; omega
          · go_wp2
            go_ret
            exact ⟨rfl, bnext B3 hb⟩
/-- What the walk is told of a slice of integers that came in. -/
def IsRow (k : IntKind) (w : World) (a : Option Addr) (len cap : Nat) (zs : List Int) : Prop :=
  (a = none ∧ len = 0 ∧ cap = 0 ∧ zs = []) ∨
  ∃ x, a = some x ∧ len ≤ cap ∧ cap ≤ maxLen ∧ zs.length = cap ∧ (∀ i, i < zs.length → w.cell? (x.add i) = some (.int k (zs.getD i 0))) ∧ ∀ n ∈ zs, (Lit.int k n).wf = true
theorem bytes_walk (a : Option Addr) (len cap : Nat) (zs : List Int) (w : World) (ho : OpsAt w) (h : IsRow .u8 w a len cap zs) :
    Calls Tryd.prog 9 #[.slice a len cap] w fun e w' => e = .returned (.bool true) ∧ Below w.heap.size w w' := by
  by_cases h0 : len = 0
  · subst h0; exact bytes_zero a cap w ho
  by_cases hl : 200 < len
  · exact bytes_long a len cap w ho hl
  rcases h with ⟨_, h1, _⟩ | ⟨⟨b, off, spot⟩, rfl, h1, h2, h3, h4, h5⟩
  · omega
  · have hc := h4 0 (by omega)
    have hspot : spot = none := by simpa [Addr.add] using World.cell?_spot hc
    subst hspot
    have hlt : b < w.heap.size := by
      apply Nat.lt_of_not_le
      intro hle
      have hn : w.heap[b]? = none := by simp; omega
      simp [World.cell?, Addr.add, hn] at hc
    refine bytes_mid b off len cap zs w ho ⟨hlt, fun i hi => ⟨?_, ?_⟩⟩ (by omega) h1 (by omega)
    · have := h4 i hi
      have e : (⟨b, off, none⟩ : Addr).add i = ⟨b, off + i, none⟩ := by
        unfold Addr.add; split
        · rename_i h; subst h; rfl
        · rfl
      rw [e] at this
      exact this
    · have hm : byteAt zs i ∈ zs := by unfold byteAt; rw [List.getD_eq_getElem?_getD, List.getElem?_eq_getElem hi]; simp
      have := bounds_u8 (h5 _ hm)
      omega
end Go.Proofs.YtagmeijpelffcaaDoor
