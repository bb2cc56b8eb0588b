/- The law LexerQuotes, walked. -/
import Derived.Test.YtdhfkokinnmfhaaDoorS4
namespace Go.Proofs.YtdhfkokinnmfhaaDoor
open Go.RowKit
set_option linter.unusedSimpArgs false
set_option linter.unusedVariables false
set_option maxRecDepth 100000 in
set_option maxHeartbeats 1000000 in
theorem quotes_small_ok (s : ByteArray) (w : World) (ho : EscAt w) (hs : s.size ≤ maxLen) (hb : s.size ≤ 250) (hq : (s).size ≤ 200) :
    Calls Tryd.prog 8 #[.string s] w fun e w' => e = .returned (.bool true) ∧ Below w.heap.size w w' := by
  unfold maxLen at hs
  have hm : min (s.size : Int) 250 = (s.size : Int) := by omega
  have HSC := Lib.hid (quote_scan (s) hq)
  have hl := quN_len (s) (s).size
  have hz : (strOfNums (quT (s))).size ≤ 1000 := by rw [strOfNums_size]; simp [quT]; omega
  go_enter Tryd.func8, Tryd.ntmps8
  go_wp2_with fail
  refine (quote_any (s) _ hq).mono ?_
  rintro e w1 ⟨rfl, k1⟩
  go_wp2_with fail
  refine (refQuote_any (s) _ hq).mono ?_
  rintro e w2 ⟨rfl, k2⟩
  go_wp2_with fail
  refine (known_any _ (ho.next (bnext k1 k2))).mono ?_
  rintro e w3 ⟨rfl, k3⟩
  have B3 := bnext (bnext k1 k2) k3
  clear k1 k2 k3
  generalize strOfNums (quT (s)) = Q at *
  go_wp2_with fail
  refine (scan_ok Q _ _ (ho.next B3) (by omega) HSC.out).mono ?_
  rintro e w4 ⟨g, cap, rfl, hT, _, hcap, k4⟩
  have hcap2 : 2 ≤ cap := hcap
  simp only [List.length_cons, List.length_nil]
  obtain ⟨c0, c1, c2, c3, _, _⟩ := hT.2 0 _ rfl
  have c0' : w4.cell? ⟨g, 0, none⟩ = some (.int .i64 3) := c0
  have c1' : w4.cell? ⟨g, 1, none⟩ = some (.string Q) := c1
  have c3' : w4.cell? ⟨g, 3, none⟩ = some (.string (s)) := c3
  have B4 := bnext B3 k4
  clear c0 c1 c2 c3 hT hcap
  go_wp2
  go_ret
  exact ⟨rfl, B4⟩
set_option maxRecDepth 100000 in
set_option maxHeartbeats 1000000 in
theorem quotes_small_long (s : ByteArray) (w : World) (ho : EscAt w) (hs : s.size ≤ maxLen) (hb : s.size ≤ 250) (hq : 200 < (s).size) (hq2 : (s).size ≤ 250) :
    Calls Tryd.prog 8 #[.string s] w fun e w' => e = .returned (.bool true) ∧ Below w.heap.size w w' := by
  unfold maxLen at hs
  have hm : min (s.size : Int) 250 = (s.size : Int) := by omega
  go_enter Tryd.func8, Tryd.ntmps8
  go_wp2_with (first | (go_at_call 24; refine (quote_long (s) _ hq (by omega)).mono ?_; rintro e w' ⟨rfl, rfl⟩) | (go_at_call 25; refine (refQuote_long (s) _ hq (by omega)).mono ?_; rintro e w' ⟨rfl, rfl⟩) | (go_at_call 13; refine (known_any _ ho).mono ?_; rintro e w3 ⟨rfl, k3⟩))
  go_ret
  exact ⟨rfl, k3⟩
set_option maxRecDepth 100000 in
set_option maxHeartbeats 1000000 in
theorem quotes_large_long (s : ByteArray) (w : World) (ho : EscAt w) (hs : s.size ≤ maxLen) (hb : 250 < s.size) (hq : 200 < (s.extract 0 250).size) (hq2 : (s.extract 0 250).size ≤ 250) :
    Calls Tryd.prog 8 #[.string s] w fun e w' => e = .returned (.bool true) ∧ Below w.heap.size w w' := by
  unfold maxLen at hs
  have hm : min (s.size : Int) 250 = 250 := by omega
  go_enter Tryd.func8, Tryd.ntmps8
  go_wp2_with (first | (go_at_call 24; refine (quote_long (s.extract 0 250) _ hq (by omega)).mono ?_; rintro e w' ⟨rfl, rfl⟩) | (go_at_call 25; refine (refQuote_long (s.extract 0 250) _ hq (by omega)).mono ?_; rintro e w' ⟨rfl, rfl⟩) | (go_at_call 13; refine (known_any _ ho).mono ?_; rintro e w3 ⟨rfl, k3⟩))
  go_ret
  exact ⟨rfl, k3⟩
theorem quotes_walk (s : ByteArray) (w : World) (ho : EscAt w) (hs : s.size ≤ maxLen) :
    Calls Tryd.prog 8 #[.string s] w fun e w' => e = .returned (.bool true) ∧ Below w.heap.size w w' := by
  by_cases hb : s.size ≤ 250
  · by_cases hq : s.size ≤ 200
    · exact quotes_small_ok s w ho hs hb hq
    · exact quotes_small_long s w ho hs hb (by omega) hb
  · have hz : (s.extract 0 250).size = 250 := by rw [size_extract _ _ _ (by omega)]
    exact quotes_large_long s w ho hs (by omega) (by omega) (by omega)
end Go.Proofs.YtdhfkokinnmfhaaDoor
