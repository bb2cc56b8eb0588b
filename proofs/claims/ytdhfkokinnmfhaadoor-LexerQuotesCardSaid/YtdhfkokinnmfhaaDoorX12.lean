/- Walks of layer 21: skip of the scanner. -/
import Derived.Test.YtdhfkokinnmfhaaDoorX11
import Derived.Test.YtdhfkokinnmfhaaDoorQ4
import Derived.Deep.LoopGhost
import Derived.Deep.QuietTactic
import Derived.BigQuiet
import Derived.OneCell
import Derived.IntWalk
import Derived.Deep.RegionWith
namespace Go.Proofs.YtdhfkokinnmfhaaDoor
open Go.RowKit
set_option linter.unusedSimpArgs false
set_option linter.unusedVariables false
theorem only_drew {a w : World} {row : Option Nat} (h : a.grownBy w row) : a.grownBy w.drew row := ⟨h.os, h.tape, h.output, h.size, h.block⟩
theorem only_drewN {a w : World} {row : Option Nat} (h : a.grownBy w row) (n : Nat) : a.grownBy (w.drewN n) row := ⟨h.os, h.tape, h.output, h.size, h.block⟩
theorem only_setCell {a w : World} {g : Nat} (h : a.grownBy w (some g)) {p : Addr} (hp : p.block = g ∨ a.heap.size ≤ p.block) (u : Value) : a.grownBy (w.setCell p u) (some g) :=
  ⟨h.os, h.tape, h.output, by simpa [World.setCell] using h.size, fun i hi hne => (Below.heap_setCell w p u i (by
    rintro rfl
    rcases hp with hp | hp
    · exact hne (by rw [hp])
    · omega)).trans (h.block i hi hne)⟩
/-- The scanner: its program, the offset, the line and where it begins. -/
def ScAt (w : World) (g : Nat) (s : ByteArray) (k : Nat) : Prop := w.heap[g]? = some (.cells #[.string s, .int .i64 k, .int .i64 (lineN s k), .int .i64 (begN s k)] 53 (0, 0))
theorem sc_cells {w : World} {g : Nat} {v0 v1 v2 v3 : Value} (h : w.heap[g]? = some (.cells #[v0, v1, v2, v3] 53 (0, 0))) : w.cell? ⟨g, 0, none⟩ = some v0 ∧ w.cell? ⟨g, 1, none⟩ = some v1 ∧ w.cell? ⟨g, 2, none⟩ = some v2 ∧ w.cell? ⟨g, 3, none⟩ = some v3 := by
  refine ⟨?_, ?_, ?_, ?_⟩ <;> simp [World.cell?, h]
theorem sc_free {w : World} {g : Nat} {v0 v1 v2 v3 : Value} (h : w.heap[g]? = some (.cells #[v0, v1, v2, v3] 53 (0, 0))) (i : Nat) : w.frozen? ⟨g, i, none⟩ = false := by
  simp [World.frozen?, h]
theorem sc_lt {w : World} {g : Nat} {o : Obj} (h : w.heap[g]? = some o) : g < w.heap.size := (Array.getElem?_eq_some_iff.1 h).1
theorem sc_set1 {w : World} {g : Nat} {v0 v1 v2 v3 v : Value} (h : w.heap[g]? = some (.cells #[v0, v1, v2, v3] 53 (0, 0))) : (w.setCell ⟨g, 1, none⟩ v).heap[g]? = some (.cells #[v0, v, v2, v3] 53 (0, 0)) := by
  simp [World.setCell, Array.getElem?_modify, h]
theorem sc_set2 {w : World} {g : Nat} {v0 v1 v2 v3 v : Value} (h : w.heap[g]? = some (.cells #[v0, v1, v2, v3] 53 (0, 0))) : (w.setCell ⟨g, 2, none⟩ v).heap[g]? = some (.cells #[v0, v1, v, v3] 53 (0, 0)) := by
  simp [World.setCell, Array.getElem?_modify, h]
theorem sc_set3 {w : World} {g : Nat} {v0 v1 v2 v3 v : Value} (h : w.heap[g]? = some (.cells #[v0, v1, v2, v3] 53 (0, 0))) : (w.setCell ⟨g, 3, none⟩ v).heap[g]? = some (.cells #[v0, v1, v2, v] 53 (0, 0)) := by
  simp [World.setCell, Array.getElem?_modify, h]
theorem sc_eq {w : World} {g : Nat} {s : ByteArray} {k : Nat} {a b c : Int} (h : w.heap[g]? = some (.cells #[.string s, .int .i64 a, .int .i64 b, .int .i64 c] 53 (0, 0))) (ha : a = k) (hb : b = lineN s k) (hc : c = begN s k) : ScAt w g s k := by
  subst ha hb hc; exact h
theorem ext0 (s : ByteArray) (k : Nat) (h : k < s.size) : (((s.extract k s.size)[0]'(by rw [size_extract s k s.size (Nat.le_refl _)]; omega)).toNat : Int) = bt s k := by
  rw [bt_of _ 0 (by rw [size_extract s k s.size (Nat.le_refl _)]; omega), bt_extract s k s.size 0 (Nat.le_refl _) (by omega), Nat.add_zero]
set_option maxRecDepth 100000 in
set_option maxHeartbeats 4000000 in
theorem skip_any (s : ByteArray) (g k0 : Nat) (w : World) (hs : s.size ≤ 100000) (hk0 : k0 ≤ s.size) (hsc : ScAt w g s k0) :
    Calls Tryd.prog 27 #[.pointer (some ⟨g, 0, none⟩)] w fun e w' => e = .returned (.tuple #[]) ∧ ScAt w' g s (skp s k0) ∧ w.grownBy w' (some g) := by
  go_enter Tryd.func27, Tryd.ntmps27
  go_wp2
  go_loopg [2] s.size (fun gk r wr => ∃ k : Nat, k ≤ s.size ∧ s.size ≤ gk + k ∧ ScAt wr g s k ∧ w.grownBy wr (some g) ∧ skp s k0 = skp s k)
  case atStart => exact ⟨k0, hk0, by omega, hsc, World.grownBy.refl _ _, rfl⟩
  case round =>
    obtain ⟨k, hk, hgk, hsc', hgr, hK⟩ := hrel
    have HK := Lib.hid hK
    have HSC := Lib.hid hsc'
    clear hK
    obtain ⟨c0, c1, c2, c3⟩ := sc_cells hsc'
    have f1 := sc_free hsc' 1
    have f2 := sc_free hsc' 2
    have f3 := sc_free hsc' 3
    have hle := lineN_le s k
    have hbe := begN_le s k
    clear hsc'
    by_cases hlt : k < s.size
    · have hz := size_extract s k s.size (Nat.le_refl _)
      have hx := ext0 s k hlt
      have hpre := hasPrefix_2 (s.extract k s.size) 47 47
      have hnl : Hid (cmtE s k = k + leadB nlI (s.extract k s.size)) := rfl
      have hb1 : 2 ≤ (s.extract k s.size).size → bt (s.extract k s.size) 0 = bt s k ∧ bt (s.extract k s.size) 1 = bt s (k + 1) := fun h => ⟨bt_extract s k s.size 0 (Nat.le_refl _) (by omega), bt_extract s k s.size 1 (Nat.le_refl _) (by omega)⟩
      have hout : s.size - k < 2 → bt s (k + 1) = 0 := fun h => bt_out s (k + 1) (by omega)
      have HB1 := Lib.hid hb1
      have HOUT := Lib.hid hout
      have HPRE := Lib.hid hpre
      have HZ := Lib.hid hz
      have HZ1 := Lib.hid (show (s.extract k s.size).size ≤ 100000 by omega)
      clear hb1 hout hpre hz
      by_cases h10 : bt s k = 10
      · have t10 : (bt s k == 10) = true := by simpa using h10
        have hL := lineN_nl s k h10
        have hB := begN_nl s k h10
        have HL := Lib.hid hL
        have HB := Lib.hid hB
        have HE := Lib.hid (skp_blank s k hlt (.inl h10))
        clear h10 hL hB
        go_wp2
        go_quiet (fail)
        go_wp2
        go_quiet (fail)
        go_wp2
        go_roundg (gk - 1)
        case rel => exact ⟨k + 1, by omega, by omega, sc_eq (sc_set3 (sc_set2 (sc_set1 HSC.out))) (by omega) (by rw [HL.out]; omega) (by rw [HB.out]; omega), only_drewN (only_setCell (only_setCell (only_setCell (hgr) (.inl rfl) _) (.inl rfl) _) (.inl rfl) _) _, by rw [HK.out, HE.out]⟩
        case measure => omega
      have t10 : (bt s k == 10) = false := by simpa using h10
      have HL := Lib.hid (lineN_no s k h10)
      have HB := Lib.hid (begN_no s k h10)
      by_cases h32 : bt s k = 32 ∨ bt s k = 9
      · have HE := Lib.hid (skp_blank s k hlt (.inr h32))
        by_cases h3 : bt s k = 32
        · have t3 : (bt s k == 32) = true := by simpa using h3
          clear h32 h3 h10
          go_wp2
          go_quiet (fail)
          go_wp2
          go_quiet (fail)
          go_wp2
          go_roundg (gk - 1)
          case rel => exact ⟨k + 1, by omega, by omega, sc_eq (sc_set1 HSC.out) (by omega) (by rw [HL.out]) (by rw [HB.out]), only_drewN (only_setCell hgr (.inl rfl) _) _, by rw [HK.out, HE.out]⟩
          case measure => omega
        · have t3 : (bt s k == 32) = false := by simpa using h3
          have t9 : (bt s k == 9) = true := by simp; omega
          clear h32 h3 h10
          go_wp2
          go_quiet (fail)
          go_wp2
          go_quiet (fail)
          go_wp2
          go_roundg (gk - 1)
          case rel => exact ⟨k + 1, by omega, by omega, sc_eq (sc_set1 HSC.out) (by omega) (by rw [HL.out]) (by rw [HB.out]), only_drewN (only_setCell hgr (.inl rfl) _) _, by rw [HK.out, HE.out]⟩
          case measure => omega
      have t3 : (bt s k == 32) = false := by simp; omega
      have t9 : (bt s k == 9) = false := by simp; omega
      by_cases hcc : bt s k = 47 ∧ bt s (k + 1) = 47
      · have h2 : 2 ≤ (s.extract k s.size).size := by
          rcases Nat.lt_or_ge (s.extract k s.size).size 2 with h | h
          · have := HOUT.out (by have := HZ.out; omega); omega
          · exact h
        have HP : Hid (Lib.hasPrefix (s.extract k s.size).data.toList [47, 47] = true) := by
          rw [HPRE.out]; exact decide_eq_true ⟨h2, by rw [(HB1.out h2).1]; exact hcc.1, by rw [(HB1.out h2).2]; exact hcc.2⟩
        have HE := Lib.hid (skp_cmt s k hlt hcc.1 hcc.2)
        have hgt := cmtE_gt s k hlt hcc.1
        have hce := (cmtE_bd s k hk).2
        have hrun := line_run s k (cmtE s k - k) (fun i hi => cmtE_no s k i hk (by omega))
        rw [show k + (cmtE s k - k) = cmtE s k by omega] at hrun
        have HL2 := Lib.hid hrun.1
        have HB2 := Lib.hid hrun.2
        have HC := Lib.hid (show leadB nlI (s.extract k s.size) = cmtE s k - k by have := hnl.out; omega)
        generalize cmtE s k = c at *
        obtain ⟨d, rfl⟩ : ∃ d, c = k + d := ⟨c - k, by omega⟩
        rw [Nat.add_sub_cancel_left] at HC
        clear h32 h10 hcc hrun hnl h2
        go_wp2_with (go_at_call 41; refine (Tryd.strings_HasPrefix _ _ _).mono ?_; rintro e w' ⟨rfl, rfl⟩; rw [HP.out])
        go_quiet (fail)
        go_wp2_with (go_at_call 41; refine (Tryd.strings_HasPrefix _ _ _).mono ?_; rintro e w' ⟨rfl, rfl⟩; rw [HP.out])
        go_quiet (fail)
        go_wp2_with (go_at_call 41; refine (Tryd.strings_HasPrefix _ _ _).mono ?_; rintro e w' ⟨rfl, rfl⟩; rw [HP.out])
        have L1 : IntKind.i64.wrap ((k : Int) + (d : Int)) = (k : Int) + (d : Int) := IntWalk.i64_in _ (by omega)
        go_region_with (go_at_call 32; refine (leading_nl _ _ HZ1.out).mono ?_; rintro e w' ⟨rfl, rfl⟩; rw [HC.out])
        all_goals clear L1
        all_goals go_wp2
        all_goals
          go_roundg (gk - 1)
          case rel => exact ⟨k + d, by omega, by omega, sc_eq (sc_set1 HSC.out) (by omega) (by rw [HL2.out]) (by rw [HB2.out]), only_drew (only_drewN (only_setCell hgr (.inl rfl) _) _), by rw [HK.out, HE.out]⟩
          case measure => omega
      · have HP : Hid (Lib.hasPrefix (s.extract k s.size).data.toList [47, 47] = false) := by
          rw [HPRE.out]; exact decide_eq_false (fun ⟨h2, h3, h4⟩ => hcc ⟨by rw [← (HB1.out h2).1]; exact h3, by rw [← (HB1.out h2).2]; exact h4⟩)
        have HE := Lib.hid (skp_stop s k (by omega) hcc)
        clear h32 h10 hcc hnl
        go_wp2
        go_quiet (fail)
        go_wp2
        go_quiet (fail)
        go_wp2_with (go_at_call 41; refine (Tryd.strings_HasPrefix _ _ _).mono ?_; rintro e w' ⟨rfl, rfl⟩; rw [HP.out])
        exact bodyPost_ret (results_none rfl _ _ _) rfl ⟨rfl, by rw [HK.out, HE.out]; exact HSC.out, only_drewN hgr _⟩
    · have HE := Lib.hid (skp_end s k (by omega))
      go_wp2
      go_quiet (fail)
      go_wp2
      go_end0
      exact ⟨rfl, by rw [HK.out, HE.out]; exact HSC.out, only_drewN hgr _⟩
end Go.Proofs.YtdhfkokinnmfhaaDoor
