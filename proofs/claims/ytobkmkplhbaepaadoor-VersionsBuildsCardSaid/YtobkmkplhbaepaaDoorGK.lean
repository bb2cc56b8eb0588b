/- Walks of layer 46: the reference: check. -/
import Derived.Test.YtobkmkplhbaepaaDoorGW
import Derived.Test.YtobkmkplhbaepaaDoorW23
import Derived.Test.YtobkmkplhbaepaaDoorGB
import Derived.Test.YtobkmkplhbaepaaDoorGQ
namespace Go.Proofs.YtobkmkplhbaepaaDoor
open Go.RowKit
set_option linter.unusedSimpArgs false
set_option linter.unusedVariables false
attribute [local go_sem ↓] Go.wp_at_zero Go.wp_at_succ
def ChkRel (l : List Ac) (w : World) (i : Value) (wr : World) : Prop := ∃ k : Nat, k ≤ l.length ∧ i = .int .i64 k ∧ (∀ j (hj : j < l.length), j < k → appR (l.take j) l[j] = 0) ∧ Below w.heap.size w wr
theorem okAc_t {a : Ac} (h1 : 0 ≤ a.key.tick) (h2 : 1 ≤ a.key.num) (h3 : ordCh a.reads = true) (h4 : ordCh a.writes = true) : okAc a = true := by
  unfold okAc okKy
  rw [h3, h4, decide_eq_true h1, decide_eq_true h2]; rfl
theorem okAc_f1 {a : Ac} (h1 : ¬ 0 ≤ a.key.tick) : okAc a = false := by
  unfold okAc okKy
  rw [decide_eq_false h1]; simp
theorem okAc_f2 {a : Ac} (h1 : ordCh a.reads = false) : okAc a = false := by
  unfold okAc
  rw [h1]; simp
theorem okAc_f3 {a : Ac} (h1 : ordCh a.writes = false) : okAc a = false := by
  unfold okAc
  rw [h1]; simp
set_option maxRecDepth 100000 in
set_option maxHeartbeats 1000000 in
theorem rcheck_is {w : World} {pv v : Value} {l : List Ac} (h : RdAc w v l) (hu : UseAt w) (hr : ∀ a ∈ l, AcR a) (hl : l.length ≤ 100) : Calls Tryd.prog 11 #[pv, v] w fun e w' => e = .returned (.int .i64 (bldR [] l)) ∧ Below w.heap.size w w' := by
  have HU := Lib.hid hu
  have HR := Lib.hid hr
  obtain ⟨A, c, rfl, hc⟩ := RowRd.form h
  have HH := Lib.hid h
  clear h hu hr
  have H0 : Hid (ChkRel l w (.int .i64 (0 : Nat)) w) := Lib.hid ⟨0, Nat.zero_le _, rfl, fun j _ h => by omega, Below.refl _ _⟩
  go_enter Tryd.func11, Tryd.ntmps11
  go_wp2
  go_loopw [5] (fun i wr => ChkRel l w i wr) (fun i _ => l.length - (intOf i).toNat)
  case atStart => exact H0.out
  case round =>
    clear H0
    obtain ⟨k, hkl, rfl, hz, hb⟩ := hrel
    have HZ := Lib.hid hz
    have HB := Lib.hid hb
    clear hz hb
    by_cases hk : k < l.length
    · obtain ⟨b, o, u1, u2, hbe, hbw, n1, n2, x0, x1, x2, x3, x4, x5⟩ := RdAc.piece HH.out hk
      subst hbe
      have hsz : w.heap.size ≤ wr.heap.size := HB.out.size
      have hbr : b < wr.heap.size := Nat.lt_of_lt_of_le hbw hsz
      have y0 := (HB.out.cell (p := ⟨b, o + k * 6, none⟩) hbw).trans x0
      have y1 := (HB.out.cell (p := ⟨b, o + k * 6 + 1, none⟩) hbw).trans x1
      have y2 := (HB.out.cell (p := ⟨b, o + k * 6 + 2, none⟩) hbw).trans x2
      have y3 := (HB.out.cell (p := ⟨b, o + k * 6 + 3, none⟩) hbw).trans x3
      have y4 := (HB.out.cell (p := ⟨b, o + k * 6 + 4, none⟩) hbw).trans x4
      have y5 := (HB.out.cell (p := ⟨b, o + k * 6 + 5, none⟩) hbw).trans x5
      clear x0 x1 x2 x3 x4 x5
      have N1 := Lib.hid (RdP.next n1 HB.out)
      have N2 := Lib.hid (RdP.next n2 HB.out)
      obtain ⟨a, hae⟩ : ∃ a, l[k] = a := ⟨_, rfl⟩
      rw [hae] at y0 y1 y2 y3 N1 N2
      have HAE := Lib.hid hae
      have HAR : Hid (AcR a) := Lib.hid (by rw [← hae]; exact HR.out _ (List.getElem_mem hk))
      have hrl : a.reads.length ≤ 10 := HAR.out.2.2.2.1
      have hwl : a.writes.length ≤ 10 := HAR.out.2.2.2.2
      have HUr := Lib.hid (HU.out.next HB.out HU.out.1)
      clear hae n1 n2
      have i1 : (0 : Int) ≤ (k : Int) := by omega
      have i2 : (k : Int) < (l.length : Int) := by omega
      by_cases ht : 0 ≤ a.key.tick
      · have HT := Lib.hid ht
        clear ht
        cases hrd : ordCh a.reads with
        | false =>
          have HRD := Lib.hid hrd
          have HBAD := Lib.hid (chk_stop HZ.out hk (appR_bad (by rw [HAE.out]; exact okAc_f2 hrd)) (by decide))
          clear hrd
          go_wp2_with (go_at_call 32; refine (key_check a.key _ HAR.out.1).mono ?_; rintro e w2 ⟨rfl, hb2⟩; (try rw [if_pos HT.out]); obtain ⟨hc2, hf2⟩ := bcell hb2; have HB2 := Lib.hid hb2; have hbr2 : b < w2.heap.size := Nat.lt_of_lt_of_le hbr hb2.size; clear hb2)
          have N12 := Lib.hid (RdP.next N1.out HB2.out)
          have HU2 := Lib.hid (HUr.out.next HB2.out HUr.out.1)
          have ONCE : True := trivial
          go_wp2_with (clear ONCE; go_at_call 33; refine (formed_is N12.out HU2.out HAR.out.2.1 (by omega)).mono ?_; rintro e w3 ⟨rfl, hb3⟩; rw [HRD.out]; obtain ⟨hc3, hf3⟩ := bcell hb3; have HB3 := Lib.hid (HB2.out.trans (hb3.mono HB2.out.size)); have hbr3 : b < w3.heap.size := Nat.lt_of_lt_of_le hbr2 hb3.size; clear hb3)
          go_wp2_with fail
          go_ret
          exact ⟨by rw [HBAD.out]; rfl, HB.out.trans (HB3.out.mono hsz)⟩
        | true =>
          have HRD := Lib.hid hrd
          clear hrd
          cases hwd : ordCh a.writes with
          | false =>
            have HWD := Lib.hid hwd
            have HBAD := Lib.hid (chk_stop HZ.out hk (appR_bad (by rw [HAE.out]; exact okAc_f3 hwd)) (by decide))
            clear hwd
            go_wp2_with (go_at_call 32; refine (key_check a.key _ HAR.out.1).mono ?_; rintro e w2 ⟨rfl, hb2⟩; (try rw [if_pos HT.out]); obtain ⟨hc2, hf2⟩ := bcell hb2; have HB2 := Lib.hid hb2; have hbr2 : b < w2.heap.size := Nat.lt_of_lt_of_le hbr hb2.size; clear hb2)
            have N12 := Lib.hid (RdP.next N1.out HB2.out)
            have HU2 := Lib.hid (HUr.out.next HB2.out HUr.out.1)
            have ONCE : True := trivial
            go_wp2_with (clear ONCE; go_at_call 33; refine (formed_is N12.out HU2.out HAR.out.2.1 (by omega)).mono ?_; rintro e w3 ⟨rfl, hb3⟩; rw [HRD.out]; obtain ⟨hc3, hf3⟩ := bcell hb3; have HB3 := Lib.hid (HB2.out.trans (hb3.mono HB2.out.size)); have hbr3 : b < w3.heap.size := Nat.lt_of_lt_of_le hbr2 hb3.size; clear hb3)
            have N23 := Lib.hid (RdP.next N2.out HB3.out)
            have HU3 := Lib.hid (HUr.out.next HB3.out HUr.out.1)
            go_wp2_with (go_at_call 33; refine (formed_is N23.out HU3.out HAR.out.2.2.1 (by omega)).mono ?_; rintro e w4 ⟨rfl, hb4⟩; rw [HWD.out]; have HB4 := Lib.hid (HB3.out.trans (hb4.mono HB3.out.size)); have hbr4 : b < w4.heap.size := Nat.lt_of_lt_of_le hbr3 hb4.size; clear hb4)
            go_wp2_with fail
            go_ret
            exact ⟨by rw [HBAD.out]; rfl, HB.out.trans (HB4.out.mono hsz)⟩
          | true =>
            have HWD := Lib.hid hwd
            have HOK := Lib.hid (okAc_t HT.out HAR.out.1.2.2.2.1 HRD.out hwd)
            clear hwd
            rcases Nat.eq_zero_or_pos k with hz | hz
            · have g0 : decide ((0 : Int) < (k : Int)) = false := decide_eq_false (by omega)
              have g0' : ¬ (0 : Int) < (k : Int) := by omega
              have gn : decide (0 < k) = false := decide_eq_false (by omega)
              have HZ0 := Lib.hid hz
              clear hz
              go_wp2_with (go_at_call 32; refine (key_check a.key _ HAR.out.1).mono ?_; rintro e w2 ⟨rfl, hb2⟩; (try rw [if_pos HT.out]); obtain ⟨hc2, hf2⟩ := bcell hb2; have HB2 := Lib.hid hb2; have hbr2 : b < w2.heap.size := Nat.lt_of_lt_of_le hbr hb2.size; clear hb2)
              have N12 := Lib.hid (RdP.next N1.out HB2.out)
              have HU2 := Lib.hid (HUr.out.next HB2.out HUr.out.1)
              have ONCE : True := trivial
              go_wp2_with (clear ONCE; go_at_call 33; refine (formed_is N12.out HU2.out HAR.out.2.1 (by omega)).mono ?_; rintro e w3 ⟨rfl, hb3⟩; rw [HRD.out]; obtain ⟨hc3, hf3⟩ := bcell hb3; have HB3 := Lib.hid (HB2.out.trans (hb3.mono HB2.out.size)); have hbr3 : b < w3.heap.size := Nat.lt_of_lt_of_le hbr2 hb3.size; clear hb3)
              have N23 := Lib.hid (RdP.next N2.out HB3.out)
              have HU3 := Lib.hid (HUr.out.next HB3.out HUr.out.1)
              go_upto_region 6 with (go_at_call 33; refine (formed_is N23.out HU3.out HAR.out.2.2.1 (by omega)).mono ?_; rintro e w4 ⟨rfl, hb4⟩; rw [HWD.out]; have HB4 := Lib.hid (HB3.out.trans (hb4.mono HB3.out.size)); have hbr4 : b < w4.heap.size := Nat.lt_of_lt_of_le hbr3 hb4.size; clear hb4)
              go_quiet (fail)
              go_wp2_with fail
              go_roundw
              case rel =>
                refine ⟨k + 1, by omega, by go_num, fun j hj hjk => ?_, HB.out.trans (below_drewN (HB4.out.mono hsz) _)⟩
                by_cases e : j = k
                · subst e
                  have e0 := HZ0.out
                  subst e0
                  rw [List.take_zero, HAE.out]
                  exact appR_nil HOK.out
                · exact HZ.out j hj (by omega)
              case measure => simp [intOf]; omega
            · obtain ⟨m, hm⟩ : ∃ m, k = m + 1 := ⟨k - 1, by omega⟩
              have g0 : decide ((0 : Int) < (k : Int)) = true := decide_eq_true (by omega)
              have g1 : (k : Int) - 1 = (m : Int) := by omega
              have g2 : IntKind.i64.wrap (m : Int) = (m : Int) := IntWalk.i64_in _ (by omega)
              have j1 : (0 : Int) ≤ (m : Int) := by omega
              have j2 : (m : Int) < (l.length : Int) := by omega
              have hml : m < l.length := by omega
              obtain ⟨b', o', _, _, hbo, _, _, _, q0, q1, q2, q3, _, _⟩ := RdAc.piece HH.out hml
              injection hbo with hbo
              injection hbo with hbo1 hbo2 _
              subst hbo1 hbo2
              obtain ⟨pk, hpk⟩ : ∃ pk, l[m].key = pk := ⟨_, rfl⟩
              rw [hpk] at q0 q1 q2 q3
              have HPK := Lib.hid hpk
              have HPL : Hid (pk.lin = []) := Lib.hid (by rw [← hpk]; exact (HR.out _ (List.getElem_mem hml)).1.2.2.2.2.2)
              have p0 := (HB.out.cell (p := ⟨b, o + m * 6, none⟩) hbw).trans q0
              have p1 := (HB.out.cell (p := ⟨b, o + m * 6 + 1, none⟩) hbw).trans q1
              have p2 := (HB.out.cell (p := ⟨b, o + m * 6 + 2, none⟩) hbw).trans q2
              have p3 := (HB.out.cell (p := ⟨b, o + m * 6 + 3, none⟩) hbw).trans q3
              have HM := Lib.hid hm
              obtain ⟨bq, hbq⟩ : ∃ bq, decide (0 ≤ cmpK pk a.key) = bq := ⟨_, rfl⟩
              clear hpk q0 q1 q2 q3 hm
              have gn : decide (0 < k) = true := decide_eq_true hz
              go_wp2_with (go_at_call 32; refine (key_check a.key _ HAR.out.1).mono ?_; rintro e w2 ⟨rfl, hb2⟩; (try rw [if_pos HT.out]); obtain ⟨hc2, hf2⟩ := bcell hb2; have HB2 := Lib.hid hb2; have hbr2 : b < w2.heap.size := Nat.lt_of_lt_of_le hbr hb2.size; clear hb2)
              have N12 := Lib.hid (RdP.next N1.out HB2.out)
              have HU2 := Lib.hid (HUr.out.next HB2.out HUr.out.1)
              have ONCE : True := trivial
              go_wp2_with (clear ONCE; go_at_call 33; refine (formed_is N12.out HU2.out HAR.out.2.1 (by omega)).mono ?_; rintro e w3 ⟨rfl, hb3⟩; rw [HRD.out]; obtain ⟨hc3, hf3⟩ := bcell hb3; have HB3 := Lib.hid (HB2.out.trans (hb3.mono HB2.out.size)); have hbr3 : b < w3.heap.size := Nat.lt_of_lt_of_le hbr2 hb3.size; clear hb3)
              have N23 := Lib.hid (RdP.next N2.out HB3.out)
              have HU3 := Lib.hid (HUr.out.next HB3.out HUr.out.1)
              go_upto_region 6 with (go_at_call 33; refine (formed_is N23.out HU3.out HAR.out.2.2.1 (by omega)).mono ?_; rintro e w4 ⟨rfl, hb4⟩; rw [HWD.out]; have HB4 := Lib.hid (HB3.out.trans (hb4.mono HB3.out.size)); have hbr4 : b < w4.heap.size := Nat.lt_of_lt_of_le hbr3 hb4.size; clear hb4)
              have q0 := (HB4.out.cell (p := ⟨b, o + k * 6, none⟩) hbr).trans y0
              have q1 := (HB4.out.cell (p := ⟨b, o + k * 6 + 1, none⟩) hbr).trans y1
              have q2 := (HB4.out.cell (p := ⟨b, o + k * 6 + 2, none⟩) hbr).trans y2
              have q3 := (HB4.out.cell (p := ⟨b, o + k * 6 + 3, none⟩) hbr).trans y3
              have p0 := (HB4.out.cell (p := ⟨b, o + m * 6, none⟩) hbr).trans p0
              have p1 := (HB4.out.cell (p := ⟨b, o + m * 6 + 1, none⟩) hbr).trans p1
              have p2 := (HB4.out.cell (p := ⟨b, o + m * 6 + 2, none⟩) hbr).trans p2
              have p3 := (HB4.out.cell (p := ⟨b, o + m * 6 + 3, none⟩) hbr).trans p3
              clear hc2 hf2 hc3 hf3 y0 y1 y2 y3 y4 y5
              refine wp_region_noPanic ?_
              refine wp_region_held_drew (S := (fun (w' : World) => w'.cell? ⟨b, o + k * 6, none⟩ = some (.int .i64 a.key.tick) ∧ w'.cell? ⟨b, o + k * 6 + 1, none⟩ = some (.int .i64 a.key.cls) ∧ w'.cell? ⟨b, o + k * 6 + 2, none⟩ = some (.int .i64 a.key.num) ∧ w'.cell? ⟨b, o + k * 6 + 3, none⟩ = some (.string (bs a.key.lin)) ∧ w'.cell? ⟨b, o + m * 6, none⟩ = some (.int .i64 pk.tick) ∧ w'.cell? ⟨b, o + m * 6 + 1, none⟩ = some (.int .i64 pk.cls) ∧ w'.cell? ⟨b, o + m * 6 + 2, none⟩ = some (.int .i64 pk.num) ∧ w'.cell? ⟨b, o + m * 6 + 3, none⟩ = some (.string (bs pk.lin)))) (by kernel_rfl) ?_ (fun hHeld => ?_)
              · exact ⟨q0, q1, q2, q3, p0, p1, p2, p3⟩
              refine wpAnyH_take (i := 0) (v := ?_) rfl (by kernel_rfl) (by kernel_rfl) (by kernel_rfl) (fun _ _ _ h => h) (Or.inl ⟨by kernel_rfl, ?_⟩) hHeld ?_
              rotate_left
              · (intro w hSw; (try dsimp only at hSw); go_simp; try with_reducible rfl)
              try simp only [Act.put, List.setIfInBounds_toArray, List.set_cons_zero, List.set_cons_succ]
              refine wpAnyH_take (i := 1) (v := ?_) rfl (by kernel_rfl) (by kernel_rfl) (by kernel_rfl) (fun _ _ _ h => h) (Or.inl ⟨by kernel_rfl, ?_⟩) hHeld ?_
              rotate_left
              · (intro w hSw; (try dsimp only at hSw); go_simp; try with_reducible rfl)
              try simp only [Act.put, List.setIfInBounds_toArray, List.set_cons_zero, List.set_cons_succ]
              refine wpAnyH_take (i := 2) (v := ?_) rfl (by kernel_rfl) (by kernel_rfl) (by kernel_rfl) (fun _ _ _ h => h) (Or.inl ⟨by kernel_rfl, ?_⟩) hHeld ?_
              rotate_left
              · (intro w hSw; (try dsimp only at hSw); go_simp; try with_reducible rfl)
              try simp only [Act.put, List.setIfInBounds_toArray, List.set_cons_zero, List.set_cons_succ]
              refine wpAnyH_take (i := 3) (v := ?_) rfl (by kernel_rfl) (by kernel_rfl) (by kernel_rfl) (fun _ _ _ h => h) (Or.inl ⟨by kernel_rfl, ?_⟩) hHeld ?_
              rotate_left
              · (intro w hSw; (try dsimp only at hSw); go_simp; try with_reducible rfl)
              try simp only [Act.put, List.setIfInBounds_toArray, List.set_cons_zero, List.set_cons_succ]
              refine wpAnyH_take (i := 4) (v := ?_) rfl (by kernel_rfl) (by kernel_rfl) (by kernel_rfl) (fun _ _ _ h => h) (Or.inl ⟨by kernel_rfl, ?_⟩) hHeld ?_
              rotate_left
              · (intro w hSw; (try dsimp only at hSw); go_simp; try with_reducible rfl)
              try simp only [Act.put, List.setIfInBounds_toArray, List.set_cons_zero, List.set_cons_succ]
              refine wpAnyH_take (i := 5) (v := ?_) rfl (by kernel_rfl) (by kernel_rfl) (by kernel_rfl) (fun _ _ _ h => h) (Or.inl ⟨by kernel_rfl, ?_⟩) hHeld ?_
              rotate_left
              · (intro w hSw; (try dsimp only at hSw); go_simp; try with_reducible rfl)
              try simp only [Act.put, List.setIfInBounds_toArray, List.set_cons_zero, List.set_cons_succ]
              refine wpAnyH_take (i := 6) (v := ?_) rfl (by kernel_rfl) (by kernel_rfl) (by kernel_rfl) (fun _ _ _ h => h) (Or.inl ⟨by kernel_rfl, ?_⟩) hHeld ?_
              rotate_left
              · (intro w hSw; (try dsimp only at hSw); go_simp; try with_reducible rfl)
              try simp only [Act.put, List.setIfInBounds_toArray, List.set_cons_zero, List.set_cons_succ]
              refine wpAnyH_take (i := 7) (v := ?_) rfl (by kernel_rfl) (by kernel_rfl) (by kernel_rfl) (fun _ _ _ h => h) (Or.inl ⟨by kernel_rfl, ?_⟩) hHeld ?_
              rotate_left
              · (intro w hSw; (try dsimp only at hSw); go_simp; try with_reducible rfl)
              try simp only [Act.put, List.setIfInBounds_toArray, List.set_cons_zero, List.set_cons_succ]
              refine wpAnyH_take (i := 8) (v := ?_) rfl (by kernel_rfl) (by kernel_rfl) (by kernel_rfl) (fun _ _ _ h => h) (Or.inl ⟨by kernel_rfl, ?_⟩) hHeld ?_
              rotate_left
              · (intro w hSw; (try dsimp only at hSw); go_simp; try with_reducible rfl)
              try simp only [Act.put, List.setIfInBounds_toArray, List.set_cons_zero, List.set_cons_succ]
              refine wpAnyH_take (i := 9) (v := ?_) rfl (by kernel_rfl) (by kernel_rfl) (by kernel_rfl) (fun _ _ _ h => h) (Or.inl ⟨by kernel_rfl, ?_⟩) hHeld ?_
              rotate_left
              · (intro w hSw; (try dsimp only at hSw); go_simp; try with_reducible rfl)
              try simp only [Act.put, List.setIfInBounds_toArray, List.set_cons_zero, List.set_cons_succ]
              refine wpAnyH_take (i := 10) (v := ?_) rfl (by kernel_rfl) (by kernel_rfl) (by kernel_rfl) (fun _ _ _ h => h) (Or.inl ⟨by kernel_rfl, ?_⟩) hHeld ?_
              rotate_left
              · (intro w hSw; (try dsimp only at hSw); go_simp; try with_reducible rfl)
              try simp only [Act.put, List.setIfInBounds_toArray, List.set_cons_zero, List.set_cons_succ]
              refine wpAnyH_take (i := 11) (v := ?_) rfl (by kernel_rfl) (by kernel_rfl) (by kernel_rfl) (fun _ _ _ h => h) (Or.inl ⟨by kernel_rfl, ?_⟩) hHeld ?_
              rotate_left
              · (intro w hSw; (try dsimp only at hSw); go_simp; try with_reducible rfl)
              try simp only [Act.put, List.setIfInBounds_toArray, List.set_cons_zero, List.set_cons_succ]
              refine wpAnyH_take (i := 12) (v := ?_) rfl (by kernel_rfl) (by kernel_rfl) (by kernel_rfl) (fun _ _ _ h => h) (Or.inl ⟨by kernel_rfl, ?_⟩) hHeld ?_
              rotate_left
              · (intro w hSw; (try dsimp only at hSw); go_simp; try with_reducible rfl)
              try simp only [Act.put, List.setIfInBounds_toArray, List.set_cons_zero, List.set_cons_succ]
              refine wpAnyH_take (i := 13) (v := ?_) rfl (by kernel_rfl) (by kernel_rfl) (by kernel_rfl) (fun _ _ _ h => h) (Or.inl ⟨by kernel_rfl, ?_⟩) hHeld ?_
              rotate_left
              · (intro w hSw; (try dsimp only at hSw); go_simp; try with_reducible rfl)
              try simp only [Act.put, List.setIfInBounds_toArray, List.set_cons_zero, List.set_cons_succ]
              refine wpAnyH_ready (rs := [14]) (by kernel_rfl) (by simp) ?_
              refine AllReadyH.cons rfl (fun K hK => ?_) AllReadyH.nil
              go_simp
              refine (key_compare pk a.key _ HPL.out HAR.out.1.2.2.2.2.2).mono ?_; rintro e w5 ⟨rfl, hb5⟩; have HB5 := Lib.hid ((Below.refl w4.heap.size w4).drew.trans hb5); clear hb5
              try (go_wp2_with fail)
              refine hK.out _ _ ?_ (fun hNew => ?_)
              · exact ⟨(HB5.out.cell (p := ⟨b, o + k * 6, none⟩) hbr4).trans q0, (HB5.out.cell (p := ⟨b, o + k * 6 + 1, none⟩) hbr4).trans q1, (HB5.out.cell (p := ⟨b, o + k * 6 + 2, none⟩) hbr4).trans q2, (HB5.out.cell (p := ⟨b, o + k * 6 + 3, none⟩) hbr4).trans q3, (HB5.out.cell (p := ⟨b, o + m * 6, none⟩) hbr4).trans p0, (HB5.out.cell (p := ⟨b, o + m * 6 + 1, none⟩) hbr4).trans p1, (HB5.out.cell (p := ⟨b, o + m * 6 + 2, none⟩) hbr4).trans p2, (HB5.out.cell (p := ⟨b, o + m * 6 + 3, none⟩) hbr4).trans p3⟩
              clear hK K hHeld
              have hHeld := hNew
              clear hNew
              try simp only [Act.put, List.setIfInBounds_toArray, List.set_cons_zero, List.set_cons_succ]
              refine wpAnyH_take (i := 15) (v := ?_) rfl (by kernel_rfl) (by kernel_rfl) (by kernel_rfl) (fun _ _ _ h => h) (Or.inl ⟨by kernel_rfl, ?_⟩) hHeld ?_
              rotate_left
              · (intro w hSw; (try dsimp only at hSw); go_simp; try with_reducible rfl)
              try simp only [Act.put, List.setIfInBounds_toArray, List.set_cons_zero, List.set_cons_succ]
              refine wpAnyH_take (i := 16) (v := ?_) rfl (by kernel_rfl) (by kernel_rfl) (by kernel_rfl) (fun _ _ _ h => h) (Or.inl ⟨by kernel_rfl, ?_⟩) hHeld ?_
              rotate_left
              · (intro w hSw; (try dsimp only at hSw); go_simp; try with_reducible rfl)
              try simp only [Act.put, List.setIfInBounds_toArray, List.set_cons_zero, List.set_cons_succ]
              refine wpAnyH_done (by kernel_rfl) ?_ _
              clear hHeld
              try simp only [List.getElem_toArray, List.getElem_cons_zero, List.getElem_cons_succ, Act.put, List.setIfInBounds_toArray, List.set_cons_zero, List.set_cons_succ]
              refine NoPanic.normal ?_
              cases bq with
              | true =>
                have HQ := Lib.hid hbq
                clear hbq
                go_wp2_with fail
                go_ret
                have e : bldR [] l = 32 := by
                  have hm := HM.out
                  subst hm
                  refine chk_stop HZ.out hk ?_ (by decide)
                  rw [appR_at hk (by rw [HAE.out]; exact HOK.out), HPK.out, HAE.out, if_neg]
                  have := of_decide_eq_true HQ.out
                  omega
                exact ⟨by rw [e]; rfl, HB.out.trans ((HB4.out.trans (HB5.out.mono HB4.out.size)).mono hsz)⟩
              | false =>
                have HQ := Lib.hid hbq
                clear hbq
                go_wp2_with fail
                go_roundw
                case rel =>
                  refine ⟨k + 1, by omega, by go_num, fun j hj hjk => ?_, HB.out.trans ((HB4.out.trans (HB5.out.mono HB4.out.size)).mono hsz)⟩
                  by_cases e : j = k
                  · subst e
                    have hm := HM.out
                    subst hm
                    rw [appR_at hj (by rw [HAE.out]; exact HOK.out), HPK.out, HAE.out, if_pos]
                    have := of_decide_eq_false HQ.out
                    omega
                  · exact HZ.out j hj (by omega)
                case measure => simp [intOf]; omega
      · have HT := Lib.hid ht
        have HBAD := Lib.hid (chk_stop HZ.out hk (appR_bad (by rw [HAE.out]; exact okAc_f1 ht)) (by decide))
        clear ht
        go_wp2_with (go_at_call 32; refine (key_check a.key _ HAR.out.1).mono ?_; rintro e w2 ⟨rfl, hb2⟩; (try rw [if_neg HT.out]); obtain ⟨hc2, hf2⟩ := bcell hb2; have HB2 := Lib.hid hb2; have hbr2 : b < w2.heap.size := Nat.lt_of_lt_of_le hbr hb2.size; clear hb2)
        go_wp2_with fail
        go_ret
        exact ⟨by rw [HBAD.out]; rfl, HB.out.trans (HB2.out.mono hsz)⟩
    · have HI := Lib.hid (show k = l.length by omega)
      have HK := Lib.hid hk
      go_wp2
      go_ret
      have e : bldR [] l = 0 := chk_all fun j hj => HZ.out j hj (by have := HI.out; omega)
      exact ⟨by rw [e]; rfl, HB.out⟩
end Go.Proofs.YtobkmkplhbaepaaDoor
/- Walks of layer 46: known. -/
namespace Go.Proofs.YtobkmkplhbaepaaDoor
open Go.RowKit
set_option linter.unusedSimpArgs false
set_option linter.unusedVariables false
attribute [local go_sem ↓] Go.wp_at_zero Go.wp_at_succ
def knC : Ch := ⟨obC, [98], false⟩
def knA : Ac := ⟨⟨1, 0, 1, []⟩, [], [knC]⟩
def knB : Ac := ⟨⟨2, 0, 2, []⟩, [knC], []⟩
def knL : List Ac := [knA, knB]
def knS : St := [(obC, [97])]
theorem obC_ob : IsOb obC := by simp [IsOb, objs]
theorem knC_r : ChR knC := ⟨.inl obC_ob, by decide⟩
theorem kn_r : ∀ a ∈ knL, AcR a := by
  intro a ha
  simp only [knL, List.mem_cons, List.not_mem_nil, or_false] at ha
  rcases ha with rfl | rfl
  · exact ⟨by decide, by simp [knA], by simp [knA]; exact knC_r, by decide, by decide⟩
  · exact ⟨by decide, by simp [knB]; exact knC_r, by simp [knB], by decide, by decide⟩
theorem kn_bld : bldR [] knL = 0 := by decide
theorem kn_con : conS knS knL = 2 := by decide
theorem kn_bef : befr 1 (ver0 knS obC) (vers obC 0 knL) = ⟨0, [98], false⟩ := by decide
theorem kn_of : (verL knS knL obC).length = 2 := by decide
theorem kn_v : VOk knL := ⟨ok_all kn_bld, kn_r, by decide⟩
theorem kn_s : StV knS := by
  refine ⟨⟨by simp [knS], ?_⟩, ?_⟩
  · intro p hp; simp [knS] at hp; subst hp; exact obC_ob
  · intro p hp; simp [knS] at hp; subst hp; decide
theorem kn_sm : StSm [] := (show StV [] from ⟨⟨List.Pairwise.nil, by simp⟩, by simp⟩).sm
set_option maxRecDepth 100000 in
set_option maxHeartbeats 2000000 in
theorem known_is {w : World} (hu : UseAt w) : Calls Tryd.prog 7 #[] w fun e w' => e = .returned (.bool true) ∧ Below w.heap.size w w' := by
  have HU := Lib.hid hu
  clear hu
  go_enter Tryd.func7, Tryd.ntmps7
  go_wp2_with (go_at_call 26; refine (new_is w).mono ?_)
  rintro e w1 ⟨p, rfl, hp, hb1⟩
  go_wp2_with (go_at_call 28; refine (clock_is w1).mono ?_)
  rintro e w2 ⟨rfl, hb2⟩
  have HU2 := HU.out.next (hb1.trans (hb2.mono hb1.size)) HU.out.1
  go_wp2_with (go_at_call 27; refine (with_st (s := []) (n := obC) (v := [97]) (hp.next hb2) obC_ob HU2 (by decide) kn_sm).mono ?_)
  rintro e w3 ⟨q, rfl, hq, hb3⟩
  have HB3 := Lib.hid ((hb1.trans (hb2.mono hb1.size)).trans (hb3.mono (Nat.le_trans hb1.size hb2.size)))
  have HQ := Lib.hid (show StAt w3 q knS from hq)
  clear hb1 hb2 hb3 hp hq HU2
  go_wp2_with (go_at_call 28; refine (clock_is w3).mono ?_)
  rintro e w4 ⟨rfl, hb4⟩
  have HB4 := Lib.hid hb4
  clear hb4
  simp only [nmV, nmA]
  have ONCE : True := trivial
  go_wp2_with (clear ONCE; go_at_call 28; refine (clock_is _).mono ?_)
  rintro e w5 ⟨rfl, hb5⟩
  have HB5 := Lib.hid hb5
  clear hb5
  simp only [nmV, nmA]
  go_wp2_with fail
  have n1 : RdCh (w4.alloc (.cells (chC knC).toArray 52)) (.slice (some ⟨w4.heap.size, 0, none⟩) 1 1) [knC] := Rd.of_own (own_new w4 0 52 7 (chC knC) rfl (Nat.zero_le _))
  have b5 : Below (w4.alloc (.cells (chC knC).toArray 52)).heap.size (w4.alloc (.cells (chC knC).toArray 52)) w5 := HB5.out
  have n2 : RdCh (w5.alloc (.cells (chC knC).toArray 52)) (.slice (some ⟨w5.heap.size, 0, none⟩) 1 1) [knC] := Rd.of_own (own_new w5 0 52 7 (chC knC) rfl (Nat.zero_le _))
  have c1 := (Below.refl w5.heap.size w5).alloc (Nat.le_refl _) (.cells (chC knC).toArray 52)
  have hs1 : (w5.alloc (.cells (chC knC).toArray 52)).heap.size = w5.heap.size + 1 := by simp
  have n1' := RdP.next (RdP.next n1 b5) c1
  have b45 : Below w4.heap.size w4 w5 := ((Below.refl w4.heap.size w4).alloc (Nat.le_refl _) (.cells (chC knC).toArray 52)).trans (b5.mono (by simp))
  have hb : Below w3.heap.size w3 (w5.alloc (.cells (chC knC).toArray 52)) := HB4.out.trans ((b45.trans (c1.mono b45.size)).mono HB4.out.size)
  have hq := HQ.out.next hb
  have HBW := Lib.hid (HB3.out.trans (hb.mono HB3.out.size))
  have HU5 := HU.out.next HBW.out HU.out.1
  obtain ⟨us, hus⟩ : ∃ us : List (Value × Value), us = [(.slice none 0 0, .slice (some ⟨w4.heap.size, 0, none⟩) 1 1), (.slice (some ⟨w5.heap.size, 0, none⟩) 1 1, .slice none 0 0)] := ⟨_, rfl⟩
  have c2 := (Below.refl (w5.alloc (.cells (chC knC).toArray 52)).heap.size (w5.alloc (.cells (chC knC).toArray 52))).alloc (Nat.le_refl _) (.cells (rowC acC knL us).toArray 50)
  have hr : RdAc ((w5.alloc (.cells (chC knC).toArray 52)).alloc (.cells (rowC acC knL us).toArray 50)) (.slice (some ⟨w5.heap.size + 1, 0, none⟩) 2 2) knL := by
    have hn := heap_alloc_new (w5.alloc (.cells (chC knC).toArray 52)) (.cells (rowC acC knL us).toArray 50)
    rw [hs1] at hn
    refine ⟨us, ⟨by rw [hus]; rfl, ?_⟩, ⟨_, 2, rfl, Nat.le_refl _, by unfold maxLen; omega, .inr ⟨w5.heap.size + 1, 0, _, (0, 0), rfl, hn, fun j u hu => by simpa using hu⟩⟩⟩
    subst hus
    intro i x v h1 h2
    have hi : i < 2 := (List.getElem?_eq_some_iff.1 h1).1
    have hc : i = 0 ∨ i = 1 := by omega
    rcases hc with rfl | rfl
    · simp [knL] at h1 h2
      subst h1 h2
      exact ⟨RdP.nil, RdP.next n1' c2⟩
    · simp [knL] at h1 h2
      subst h1 h2
      exact ⟨RdP.next n2 c2, RdP.nil⟩
  have HBX := Lib.hid (HBW.out.trans (c2.mono HBW.out.size))
  have HB := Lib.hid (build_is (hq.next c2) hr (HU.out.next HBX.out HU.out.1) kn_r kn_s (by decide))
  clear n1 b5 c1 b45 hb HB3 HB4 HB5 HQ c2 hr hq n1' n2 hs1 HU5
  rw [hus] at HB HBX
  refine HB.out.mono ?_
  clear HB
  rintro e w6 ⟨hb6, ⟨_, g, F, rfl, hv6, _⟩ | ⟨hbad, _⟩⟩
  case inr => exact absurd kn_bld hbad
  have HB6 := Lib.hid (HBX.out.trans (hb6.mono HBX.out.size))
  have HV6 := Lib.hid hv6
  clear hb6 hv6 HBX hus HBW
  go_upto_region 6 with (first | (go_at_call 21; refine (vlen_is HV6.out).mono ?_; rintro e w' ⟨rfl, rfl⟩; rw [show ((knL.length : Nat) : Int) = 2 from rfl]) | (go_at_call 17; refine (consistent_is HV6.out kn_v).mono ?_; rintro e w7 ⟨rfl, hb7⟩; rw [kn_con]; have HB7 := Lib.hid hb7; clear hb7))
  have hv7 := HV6.out.next HB7.out
  refine (clock_is w7).mono ?_
  rintro e w8 ⟨rfl, hb8⟩
  have HV8 := Lib.hid (hv7.next hb8)
  have HB8 := Lib.hid (HB6.out.trans ((HB7.out.trans (hb8.mono HB7.out.size)).mono HB6.out.size))
  clear hv7 hb8 HV6 HB7 HB6
  go_wp2_with (go_at_call 29; refine (before_is (n := obC) 1 HV8.out rfl kn_v).mono ?_)
  rintro e w9 ⟨rfl, hb9⟩
  rw [if_pos (by decide), kn_bef]
  have HV9 := Lib.hid (HV8.out.next hb9)
  have HB9 := Lib.hid (HB8.out.trans (hb9.mono HB8.out.size))
  clear hb9 HV8 HB8
  have he : ∀ W : World, (binOp .eql 54 (.agg #[.int .i64 0, .string (bs [98]), .bool false]) (.agg #[.int .i64 0, .string ⟨#[98]⟩, .bool false])).run Tryd.prog W = .ok (.bool true) W := fun W => eqlVe ⟨0, [98], false⟩ ⟨0, [98], false⟩ true (by decide) W
  have hg := guardVe
  simp only [veV]
  have ONCE : True := trivial
  go_wp2_with (clear ONCE; go_at_call 28; refine (clock_is _).mono ?_)
  rintro e w10 ⟨rfl, hb10⟩
  have hb910 := ((Below.refl w9.heap.size w9).alloc (Nat.le_refl _) (.cells #[.int .i64 0, .string (bs [98]), .bool false] 54)).trans (hb10.mono (by simp))
  have HV10 := Lib.hid (HV9.out.next hb910)
  have HB10 := Lib.hid (HB9.out.trans (hb910.mono HB9.out.size))
  clear hb10 hb910 HV9 HB9
  go_wp2_with (go_at_call 18; refine (of_is (n := obC) HV10.out rfl kn_v).mono ?_)
  rintro e w11 ⟨v, rfl, hov, hb11⟩
  have HB11 := Lib.hid (HB10.out.trans (hb11.mono HB10.out.size))
  obtain ⟨A, c, rfl, hc⟩ := own_len hov
  rw [kn_of] at hc ⊢
  clear hov hb11
  go_wp2_with fail
  go_ret
  exact ⟨rfl, HB11.out⟩
end Go.Proofs.YtobkmkplhbaepaaDoor
