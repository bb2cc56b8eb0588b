/- The walk of the law DependReach. -/
import Derived.Test.YtmjkcanjfjfkfaaL2
import Derived.Test.YtmjkcanjfjfkfaaT19
import Derived.Test.YtmjkcanjfjfkfaaT20
namespace Go.Proofs.Ytmjkcanjfjfkfaa
open Go.RowKit
set_option linter.unusedSimpArgs false
set_option linter.unusedVariables false
attribute [local go_sem ↓] Go.wp_at_zero Go.wp_at_succ
theorem RdA.cut {w : World} {A : Option Addr} {c : Nat} {l : List Int} (h : RdA w (.slice A l.length c) l) (k : Nat) : RdA w (.slice A (l.take k).length c) (l.take k) := by
  obtain ⟨A', c', hv, hc, hm, h0⟩ := h
  injection hv with hv _ hcc
  subst hv hcc
  have hle : (l.take k).length ≤ l.length := List.length_take_le' k l
  refine ⟨A, c, rfl, Nat.le_trans hle hc, hm, ?_⟩
  rcases h0 with ⟨h1, h2⟩ | ⟨b, o, hA, hlt, hx⟩
  · left
    have : l = [] := List.length_eq_zero_iff.1 h1
    subst this
    simp
  · refine .inr ⟨b, o, hA, hlt, fun j u hu => hx j u ?_⟩
    rw [fm_in] at hu ⊢
    rw [List.map_take, List.getElem?_take] at hu
    split at hu
    · exact hu
    · cases hu
/-- The marks of a list. -/
def mkF (N : Nat) (xs : List Int) : List Bool := xs.foldl (fun m x => if inR N x then m.set x.toNat true else m) (List.replicate N false)
theorem mkF_snoc (N : Nat) (xs : List Int) (x : Int) : mkF N (xs ++ [x]) = if inR N x then (mkF N xs).set x.toNat true else mkF N xs := by unfold mkF; rw [List.foldl_append]; rfl
theorem mkF_of (N : Nat) (xs : List Int) : (mkF N xs).length = N ∧ ∀ j : Int, 0 ≤ j → j < (N : Int) → (mkd (mkF N xs) j = true ↔ j ∈ xs) := by
  induction h : xs.length generalizing xs with
  | zero =>
    obtain rfl : xs = [] := List.length_eq_zero_iff.1 h
    refine ⟨by simp [mkF], fun j h0 h1 => ?_⟩
    unfold mkF mkd
    simp only [List.foldl_nil, List.not_mem_nil, iff_false]
    rw [List.getD_eq_getElem?_getD, List.getElem?_replicate]
    split <;> simp
  | succ n ih =>
    obtain ⟨ys, x, rfl⟩ : ∃ ys x, xs = ys ++ [x] := by
      refine ⟨xs.dropLast, xs.getLast (by intro e; rw [e] at h; cases h), ?_⟩
      exact (List.dropLast_concat_getLast _).symm
    obtain ⟨h1, h2⟩ := ih ys (by simpa using h)
    rw [mkF_snoc]
    cases hr : inR N x with
    | true =>
      simp only [if_true]
      unfold inR at hr
      simp only [Bool.and_eq_true, decide_eq_true_eq] at hr
      refine ⟨by rw [List.length_set]; exact h1, fun j j0 j1 => ?_⟩
      rw [mk_set (by rw [h1]; omega) j0, Int.toNat_of_nonneg hr.1]
      by_cases e : j = x
      · subst e; simp
      · rw [if_neg e, h2 j j0 j1]; simp [e]
    | false =>
      simp only [Bool.false_eq_true, if_false]
      refine ⟨h1, fun j j0 j1 => ?_⟩
      rw [h2 j j0 j1, List.mem_append, List.mem_singleton]
      constructor
      · exact .inl
      · rintro (h3 | rfl)
        · exact h3
        · unfold inR at hr
          rw [decide_eq_true j0, decide_eq_true j1] at hr
          cases hr
def drRel (N : Nat) (xs : List Int) (w1 : World) (g : Nat) (v9 v10 : Value) (wr : World) : Prop := ∃ k : Nat, k ≤ xs.length ∧ v10 = .int .i64 (k : Int) ∧ v9 = .bool ((xs.take k).all (inR N)) ∧ Row1 4 bV wr w1.heap.size g N N (mkF N (xs.take k)) ∧ Below w1.heap.size w1 wr
theorem all_snoc {α : Type} (p : α → Bool) (l : List α) (x : α) : (l ++ [x]).all p = (l.all p && p x) := by rw [List.all_append]; simp
set_option maxRecDepth 100000 in
set_option maxHeartbeats 8000000 in
theorem law_reach {w : World} {u : Value} {ds : List De} (hd : DeAt w.heap.size w u ds) {vl : Value} {is : List Int} (hi : InAt w.heap.size w vl is) : Calls Try.prog 7 #[.agg #[u], vl] w fun e w' => e = .returned (.bool true) ∧ Below w.heap.size w w' := by
  obtain ⟨A, c, rfl, hc, hcm⟩ := Ra.form hd.1
  obtain ⟨Al, cl, rfl, hcl, hclm⟩ := Ra.form hi
  have hcl63 : cl ≤ 9223372036854775807 := by unfold maxLen at hclm; omega
  have HX0 := Lib.hid (show RdA w (.slice Al is.length cl) is from hi)
  have ha0 := (Below.refl w.heap.size w).alloc (Nat.le_refl _) (.cells #[.slice A ds.length c] 24)
  have x0 := (Blk.new w 24 #[.slice A ds.length c]).cell 0
  simp only [List.getElem?_toArray, List.getElem?_cons_zero] at x0
  have HD0 := Lib.hid (hd.next ha0 ha0.size)
  have HA0 := Lib.hid ha0
  have HDD : Hid (DeOk ds) := Lib.hid hd.2
  have hrun := run_is 0 0 HD0.out (by decide) (by decide)
  rw [show ((0 : Nat) : Int) = 0 from rfl] at hrun
  have HRUN := Lib.hid hrun
  clear hd ha0 hrun HD0 hi hclm
  go_enter Try.func7, Try.ntmps7
  go_wp2_with fail
  go_at_call 9
  refine HRUN.out.mono ?_
  rintro e w1 ⟨v, rfl, hrd, hb⟩
  have HF1 := Lib.hid (HA0.out.trans (hb.mono HA0.out.size))
  obtain ⟨l, hll⟩ : ∃ l, runS ds 0 0 = l := ⟨_, rfl⟩
  obtain ⟨g1, g2, g3, g4⟩ := runS_good HDD.out 0 0
  rw [hll] at hrd g1 g2 g3 g4
  have HR := Lib.hid g2
  have HO := Lib.hid g3
  have HL := Lib.hid g4
  have HB := Lib.hid (dbuild_is hrd g1 g2 g3 (by omega))
  have HL0 := Lib.hid hrd
  obtain ⟨A1, c1, rfl, hc1⟩ := RowRd.form hrd
  clear hrd hb g1 g2 g3 hll x0 HRUN
  go_wp2_with fail
  go_at_call 10
  refine HB.out.mono ?_
  rintro e w2 ⟨g, rfl, hg, hb⟩
  have HF := Lib.hid (HF1.out.trans (hb.mono HF1.out.size))
  have HG := Lib.hid hg
  have HL1 := Lib.hid (HL0.out.next hb)
  clear hg hb HB HL0 HF1
  have HR10 := Lib.hid (fun a (ha : a ∈ l) => (HR.out a ha).2.2.2.1)
  go_wp2_with fail
  go_at_call 12
  refine (known47_is _).mono ?_
  rintro e w4 ⟨rfl, hb⟩
  have HF4 := Lib.hid (HF.out.trans (hb.mono HF.out.size))
  have HL4 := Lib.hid (HL1.out.next hb)
  have HG4 := Lib.hid (HG.out.next hb)
  have HX4 := Lib.hid (RdA.next (RdA.cut HX0.out 10) HF4.out)
  clear hb HG HL1 HF
  obtain ⟨xs, hxs⟩ : ∃ xs, is.take 10 = xs := ⟨_, rfl⟩
  have HXL := Lib.hid (show xs.length = min 10 is.length by rw [← hxs, List.length_take])
  rw [hxs] at HX4
  have hx10 : xs.length ≤ 10 := by rw [← hxs, List.length_take]; omega
  clear hxs
  go_upto_region 5 with (fail)
  go_cut [1] (fun v1 wx => v1 = .slice Al xs.length cl ∧ w4 = wx)
  case first =>
    by_cases h10 : 10 < is.length
    · have k1 : decide ((10 : Int) < (is.length : Int)) = true := decide_eq_true (by omega)
      have k2 : decide (10 < is.length) = true := decide_eq_true h10
      have k3 : ¬ is.length ≤ 10 := by omega
      have k4 : decide (is.length ≤ 10) = false := decide_eq_false (by omega)
      have hcl10 : 10 ≤ cl := by omega
      have HXE := Lib.hid (show xs.length = 10 by rw [HXL.out]; omega)
      go_wp2_with fail
      go_meet
      case rel => exact ⟨by rw [HXE.out]; congr 1; omega, rfl⟩
    · have k1 : decide ((10 : Int) < (is.length : Int)) = false := decide_eq_false (by omega)
      have k2 : decide (10 < is.length) = false := decide_eq_false h10
      have k3 : is.length ≤ 10 := by omega
      have k4 : decide (is.length ≤ 10) = true := decide_eq_true (by omega)
      have HXE := Lib.hid (show xs.length = is.length by rw [HXL.out]; omega)
      go_wp2_with fail
      go_meet
      case rel => exact ⟨by rw [HXE.out]; congr 1; omega, rfl⟩
  case rest =>
  obtain ⟨rfl, rfl⟩ := hcut
  have hmk := make_bools w4 l.length (by omega)
  have hab := (Below.refl w4.heap.size w4).alloc (Nat.le_refl _) (.cells (madeCells #[.bool false] l.length) 4)
  have H0 : Hid (drRel l.length xs w4 w4.heap.size (.bool true) (.int .i64 (0 : Nat)) (w4.alloc (.cells (madeCells #[.bool false] l.length) 4))) := Lib.hid ⟨0, Nat.zero_le _, rfl, rfl, made_bools w4 l.length (by omega), hab⟩
  clear hab
  go_upto_region 7 with (fail)
  clear hmk
  generalize w4.alloc (.cells (madeCells #[.bool false] l.length) 4) = w5 at *
  obtain ⟨mg, hmg⟩ : ∃ mg, w4.heap.size = mg := ⟨_, rfl⟩
  rw [show drRel l.length xs w4 w4.heap.size (.bool true) (.int .i64 (0 : Nat)) w5 = drRel l.length xs w4 mg (.bool true) (.int .i64 (0 : Nat)) w5 by rw [hmg]] at H0
  rw [hmg]
  clear hmg
  go_wp2_with fail
  go_loopw [9, 10] (fun v9 v10 wr => drRel l.length xs w4 mg v9 v10 wr) (fun _ v10 _ => xs.length - (intOf v10).toNat)
  case atStart => exact H0.out
  case round =>
    clear H0
    obtain ⟨k, hk, rfl, rfl, hrow, hB⟩ := hrel
    have HRW := Lib.hid hrow
    have HB := Lib.hid hB
    clear hrow hB
    by_cases hkx : k < xs.length
    · have j1 : decide ((k : Int) < (xs.length : Int)) = true := decide_eq_true (by omega)
      have j2 : (0 : Int) ≤ (k : Int) := by omega
      have j3 : (k : Int) < (xs.length : Int) := by omega
      obtain ⟨xb, xo, rfl, hxb, y0⟩ := RdA.piece (RdA.next HX4.out HB.out) hkx
      have HTA := Lib.hid (show (xs.take (k + 1)).all (inR l.length) = ((xs.take k).all (inR l.length) && inR l.length xs[k]) by rw [List.take_succ_eq_append_getElem hkx, all_snoc])
      have HTM := Lib.hid (show mkF l.length (xs.take (k + 1)) = if inR l.length xs[k] then (mkF l.length (xs.take k)).set xs[k].toNat true else mkF l.length (xs.take k) by rw [List.take_succ_eq_append_getElem hkx, mkF_snoc])
      obtain ⟨x, hx⟩ : ∃ x, xs[k] = x := ⟨_, rfl⟩
      rw [hx] at y0 HTA HTM
      obtain ⟨fa, hfa⟩ : ∃ fa, (xs.take k).all (inR l.length) = fa := ⟨_, rfl⟩
      rw [hfa] at HTA ⊢
      have HKX := Lib.hid hkx
      clear hx hfa
      by_cases h0 : x < 0
      · have e0 : decide (x < 0) = true := decide_eq_true h0
        have HIR := Lib.hid (show inR l.length x = false by unfold inR; rw [decide_eq_false (by omega)]; rfl)
        go_wp2_with fail
        go_roundw
        case rel => exact ⟨k + 1, HKX.out, by go_num, by rw [HTA.out, HIR.out, Bool.and_false], by rw [HTM.out, HIR.out]; exact HRW.out, HB.out⟩
        case measure => have := HKX.out; simp [intOf]; omega
      · have e0 : decide (x < 0) = false := decide_eq_false h0
        by_cases h1 : x < (l.length : Int)
        · have e1 : decide ((l.length : Int) ≤ x) = false := decide_eq_false (by omega)
          have HIR := Lib.hid (show inR l.length x = true by unfold inR; rw [decide_eq_true (by omega), decide_eq_true h1]; rfl)
          obtain ⟨q, hq⟩ : ∃ q : Nat, x = (q : Int) := ⟨x.toNat, by omega⟩
          subst hq
          have hql : q < l.length := by omega
          have e2 : decide (l.length ≤ q) = false := decide_eq_false (by omega)
          have q1 : (0 : Int) ≤ (q : Int) := by omega
          have zq := HRW.out.mk hql
          have ff := HRW.out.frozen (by omega) q
          have HRS := Lib.hid (HRW.out.set hql true)
          have HBS := Lib.hid (HB.out.setCell (p := ⟨mg, q, none⟩) (HRW.out.low (by omega)) (.bool true))
          obtain ⟨z, hz⟩ : ∃ z, mkd (mkF l.length (xs.take k)) (q : Int) = z := ⟨_, rfl⟩
          rw [hz] at zq
          clear hz HRW HB h0
          go_wp2_with fail
          go_roundw
          case rel => exact ⟨k + 1, HKX.out, by go_num, by rw [HTA.out, HIR.out, Bool.and_true], by rw [HTM.out, HIR.out]; exact HRS.out, HBS.out⟩
          case measure => have := HKX.out; simp [intOf]; omega
        · have e1 : decide ((l.length : Int) ≤ x) = true := decide_eq_true (by omega)
          have HIR := Lib.hid (show inR l.length x = false by unfold inR; rw [decide_eq_false h1, Bool.and_false])
          go_wp2_with fail
          go_roundw
          case rel => exact ⟨k + 1, HKX.out, by go_num, by rw [HTA.out, HIR.out, Bool.and_false], by rw [HTM.out, HIR.out]; exact HRW.out, HB.out⟩
          case measure => have := HKX.out; simp [intOf]; omega
    · have j1 : decide ((k : Int) < (xs.length : Int)) = false := decide_eq_false (by omega)
      have HTE := Lib.hid (show xs.take k = xs from List.take_of_length_le (by omega))
      rw [HTE.out] at HRW ⊢
      obtain ⟨fa, hfa⟩ : ∃ fa, xs.all (inR l.length) = fa := ⟨_, rfl⟩
      have HFA := Lib.hid hfa
      have HCK := Lib.hid (show chk2 l.length xs = if fa then 0 else 2 by unfold chk2; rw [hfa])
      have hl100 : l.length ≤ 100 := by omega
      have HCA := Lib.hid (causes_is (HG4.out.next HB.out) (RdA.next HX4.out HB.out) hl100 HR10.out (by omega))
      rw [HCK.out] at HCA
      rw [hfa]
      clear hfa
      cases fa with
      | false =>
        simp only [Bool.false_eq_true, if_false] at HCA
        go_wp2_with fail
        go_at_call 21
        refine HCA.out.mono ?_
        rintro e w6 ⟨v11, rfl, hr1, hb⟩
        obtain ⟨A6, c6, rfl, hc6⟩ := RdP.form hr1
        have B6 := Lib.hid (HB.out.trans (hb.mono HB.out.size))
        have HEF := Lib.hid (effects_is (HG4.out.next B6.out) (RdA.next HX4.out B6.out) hl100 HR10.out (by omega))
        rw [HCK.out] at HEF
        simp only [Bool.false_eq_true, if_false] at HEF
        clear hb hr1 HCA
        go_wp2_with fail
        go_at_call 29
        refine HEF.out.mono ?_
        rintro e w7 ⟨v13, rfl, hr1, hb⟩
        obtain ⟨A7, c7, rfl, hc7⟩ := RdP.form hr1
        have B7 := Lib.hid (B6.out.trans (hb.mono B6.out.size))
        have HEC := Lib.hid (closed_is (HG4.out.next B7.out) (RdA.next HX4.out B7.out) hl100 HR10.out (by omega))
        rw [HCK.out] at HEC
        simp only [Bool.false_eq_true, if_false] at HEC
        clear hb hr1 HEF
        go_wp2_with fail
        go_at_call 30
        refine HEC.out.mono ?_
        rintro e w8 ⟨v15, rfl, hr1, hb⟩
        obtain ⟨A8, c8, rfl, hc8⟩ := RdP.form hr1
        have B8 := Lib.hid (B7.out.trans (hb.mono B7.out.size))
        clear hb hr1 HEC
        go_wp2_with fail
        go_ret
        exact ⟨rfl, HF4.out.trans (B8.out.mono HF4.out.size)⟩
      | true =>
        have HXR := Lib.hid (chk2_rg (N := l.length) (xs := xs) (by rw [HCK.out]; rfl))
        have HMO : Hid (MkOf (mkF l.length xs) xs l.length) := Lib.hid (mkF_of l.length xs)
        have HLG := Lib.hid (lst_grt HMO.out HXR.out)
        have HLL := Lib.hid (grt_bd HXR.out)
        simp only [if_true] at HCA
        have MR := Lib.hid HRW.out.rd
        go_wp2_with fail
        go_at_call 21
        refine HCA.out.mono ?_
        rintro e w6 ⟨v11, rfl, hr1, hb⟩
        have B6 := Lib.hid (HB.out.trans (hb.mono HB.out.size))
        have M6 := Lib.hid (HRW.out.next hb)
        have HEF := Lib.hid (effects_is (HG4.out.next B6.out) (RdA.next HX4.out B6.out) hl100 HR10.out (by omega))
        rw [HCK.out] at HEF
        simp only [if_true] at HEF
        obtain ⟨S1, hS1⟩ : ∃ S1, seaS (stpC l) (fun _ => none) l.length (fun _ => []) xs = S1 := ⟨_, rfl⟩
        have HS1 := Lib.hid hS1
        rw [hS1] at hr1
        obtain ⟨A6, c6, rfl, hc6⟩ := RdP.form hr1
        have R1 := Lib.hid hr1
        clear hb hr1 HCA hS1
        go_wp2_with fail
        go_at_call 29
        refine HEF.out.mono ?_
        rintro e w7 ⟨v13, rfl, hr1, hb⟩
        have B7 := Lib.hid (B6.out.trans (hb.mono B6.out.size))
        have M7 := Lib.hid (M6.out.next hb)
        have R1b := Lib.hid (RdP.next R1.out hb)
        have HEC := Lib.hid (closed_is (HG4.out.next B7.out) (RdA.next HX4.out B7.out) hl100 HR10.out (by omega))
        rw [HCK.out] at HEC
        simp only [if_true] at HEC
        obtain ⟨S2, hS2⟩ : ∃ S2, seaS (stpE l) (fun _ => none) l.length (fun _ => []) xs = S2 := ⟨_, rfl⟩
        have HS2 := Lib.hid hS2
        rw [hS2] at hr1
        obtain ⟨A7, c7, rfl, hc7⟩ := RdP.form hr1
        have R2 := Lib.hid hr1
        clear hb hr1 HEF hS2 R1 M6
        go_wp2_with fail
        go_at_call 30
        refine HEC.out.mono ?_
        rintro e w8 ⟨v15, rfl, hr1, hb⟩
        have B8 := Lib.hid (B7.out.trans (hb.mono B7.out.size))
        have M8 := Lib.hid (M7.out.next hb)
        have R1c := Lib.hid (RdP.next R1b.out hb)
        have R2b := Lib.hid (RdP.next R2.out hb)
        obtain ⟨S3, hS3⟩ : ∃ S3, seaS (stpC l) (prK (l.map Ac.key)) l.length (trn ((l.map Ac.key).take (grtS xs + 1).toNat)) xs = S3 := ⟨_, rfl⟩
        have HS3 := Lib.hid hS3
        rw [hS3] at hr1
        obtain ⟨A8, c8, rfl, hc8⟩ := RdP.form hr1
        have R3 := Lib.hid hr1
        have HMR := Lib.hid (fun (W : World) (h : Row1 4 bV W w4.heap.size mg l.length l.length (mkF l.length xs)) => show Rd 4 W (.slice (some ⟨mg, 0, none⟩) l.length l.length) (mkF l.length xs).length ((mkF l.length xs).map bV) from by rw [HMO.out.1]; exact h.rd)
        clear hb hr1 HEC hS3 R1b R2 M7
        go_wp2_with fail
        go_at_call 32
        refine (rreach_is (HL4.out.next B8.out) HR.out HO.out HL.out (HMR.out _ M8.out) HMO.out.1 false false).mono ?_
        rintro e w9 ⟨vr, out, rfl, hro, hrp, hb⟩
        have hoe : S1 = out := by
          refine Eq.symm ?_
          rw [← HS1.out]
          exact rch_causes hrp HMO.out HXR.out
        subst hoe
        have hol : S1.length ≤ 1000000 := by
          obtain ⟨m, _, hm2, _⟩ := hrp
          rw [hm2]
          have h1 := outS_len m (l.map Ac.key).length
          rw [List.length_map] at h1 ⊢
          omega
        have B9 := Lib.hid (B8.out.trans (hb.mono B8.out.size))
        have M9 := Lib.hid (M8.out.next hb)
        have hq := eqint_is (RdP.next R1c.out hb) hro hol hol
        rw [show decide (S1 = S1) = true from decide_eq_true rfl] at hq
        have HQ8 := Lib.hid hq
        have R2bn8 := Lib.hid (RdP.next R2b.out hb)
        have R3n8 := Lib.hid (RdP.next R3.out hb)
        clear hro hrp hb hq hol
        go_wp2_with fail
        go_at_call 31
        refine HQ8.out.mono ?_
        rintro e w10 ⟨rfl, hb⟩
        have B10 := Lib.hid (B9.out.trans (hb.mono B9.out.size))
        have M10 := Lib.hid (M9.out.next hb)
        have R2bn9 := Lib.hid (RdP.next R2bn8.out hb)
        have R3n9 := Lib.hid (RdP.next R3n8.out hb)
        clear hb HQ8 M8 M9
        go_wp2_with fail
        go_at_call 32
        refine (rreach_is (HL4.out.next B10.out) HR.out HO.out HL.out (HMR.out _ M10.out) HMO.out.1 true false).mono ?_
        rintro e w11 ⟨vr, out, rfl, hro, hrp, hb⟩
        have hoe : S2 = out := by
          refine Eq.symm ?_
          rw [← HS2.out]
          exact rch_effects hrp HMO.out HXR.out
        subst hoe
        have hol : S2.length ≤ 1000000 := by
          obtain ⟨m, _, hm2, _⟩ := hrp
          rw [hm2]
          have h1 := outS_len m (l.map Ac.key).length
          rw [List.length_map] at h1 ⊢
          omega
        have B11 := Lib.hid (B10.out.trans (hb.mono B10.out.size))
        have M11 := Lib.hid (M10.out.next hb)
        have hq := eqint_is (RdP.next R2bn9.out hb) hro hol hol
        rw [show decide (S2 = S2) = true from decide_eq_true rfl] at hq
        have HQ10 := Lib.hid hq
        have R3n9n10 := Lib.hid (RdP.next R3n9.out hb)
        clear hro hrp hb hq hol
        go_wp2_with fail
        go_at_call 31
        refine HQ10.out.mono ?_
        rintro e w12 ⟨rfl, hb⟩
        have B12 := Lib.hid (B11.out.trans (hb.mono B11.out.size))
        have M12 := Lib.hid (M11.out.next hb)
        have R3n9n11 := Lib.hid (RdP.next R3n9n10.out hb)
        clear hb HQ10 M10 M11
        go_wp2_with fail
        go_at_call 32
        refine (rreach_is (HL4.out.next B12.out) HR.out HO.out HL.out (HMR.out _ M12.out) HMO.out.1 false true).mono ?_
        rintro e w13 ⟨vr, out, rfl, hro, hrp, hb⟩
        have hoe : S3 = out := by
          refine Eq.symm ?_
          obtain ⟨L, hL1, hL2⟩ := HLL.out
          rw [HLG.out] at hrp
          rw [← HS3.out]
          exact rch_closed (by omega) hrp HMO.out HXR.out
        subst hoe
        have hol : S3.length ≤ 1000000 := by
          obtain ⟨m, _, hm2, _⟩ := hrp
          rw [hm2]
          have h1 := outS_len m (l.map Ac.key).length
          rw [List.length_map] at h1 ⊢
          omega
        have B13 := Lib.hid (B12.out.trans (hb.mono B12.out.size))
        have M13 := Lib.hid (M12.out.next hb)
        have hq := eqint_is (RdP.next R3n9n11.out hb) hro hol hol
        rw [show decide (S3 = S3) = true from decide_eq_true rfl] at hq
        have HQ12 := Lib.hid hq
        clear hro hrp hb hq hol
        go_wp2_with fail
        go_at_call 31
        refine HQ12.out.mono ?_
        rintro e w14 ⟨rfl, hb⟩
        have B14 := Lib.hid (B13.out.trans (hb.mono B13.out.size))
        have M14 := Lib.hid (M13.out.next hb)
        clear hb HQ12 M12 M13
        go_wp2_with fail
        go_ret
        exact ⟨rfl, HF4.out.trans (B14.out.mono HF4.out.size)⟩
theorem law_reach_at (w : World) {u : Value} {ds : List De} (hd : DeAt w.heap.size w u ds) {vl : Value} {is : List Int} (hi : InAt w.heap.size w vl is) : Calls Try.prog 7 #[.agg #[u], vl] w fun e w' => e = .returned (.bool true) ∧ Below w.heap.size w w' := law_reach hd hi
end Go.Proofs.Ytmjkcanjfjfkfaa
