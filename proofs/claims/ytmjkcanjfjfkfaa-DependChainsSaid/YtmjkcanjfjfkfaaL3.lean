/- The walk of the law DependLinks. -/
import Derived.Test.YtmjkcanjfjfkfaaL2
import Derived.Test.YtmjkcanjfjfkfaaT15
import Derived.Test.YtmjkcanjfjfkfaaP6
namespace Go.Proofs.Ytmjkcanjfjfkfaa
open Go.RowKit
set_option linter.unusedSimpArgs false
set_option linter.unusedVariables false
attribute [local go_sem ↓] Go.wp_at_zero Go.wp_at_succ
def Ap (u v : Value) : Prop := u.ownBlock = none ∨ u.ownBlock ≠ v.ownBlock
theorem ap_new {W : World} {base s n : Nat} {e : TypeId} {v v' u : Value} {xs : List Value} (hu : W.ownsRow base e s u n xs) (h : Ap v u ∧ Ap u v) (hat : AtOr W v v') : Ap v' u ∧ Ap u v' := by
  have hne : u.ownBlock ≠ some W.heap.size := fun e => by
    obtain ⟨cur, hc⟩ := own_cells_of hu e
    have := (Array.getElem?_eq_some_iff.1 hc).1
    omega
  rcases hat with h1 | h1
  · unfold Ap at h ⊢
    rw [h1]
    exact h
  · exact ⟨.inr (by rw [h1]; exact fun e => hne e.symm), .inr (by rw [h1]; exact hne)⟩
def pS (F : List Lk) (i m : Nat) : List Lk := (F.take m).filter fun x => decide (x.to_ = (i : Int)) && decide (0 ≤ x.frm)
def pU (F : List Lk) (i m : Nat) : List Lk := (F.take m).filter fun x => decide (x.frm = (i : Int))
def lk3Rel (w : World) (F : List Lk) (i : Nat) (v8 v9 v10 : Value) (wr : World) : Prop := ∃ m : Nat, m ≤ F.length ∧ v10 = .int .i64 (m : Int) ∧ OwnK wr w.heap.size v8 (pS F i m) ∧ OwnK wr w.heap.size v9 (pU F i m) ∧ (Ap v8 v9 ∧ Ap v9 v8) ∧ Below w.heap.size w wr
def lo3Rel (w : World) (N : Nat) (v7 : Value) (wr : World) : Prop := ∃ i : Nat, i ≤ N ∧ v7 = .int .i64 (i : Int) ∧ Below w.heap.size w wr
set_option maxRecDepth 100000 in
set_option maxHeartbeats 8000000 in
theorem law_links {w : World} {u : Value} {ds : List De} (hd : DeAt w.heap.size w u ds) : Calls Try.prog 6 #[.agg #[u]] w fun e w' => e = .returned (.bool true) ∧ Below w.heap.size w w' := by
  obtain ⟨A, c, rfl, hc, hcm⟩ := Ra.form hd.1
  have ha0 := (Below.refl w.heap.size w).alloc (Nat.le_refl _) (.cells #[.slice A ds.length c] 24)
  have x0 := (Blk.new w 24 #[.slice A ds.length c]).cell 0
  simp only [List.getElem?_toArray, List.getElem?_cons_zero] at x0
  have HD0 := Lib.hid (hd.next ha0 ha0.size)
  have HA0 := Lib.hid ha0
  have HDD : Hid (DeOk ds) := Lib.hid hd.2
  have hrun := run_is 0 0 HD0.out (by decide) (by decide)
  rw [show ((0 : Nat) : Int) = 0 from rfl] at hrun
  have HRUN := Lib.hid hrun
  clear hd ha0 hrun HD0
  go_enter Try.func6, Try.ntmps6
  go_wp2_with fail
  go_at_call 9
  refine HRUN.out.mono ?_
  rintro e w1 ⟨v, rfl, hrd, hb⟩
  have HF1 := Lib.hid (HA0.out.trans (hb.mono HA0.out.size))
  obtain ⟨l, hll⟩ : ∃ l, runS ds 0 0 = l := ⟨_, rfl⟩
  obtain ⟨g1, g2, g3, g4⟩ := runS_good HDD.out 0 0
  rw [hll] at hrd g1 g2 g3 g4
  have HR := Lib.hid g2
  have HO := Lib.hid g3
  have HL := Lib.hid g4
  have HB := Lib.hid (dbuild_is hrd g1 g2 g3 (by omega))
  have HL0 := Lib.hid hrd
  obtain ⟨A1, c1, rfl, hc1⟩ := RowRd.form hrd
  clear hrd hb g1 g2 g3 hll x0 HRUN
  go_wp2_with fail
  go_at_call 10
  refine HB.out.mono ?_
  rintro e w2 ⟨g, rfl, hg, hb⟩
  have HF := Lib.hid (HF1.out.trans (hb.mono HF1.out.size))
  have HG := Lib.hid hg
  have HL1 := Lib.hid (HL0.out.next hb)
  clear hg hb HB HL0 HF1
  have HR10 := Lib.hid (fun a (ha : a ∈ l) => (HR.out a ha).2.2.2.1)
  obtain ⟨F, hF⟩ : ∃ F, (lnkD l).flatten = F := ⟨_, rfl⟩
  have hfl : F.length ≤ 350 := by
    have := flat_le HR10.out l.length (Nat.le_refl _)
    rw [List.take_of_length_le (Nat.le_refl _), hF] at this
    have := HL.out
    omega
  have HFF := Lib.hid hF
  have HFL := Lib.hid hfl
  have hRL := rlinks_is HL1.out HR.out HO.out HL.out
  rw [hF] at hRL
  have HRL := Lib.hid hRL
  clear hF hRL hfl
  go_wp2_with fail
  go_at_call 14
  refine HRL.out.mono ?_
  rintro e w3 ⟨v6, rfl, hlk, hb⟩
  obtain ⟨A6, c6, rfl, hc6⟩ := RdP.form hlk
  have L3 := Lib.hid hlk
  have P3 := Lib.hid hb
  clear hlk hb HRL
  go_wp2_with fail
  go_at_call 12
  refine (known47_is _).mono ?_
  rintro e w4 ⟨rfl, hb⟩
  have L4 := Lib.hid (RdP.next L3.out hb)
  have P4 := Lib.hid (P3.out.trans (hb.mono P3.out.size))
  clear hb L3 P3
  have cq : ((l.length : Int) == (l.length : Int)) = true := beq_self_eq_true _
  go_wp2_with fail
  go_at_call 25
  refine (glen_is (HG.out.next P4.out)).mono ?_
  rintro e w' ⟨rfl, rfl⟩
  go_wp2_with fail
  go_at_call 26
  refine (glinks_is (HG.out.next P4.out) (Nat.le_trans HL.out (by decide)) HR10.out).mono ?_
  rintro e w5 ⟨v43, rfl, hlk, hb⟩
  rw [HFF.out] at hlk
  have heq := eqlk_is hlk (RdP.next L4.out hb) (Nat.le_trans HFL.out (by decide)) (Nat.le_trans HFL.out (by decide))
  rw [show decide (F = F) = true from decide_eq_true rfl] at heq
  have HEQ := Lib.hid heq
  have L5 := Lib.hid (RdP.next L4.out hb)
  have P5 := Lib.hid (P4.out.trans (hb.mono P4.out.size))
  clear hlk hb L4 P4 heq
  go_wp2_with fail
  go_at_call 15
  refine HEQ.out.mono ?_
  rintro e w6 ⟨rfl, hb⟩
  have L6 := Lib.hid (RdP.next L5.out hb)
  have P6 := Lib.hid (P5.out.trans (hb.mono P5.out.size))
  clear hb L5 P5 HEQ
  have HG6 := Lib.hid (HG.out.next P6.out)
  have HF6 := Lib.hid (HF.out.trans (P6.out.mono HF.out.size))
  have H0 : Hid (lo3Rel w6 l.length (.int .i64 (0 : Nat)) w6) := Lib.hid ⟨0, Nat.zero_le _, rfl, Below.refl _ _⟩
  go_wp2_with fail
  go_loopw [7] (fun v7 wr => lo3Rel w6 l.length v7 wr) (fun v7 _ => 35 - (intOf v7).toNat)
  case atStart => exact H0.out
  case round =>
    clear H0
    obtain ⟨i, hi, rfl, hB⟩ := hrel
    have HB := Lib.hid hB
    clear hB
    by_cases hil : i < l.length
    · have e1 : decide ((i : Int) < (l.length : Int)) = true := decide_eq_true (by omega)
      have HIL := Lib.hid hil
      have H1 : Hid (lk3Rel w6 F i (.slice none 0 0) (.slice none 0 0) (.int .i64 (0 : Nat)) wr) := Lib.hid ⟨0, Nat.zero_le _, rfl, World.ownsRow_nil _ _ _ _, World.ownsRow_nil _ _ _ _, ⟨.inl rfl, .inl rfl⟩, HB.out⟩
      go_wp2_with fail
      go_loopw [8, 9, 10] (fun v8 v9 v10 wr => lk3Rel w6 F i v8 v9 v10 wr) (fun _ _ v10 _ => 350 - (intOf v10).toNat)
      case atStart => exact H1.out
      case round =>
        clear H1
        obtain ⟨m, hm, rfl, hs, hu, hap, hB2⟩ := hrel
        have HB2 := Lib.hid hB2
        have HS := Lib.hid hs
        have HU := Lib.hid hu
        have HAP := Lib.hid hap
        obtain ⟨A8, c8, rfl, _⟩ := own_len hs
        obtain ⟨A9, c9, rfl, _⟩ := own_len hu
        clear hB2 hs hu hap
        by_cases hmF : m < F.length
        · have hm350 : m ≤ 350 := by have := HFL.out; omega
          have j1 : decide ((m : Int) < (F.length : Int)) = true := decide_eq_true (by omega)
          have j2 : decide (m < F.length) = true := decide_eq_true hmF
          have j3 : (0 : Int) ≤ (m : Int) := by omega
          have j4 : (m : Int) < (F.length : Int) := by omega
          obtain ⟨xb, xo, rfl, hxb, y0, y1, y2, y3, y4, y5, y6⟩ := RdLk.piece (RdP.next L6.out HB2.out) hmF
          obtain ⟨x, hx⟩ : ∃ x, F[m] = x := ⟨_, rfl⟩
          have HX := Lib.hid hx
          have HMF := Lib.hid hmF
          rw [hx] at y0 y1 y2 y3 y4 y5 y6
          have YY := Lib.hid (fun W (hW : Below w6.heap.size w6 W) => show W.cell? ⟨xb, xo + m * 7, none⟩ = some (.int .i64 x.frm) ∧ W.cell? ⟨xb, xo + m * 7 + 1, none⟩ = some (.int .i64 x.to_) ∧ W.cell? ⟨xb, xo + m * 7 + 2, none⟩ = some (.int .i64 x.name.kind) ∧ W.cell? ⟨xb, xo + m * 7 + 3, none⟩ = some (.string (bs x.name.owner)) ∧ W.cell? ⟨xb, xo + m * 7 + 4, none⟩ = some (.int .i64 x.name.num) ∧ W.cell? ⟨xb, xo + m * 7 + 5, none⟩ = some (.int .i64 x.name.idx) ∧ W.cell? ⟨xb, xo + m * 7 + 6, none⟩ = some (.string (bs x.name.text)) from by
            obtain ⟨b2, o2, e2, _, q0, q1, q2, q3, q4, q5, q6⟩ := RdLk.piece (RdP.next L6.out hW) HMF.out
            injection e2 with e2
            injection e2 with e2 e3
            subst e2 e3
            rw [HX.out] at q0 q1 q2 q3 q4 q5 q6
            exact ⟨q0, q1, q2, q3, q4, q5, q6⟩)
          obtain ⟨S, hS⟩ : ∃ S, pS F i m = S := ⟨_, rfl⟩
          obtain ⟨U, hU⟩ : ∃ U, pU F i m = U := ⟨_, rfl⟩
          have HTS := Lib.hid (show pS F i (m + 1) = S ++ (if decide (x.to_ = (i : Int)) && decide (0 ≤ x.frm) then [x] else []) by
            rw [← hS]; unfold pS; rw [List.take_succ_eq_append_getElem hmF, List.filter_append, hx]; simp only [List.filter_cons, List.filter_nil])
          have HTU := Lib.hid (show pU F i (m + 1) = U ++ (if decide (x.frm = (i : Int)) then [x] else []) by
            rw [← hU]; unfold pU; rw [List.take_succ_eq_append_getElem hmF, List.filter_append, hx]; simp only [List.filter_cons, List.filter_nil])
          have HLN8 : Hid (S.length ≤ 350) := Lib.hid (by rw [← hS]; exact Nat.le_trans (List.length_filter_le _ _) (by rw [List.length_take]; have := HFL.out; omega))
          have HLN9 : Hid (U.length ≤ 350) := Lib.hid (by rw [← hU]; exact Nat.le_trans (List.length_filter_le _ _) (by rw [List.length_take]; have := HFL.out; omega))
          rw [hS, hU] at HAP
          rw [hS] at HS ⊢
          rw [hU] at HU ⊢
          clear hx hS hU
          by_cases pt : x.to_ = (i : Int)
          · by_cases pg : 0 ≤ x.frm
            · by_cases pq : x.frm = (i : Int)
              · have ct : (x.to_ == (i : Int)) = true := by first | exact beq_iff_eq.2 pt | exact beq_eq_false_iff_ne.2 pt
                have cq2 : (x.frm == (i : Int)) = true := by first | exact beq_iff_eq.2 pq | exact beq_eq_false_iff_ne.2 pq
                have cg : decide (0 ≤ x.frm) = true := by first | exact decide_eq_true pg | exact decide_eq_false pg
                have HNS := Lib.hid (show pS F i (m + 1) = S ++ [x] by rw [HTS.out]; simp [pt, pg])
                have HNU := Lib.hid (show pU F i (m + 1) = U ++ [x] by rw [HTU.out]; simp [pq])
                clear pt pq pg
                have hbk := (Below.refl wr.heap.size wr).alloc (Nat.le_refl _) (.cells #[.int .i64 x.frm, .int .i64 x.to_, .int .i64 x.name.kind, .string (bs x.name.owner), .int .i64 x.name.num, .int .i64 x.name.idx, .string (bs x.name.text)] 43)
                have OA1 := Lib.hid (own_next HS.out hbk)
                have OB1 := Lib.hid (own_next HU.out hbk)
                have PA1 := Lib.hid (HB2.out.trans (hbk.mono HB2.out.size))
                have hws := HB2.out.size
                have hln := HLN8.out
                obtain ⟨i0, hi0, hz0, hz1, hz2⟩ := info_parts infoLk
                clear hbk
                go_upto_region 15 with (at_builtin; refine wpList_append_w _ rfl _ _ _ rfl w6.heap.size 43 i0 _ 7 72 Try.underlying32 hi0 hz0 hz1 hz2 rfl (by omega) (.slice A8 S.length c8) S.length (S.flatMap lkC) rfl OA1.out (.slice (some ⟨wr.heap.size, 0, none⟩) 1 1) 1 [.int .i64 x.frm, .int .i64 x.to_, .int .i64 x.name.kind, .string (bs x.name.owner), .int .i64 x.name.num, .int .i64 x.name.idx, .string (bs x.name.text)] rfl (Rd.of_own (own_new wr 0 43 7 [.int .i64 x.frm, .int .i64 x.to_, .int .i64 x.name.kind, .string (bs x.name.owner), .int .i64 x.name.num, .int .i64 x.name.idx, .string (bs x.name.text)] rfl (Nat.zero_le _))) (by omega) rfl (by simp [Value.oneCell']) (by unfold maxLen; omega) (by omega) (by simp; omega) ?_; intro vn1 wn1 hown8 hg8 hat8; have OC1 := Lib.hid (show OwnK wn1 w6.heap.size vn1 (S ++ [x]) by unfold OwnK; rw [List.length_append, List.flatMap_append]; simpa [lkC] using hown8); have OD1 := Lib.hid (OB1.out.kept hg8 HAP.out.2); have AP1 := Lib.hid (ap_new OB1.out HAP.out hat8); have PB1 := Lib.hid (PA1.out.grown hg8 PA1.out.size (fun k hk => own_ge OA1.out hk)); obtain ⟨y0, y1, y2, y3, y4, y5, y6⟩ := YY.out wn1 PB1.out; clear hown8 hg8 hat8 hws hln i0 hi0 hz0 hz1 hz2)
                obtain ⟨A8n, c8n, rfl, _⟩ := own_len OC1.out
                have APs := Lib.hid (show Ap _ _ ∧ Ap _ _ from ⟨AP1.out.2, AP1.out.1⟩)
                have hbk := (Below.refl wn1.heap.size wn1).alloc (Nat.le_refl _) (.cells #[.int .i64 x.frm, .int .i64 x.to_, .int .i64 x.name.kind, .string (bs x.name.owner), .int .i64 x.name.num, .int .i64 x.name.idx, .string (bs x.name.text)] 43)
                have OA2 := Lib.hid (own_next OD1.out hbk)
                have OB2 := Lib.hid (own_next OC1.out hbk)
                have PA2 := Lib.hid (PB1.out.trans (hbk.mono PB1.out.size))
                have hws := PB1.out.size
                have hln := HLN9.out
                obtain ⟨i0, hi0, hz0, hz1, hz2⟩ := info_parts infoLk
                clear hbk
                go_wp2_with (at_builtin; refine wpList_append_w _ rfl _ _ _ rfl w6.heap.size 43 i0 _ 7 72 Try.underlying32 hi0 hz0 hz1 hz2 rfl (by omega) (.slice A9 U.length c9) U.length (U.flatMap lkC) rfl OA2.out (.slice (some ⟨wn1.heap.size, 0, none⟩) 1 1) 1 [.int .i64 x.frm, .int .i64 x.to_, .int .i64 x.name.kind, .string (bs x.name.owner), .int .i64 x.name.num, .int .i64 x.name.idx, .string (bs x.name.text)] rfl (Rd.of_own (own_new wn1 0 43 7 [.int .i64 x.frm, .int .i64 x.to_, .int .i64 x.name.kind, .string (bs x.name.owner), .int .i64 x.name.num, .int .i64 x.name.idx, .string (bs x.name.text)] rfl (Nat.zero_le _))) (by omega) rfl (by simp [Value.oneCell']) (by unfold maxLen; omega) (by omega) (by simp; omega) ?_; intro vn2 wn2 hown8 hg8 hat8; have OC2 := Lib.hid (show OwnK wn2 w6.heap.size vn2 (U ++ [x]) by unfold OwnK; rw [List.length_append, List.flatMap_append]; simpa [lkC] using hown8); have OD2 := Lib.hid (OB2.out.kept hg8 APs.out.2); have AP2 := Lib.hid (ap_new OB2.out APs.out hat8); have PB2 := Lib.hid (PA2.out.grown hg8 PA2.out.size (fun k hk => own_ge OA2.out hk)); obtain ⟨y0, y1, y2, y3, y4, y5, y6⟩ := YY.out wn2 PB2.out; clear hown8 hg8 hat8 hws hln i0 hi0 hz0 hz1 hz2)
                try go_wp2_with fail
                go_roundw
                case rel => exact ⟨m + 1, HMF.out, by go_num, by rw [HNS.out]; unfold OwnK; simpa using OD2.out, by rw [HNU.out]; exact OC2.out, by simpa using And.intro AP2.out.2 AP2.out.1, PB2.out⟩
                case measure => have := HMF.out; have := HFL.out; simp [intOf]; omega
              · have ct : (x.to_ == (i : Int)) = true := by first | exact beq_iff_eq.2 pt | exact beq_eq_false_iff_ne.2 pt
                have cq2 : (x.frm == (i : Int)) = false := by first | exact beq_iff_eq.2 pq | exact beq_eq_false_iff_ne.2 pq
                have cg : decide (0 ≤ x.frm) = true := by first | exact decide_eq_true pg | exact decide_eq_false pg
                have HNS := Lib.hid (show pS F i (m + 1) = S ++ [x] by rw [HTS.out]; simp [pt, pg])
                have HNU := Lib.hid (show pU F i (m + 1) = U by rw [HTU.out]; simp [pq])
                clear pt pq pg
                have hbk := (Below.refl wr.heap.size wr).alloc (Nat.le_refl _) (.cells #[.int .i64 x.frm, .int .i64 x.to_, .int .i64 x.name.kind, .string (bs x.name.owner), .int .i64 x.name.num, .int .i64 x.name.idx, .string (bs x.name.text)] 43)
                have OA1 := Lib.hid (own_next HS.out hbk)
                have OB1 := Lib.hid (own_next HU.out hbk)
                have PA1 := Lib.hid (HB2.out.trans (hbk.mono HB2.out.size))
                have hws := HB2.out.size
                have hln := HLN8.out
                obtain ⟨i0, hi0, hz0, hz1, hz2⟩ := info_parts infoLk
                clear hbk
                go_upto_region 15 with (at_builtin; refine wpList_append_w _ rfl _ _ _ rfl w6.heap.size 43 i0 _ 7 72 Try.underlying32 hi0 hz0 hz1 hz2 rfl (by omega) (.slice A8 S.length c8) S.length (S.flatMap lkC) rfl OA1.out (.slice (some ⟨wr.heap.size, 0, none⟩) 1 1) 1 [.int .i64 x.frm, .int .i64 x.to_, .int .i64 x.name.kind, .string (bs x.name.owner), .int .i64 x.name.num, .int .i64 x.name.idx, .string (bs x.name.text)] rfl (Rd.of_own (own_new wr 0 43 7 [.int .i64 x.frm, .int .i64 x.to_, .int .i64 x.name.kind, .string (bs x.name.owner), .int .i64 x.name.num, .int .i64 x.name.idx, .string (bs x.name.text)] rfl (Nat.zero_le _))) (by omega) rfl (by simp [Value.oneCell']) (by unfold maxLen; omega) (by omega) (by simp; omega) ?_; intro vn1 wn1 hown8 hg8 hat8; have OC1 := Lib.hid (show OwnK wn1 w6.heap.size vn1 (S ++ [x]) by unfold OwnK; rw [List.length_append, List.flatMap_append]; simpa [lkC] using hown8); have OD1 := Lib.hid (OB1.out.kept hg8 HAP.out.2); have AP1 := Lib.hid (ap_new OB1.out HAP.out hat8); have PB1 := Lib.hid (PA1.out.grown hg8 PA1.out.size (fun k hk => own_ge OA1.out hk)); obtain ⟨y0, y1, y2, y3, y4, y5, y6⟩ := YY.out wn1 PB1.out; clear hown8 hg8 hat8 hws hln i0 hi0 hz0 hz1 hz2)
                obtain ⟨A8n, c8n, rfl, _⟩ := own_len OC1.out
                try go_wp2_with fail
                try go_wp2_with fail
                go_roundw
                case rel => exact ⟨m + 1, HMF.out, by go_num, by rw [HNS.out]; exact OC1.out, by rw [HNU.out]; exact OD1.out, AP1.out, PB1.out⟩
                case measure => have := HMF.out; have := HFL.out; simp [intOf]; omega
            · have pq : ¬ x.frm = (i : Int) := by omega
              have ct : (x.to_ == (i : Int)) = true := by first | exact beq_iff_eq.2 pt | exact beq_eq_false_iff_ne.2 pt
              have cq2 : (x.frm == (i : Int)) = false := by first | exact beq_iff_eq.2 pq | exact beq_eq_false_iff_ne.2 pq
              have cg : decide (0 ≤ x.frm) = false := by first | exact decide_eq_true pg | exact decide_eq_false pg
              have HNS := Lib.hid (show pS F i (m + 1) = S by rw [HTS.out]; simp [pt, pg])
              have HNU := Lib.hid (show pU F i (m + 1) = U by rw [HTU.out]; simp [pq])
              clear pt pq pg
              try go_wp2_with fail
              go_roundw
              case rel => exact ⟨m + 1, HMF.out, by go_num, by rw [HNS.out]; exact HS.out, by rw [HNU.out]; exact HU.out, HAP.out, HB2.out⟩
              case measure => have := HMF.out; have := HFL.out; simp [intOf]; omega
          · by_cases pq : x.frm = (i : Int)
            · have ct : (x.to_ == (i : Int)) = false := by first | exact beq_iff_eq.2 pt | exact beq_eq_false_iff_ne.2 pt
              have cq2 : (x.frm == (i : Int)) = true := by first | exact beq_iff_eq.2 pq | exact beq_eq_false_iff_ne.2 pq
              have HNS := Lib.hid (show pS F i (m + 1) = S by rw [HTS.out]; simp [pt])
              have HNU := Lib.hid (show pU F i (m + 1) = U ++ [x] by rw [HTU.out]; simp [pq])
              clear pt pq
              have APs := Lib.hid (show Ap _ _ ∧ Ap _ _ from ⟨HAP.out.2, HAP.out.1⟩)
              have hbk := (Below.refl wr.heap.size wr).alloc (Nat.le_refl _) (.cells #[.int .i64 x.frm, .int .i64 x.to_, .int .i64 x.name.kind, .string (bs x.name.owner), .int .i64 x.name.num, .int .i64 x.name.idx, .string (bs x.name.text)] 43)
              have OA2 := Lib.hid (own_next HU.out hbk)
              have OB2 := Lib.hid (own_next HS.out hbk)
              have PA2 := Lib.hid (HB2.out.trans (hbk.mono HB2.out.size))
              have hws := HB2.out.size
              have hln := HLN9.out
              obtain ⟨i0, hi0, hz0, hz1, hz2⟩ := info_parts infoLk
              clear hbk
              go_wp2_with (at_builtin; refine wpList_append_w _ rfl _ _ _ rfl w6.heap.size 43 i0 _ 7 72 Try.underlying32 hi0 hz0 hz1 hz2 rfl (by omega) (.slice A9 U.length c9) U.length (U.flatMap lkC) rfl OA2.out (.slice (some ⟨wr.heap.size, 0, none⟩) 1 1) 1 [.int .i64 x.frm, .int .i64 x.to_, .int .i64 x.name.kind, .string (bs x.name.owner), .int .i64 x.name.num, .int .i64 x.name.idx, .string (bs x.name.text)] rfl (Rd.of_own (own_new wr 0 43 7 [.int .i64 x.frm, .int .i64 x.to_, .int .i64 x.name.kind, .string (bs x.name.owner), .int .i64 x.name.num, .int .i64 x.name.idx, .string (bs x.name.text)] rfl (Nat.zero_le _))) (by omega) rfl (by simp [Value.oneCell']) (by unfold maxLen; omega) (by omega) (by simp; omega) ?_; intro vn2 wn2 hown8 hg8 hat8; have OC2 := Lib.hid (show OwnK wn2 w6.heap.size vn2 (U ++ [x]) by unfold OwnK; rw [List.length_append, List.flatMap_append]; simpa [lkC] using hown8); have OD2 := Lib.hid (OB2.out.kept hg8 APs.out.2); have AP2 := Lib.hid (ap_new OB2.out APs.out hat8); have PB2 := Lib.hid (PA2.out.grown hg8 PA2.out.size (fun k hk => own_ge OA2.out hk)); obtain ⟨y0, y1, y2, y3, y4, y5, y6⟩ := YY.out wn2 PB2.out; clear hown8 hg8 hat8 hws hln i0 hi0 hz0 hz1 hz2)
              try go_wp2_with fail
              go_roundw
              case rel => exact ⟨m + 1, HMF.out, by go_num, by rw [HNS.out]; exact OD2.out, by rw [HNU.out]; exact OC2.out, ⟨AP2.out.2, AP2.out.1⟩, PB2.out⟩
              case measure => have := HMF.out; have := HFL.out; simp [intOf]; omega
            · have ct : (x.to_ == (i : Int)) = false := by first | exact beq_iff_eq.2 pt | exact beq_eq_false_iff_ne.2 pt
              have cq2 : (x.frm == (i : Int)) = false := by first | exact beq_iff_eq.2 pq | exact beq_eq_false_iff_ne.2 pq
              have HNS := Lib.hid (show pS F i (m + 1) = S by rw [HTS.out]; simp [pt])
              have HNU := Lib.hid (show pU F i (m + 1) = U by rw [HTU.out]; simp [pq])
              clear pt pq
              try go_wp2_with fail
              go_roundw
              case rel => exact ⟨m + 1, HMF.out, by go_num, by rw [HNS.out]; exact HS.out, by rw [HNU.out]; exact HU.out, HAP.out, HB2.out⟩
              case measure => have := HMF.out; have := HFL.out; simp [intOf]; omega
        · have j1 : decide ((m : Int) < (F.length : Int)) = false := decide_eq_false (by omega)
          have HSE := Lib.hid (show pS F i m = srcs ((lnkD l)[i]'(by rw [lnkD_len]; exact HIL.out)) by
            unfold pS
            rw [List.take_of_length_le (by omega), ← HFF.out]
            exact srcs_pick l i _)
          have HUE := Lib.hid (show pU F i m = (UT l.length (lnkD l).flatten)[i]'(by rw [UT_len]; exact HIL.out) by
            unfold pU
            rw [List.take_of_length_le (by omega), UT_get, HFF.out])
          have hps : (pS F i m).length ≤ 350 := Nat.le_trans (List.length_filter_le _ _) (by rw [List.length_take]; have := HFL.out; omega)
          have hpu : (pU F i m).length ≤ 350 := Nat.le_trans (List.length_filter_le _ _) (by rw [List.length_take]; have := HFL.out; omega)
          obtain ⟨S, hS⟩ : ∃ S, pS F i m = S := ⟨_, rfl⟩
          obtain ⟨U, hU⟩ : ∃ U, pU F i m = U := ⟨_, rfl⟩
          rw [hS] at hps HS HSE ⊢
          rw [hU] at hpu HU HUE ⊢
          have HPS := Lib.hid hps
          have HPU := Lib.hid hpu
          have j2 : decide (m < F.length) = false := decide_eq_false hmF
          clear hps hpu hS hU
          go_wp2_with fail
          go_at_call 27
          refine (sources_is (HG6.out.next HB2.out) HIL.out (Nat.le_trans HL.out (by decide)) HR10.out).mono ?_
          rintro e w7 ⟨va, rfl, hrd, hb⟩
          rw [← HSE.out] at hrd
          have R7 := Lib.hid hrd
          have S7 := Lib.hid (show RdLk w7 _ S from RdP.next (Rd.of_own HS.out) hb)
          have U7 := Lib.hid (show RdLk w7 _ U from RdP.next (Rd.of_own HU.out) hb)
          have P7 := Lib.hid (HB2.out.trans (hb.mono HB2.out.size))
          clear hrd hb
          go_wp2_with fail
          go_at_call 28
          refine (uses_is (HG6.out.next P7.out) HIL.out (Nat.le_trans HL.out (by decide)) HR10.out).mono ?_
          rintro e w8 ⟨vb, rfl, hrd, hb⟩
          rw [← HUE.out] at hrd
          have hq1 := eqlk_is (RdP.next R7.out hb) (RdP.next S7.out hb) (Nat.le_trans HPS.out (by decide)) (Nat.le_trans HPS.out (by decide))
          rw [show decide (S = S) = true from decide_eq_true rfl] at hq1
          have HQ1 := Lib.hid hq1
          have R8 := Lib.hid hrd
          have U8 := Lib.hid (RdP.next U7.out hb)
          have P8 := Lib.hid (P7.out.trans (hb.mono P7.out.size))
          clear hrd hb hq1
          go_wp2_with fail
          go_at_call 15
          refine HQ1.out.mono ?_
          rintro e w9 ⟨rfl, hb⟩
          have hq1 := eqlk_is (RdP.next R8.out hb) (RdP.next U8.out hb) (Nat.le_trans HPU.out (by decide)) (Nat.le_trans HPU.out (by decide))
          rw [show decide (U = U) = true from decide_eq_true rfl] at hq1
          have HQ2 := Lib.hid hq1
          have P9 := Lib.hid (P8.out.trans (hb.mono P8.out.size))
          clear hb hq1
          go_wp2_with fail
          go_at_call 15
          refine HQ2.out.mono ?_
          rintro e w10 ⟨rfl, hb⟩
          have P10 := Lib.hid (P9.out.trans (hb.mono P9.out.size))
          clear hb
          go_wp2_with fail
          exact ⟨⟨i + 1, HIL.out, by go_num, P10.out⟩, by have := HIL.out; have := HL.out; simp [intOf]; omega⟩
    · have e1 : decide ((i : Int) < (l.length : Int)) = false := decide_eq_false (by omega)
      go_wp2_with fail
      go_at_call 27
      refine (sources_err (HG6.out.next HB.out) (by simp [inR]) (Nat.le_trans HL.out (by decide))).mono ?_
      rintro e w7 ⟨rfl, hb⟩
      have P7 := Lib.hid (HB.out.trans (hb.mono HB.out.size))
      clear hb
      go_wp2_with fail
      go_at_call 28
      refine (uses_err (HG6.out.next P7.out) (by simp [inR]) (Nat.le_trans HL.out (by decide))).mono ?_
      rintro e w8 ⟨rfl, hb⟩
      have P8 := Lib.hid (P7.out.trans (hb.mono P7.out.size))
      clear hb
      go_wp2_with fail
      go_ret
      exact ⟨rfl, HF6.out.trans (P8.out.mono HF6.out.size)⟩
theorem law_links_at (w : World) {u : Value} {ds : List De} (hd : DeAt w.heap.size w u ds) : Calls Try.prog 6 #[.agg #[u]] w fun e w' => e = .returned (.bool true) ∧ Below w.heap.size w w' := law_links hd
end Go.Proofs.Ytmjkcanjfjfkfaa
