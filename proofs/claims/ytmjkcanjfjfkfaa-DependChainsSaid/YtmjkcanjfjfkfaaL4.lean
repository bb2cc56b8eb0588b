/- The walk of the law DependChains. -/
import Derived.Test.YtmjkcanjfjfkfaaL3
import Derived.Test.YtmjkcanjfjfkfaaT17
import Derived.Test.YtmjkcanjfjfkfaaB10
namespace Go.Proofs.Ytmjkcanjfjfkfaa
open Go.RowKit
set_option linter.unusedSimpArgs false
set_option linter.unusedVariables false
attribute [local go_sem ↓] Go.wp_at_zero Go.wp_at_succ
def bestB : Option Lk → Array Value
  | none => #[.int .i64 (-1), .int .i64 0, .int .i64 0, .string ⟨#[]⟩, .int .i64 0, .int .i64 0, .string ⟨#[]⟩]
  | some x => #[.int .i64 x.frm, .int .i64 x.to_, .int .i64 x.name.kind, .string (bs x.name.owner), .int .i64 x.name.num, .int .i64 x.name.idx, .string (bs x.name.text)]
theorem set7_ {w : World} {g : Nat} {t : TypeId} {z0 z1 z2 z3 z4 z5 z6 : Value} (v0 v1 v2 v3 v4 v5 v6 : Value) (h : Blk w g t #[z0, z1, z2, z3, z4, z5, z6]) : Blk (((((((w.setCell ⟨g, 0, none⟩ v0).setCell ⟨g, 1, none⟩ v1).setCell ⟨g, 2, none⟩ v2).setCell ⟨g, 3, none⟩ v3).setCell ⟨g, 4, none⟩ v4).setCell ⟨g, 5, none⟩ v5).setCell ⟨g, 6, none⟩ v6) g t #[v0, v1, v2, v3, v4, v5, v6] := by
  have := ((((((h.set_ 0 v0).set_ 1 v1).set_ 2 v2).set_ 3 v3).set_ 4 v4).set_ 5 v5).set_ 6 v6
  simpa using this
theorem low7_ {B : Nat} {w0 w : World} {g : Nat} (v0 v1 v2 v3 v4 v5 v6 : Value) (h : Below B w0 w) (hg : B ≤ g) : Below B w0 (((((((w.setCell ⟨g, 0, none⟩ v0).setCell ⟨g, 1, none⟩ v1).setCell ⟨g, 2, none⟩ v2).setCell ⟨g, 3, none⟩ v3).setCell ⟨g, 4, none⟩ v4).setCell ⟨g, 5, none⟩ v5).setCell ⟨g, 6, none⟩ v6) :=
  ((((((h.setCell (p := ⟨g, 0, none⟩) hg v0).setCell (p := ⟨g, 1, none⟩) hg v1).setCell (p := ⟨g, 2, none⟩) hg v2).setCell (p := ⟨g, 3, none⟩) hg v3).setCell (p := ⟨g, 4, none⟩) hg v4).setCell (p := ⟨g, 5, none⟩) hg v5).setCell (p := ⟨g, 6, none⟩) hg v6
theorem bst_frm {ds : List Int} {i : Int} : ∀ {F : List Lk} {b : Option Lk}, (∀ y, b = some y → 0 ≤ y.frm) → ∀ y, F.foldl (bst1 ds i) b = some y → 0 ≤ y.frm
  | [], b, h, y, hy => h y hy
  | x :: F, b, h, y, hy => by
    refine bst_frm (F := F) (b := bst1 ds i b x) (fun z hz => ?_) y hy
    unfold bst1 at hz
    split at hz
    · rename_i hc; injection hz with hz; subst hz; exact hc.2.1
    · exact h z hz
def wcoRel (N : Nat) (E : List Lk) (ds : List Int) (f : Nat) (W : List Lk) (T : Int) (w : World) (v14 v15 : Value) (wr : World) : Prop := ∃ (i : Nat) (ls : List Lk), i < N ∧ v15 = .int .i64 (i : Int) ∧ RdLk wr v14 ls ∧ 0 ≤ gt ds i ∧ (ls.length : Int) + gt ds i ≤ T ∧ wantS E ds f ((gt ds i).toNat + 1) i ls = W ∧ Below w.heap.size w wr
def wciRel (E : List Lk) (ds : List Int) (i : Nat) (w : World) (bb : Nat) (v17 : Value) (wr : World) : Prop := ∃ m : Nat, m ≤ E.length ∧ v17 = .int .i64 (m : Int) ∧ Blk wr bb 43 (bestB ((E.take m).foldl (bst1 ds i) none)) ∧ Below w.heap.size w wr
set_option maxRecDepth 100000 in
set_option maxHeartbeats 8000000 in
theorem law_chains {w : World} {u : Value} {ds : List De} (hd : DeAt w.heap.size w u ds) (fr to_ : Int) (hw1 : (Lit.int .i64 fr).wf = true) (hw2 : (Lit.int .i64 to_).wf = true) : Calls Try.prog 3 #[.agg #[u], .int .i64 fr, .int .i64 to_] w fun e w' => e = .returned (.bool true) ∧ Below w.heap.size w w' := by
  obtain ⟨A, c, rfl, hc, hcm⟩ := Ra.form hd.1
  have ha0 := (Below.refl w.heap.size w).alloc (Nat.le_refl _) (.cells #[.slice A ds.length c] 24)
  have x0 := (Blk.new w 24 #[.slice A ds.length c]).cell 0
  simp only [List.getElem?_toArray, List.getElem?_cons_zero] at x0
  have HD0 := Lib.hid (hd.next ha0 ha0.size)
  have HA0 := Lib.hid ha0
  have HDD : Hid (DeOk ds) := Lib.hid hd.2
  have hrun := run_is 0 0 HD0.out (by decide) (by decide)
  rw [show ((0 : Nat) : Int) = 0 from rfl] at hrun
  have HRUN := Lib.hid hrun
  have HW := Lib.hid (And.intro hw1 hw2)
  clear hd ha0 hrun HD0 hw1 hw2
  go_enter Try.func3, Try.ntmps3
  go_wp2_with fail
  go_at_call 9
  refine HRUN.out.mono ?_
  rintro e w1 ⟨v, rfl, hrd, hb⟩
  have HF1 := Lib.hid (HA0.out.trans (hb.mono HA0.out.size))
  obtain ⟨l, hll⟩ : ∃ l, runS ds 0 0 = l := ⟨_, rfl⟩
  obtain ⟨g1, g2, g3, g4⟩ := runS_good HDD.out 0 0
  rw [hll] at hrd g1 g2 g3 g4
  have HR := Lib.hid g2
  have HO := Lib.hid g3
  have HL := Lib.hid g4
  have HB := Lib.hid (dbuild_is hrd g1 g2 g3 (by omega))
  have HL0 := Lib.hid hrd
  obtain ⟨A1, c1, rfl, hc1⟩ := RowRd.form hrd
  clear hrd hb g1 g2 g3 hll x0 HRUN
  go_wp2_with fail
  go_at_call 10
  refine HB.out.mono ?_
  rintro e w2 ⟨g, rfl, hg, hb⟩
  have HF := Lib.hid (HF1.out.trans (hb.mono HF1.out.size))
  have HG := Lib.hid hg
  have HL1 := Lib.hid (HL0.out.next hb)
  clear hg hb HB HL0 HF1
  have HR10 := Lib.hid (fun a (ha : a ∈ l) => (HR.out a ha).2.2.2.1)
  have HCH := Lib.hid (chain_is fr to_ HG.out (Nat.le_trans HL.out (by decide)) HR10.out)
  go_wp2_with fail
  go_at_call 11
  refine HCH.out.mono ?_
  rintro e w3 ⟨v10, rfl, hlk, hb⟩
  obtain ⟨R, hR⟩ : ∃ R, chainS l fr to_ = R := ⟨_, rfl⟩
  rw [hR] at hlk ⊢
  have HRR := Lib.hid hR
  obtain ⟨A3, c3, rfl, hc3⟩ := RdP.form hlk
  have L3 := Lib.hid hlk
  have P3 := Lib.hid hb
  clear hlk hb HCH hR
  go_wp2_with fail
  go_at_call 12
  refine (known47_is _).mono ?_
  rintro e w4 ⟨rfl, hb⟩
  have L4 := Lib.hid (RdP.next L3.out hb)
  have P4 := Lib.hid (P3.out.trans (hb.mono P3.out.size))
  have HF4 := Lib.hid (HF.out.trans (P4.out.mono HF.out.size))
  have HL4 := Lib.hid (HL1.out.next P4.out)
  clear hb L3 P3
  by_cases hin : 0 ≤ fr ∧ fr < (l.length : Int) ∧ 0 ≤ to_ ∧ to_ < (l.length : Int)
  · obtain ⟨f, rfl⟩ : ∃ f : Nat, fr = (f : Int) := ⟨fr.toNat, by omega⟩
    obtain ⟨t, rfl⟩ : ∃ t : Nat, to_ = (t : Int) := ⟨to_.toNat, by omega⟩
    have hf : f < l.length := by omega
    have ht : t < l.length := by omega
    have i1 : decide ((l.length : Int) ≤ (f : Int)) = false := decide_eq_false (by omega)
    have i2 : decide (l.length ≤ f) = false := decide_eq_false (by omega)
    have i3 : decide ((l.length : Int) ≤ (t : Int)) = false := decide_eq_false (by omega)
    have i4 : decide (l.length ≤ t) = false := decide_eq_false (by omega)
    have i5 : (0 : Int) ≤ (t : Int) := by omega
    have i6 : (t : Int) < (l.length : Int) := by omega
    have HCW := Lib.hid (chain_want (l := l) (fun x hx => lnkD_back hx) hf ht)
    have HBS := Lib.hid (fun (i : Int) h0 h1 h2 h3 => bst_is (l := l) (fun x hx => lnkD_back hx) hf (i := i) h0 h1 h2 h3)
    have HBN := Lib.hid (DBd.to (E := (lnkD l).flatten) hf (fun x hx => lnkD_back hx) (l.length - (f + 1)) (by omega))
    have HDI := Lib.hid (dist_is HL4.out HR.out HO.out HL.out hf)
    have hRL := rlinks_is HL4.out HR.out HO.out HL.out
    have hfl := flat_le HR10.out l.length (Nat.le_refl _)
    rw [List.take_of_length_le (Nat.le_refl _)] at hfl
    have hel : (lnkD l).flatten.length ≤ 350 := by omega
    have HED := Lib.hid (fun x (hx : x ∈ (lnkD l).flatten) => And.intro (lnkD_back hx) (lnkD_to hx))
    obtain ⟨dd, hdd⟩ : ∃ dd, dstS (lnkD l).flatten l.length f = dd := ⟨_, rfl⟩
    have HBN2 := Lib.hid (show DBd dd by rw [← hdd]; exact HBN.out)
    rw [hdd] at HCW HBS HDI
    obtain ⟨E, hE⟩ : ∃ E, (lnkD l).flatten = E := ⟨_, rfl⟩
    rw [hE] at HCW HBS HED hel
    clear hin HBN hRL hfl hdd
    go_wp2_with fail
    go_at_call 13
    refine HDI.out.mono ?_
    rintro e w5 ⟨dg, bs0, rfl, hrow, hbs0, hb⟩
    have L5 := Lib.hid (RdP.next L4.out hb)
    have P5 := Lib.hid hb
    have HL5 := Lib.hid (HL4.out.next hb)
    have HRW := Lib.hid hrow
    have zt := hrow.gt ht
    have HT := Lib.hid (HBN2.out (t : Int) (by omega))
    obtain ⟨T, hT⟩ : ∃ T, gt dd (t : Int) = T := ⟨_, rfl⟩
    rw [hT] at zt HCW HT
    have HTT := Lib.hid hT
    clear hb hrow HDI L4 HL4 hT hbs0
    by_cases h0 : 0 ≤ T
    · have q1 : decide (T < 0) = false := decide_eq_false (by omega)
      have q2 : ¬ T < 0 := by omega
      have HW2 := Lib.hid (show R = some (wantS E dd f (T.toNat + 1) t []) by rw [← HRR.out, HCW.out, if_pos h0])
      obtain ⟨W, hW⟩ : ∃ W, wantS E dd f (T.toNat + 1) t [] = W := ⟨_, rfl⟩
      rw [hW] at HW2
      have HWW := Lib.hid hW
      rw [HW2.out] at L5 ⊢
      have RLK := Lib.hid (rlinks_is HL5.out HR.out HO.out HL.out)
      rw [hE] at RLK
      have HT35 : Hid (T ≤ 35) := Lib.hid (by have := HT.out; omega)
      have HT0 := Lib.hid h0
      clear hW hE h0
      go_upto_region 11 with (fail)
      clear zt q1 q2 i1 i2 i3 i4
      go_wp2_with fail
      go_at_call 14
      refine RLK.out.mono ?_
      rintro e w6 ⟨v13, rfl, hlk, hb⟩
      obtain ⟨A6, c6, rfl, hc6⟩ := RdP.form hlk
      have E6 := Lib.hid hlk
      have L6 := Lib.hid (RdP.next L5.out hb)
      have P6 := Lib.hid (P5.out.trans (hb.mono P5.out.size))
      have HRW6 := Lib.hid (HRW.out.next hb)
      have H0 : Hid (wcoRel l.length E dd f W T w6 (.slice none 0 0) (.int .i64 (t : Int)) w6) := Lib.hid ⟨t, [], ht, rfl, RdP.nil, by rw [HTT.out]; exact HT0.out, by rw [HTT.out]; simp, by rw [HTT.out]; exact HWW.out, Below.refl _ _⟩
      clear hlk hb L5 P5 HRW RLK HL5
      go_wp2_with fail
      go_loopw [14, 15] (fun v14 v15 wr => wcoRel l.length E dd f W T w6 v14 v15 wr) (fun _ v15 _ => (gt dd (intOf v15)).toNat)
      case atStart => exact H0.out
      case round =>
        clear H0
        obtain ⟨i, ls, hil, rfl, hls, hg0, hgl, hwn, hB⟩ := hrel
        obtain ⟨A4, cw, rfl, hc4⟩ := RdP.form hls
        have HLS := Lib.hid hls
        have HWN := Lib.hid hwn
        have HB := Lib.hid hB
        have HG0 := Lib.hid hg0
        have HGL := Lib.hid hgl
        have hls35 : ls.length ≤ 35 := by have := HT35.out; omega
        clear hls hwn hB hg0 hgl
        by_cases hif : i = f
        · subst hif
          have HWE := Lib.hid (show ls = W by rw [← HWN.out]; simp [wantS])
          have hq := eqlk_is (RdP.next L6.out HB.out) HLS.out (by rw [← HWE.out]; simp; omega) (by omega)
          rw [HWE.out] at hq hls35 ⊢
          rw [show decide ((some W).getD [] = W) = true from decide_eq_true rfl] at hq
          have HQ := Lib.hid hq
          clear hq
          go_wp2_with fail
          go_at_call 15
          refine HQ.out.mono ?_
          rintro e w7 ⟨rfl, hb⟩
          have P7 := Lib.hid (HB.out.trans (hb.mono HB.out.size))
          clear hb
          go_wp2_with fail
          go_ret
          exact ⟨rfl, HF4.out.trans ((P6.out.trans (P7.out.mono P6.out.size)).mono HF4.out.size)⟩
        · have e1 : ((i : Int) != (f : Int)) = true := by rw [bne_iff_ne]; omega
          have e2 : (i != f) = true := by rw [bne_iff_ne]; exact hif
          obtain ⟨x, b1, b2, b3, b4, b5, b6⟩ := HBS.out (i : Int) (by omega) (by omega) HG0.out (by omega)
          have HX1 := Lib.hid b1
          have HX3 := Lib.hid (And.intro b3 (And.intro b4 (And.intro b5 b6)))
          have HGI := Lib.hid (HBN2.out (i : Int) (by omega))
          obtain ⟨gi, hgi⟩ : ∃ gi, gt dd (i : Int) = gi := ⟨_, rfl⟩
          have HGE := Lib.hid hgi
          have HWN2 := Lib.hid (show wantS E dd f gi.toNat x.frm (x :: ls) = W by
            have := HWN.out
            rw [hgi] at this
            simp only [wantS] at this
            rw [if_neg (by omega), HX1.out] at this
            exact this)
          clear b1 b2 b3 b4 b5 b6 hgi hif
          go_upto_region 16 with (fail)
          have hz0 := Blk.new wr 43 (bestB none)
          have hba := (Below.refl wr.heap.size wr).alloc (Nat.le_refl _) (.cells (bestB none) 43)
          have H1 : Hid (wciRel E dd i wr wr.heap.size (.int .i64 (0 : Nat)) (wr.alloc (.cells (bestB none) 43))) := Lib.hid ⟨0, Nat.zero_le _, rfl, hz0, hba⟩
          clear hz0 hba
          simp only [bestB] at H1
          generalize wr.alloc (.cells #[.int .i64 (-1), .int .i64 0, .int .i64 0, .string ⟨#[]⟩, .int .i64 0, .int .i64 0, .string ⟨#[]⟩] 43) = w7 at *
          obtain ⟨bb, hbb⟩ : ∃ bb, wr.heap.size = bb := ⟨_, rfl⟩
          have HBB := Lib.hid hbb
          rw [show wciRel E dd i wr wr.heap.size (.int .i64 (0 : Nat)) w7 = wciRel E dd i wr bb (.int .i64 (0 : Nat)) w7 by rw [hbb]] at H1
          rw [hbb]
          obtain ⟨wo, hwo⟩ : ∃ wo, wr = wo := ⟨_, rfl⟩
          rw [hwo] at H1 HBB HLS HB
          clear hbb hwo
          go_wp2_with fail
          go_loopw [17] (fun v17 wr => wciRel E dd i wo bb v17 wr) (fun v17 _ => 350 - (intOf v17).toNat)
          case atStart => exact H1.out
          case round =>
            clear H1
            obtain ⟨m, hm, rfl, hz, hB2⟩ := hrel
            obtain ⟨b, hb⟩ : ∃ b, (E.take m).foldl (bst1 dd i) none = b := ⟨_, rfl⟩
            have HBF := Lib.hid (fun y (hy : b = some y) => bst_frm (F := E.take m) (b := none) (fun y hy => by cases hy) y (hb.trans hy))
            have HBV := Lib.hid hb
            rw [hb] at hz
            have ZB := Lib.hid hz
            have HB2 := Lib.hid hB2
            clear hz hB2 hb
            have HBW := Lib.hid (HB.out.trans (HB2.out.mono HB.out.size))
            by_cases hmE : m < E.length
            · have j1 : decide ((m : Int) < (E.length : Int)) = true := decide_eq_true (by omega)
              have j2 : (0 : Int) ≤ (m : Int) := by omega
              have j3 : (m : Int) < (E.length : Int) := by omega
              obtain ⟨xb, xo, hbe, hxb, y0, y1, y2, y3, y4, y5, y6⟩ := RdLk.piece (RdP.next E6.out HBW.out) hmE
              subst hbe
              have HTK := Lib.hid (show (E.take (m + 1)).foldl (bst1 dd i) none = bst1 dd i b E[m] by rw [List.take_succ_eq_append_getElem hmE, List.foldl_append, HBV.out]; rfl)
              obtain ⟨hx1, hx2⟩ := HED.out E[m] (List.getElem_mem hmE)
              obtain ⟨x, hx⟩ : ∃ x, E[m] = x := ⟨_, rfl⟩
              rw [hx] at y0 y1 y2 y3 y4 y5 y6 HTK hx1 hx2
              have HMF := Lib.hid hmE
              clear hx HX1 HX3 HWN2
              go_upto_region 20 with (fail)
              have hba := (Below.refl wr.heap.size wr).alloc (Nat.le_refl _) (.cells #[.int .i64 x.frm, .int .i64 x.to_, .int .i64 x.name.kind, .string (bs x.name.owner), .int .i64 x.name.num, .int .i64 x.name.idx, .string (bs x.name.text)] 43)
              have HBA := Lib.hid (HB2.out.trans (hba.mono HB2.out.size))
              have HBR := Lib.hid (HBW.out.trans (hba.mono HBW.out.size))
              have ZX := Lib.hid (Blk.new wr 43 #[.int .i64 x.frm, .int .i64 x.to_, .int .i64 x.name.kind, .string (bs x.name.owner), .int .i64 x.name.num, .int .i64 x.name.idx, .string (bs x.name.text)])
              have ZB2 := Lib.hid (ZB.out.next hba ZB.out.lt)
              clear y0 y1 y2 y3 y4 y5 y6 hba hxb HBW
              generalize wr.alloc (.cells #[.int .i64 x.frm, .int .i64 x.to_, .int .i64 x.name.kind, .string (bs x.name.owner), .int .i64 x.name.num, .int .i64 x.name.idx, .string (bs x.name.text)] 43) = W1 at *
              obtain ⟨cb, hcb⟩ : ∃ cb, wr.heap.size = cb := ⟨_, rfl⟩
              rw [hcb] at ZX ⊢
              clear hcb
              have x0 := ZX.out.cell 0
              have x1 := ZX.out.cell 1
              have x2 := ZX.out.cell 2
              have x3 := ZX.out.cell 3
              have x4 := ZX.out.cell 4
              have x5 := ZX.out.cell 5
              have x6 := ZX.out.cell 6
              simp only [List.getElem?_toArray, List.getElem?_cons_zero, List.getElem?_cons_succ] at x0 x1 x2 x3 x4 x5 x6
              by_cases p1 : x.to_ = (i : Int)
              · have e1 : (x.to_ == (i : Int)) = true := beq_iff_eq.2 p1
                by_cases p2 : 0 ≤ x.frm
                · have e2 : decide (0 ≤ x.frm) = true := decide_eq_true p2
                  obtain ⟨q, hq⟩ : ∃ q : Nat, x.frm = (q : Int) := ⟨x.frm.toNat, by omega⟩
                  have HQ0 := Lib.hid hq
                  have hql : q < l.length := by omega
                  have zq := (HRW6.out.next HBR.out).gt hql
                  have zi := (HRW6.out.next HBR.out).gt hil
                  have q1 : (0 : Int) ≤ (q : Int) := by omega
                  have q2 : (q : Int) < (l.length : Int) := by omega
                  have i7 : (0 : Int) ≤ (i : Int) := by omega
                  have i8 : (i : Int) < (l.length : Int) := by omega
                  obtain ⟨a, ha⟩ : ∃ a, gt dd (q : Int) = a := ⟨_, rfl⟩
                  have HGQ := Lib.hid ha
                  have hab := HBN2.out (q : Int) (by omega)
                  rw [ha] at zq hab
                  rw [HGE.out] at zi
                  have hgb := HGI.out
                  rw [HGE.out] at hgb
                  have e4 : IntKind.i64.wrap (gi - 1) = gi - 1 := IntWalk.i64_in _ (by omega)
                  rw [hq] at x0 e2
                  clear hq ha
                  by_cases p3 : a = gi - 1
                  · have e3 : (a == gi - 1) = true := beq_iff_eq.2 p3
                    cases b with
                    | none =>
                      have HNX := Lib.hid (show bst1 dd (i : Int) none x = some x by unfold bst1; rw [if_pos ⟨p1, p2, by rw [HQ0.out, HGQ.out, HGE.out]; exact p3, rfl⟩])
                      clear p1 p2 p3
                      have ZB3 := ZB2.out
                      simp only [bestB] at ZB3
                      have c0 := ZB3.cell 0
                      have c1 := ZB3.cell 1
                      have c2 := ZB3.cell 2
                      have c3 := ZB3.cell 3
                      have c4 := ZB3.cell 4
                      have c5 := ZB3.cell 5
                      have c6 := ZB3.cell 6
                      simp only [List.getElem?_toArray, List.getElem?_cons_zero, List.getElem?_cons_succ] at c0 c1 c2 c3 c4 c5 c6
                      have f0 := ZB3.frozen 0
                      have f1 := ZB3.frozen 1
                      have f2 := ZB3.frozen 2
                      have f3 := ZB3.frozen 3
                      have f4 := ZB3.frozen 4
                      have f5 := ZB3.frozen 5
                      have f6 := ZB3.frozen 6
                      clear ZB3
                      go_wp2_with fail
                      go_quiet (fail)
                      have ZQ := Lib.hid (ZB2.out.next (below_drewN (Below.refl _ W1) nq) ZB2.out.lt)
                      have ZXQ := Lib.hid (ZX.out.next (below_drewN (Below.refl _ W1) nq) ZX.out.lt)
                      have BQ := Lib.hid (HBA.out.trans ((below_drewN (Below.refl _ W1) nq).mono HBA.out.size))
                      clear ZB2 HBA ZX x0 c0 f0 x1 c1 f1 x2 c2 f2 x3 c3 f3 x4 c4 f4 x5 c5 f5 x6 c6 f6
                      generalize W1.drewN nq = w4 at *
                      have x0 := ZXQ.out.cell 0
                      have x1 := ZXQ.out.cell 1
                      have x2 := ZXQ.out.cell 2
                      have x3 := ZXQ.out.cell 3
                      have x4 := ZXQ.out.cell 4
                      have x5 := ZXQ.out.cell 5
                      have x6 := ZXQ.out.cell 6
                      simp only [List.getElem?_toArray, List.getElem?_cons_zero, List.getElem?_cons_succ] at x0 x1 x2 x3 x4 x5 x6
                      have ZQ2 := ZQ.out
                      simp only [bestB] at ZQ2
                      have c0 := ZQ2.cell 0
                      have c1 := ZQ2.cell 1
                      have c2 := ZQ2.cell 2
                      have c3 := ZQ2.cell 3
                      have c4 := ZQ2.cell 4
                      have c5 := ZQ2.cell 5
                      have c6 := ZQ2.cell 6
                      simp only [List.getElem?_toArray, List.getElem?_cons_zero, List.getElem?_cons_succ] at c0 c1 c2 c3 c4 c5 c6
                      have f0 := ZQ2.frozen 0
                      have f1 := ZQ2.frozen 1
                      have f2 := ZQ2.frozen 2
                      have f3 := ZQ2.frozen 3
                      have f4 := ZQ2.frozen 4
                      have f5 := ZQ2.frozen 5
                      have f6 := ZQ2.frozen 6
                      have ZE := Lib.hid (set7_ (.int .i64 x.frm) (.int .i64 x.to_) (.int .i64 x.name.kind) (.string (bs x.name.owner)) (.int .i64 x.name.num) (.int .i64 x.name.idx) (.string (bs x.name.text)) ZQ2)
                      have BE := Lib.hid (low7_ (.int .i64 x.frm) (.int .i64 x.to_) (.int .i64 x.name.kind) (.string (bs x.name.owner)) (.int .i64 x.name.num) (.int .i64 x.name.idx) (.string (bs x.name.text)) BQ.out (by have := HBB.out; omega : wo.heap.size ≤ bb))
                      clear ZQ2
                      go_wp2_with fail
                      go_roundw
                      case rel => exact ⟨m + 1, HMF.out, by go_num, by rw [HTK.out, HNX.out]; exact ZE.out, BE.out⟩
                      case measure => have := HMF.out; simp [intOf]; omega
                    | some y =>
                      have hy0 := HBF.out y rfl
                      have e5 : decide (y.frm < 0) = false := decide_eq_false (by omega)
                      have ZB3 := ZB2.out
                      simp only [bestB] at ZB3
                      have c0 := ZB3.cell 0
                      have c1 := ZB3.cell 1
                      have c2 := ZB3.cell 2
                      have c3 := ZB3.cell 3
                      have c4 := ZB3.cell 4
                      have c5 := ZB3.cell 5
                      have c6 := ZB3.cell 6
                      simp only [List.getElem?_toArray, List.getElem?_cons_zero, List.getElem?_cons_succ] at c0 c1 c2 c3 c4 c5 c6
                      have f0 := ZB3.frozen 0
                      have f1 := ZB3.frozen 1
                      have f2 := ZB3.frozen 2
                      have f3 := ZB3.frozen 3
                      have f4 := ZB3.frozen 4
                      have f5 := ZB3.frozen 5
                      have f6 := ZB3.frozen 6
                      clear ZB3
                      by_cases p5 : (q : Int) < y.frm
                      · have e6 : decide ((q : Int) < y.frm) = true := decide_eq_true p5
                        have HNX := Lib.hid (show bst1 dd (i : Int) (some y) x = some x by unfold bst1; rw [if_pos ⟨p1, p2, by rw [HQ0.out, HGQ.out, HGE.out]; exact p3, by unfold lessB; rw [HQ0.out]; exact decide_eq_true p5⟩])
                        clear p1 p2 p3 p5
                        go_wp2_with fail
                        go_quiet (fail)
                        have ZQ := Lib.hid (ZB2.out.next (below_drewN (Below.refl _ W1) nq) ZB2.out.lt)
                        have ZXQ := Lib.hid (ZX.out.next (below_drewN (Below.refl _ W1) nq) ZX.out.lt)
                        have BQ := Lib.hid (HBA.out.trans ((below_drewN (Below.refl _ W1) nq).mono HBA.out.size))
                        clear ZB2 HBA ZX x0 c0 f0 x1 c1 f1 x2 c2 f2 x3 c3 f3 x4 c4 f4 x5 c5 f5 x6 c6 f6
                        generalize W1.drewN nq = w4 at *
                        have x0 := ZXQ.out.cell 0
                        have x1 := ZXQ.out.cell 1
                        have x2 := ZXQ.out.cell 2
                        have x3 := ZXQ.out.cell 3
                        have x4 := ZXQ.out.cell 4
                        have x5 := ZXQ.out.cell 5
                        have x6 := ZXQ.out.cell 6
                        simp only [List.getElem?_toArray, List.getElem?_cons_zero, List.getElem?_cons_succ] at x0 x1 x2 x3 x4 x5 x6
                        have ZQ2 := ZQ.out
                        simp only [bestB] at ZQ2
                        have c0 := ZQ2.cell 0
                        have c1 := ZQ2.cell 1
                        have c2 := ZQ2.cell 2
                        have c3 := ZQ2.cell 3
                        have c4 := ZQ2.cell 4
                        have c5 := ZQ2.cell 5
                        have c6 := ZQ2.cell 6
                        simp only [List.getElem?_toArray, List.getElem?_cons_zero, List.getElem?_cons_succ] at c0 c1 c2 c3 c4 c5 c6
                        have f0 := ZQ2.frozen 0
                        have f1 := ZQ2.frozen 1
                        have f2 := ZQ2.frozen 2
                        have f3 := ZQ2.frozen 3
                        have f4 := ZQ2.frozen 4
                        have f5 := ZQ2.frozen 5
                        have f6 := ZQ2.frozen 6
                        have ZE := Lib.hid (set7_ (.int .i64 x.frm) (.int .i64 x.to_) (.int .i64 x.name.kind) (.string (bs x.name.owner)) (.int .i64 x.name.num) (.int .i64 x.name.idx) (.string (bs x.name.text)) ZQ2)
                        have BE := Lib.hid (low7_ (.int .i64 x.frm) (.int .i64 x.to_) (.int .i64 x.name.kind) (.string (bs x.name.owner)) (.int .i64 x.name.num) (.int .i64 x.name.idx) (.string (bs x.name.text)) BQ.out (by have := HBB.out; omega : wo.heap.size ≤ bb))
                        clear ZQ2
                        go_wp2_with fail
                        go_roundw
                        case rel => exact ⟨m + 1, HMF.out, by go_num, by rw [HTK.out, HNX.out]; exact ZE.out, BE.out⟩
                        case measure => have := HMF.out; simp [intOf]; omega
                      · have e6 : decide ((q : Int) < y.frm) = false := decide_eq_false p5
                        have HNX := Lib.hid (show bst1 dd (i : Int) (some y) x = some y by unfold bst1; rw [if_neg]; rintro ⟨_, _, _, h4⟩; unfold lessB at h4; rw [HQ0.out] at h4; exact p5 (of_decide_eq_true h4))
                        clear p1 p2 p3 p5
                        go_wp2_with fail
                        go_quiet (fail)
                        have ZE := Lib.hid (ZB2.out.next (below_drewN (Below.refl _ W1) nq) ZB2.out.lt)
                        have BE := Lib.hid (HBA.out.trans ((below_drewN (Below.refl _ W1) nq).mono HBA.out.size))
                        clear ZB2 HBA ZX
                        generalize W1.drewN nq = w4 at *
                        go_wp2_with fail
                        go_roundw
                        case rel => exact ⟨m + 1, HMF.out, by go_num, by rw [HTK.out, HNX.out]; exact ZE.out, BE.out⟩
                        case measure => have := HMF.out; simp [intOf]; omega
                  · have e3 : (a == gi - 1) = false := beq_eq_false_iff_ne.2 p3
                    have HNX := Lib.hid (show bst1 dd (i : Int) b x = b by unfold bst1; rw [if_neg]; rintro ⟨_, _, h3, _⟩; rw [HQ0.out, HGQ.out, HGE.out] at h3; exact p3 h3)
                    clear p1 p2 p3 hab hgb
                    go_wp2_with fail
                    go_quiet (fail)
                    have ZE := Lib.hid (ZB2.out.next (below_drewN (Below.refl _ W1) nq) ZB2.out.lt)
                    have BE := Lib.hid (HBA.out.trans ((below_drewN (Below.refl _ W1) nq).mono HBA.out.size))
                    clear ZB2 HBA ZX
                    generalize W1.drewN nq = w4 at *
                    go_wp2_with fail
                    go_roundw
                    case rel => exact ⟨m + 1, HMF.out, by go_num, by rw [HTK.out, HNX.out]; exact ZE.out, BE.out⟩
                    case measure => have := HMF.out; simp [intOf]; omega
                · have e2 : decide (0 ≤ x.frm) = false := decide_eq_false p2
                  have HNX := Lib.hid (show bst1 dd (i : Int) b x = b by unfold bst1; rw [if_neg]; exact fun h => p2 h.2.1)
                  clear p1 p2
                  go_wp2_with fail
                  go_quiet (fail)
                  have ZE := Lib.hid (ZB2.out.next (below_drewN (Below.refl _ W1) nq) ZB2.out.lt)
                  have BE := Lib.hid (HBA.out.trans ((below_drewN (Below.refl _ W1) nq).mono HBA.out.size))
                  clear ZB2 HBA ZX
                  generalize W1.drewN nq = w4 at *
                  go_wp2_with fail
                  go_roundw
                  case rel => exact ⟨m + 1, HMF.out, by go_num, by rw [HTK.out, HNX.out]; exact ZE.out, BE.out⟩
                  case measure => have := HMF.out; simp [intOf]; omega
              · have e1 : (x.to_ == (i : Int)) = false := beq_eq_false_iff_ne.2 p1
                have HNX := Lib.hid (show bst1 dd (i : Int) b x = b by unfold bst1; rw [if_neg]; exact fun h => p1 h.1)
                clear p1
                go_wp2_with fail
                go_quiet (fail)
                have ZE := Lib.hid (ZB2.out.next (below_drewN (Below.refl _ W1) nq) ZB2.out.lt)
                have BE := Lib.hid (HBA.out.trans ((below_drewN (Below.refl _ W1) nq).mono HBA.out.size))
                clear ZB2 HBA ZX
                generalize W1.drewN nq = w4 at *
                go_wp2_with fail
                go_roundw
                case rel => exact ⟨m + 1, HMF.out, by go_num, by rw [HTK.out, HNX.out]; exact ZE.out, BE.out⟩
                case measure => have := HMF.out; simp [intOf]; omega
            · have j1 : decide ((m : Int) < (E.length : Int)) = false := decide_eq_false (by omega)
              have HBX := Lib.hid (show b = some x by rw [← HBV.out, List.take_of_length_le (by omega)]; exact HX1.out)
              have ZB2 := ZB.out
              rw [HBX.out] at ZB2
              simp only [bestB] at ZB2
              have c0 := ZB2.cell 0
              have c1 := ZB2.cell 1
              have c2 := ZB2.cell 2
              have c3 := ZB2.cell 3
              have c4 := ZB2.cell 4
              have c5 := ZB2.cell 5
              have c6 := ZB2.cell 6
              simp only [List.getElem?_toArray, List.getElem?_cons_zero, List.getElem?_cons_succ] at c0 c1 c2 c3 c4 c5 c6
              have ZB4 := Lib.hid ZB2
              obtain ⟨h3, h4, h5, h6⟩ := HX3.out
              obtain ⟨q, hq⟩ : ∃ q : Nat, x.frm = (q : Int) := ⟨x.frm.toNat, by omega⟩
              have hql : q < l.length := by omega
              have HQ := Lib.hid (show gt dd (q : Int) = gi - 1 ∧ 0 ≤ gt dd (q : Int) by rw [← hq, ← HGE.out]; exact ⟨h5, h6⟩)
              have HLSW := Lib.hid (RdP.next HLS.out HB2.out)
              have hbk := (Below.refl wr.heap.size wr).alloc (Nat.le_refl _) (.cells #[.int .i64 x.frm, .int .i64 x.to_, .int .i64 x.name.kind, .string (bs x.name.owner), .int .i64 x.name.num, .int .i64 x.name.idx, .string (bs x.name.text)] 43)
              have ON := Lib.hid (own_new wr 0 43 7 [.int .i64 x.frm, .int .i64 x.to_, .int .i64 x.name.kind, .string (bs x.name.owner), .int .i64 x.name.num, .int .i64 x.name.idx, .string (bs x.name.text)] rfl (Nat.zero_le _))
              have LS8 := Lib.hid (RdP.next HLSW.out hbk)
              have P8 := Lib.hid (HBW.out.trans (hbk.mono HBW.out.size))
              have ZB8 := Lib.hid (ZB4.out.next hbk ZB4.out.lt)
              have HQX := Lib.hid hq
              obtain ⟨i0, hi0, hz0, hz1, hz2⟩ := info_parts infoLk
              have hws := HBW.out.size
              clear hbk ZB2 hq h3 h4 h5 h6
              go_upto_region 23 with (at_builtin; refine wpList_append_rd _ rfl _ _ _ rfl 0 43 i0 _ 7 72 Try.underlying32 hi0 hz0 hz1 hz2 rfl (by omega) _ 1 [.int .i64 x.frm, .int .i64 x.to_, .int .i64 x.name.kind, .string (bs x.name.owner), .int .i64 x.name.num, .int .i64 x.name.idx, .string (bs x.name.text)] (by rfl) ON.out (.slice A4 ls.length cw) ls.length (ls.flatMap lkC) (by rfl) LS8.out (lk_fm_len ls) lk_one (by unfold maxLen; omega) (by omega) (by simp) ?_; intro ao cap w9 hown hg9; have OW9 := Lib.hid hown; have ZB9 := Lib.hid (ZB8.out.grown hg9 (fun e => by have h1 := ZB8.out.lt; have h2 : some bb = some wr.heap.size := e; injection h2 with h2; have := ZB4.out.lt; omega)); have P9 := Lib.hid (P8.out.grown hg9 P8.out.size (fun k hk => by have h2 : some wr.heap.size = some k := hk; injection h2 with h2; omega)); clear hown hg9 hws i0 hi0 hz0 hz1 hz2)
              have d0 := ZB9.out.cell 0
              simp only [List.getElem?_toArray, List.getElem?_cons_zero] at d0
              rw [HQX.out] at d0
              have HGL2 := HGL.out
              have HGEO := HGE.out
              have HWF := Lib.hid (show wantS E dd f ((gt dd (q : Int)).toNat + 1) q (x :: ls) = W by
                rw [← HWN2.out, ← HQX.out]
                congr 1
                have h1 := HQ.out
                rw [← HQX.out] at h1
                omega)
              have HRX := Lib.hid (show RdLk w9 (.slice ao (1 + ls.length) cap) (x :: ls) by
                have h1 := Rd.of_own OW9.out
                have h2 : (x :: ls).length = 1 + ls.length := by simp; omega
                show Rd _ _ _ (x :: ls).length _
                rw [h2]
                simpa [lkC] using h1)
              rw [HGEO] at HGL2
              clear HGEO
              go_wp2_with fail
              exact ⟨⟨q, x :: ls, hql, rfl, HRX.out, HQ.out.2, by have := HQ.out; simp only [List.length_cons]; push_cast; omega, HWF.out, P9.out⟩, by have := HQ.out; have := HGE.out; simp [intOf]; omega⟩
    · have q1 : decide (T < 0) = true := decide_eq_true (by omega)
      have HW2 := Lib.hid (show R = none by rw [← HRR.out, HCW.out, if_neg h0])
      rw [HW2.out]
      clear h0 hE
      go_wp2_with fail
      go_ret
      exact ⟨rfl, HF4.out.trans (P5.out.mono HF4.out.size)⟩
  · have HW2 := Lib.hid (show R = none by rw [← HRR.out]; unfold chainS; rw [if_neg hin])
    rw [HW2.out]
    obtain ⟨o1, o2⟩ := HW.out
    simp only [Lit.wf, Bool.and_eq_true, decide_eq_true_eq] at o1 o2
    clear HW
    by_cases h1 : fr < 0
    · have k1 : decide (fr < 0) = true := decide_eq_true h1
      go_wp2_with fail
      go_ret
      exact ⟨rfl, HF4.out⟩
    · have k1 : decide (fr < 0) = false := decide_eq_false h1
      by_cases h2 : to_ < 0
      · have k2 : decide (to_ < 0) = true := decide_eq_true h2
        go_wp2_with fail
        go_ret
        exact ⟨rfl, HF4.out⟩
      · have k2 : decide (to_ < 0) = false := decide_eq_false h2
        by_cases h3 : (l.length : Int) ≤ fr
        · have k3 : decide ((l.length : Int) ≤ fr) = true := decide_eq_true h3
          go_wp2_with fail
          go_ret
          exact ⟨rfl, HF4.out⟩
        · have k3 : decide ((l.length : Int) ≤ fr) = false := decide_eq_false h3
          have k4 : decide ((l.length : Int) ≤ to_) = true := decide_eq_true (by omega)
          go_wp2_with fail
          go_ret
          exact ⟨rfl, HF4.out⟩
theorem law_chains_at (w : World) {u : Value} {ds : List De} (hd : DeAt w.heap.size w u ds) (a : Int) (ha : (Lit.int .i64 a).wf = true) (b : Int) (hb : (Lit.int .i64 b).wf = true) : Calls Try.prog 3 #[.agg #[u], .int .i64 a, .int .i64 b] w fun e w' => e = .returned (.bool true) ∧ Below w.heap.size w w' := law_chains hd a b ha hb
end Go.Proofs.Ytmjkcanjfjfkfaa
