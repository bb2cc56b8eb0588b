/- Walks of layer 47: the distances of the definition. -/
import Derived.Test.YtmjkcanjfjfkfaaP7
import Derived.Test.YtmjkcanjfjfkfaaE3
import Derived.Test.YtmjkcanjfjfkfaaT13
namespace Go.Proofs.Ytmjkcanjfjfkfaa
open Go.RowKit
set_option linter.unusedSimpArgs false
set_option linter.unusedVariables false
attribute [local go_sem ↓] Go.wp_at_zero Go.wp_at_succ
theorem gt_at {ds : List Int} {k : Nat} (hk : k < ds.length) : gt ds (k : Int) = ds[k] := by
  unfold gt
  rw [Int.toNat_natCast, List.getD_eq_getElem?_getD, List.getElem?_eq_getElem hk]
  rfl
/-- The cells of a row of distances. -/
theorem Row1.gt {w : World} {base g n c : Nat} {l : List Int} (h : Row1 3 iV w base g n c l) {k : Nat} (hk : k < n) : w.cell? ⟨g, k, none⟩ = some (.int .i64 (gt l k)) := by
  rw [gt_at (by rw [h.1]; exact hk)]
  exact h.cell _
/-- Distances are at least -1 and at most the number. -/
def DBd (ds : List Int) : Prop := ∀ j : Int, 0 ≤ j → -1 ≤ gt ds j ∧ gt ds j ≤ j
theorem DBd.one {i : Nat} {ds : List Int} {x : Lk} (h : DBd ds) (hi : i < ds.length) (hx : x.frm < x.to_) : DBd (dst1 i ds x) := fun j hj => by
  unfold dst1
  split
  · rename_i hc
    rw [gt_set _ hi hj]
    split
    · have := h x.frm hc.2.1
      omega
    · exact h j hj
  · exact h j hj
theorem DBd.fold {i : Nat} : ∀ (E : List Lk) (ds : List Int), DBd ds → i < ds.length → (∀ x ∈ E, x.frm < x.to_) → DBd (E.foldl (dst1 i) ds)
  | [], ds, h, _, _ => h
  | x :: E, ds, h, hi, hE => DBd.fold E (dst1 i ds x) (h.one hi (hE x (by simp))) (by rw [dst1_len]; exact hi) fun y hy => hE y (by simp [hy])
theorem DBd.to {E : List Lk} {N f : Nat} (hf : f < N) (hE : ∀ x ∈ E, x.frm < x.to_) : ∀ m, f + 1 + m ≤ N → DBd (dstTo E N f m)
  | 0, _ => fun j hj => by
    unfold dstTo dst0
    simp only [List.range_zero, List.foldl_nil]
    rw [gt_set _ (by simpa using hf) hj]
    split
    · omega
    · unfold gt
      rw [List.getD_eq_getElem?_getD, List.getElem?_replicate]
      split <;> simp <;> omega
  | m + 1, hm => by
    have ih := DBd.to hf hE m (by omega)
    unfold dstTo
    rw [List.range_succ, List.foldl_append]
    exact DBd.fold E _ ih (by have := dstTo_len E N f m; unfold dstTo at this; rw [this]; omega) hE
def diRel (l : List Ac) (E : List Lk) (f : Nat) (w1 : World) (g : Nat) (i : Value) (wr : World) : Prop := ∃ m : Nat, f + 1 + m ≤ l.length ∧ i = .int .i64 ((f + 1 + m : Nat) : Int) ∧ Row1 3 iV wr w1.heap.size g l.length l.length (dstTo E l.length f m) ∧ Below w1.heap.size w1 wr
def djRel (l : List Ac) (E : List Lk) (i : Nat) (ds : List Int) (w1 : World) (g : Nat) (v : Value) (wr : World) : Prop := ∃ k : Nat, k ≤ E.length ∧ v = .int .i64 (k : Int) ∧ Row1 3 iV wr w1.heap.size g l.length l.length ((E.take k).foldl (dst1 i) ds) ∧ Below w1.heap.size w1 wr
def dfRel (l : List Ac) (w1 : World) (g : Nat) (i : Value) (wr : World) : Prop := ∃ k : Nat, k ≤ l.length ∧ i = .int .i64 (k : Int) ∧ Row1 3 iV wr w1.heap.size g l.length l.length (List.replicate k (-1) ++ List.replicate (l.length - k) 0) ∧ Below w1.heap.size w1 wr
set_option maxRecDepth 100000 in
set_option maxHeartbeats 8000000 in
theorem dist_is {w : World} {v : Value} {l : List Ac} (h : RdAc w v l) (hr : ∀ a ∈ l, AcR a) (ho : ∀ a ∈ l, okAc a = true) (hl : l.length ≤ 35) {f : Nat} (hf : f < l.length) :
    Calls Try.prog 13 #[v, .int .i64 f] w fun e w' => ∃ g base, e = .returned (.slice (some ⟨g, 0, none⟩) l.length l.length) ∧ Row1 3 iV w' base g l.length l.length (dstS (lnkD l).flatten l.length f) ∧ w.heap.size ≤ base ∧ Below w.heap.size w w' := by
  obtain ⟨A, c, rfl, hc⟩ := RowRd.form h
  have HLK := Lib.hid (rlinks_is h hr ho hl)
  have hfl := flat_le (l := l) (fun a ha => (hr a ha).2.2.2.1) l.length (Nat.le_refl _)
  rw [List.take_of_length_le (Nat.le_refl _)] at hfl
  have HBK := Lib.hid (fun x (hx : x ∈ (lnkD l).flatten) => And.intro (lnkD_back hx) (lnkD_to hx))
  obtain ⟨E, hE⟩ : ∃ E, (lnkD l).flatten = E := ⟨_, rfl⟩
  rw [hE] at HLK HBK hfl ⊢
  have hel : E.length ≤ 350 := by omega
  have HF := Lib.hid hf
  clear h hr ho hE hfl
  go_enter Try.func13, Try.ntmps13
  go_wp2_with fail
  go_at_call 14
  refine HLK.out.mono ?_
  rintro e w1 ⟨v5, rfl, hlk, hb⟩
  obtain ⟨A5, c5, rfl, hc5⟩ := RdP.form hlk
  have L1 := Lib.hid hlk
  have P1 := Lib.hid hb
  have hmk := make_ints w1 l.length (by omega)
  have hab := (Below.refl w1.heap.size w1).alloc (Nat.le_refl _) (.cells (madeCells #[.int .i64 0] l.length) 3)
  have H0 : Hid (dfRel l w1 w1.heap.size (.int .i64 (0 : Nat)) (w1.alloc (.cells (madeCells #[.int .i64 0] l.length) 3))) := Lib.hid ⟨0, Nat.zero_le _, rfl, by simpa using made_ints w1 l.length (by omega), hab⟩
  clear hlk hb HLK hab
  go_upto_region 3 with (fail)
  clear hmk
  generalize w1.alloc (.cells (madeCells #[.int .i64 0] l.length) 3) = w2 at *
  obtain ⟨g, hg⟩ : ∃ g, w1.heap.size = g := ⟨_, rfl⟩
  have HG := Lib.hid hg
  rw [show dfRel l w1 w1.heap.size (.int .i64 (0 : Nat)) w2 = dfRel l w1 g (.int .i64 (0 : Nat)) w2 by rw [hg]] at H0
  rw [hg]
  clear hg
  go_wp2_with fail
  go_loopw [7] (fun i wr => dfRel l w1 g i wr) (fun i _ => l.length - (intOf i).toNat)
  case atStart => exact H0.out
  case round =>
    clear H0
    obtain ⟨k, hk, rfl, hrow, hB⟩ := hrel
    have HB := Lib.hid hB
    have HRW := Lib.hid hrow
    clear hB
    by_cases hkl : k < l.length
    · have j1 : decide ((k : Int) < (l.length : Int)) = true := decide_eq_true (by omega)
      have j2 : (0 : Int) ≤ (k : Int) := by omega
      have j3 : (k : Int) < (l.length : Int) := by omega
      have hff := hrow.frozen (by omega) k
      have hcc := hrow.cell (k := k) (by rw [hrow.1]; exact hkl)
      have HN := Lib.hid (hrow.set hkl (-1))
      rw [set_mid2 (List.replicate k (-1)) 0 (-1) k l.length (by simp) hkl] at HN
      have HBN := Lib.hid (HB.out.setCell (p := ⟨g, k, none⟩) (hrow.low (by omega)) (.int .i64 (-1)))
      obtain ⟨z, hz⟩ : ∃ z, (List.replicate k (-1) ++ List.replicate (l.length - k) (0 : Int))[k]'(by rw [hrow.1]; exact hkl) = z := ⟨_, rfl⟩
      rw [hz] at hcc
      have hkl2 := Lib.hid hkl
      clear hrow hz HRW
      go_wp2_with fail
      go_roundw
      case rel => exact ⟨k + 1, hkl2.out, by go_num, by rw [show List.replicate (k + 1) (-1 : Int) = List.replicate k (-1) ++ [-1] from List.replicate_succ']; exact HN.out, HBN.out⟩
      case measure => have := hkl2.out; simp [intOf]; omega
    · have j1 : decide ((k : Int) < (l.length : Int)) = false := decide_eq_false (by omega)
      have hkk : k = l.length := by omega
      have HR2 := Lib.hid (show Row1 3 iV wr w1.heap.size g l.length l.length (List.replicate l.length (-1)) by
        have := HRW.out
        rw [hkk, Nat.sub_self] at this
        simpa using this)
      have hff := HR2.out.frozen (by omega) f
      have hcc := HR2.out.gt hf
      have HR3 := Lib.hid (HR2.out.set hf 0)
      have HB3 := Lib.hid (HB.out.setCell (p := ⟨g, f, none⟩) (HR2.out.low (by omega)) (.int .i64 0))
      have j2 : (0 : Int) ≤ (f : Int) := by omega
      have j3 : (f : Int) < (l.length : Int) := by omega
      obtain ⟨z, hz⟩ : ∃ z, gt (List.replicate l.length (-1)) (f : Int) = z := ⟨_, rfl⟩
      rw [hz] at hcc
      clear hrow HRW HB hz hkk
      go_upto_region 8 with (fail)
      have H1 : Hid (diRel l E f w1 g (.int .i64 ((f + 1 : Nat) : Int)) (wr.setCell ⟨g, f, none⟩ (.int .i64 0))) := Lib.hid ⟨0, hf, rfl, HR3.out, HB3.out⟩
      clear HR3 HB3 hff hcc
      generalize wr.setCell ⟨g, f, none⟩ (.int .i64 0) = w3 at *
      go_wp2_with fail
      go_loopw [8] (fun i wr => diRel l E f w1 g i wr) (fun i _ => l.length - (intOf i).toNat)
      case atStart => exact H1.out
      case round =>
        clear H1
        obtain ⟨m, hm, rfl, hrow, hB⟩ := hrel
        obtain ⟨i, hi⟩ : ∃ i, f + 1 + m = i := ⟨_, rfl⟩
        have HI := Lib.hid hi
        rw [hi]
        have HRW := Lib.hid hrow
        have HB := Lib.hid hB
        obtain ⟨ds, hds⟩ : ∃ ds, dstTo E l.length f m = ds := ⟨_, rfl⟩
        have HDS := Lib.hid hds
        rw [hds] at HRW
        have hil0 : i ≤ l.length := by omega
        have HBD := Lib.hid (DBd.to HF.out (fun x hx => (HBK.out x hx).1) m hm)
        rw [hds] at HBD
        have HLN := Lib.hid (show ds.length = l.length by rw [← hds, dstTo_len])
        have hfi : f < i := by omega
        clear hrow hB hi hds hm
        by_cases hil : i < l.length
        · have j1 : decide ((i : Int) < (l.length : Int)) = true := decide_eq_true (by omega)
          have HNX := Lib.hid (show dstTo E l.length f (m + 1) = E.foldl (dst1 i) ds by
            unfold dstTo
            rw [List.range_succ, List.foldl_append]
            rw [← HDS.out, ← HI.out]
            rfl)
          have H2 : Hid (djRel l E i ds w1 g (.int .i64 (0 : Nat)) wr) := Lib.hid ⟨0, Nat.zero_le _, rfl, HRW.out, HB.out⟩
          clear HRW HB
          go_wp2_with fail
          go_loopw [9] (fun v wr => djRel l E i ds w1 g v wr) (fun v _ => E.length - (intOf v).toNat)
          case atStart => exact H2.out
          case round =>
            clear H2
            obtain ⟨k, hk, rfl, hrow, hB⟩ := hrel
            have HB := Lib.hid hB
            obtain ⟨d1, hd1⟩ : ∃ d1, (E.take k).foldl (dst1 i) ds = d1 := ⟨_, rfl⟩
            have HD1 := Lib.hid hd1
            rw [hd1] at hrow
            have HRW := Lib.hid hrow
            have HAB := Lib.hid (show DBd d1 by
              rw [← hd1]
              exact DBd.fold _ ds HBD.out (by rw [HLN.out]; exact hil) fun x hx => (HBK.out x (List.mem_of_mem_take hx)).1)
            clear hB hd1 hrow
            by_cases hke : k < E.length
            · have k1 : decide ((k : Int) < (E.length : Int)) = true := decide_eq_true (by omega)
              have k2 : (0 : Int) ≤ (k : Int) := by omega
              have k3 : (k : Int) < (E.length : Int) := by omega
              obtain ⟨xb, xo, rfl, hxb, y0, y1, _, _, _, _, _⟩ := RdLk.piece (RdP.next L1.out HB.out) hke
              have HTK := Lib.hid (show (E.take (k + 1)).foldl (dst1 i) ds = dst1 i d1 E[k] by rw [List.take_succ_eq_append_getElem hke, List.foldl_append, HD1.out]; rfl)
              obtain ⟨hx1, hx2⟩ := HBK.out E[k] (List.getElem_mem hke)
              obtain ⟨x, hx⟩ : ∃ x, E[k] = x := ⟨_, rfl⟩
              rw [hx] at y0 y1 HTK hx1 hx2
              have HKE := Lib.hid hke
              have i1 : (0 : Int) ≤ (i : Int) := by omega
              have i2 : (i : Int) < (l.length : Int) := by omega
              clear hx
              by_cases p1 : x.to_ = (i : Int)
              · have e1 : (x.to_ == (i : Int)) = true := beq_iff_eq.2 p1
                by_cases p2 : 0 ≤ x.frm
                · have e2 : decide (0 ≤ x.frm) = true := decide_eq_true p2
                  have HP2 := Lib.hid p2
                  obtain ⟨q, hq⟩ : ∃ q : Nat, x.frm = (q : Int) := ⟨x.frm.toNat, by omega⟩
                  have hql : q < l.length := by omega
                  have zq := HRW.out.gt hql
                  have zi := HRW.out.gt hil
                  have q1 : (0 : Int) ≤ (q : Int) := by omega
                  have q2 : (q : Int) < (l.length : Int) := by omega
                  have hfq : gt d1 x.frm = gt d1 (q : Int) := by rw [hq]
                  obtain ⟨a, ha⟩ : ∃ a, gt d1 (q : Int) = a := ⟨_, rfl⟩
                  obtain ⟨b, hb⟩ : ∃ b, gt d1 (i : Int) = b := ⟨_, rfl⟩
                  have hab := HAB.out (q : Int) (by omega)
                  have hbb := HAB.out (i : Int) (by omega)
                  rw [ha] at zq hab
                  rw [hb] at zi hbb
                  rw [hq] at y0 e2
                  clear hq p2
                  by_cases p3 : 0 ≤ a
                  · have e3 : decide (0 ≤ a) = true := decide_eq_true p3
                    by_cases p4 : b < 0
                    · have e4 : decide (b < 0) = true := decide_eq_true p4
                      have HDV := Lib.hid (show dst1 i d1 x = d1.set i (a + 1) by unfold dst1; rw [if_pos ⟨p1, HP2.out, by rw [hfq, ha]; exact p3, by rw [hfq, ha, hb]; exact .inl p4⟩, hfq, ha])
                      clear p1 p4 hfq ha hb hx1 hx2
                      have hff := HRW.out.frozen (by omega) i
                      have HN := Lib.hid (HRW.out.set hil (a + 1))
                      go_wp2_with fail
                      go_quiet (fail)
                      have HRQ := Lib.hid (HRW.out.drewN nq)
                      have HBQ := Lib.hid (HB.out.trans ((below_drewN (Below.refl _ wr) nq).mono HB.out.size))
                      have y0 : (wr.drewN nq).cell? ⟨xb, xo + k * 7, none⟩ = some (.int .i64 (q : Int)) := y0
                      have zq : (wr.drewN nq).cell? ⟨g, q, none⟩ = some (.int .i64 a) := zq
                      have zi : (wr.drewN nq).cell? ⟨g, i, none⟩ = some (.int .i64 b) := zi
                      have hff : (wr.drewN nq).frozen? ⟨g, i, none⟩ = false := hff
                      have HRS := Lib.hid (HRQ.out.set hil (a + 1))
                      have HBS := Lib.hid (HBQ.out.setCell (p := ⟨g, i, none⟩) (HRQ.out.low (by omega)) (.int .i64 (a + 1)))
                      clear HRQ HBQ
                      generalize wr.drewN nq = w4 at *
                      go_wp2_with fail
                      go_roundw
                      case rel => exact ⟨k + 1, HKE.out, by go_num, by rw [HTK.out, HDV.out]; exact HRS.out, HBS.out⟩
                      case measure => have := HKE.out; simp [intOf]; omega
                    · have e4 : decide (b < 0) = false := decide_eq_false p4
                      by_cases p5 : a + 1 < b
                      · have e5 : decide (a + 1 < b) = true := decide_eq_true p5
                        have HDV := Lib.hid (show dst1 i d1 x = d1.set i (a + 1) by unfold dst1; rw [if_pos ⟨p1, HP2.out, by rw [hfq, ha]; exact p3, by rw [hfq, ha, hb]; exact .inr p5⟩, hfq, ha])
                        clear p1 p4 p5 hfq ha hb hx1 hx2
                        have hff := HRW.out.frozen (by omega) i
                        have HN := Lib.hid (HRW.out.set hil (a + 1))
                        go_wp2_with fail
                        go_quiet (fail)
                        have HRQ := Lib.hid (HRW.out.drewN nq)
                        have HBQ := Lib.hid (HB.out.trans ((below_drewN (Below.refl _ wr) nq).mono HB.out.size))
                        have y0 : (wr.drewN nq).cell? ⟨xb, xo + k * 7, none⟩ = some (.int .i64 (q : Int)) := y0
                        have zq : (wr.drewN nq).cell? ⟨g, q, none⟩ = some (.int .i64 a) := zq
                        have zi : (wr.drewN nq).cell? ⟨g, i, none⟩ = some (.int .i64 b) := zi
                        have hff : (wr.drewN nq).frozen? ⟨g, i, none⟩ = false := hff
                        have HRS := Lib.hid (HRQ.out.set hil (a + 1))
                        have HBS := Lib.hid (HBQ.out.setCell (p := ⟨g, i, none⟩) (HRQ.out.low (by omega)) (.int .i64 (a + 1)))
                        clear HRQ HBQ
                        generalize wr.drewN nq = w4 at *
                        go_wp2_with fail
                        go_roundw
                        case rel => exact ⟨k + 1, HKE.out, by go_num, by rw [HTK.out, HDV.out]; exact HRS.out, HBS.out⟩
                        case measure => have := HKE.out; simp [intOf]; omega
                      · have e5 : decide (a + 1 < b) = false := decide_eq_false p5
                        have HDV := Lib.hid (show dst1 i d1 x = d1 by unfold dst1; rw [if_neg]; rw [hfq, ha, hb]; omega)
                        clear p1 p4 p5 hfq ha hb hx1 hx2
                        go_wp2_with fail
                        go_quiet (fail)
                        have HRQ := Lib.hid (HRW.out.drewN nq)
                        have HBQ := Lib.hid (HB.out.trans ((below_drewN (Below.refl _ wr) nq).mono HB.out.size))
                        clear HRW HB
                        generalize wr.drewN nq = w4 at *
                        go_wp2_with fail
                        go_roundw
                        case rel => exact ⟨k + 1, HKE.out, by go_num, by rw [HTK.out, HDV.out]; exact HRQ.out, HBQ.out⟩
                        case measure => have := HKE.out; simp [intOf]; omega
                  · have e3 : decide (0 ≤ a) = false := decide_eq_false p3
                    have HDV := Lib.hid (show dst1 i d1 x = d1 by unfold dst1; rw [if_neg]; rw [hfq, ha]; omega)
                    clear p1 p3 hfq ha hb hx1 hx2
                    go_wp2_with fail
                    go_quiet (fail)
                    have HRQ := Lib.hid (HRW.out.drewN nq)
                    have HBQ := Lib.hid (HB.out.trans ((below_drewN (Below.refl _ wr) nq).mono HB.out.size))
                    clear HRW HB
                    generalize wr.drewN nq = w4 at *
                    go_wp2_with fail
                    go_roundw
                    case rel => exact ⟨k + 1, HKE.out, by go_num, by rw [HTK.out, HDV.out]; exact HRQ.out, HBQ.out⟩
                    case measure => have := HKE.out; simp [intOf]; omega
                · have e2 : decide (0 ≤ x.frm) = false := decide_eq_false p2
                  have HDV := Lib.hid (show dst1 i d1 x = d1 by unfold dst1; rw [if_neg]; omega)
                  clear p1 p2 hx1 hx2
                  go_wp2_with fail
                  go_quiet (fail)
                  have HRQ := Lib.hid (HRW.out.drewN nq)
                  have HBQ := Lib.hid (HB.out.trans ((below_drewN (Below.refl _ wr) nq).mono HB.out.size))
                  clear HRW HB
                  generalize wr.drewN nq = w4 at *
                  go_wp2_with fail
                  go_roundw
                  case rel => exact ⟨k + 1, HKE.out, by go_num, by rw [HTK.out, HDV.out]; exact HRQ.out, HBQ.out⟩
                  case measure => have := HKE.out; simp [intOf]; omega
              · have e1 : (x.to_ == (i : Int)) = false := beq_eq_false_iff_ne.2 p1
                have HDV := Lib.hid (show dst1 i d1 x = d1 by unfold dst1; rw [if_neg]; exact fun h => p1 h.1)
                clear p1 hx1 hx2
                go_wp2_with fail
                go_quiet (fail)
                have HRQ := Lib.hid (HRW.out.drewN nq)
                have HBQ := Lib.hid (HB.out.trans ((below_drewN (Below.refl _ wr) nq).mono HB.out.size))
                clear HRW HB
                generalize wr.drewN nq = w4 at *
                go_wp2_with fail
                go_roundw
                case rel => exact ⟨k + 1, HKE.out, by go_num, by rw [HTK.out, HDV.out]; exact HRQ.out, HBQ.out⟩
                case measure => have := HKE.out; simp [intOf]; omega
            · have k1 : decide ((k : Int) < (E.length : Int)) = false := decide_eq_false (by omega)
              have HEN := Lib.hid (show d1 = E.foldl (dst1 i) ds by rw [← HD1.out, List.take_of_length_le (by omega)])
              go_wp2_with fail
              exact ⟨⟨m + 1, by have := HI.out; omega, by have := HI.out; simp only [Value.int.injEq, true_and]; omega, by rw [HNX.out, ← HEN.out]; exact HRW.out, HB.out⟩, by simp [intOf]; omega⟩
        · have j1 : decide ((i : Int) < (l.length : Int)) = false := decide_eq_false (by omega)
          have HEN := Lib.hid (show dstS E l.length f = ds by unfold dstS; rw [← HDS.out]; congr 1; have := HI.out; omega)
          go_wp2_with fail
          go_ret
          exact ⟨g, w1.heap.size, rfl, by rw [HEN.out]; exact HRW.out, P1.out.size, P1.out.trans (HB.out.mono P1.out.size)⟩
end Go.Proofs.Ytmjkcanjfjfkfaa
