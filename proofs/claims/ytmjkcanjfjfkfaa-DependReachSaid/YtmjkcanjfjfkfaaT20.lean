/- Walks of layer 47: the definition's reach. -/
import Derived.Test.YtmjkcanjfjfkfaaP9
import Derived.Test.YtmjkcanjfjfkfaaE3
import Derived.Test.YtmjkcanjfjfkfaaT13
namespace Go.Proofs.Ytmjkcanjfjfkfaa
open Go.RowKit
set_option linter.unusedSimpArgs false
set_option linter.unusedVariables false
attribute [local go_sem ↓] Go.wp_at_zero Go.wp_at_succ
theorem mkd_at {m : List Bool} {k : Nat} (hk : k < m.length) : mkd m (k : Int) = m[k] := by
  unfold mkd
  rw [Int.toNat_natCast, List.getD_eq_getElem?_getD, List.getElem?_eq_getElem hk]
  rfl
theorem Row1.mk {w : World} {base g n c : Nat} {m : List Bool} (h : Row1 4 bV w base g n c m) {k : Nat} (hk : k < n) : w.cell? ⟨g, k, none⟩ = some (.bool (mkd m k)) := by
  rw [mkd_at (by rw [h.1]; exact hk)]
  exact h.cell _
theorem clo_nil {ks : List Ky} (h : ks.length = 0) (E : List Lk) (hE : E = []) (fwd own : Bool) (L : Nat) (P : Int → Prop) : ClR E ks fwd own L P := ⟨fun x hx => (by rw [hE] at hx; cases hx), fun _ i k hi => by omega⟩
/-- The passes under way. -/
structure PasI (E : List Lk) (ks : List Ky) (fwd own : Bool) (L : Nat) (mm m : List Bool) (ag : Bool) : Prop where
  len : m.length = ks.length
  sub : ∀ j, mkd mm j = true → mkd m j = true
  min : ∀ P, ClR E ks fwd own L P → InP P mm → InP P m
  fin : ag = false → ClR E ks fwd own L fun j => mkd m j = true
theorem PasI.next {E : List Lk} {ks : List Ky} {fwd own : Bool} {L : Nat} {mm m : List Bool} {ag : Bool} (h : PasI E ks fwd own L mm m ag) (hE : ∀ x ∈ E, x.frm < (ks.length : Int) ∧ 0 ≤ x.to_ ∧ x.to_ < (ks.length : Int)) (hL : L ≤ ks.length) :
    PasI E ks fwd own L mm (pasS E ks fwd own L m).1 (pasS E ks fwd own L m).2 ∧ cntF (pasS E ks fwd own L m).1 + (if (pasS E ks fwd own L m).2 then 1 else 0) < cntF m + 1 := by
  obtain ⟨a, b, c⟩ := pasS_is hE fwd own hL m h.len
  refine ⟨⟨a.len.trans h.len, fun j hj => a.mono j (h.sub j hj), fun P h1 h2 => b P h1 (h.min P h1 h2), fun hf => ?_⟩, ?_⟩
  · obtain ⟨e1, e2⟩ := c hf
    rw [e1]; exact e2
  · rcases a.alt with e | ⟨e1, e2⟩
    · rw [e]; simp
    · rw [e1]
      simp only at e2
      simp
      omega
def rlRel (N : Nat) (mm : List Bool) (v11 v12 : Value) : Prop := ∃ k : Nat, k ≤ N ∧ v12 = .int .i64 (k : Int) ∧ v11 = .int .i64 (lstS mm k)
def rpRel (E : List Lk) (ks : List Ky) (fwd own : Bool) (L : Nat) (mm : List Bool) (w1 : World) (g c : Nat) (gk : Nat) (v13 : Value) (wr : World) : Prop := ∃ (m : List Bool) (ag : Bool), v13 = .bool ag ∧ gk = cntF m + (if ag then 1 else 0) ∧ PasI E ks fwd own L mm m ag ∧ Row1 4 bV wr w1.heap.size g ks.length c m ∧ Below w1.heap.size w1 wr
def reRel (E : List Lk) (ks : List Ky) (fwd : Bool) (m : List Bool) (w1 : World) (g c : Nat) (v13 v14 : Value) (wr : World) : Prop := ∃ k : Nat, k ≤ E.length ∧ v14 = .int .i64 (k : Int) ∧ v13 = .bool ((E.take k).foldl (pas1 fwd) (m, false)).2 ∧ Row1 4 bV wr w1.heap.size g ks.length c ((E.take k).foldl (pas1 fwd) (m, false)).1 ∧ Below w1.heap.size w1 wr
def roRel (ks : List Ky) (own : Bool) (L : Nat) (st : MSt) (w1 : World) (g c : Nat) (v13 v17 : Value) (wr : World) : Prop := ∃ n : Nat, n ≤ ks.length ∧ v17 = .int .i64 (n : Int) ∧ (own = false → n = 0) ∧ v13 = .bool (oAll ks L st n).2 ∧ Row1 4 bV wr w1.heap.size g ks.length c (oAll ks L st n).1 ∧ Below w1.heap.size w1 wr
def rkRel (ks : List Ky) (i L : Nat) (st : MSt) (w1 : World) (g c : Nat) (v13 v18 : Value) (wr : World) : Prop := ∃ k : Nat, k ≤ L ∧ v18 = .int .i64 (k : Int) ∧ v13 = .bool (oRow ks i k st).2 ∧ Row1 4 bV wr w1.heap.size g ks.length c (oRow ks i k st).1 ∧ Below w1.heap.size w1 wr
def rxRel (ks : List Ky) (m : List Bool) (w1 : World) (g c : Nat) (v19 v20 : Value) (wr : World) : Prop := ∃ k : Nat, k ≤ ks.length ∧ v20 = .int .i64 (k : Int) ∧ wr.ownsRow w1.heap.size 3 1 v19 (outS m k).length ((outS m k).flatMap inC) ∧ Row1 4 bV wr w1.heap.size g ks.length c m ∧ Below w1.heap.size w1 wr
theorem oAll_succ (ks : List Ky) (L : Nat) (st : MSt) (n : Nat) : oAll ks L st (n + 1) = oRow ks n L (oAll ks L st n) := by
  unfold oAll
  rw [List.range_succ, List.foldl_append]
  rfl
theorem oRow_succ (ks : List Ky) (i : Nat) (st : MSt) (k : Nat) : oRow ks i (k + 1) st = pasO ks i (oRow ks i k st) k := by
  unfold oRow
  rw [List.range_succ, List.foldl_append]
  rfl
set_option maxRecDepth 100000 in
set_option maxHeartbeats 16000000 in
theorem rreach_pos {w : World} {v vm : Value} {l : List Ac} {mm : List Bool} (h : RdAc w v l) (hr : ∀ a ∈ l, AcR a) (ho : ∀ a ∈ l, okAc a = true) (hl : l.length ≤ 35) (hm : Rd 4 w vm mm.length (mm.map bV)) (hml : mm.length = l.length) (h0 : 0 < l.length) (fwd own : Bool) :
    Calls Try.prog 32 #[v, vm, .bool fwd, .bool own] w fun e w' => ∃ v' out, e = .returned v' ∧ RdIn w' v' out ∧ RchP (lnkD l).flatten (l.map Ac.key) fwd own (lstS mm l.length + 1).toNat mm out ∧ Below w.heap.size w w' := by
  obtain ⟨A, c, rfl, hc⟩ := RowRd.form h
  obtain ⟨Am, cm, rfl, hcm⟩ := Rd.form hm
  have HLK := Lib.hid (rlinks_is h hr ho hl)
  have hfl := flat_le (l := l) (fun a ha => (hr a ha).2.2.2.1) l.length (Nat.le_refl _)
  rw [List.take_of_length_le (Nat.le_refl _)] at hfl
  have HBK := Lib.hid (fun x (hx : x ∈ (lnkD l).flatten) => lnk_rg x hx)
  obtain ⟨E, hE⟩ : ∃ E, (lnkD l).flatten = E := ⟨_, rfl⟩
  rw [hE] at HLK HBK hfl ⊢
  have hel : E.length ≤ 350 := by omega
  have HAC := Lib.hid h
  obtain ⟨ks, hks⟩ : ∃ ks, l.map Ac.key = ks := ⟨_, rfl⟩
  have hkn : ks.length = l.length := by rw [← hks, List.length_map]
  have HKN := Lib.hid hkn
  have HKK := Lib.hid hks
  rw [hks] at HBK ⊢
  have HM := Lib.hid hm
  have HML := Lib.hid hml
  have hLb := lstS_spec mm l.length
  obtain ⟨La, hLa⟩ : ∃ La, lstS mm l.length = La := ⟨_, rfl⟩
  rw [hLa] at hLb ⊢
  have HLA := Lib.hid hLa
  obtain ⟨L, hL⟩ : ∃ L, (La + 1).toNat = L := ⟨_, rfl⟩
  have hL2 : La = (L : Int) - 1 := by omega
  have hLN : L ≤ l.length := by omega
  have HLL := Lib.hid hL2
  rw [hL]
  have hml35 : mm.length ≤ 35 := by omega
  clear h hr ho hE hfl hm hks hLa hL hLb hkn hml hL2
  go_enter Try.func32, Try.ntmps32
  go_wp2_with fail
  go_at_call 14
  refine HLK.out.mono ?_
  rintro e w1 ⟨v9, rfl, hlk, hb⟩
  obtain ⟨A9, c9, rfl, hc9⟩ := RdP.form hlk
  have L1 := Lib.hid hlk
  have P1 := Lib.hid hb
  have HAC1 := Lib.hid (HAC.out.next hb)
  have hbe := (Below.refl w1.heap.size w1).alloc (Nat.le_refl _) (.cells #[] 4)
  have HE0 := Lib.hid (own_empty w1 w1.heap.size 4 1 (Nat.le_refl _))
  have HMS := Lib.hid (show Rd 4 (w1.alloc (.cells #[] 4)) (.slice Am mm.length cm) mm.length (mm.map bV) from (HM.out.next hb).next hbe)
  have HBE := Lib.hid hbe
  obtain ⟨i0, hi, hz0, hz1, hz2⟩ := info_parts infoBo
  clear hlk hb HLK hbe
  go_upto_region 3 with (at_builtin; refine wpList_append_rd _ rfl _ _ 71 rfl w1.heap.size 4 i0 _ 1 1 Try.underlying71 hi hz0 hz1 hz2 rfl (by decide) _ 0 [] (by rfl) HE0.out _ mm.length (mm.map bV) (by rfl) HMS.out (by simp) (by intro u hu; obtain ⟨b, _, rfl⟩ := List.mem_map.1 hu; rfl) (by unfold maxLen; omega) (by omega) (by simp) ?_; intro ao cap w2 hown2 hgrow2; (simp only [Nat.zero_add, List.nil_append] at hown2); have HG2 := Lib.hid hgrow2; have HO2 := Lib.hid hown2; clear hown2 hgrow2)
  have HB2 := Lib.hid (below_own HBE.out HE0.out HG2.out (Nat.le_refl _) (by simp))
  obtain ⟨g, hao⟩ : ∃ g, ao = some ⟨g, 0, none⟩ := by
    rcases HO2.out.2 with ⟨h1, h2⟩ | ⟨g, c', cur, hv, _⟩
    · have := HML.out; omega
    · injection hv with hv _ _
      exact ⟨g, hv⟩
  subst hao
  have HR2 := Lib.hid (show Row1 4 bV w2 w1.heap.size g ks.length cap mm from ⟨by rw [HKN.out]; exact HML.out, by rw [HKN.out, ← HML.out]; exact HO2.out⟩)
  have hnl : mm.length = l.length := HML.out
  rw [show (Value.slice (some ⟨g, 0, none⟩) mm.length cap) = .slice (some ⟨g, 0, none⟩) l.length cap by rw [hnl]]
  clear HG2 HO2 HMS HE0 i0 hi hz0 hz1 hz2 hnl
  go_wp2_with fail
  go_loop [11, 12] (fun v11 v12 => rlRel l.length mm v11 v12) (fun _ v12 => l.length - (intOf v12).toNat)
  case atStart => exact ⟨0, Nat.zero_le _, rfl, rfl⟩
  case round =>
    obtain ⟨k, hk, rfl, rfl⟩ := hrel
    by_cases hkl : k < l.length
    · have j1 : decide ((k : Int) < (l.length : Int)) = true := decide_eq_true (by omega)
      have j2 : (0 : Int) ≤ (k : Int) := by omega
      have j3 : (k : Int) < (l.length : Int) := by omega
      have z0 := HR2.out.mk (k := k) (by rw [HKN.out]; exact hkl)
      have HSU := Lib.hid (lstS_succ mm k)
      have hkl2 := Lib.hid hkl
      obtain ⟨b, hb⟩ : ∃ b, mkd mm (k : Int) = b := ⟨_, rfl⟩
      rw [hb] at z0 HSU
      clear hb
      cases b with
      | true =>
        go_wp2_with fail
        go_round
        case rel => exact ⟨k + 1, hkl2.out, by go_num, by rw [HSU.out]; rfl⟩
        case measure => have := hkl2.out; simp [intOf]; omega
      | false =>
        go_wp2_with fail
        go_round
        case rel => exact ⟨k + 1, hkl2.out, by go_num, by rw [HSU.out]; rfl⟩
        case measure => have := hkl2.out; simp [intOf]; omega
    · have j1 : decide ((k : Int) < (l.length : Int)) = false := decide_eq_false (by omega)
      have HKE := Lib.hid (show k = l.length by omega)
      rw [show lstS mm k = La by rw [HKE.out]; exact HLA.out]
      have H0 : Hid (rpRel E ks fwd own L mm w1 g cap (cntF mm + 1) (.bool true) w2) := Lib.hid ⟨mm, true, rfl, rfl, ⟨HR2.out.1, fun _ h => h, fun _ _ h => h, fun h => by cases h⟩, HR2.out, HB2.out⟩
      clear HR2 HB2
      go_wp2_with fail
      go_loopg [13] (cntF mm + 1) (fun gk v13 wr => rpRel E ks fwd own L mm w1 g cap gk v13 wr)
      case atStart => exact H0.out
      case round =>
        clear H0
        obtain ⟨m, ag, rfl, hgk, hpi, hrow, hB⟩ := hrel
        have HGK := Lib.hid hgk
        have HPI := Lib.hid hpi
        have HRW := Lib.hid hrow
        have HB := Lib.hid hB
        clear hgk hpi hrow hB
        cases ag with
        | true =>
          have H1 : Hid (reRel E ks fwd m w1 g cap (.bool false) (.int .i64 (0 : Nat)) wr) := Lib.hid ⟨0, Nat.zero_le _, rfl, rfl, HRW.out, HB.out⟩
          have HNX := Lib.hid (HPI.out.next HBK.out (show L ≤ ks.length by rw [HKN.out]; exact hLN))
          have HE1 := Lib.hid (show pasS E ks fwd own L m = if own then oAll ks L (E.foldl (pas1 fwd) (m, false)) ks.length else E.foldl (pas1 fwd) (m, false) from rfl)
          have HFG := Lib.hid (fun k => fold1_grw (E := E.take k) (N := ks.length) (fun x hx => HBK.out x (List.mem_of_mem_take hx)) fwd (m, false) HPI.out.len)
          clear HRW HB
          go_wp2_with fail
          go_loopw [13, 14] (fun v13 v14 wr => reRel E ks fwd m w1 g cap v13 v14 wr) (fun _ v14 _ => E.length - (intOf v14).toNat)
          case atStart => exact H1.out
          case round =>
            clear H1
            obtain ⟨k, hk, rfl, rfl, hrow, hB⟩ := hrel
            obtain ⟨st, hst⟩ : ∃ st, (E.take k).foldl (pas1 fwd) (m, false) = st := ⟨_, rfl⟩
            have HST := Lib.hid hst
            have HSL := Lib.hid (show st.1.length = ks.length by rw [← hst]; exact (HFG.out k).len.trans HPI.out.len)
            rw [hst] at hrow ⊢
            have HRW := Lib.hid hrow
            have HB := Lib.hid hB
            clear hrow hB hst
            by_cases hke : k < E.length
            · have k1 : decide ((k : Int) < (E.length : Int)) = true := decide_eq_true (by omega)
              have k2 : (0 : Int) ≤ (k : Int) := by omega
              have k3 : (k : Int) < (E.length : Int) := by omega
              obtain ⟨xb, xo, rfl, hxb, y0, y1, _, _, _, _, _⟩ := RdLk.piece (RdP.next L1.out HB.out) hke
              have HTK := Lib.hid (show (E.take (k + 1)).foldl (pas1 fwd) (m, false) = pas1 fwd st E[k] by rw [List.take_succ_eq_append_getElem hke, List.foldl_append, HST.out]; rfl)
              have h3 := HBK.out E[k] (List.getElem_mem hke)
              obtain ⟨x, hx⟩ : ∃ x, E[k] = x := ⟨_, rfl⟩
              rw [hx] at y0 y1 HTK h3
              rw [HKN.out] at h3
              have HKE := Lib.hid hke
              clear hx
              by_cases p2 : x.frm < 0
              · have e2 : decide (x.frm < 0) = true := decide_eq_true p2
                have HPV := Lib.hid (show pas1 fwd st x = st by unfold pas1; rw [if_pos p2])
                clear p2 h3
                go_wp2_with fail
                go_quiet (fail)
                have HRQ := Lib.hid (HRW.out.drewN nq)
                have HBQ := Lib.hid (HB.out.trans ((below_drewN (Below.refl _ wr) nq).mono HB.out.size))
                clear HRW HB y0 y1
                generalize wr.drewN nq = w4 at *
                go_wp2_with fail
                go_roundw
                case rel => exact ⟨k + 1, HKE.out, by go_num, by rw [HTK.out, HPV.out], by rw [HTK.out, HPV.out]; exact HRQ.out, HBQ.out⟩
                case measure => have := HKE.out; simp [intOf]; omega
              · obtain ⟨q, hq⟩ : ∃ q : Nat, x.frm = (q : Int) := ⟨x.frm.toNat, by omega⟩
                obtain ⟨r, hr⟩ : ∃ r : Nat, x.to_ = (r : Int) := ⟨x.to_.toNat, by omega⟩
                have HQ0 := Lib.hid hq
                have HR0 := Lib.hid hr
                rw [hq] at y0 h3
                rw [hr] at y1 h3
                have q1 : (0 : Int) ≤ (q : Int) := by omega
                have q2 : (q : Int) < (l.length : Int) := by omega
                have r1 : (0 : Int) ≤ (r : Int) := by omega
                have r2 : (r : Int) < (l.length : Int) := by omega
                have q3 : q < l.length := by omega
                have r3 : r < l.length := by omega
                clear p2 hq hr
                go_wp2_with fail
                go_quiet (fail)
                have HRQ := Lib.hid (HRW.out.drewN nq)
                have HBQ := Lib.hid (HB.out.trans ((below_drewN (Below.refl _ wr) nq).mono HB.out.size))
                clear HRW HB y0 y1
                generalize wr.drewN nq = w4 at *
                cases fwd with
                | true =>
                  have za := HRQ.out.mk (k := q) (by rw [HKN.out]; omega)
                  have zd := HRQ.out.mk (k := r) (by rw [HKN.out]; omega)
                  have ff := HRQ.out.frozen (by rw [HKN.out]; omega) r
                  have HP1 := Lib.hid (show pas1 true st x = if mkd st.1 (q : Nat) && !mkd st.1 (r : Nat) then (st.1.set r true, true) else st by
                    unfold pas1 srcF dstF
                    rw [if_neg (by rw [HQ0.out]; omega)]
                    simp only [if_true]
                    rw [HQ0.out, HR0.out, Int.toNat_natCast])
                  obtain ⟨b1, hb1⟩ : ∃ b, mkd st.1 (q : Nat) = b := ⟨_, rfl⟩
                  obtain ⟨b2, hb2⟩ : ∃ b, mkd st.1 (r : Nat) = b := ⟨_, rfl⟩
                  rw [hb1] at za HP1
                  rw [hb2] at zd HP1
                  clear hb1 hb2
                  have HSS := Lib.hid (HRQ.out.set (k := r) (by rw [HKN.out]; omega) true)
                  have HBS := Lib.hid (HBQ.out.setCell (p := ⟨g, r, none⟩) (HRQ.out.low (by rw [HKN.out]; omega)) (.bool true))
                  clear h3
                  cases b1 with
                  | false =>
                    have HPV := Lib.hid (show pas1 true st x = st by rw [HP1.out]; rfl)
                    go_wp2_with fail
                    go_roundw
                    case rel => exact ⟨k + 1, HKE.out, by go_num, by rw [HTK.out, HPV.out], by rw [HTK.out, HPV.out]; exact HRQ.out, HBQ.out⟩
                    case measure => have := HKE.out; simp [intOf]; omega
                  | true =>
                    cases b2 with
                    | true =>
                      have HPV := Lib.hid (show pas1 true st x = st by rw [HP1.out]; rfl)
                      go_wp2_with fail
                      go_roundw
                      case rel => exact ⟨k + 1, HKE.out, by go_num, by rw [HTK.out, HPV.out], by rw [HTK.out, HPV.out]; exact HRQ.out, HBQ.out⟩
                      case measure => have := HKE.out; simp [intOf]; omega
                    | false =>
                      have HPV := Lib.hid (show pas1 true st x = (st.1.set r true, true) by rw [HP1.out]; rfl)
                      go_wp2_with fail
                      go_roundw
                      case rel => exact ⟨k + 1, HKE.out, by go_num, by rw [HTK.out, HPV.out], by rw [HTK.out, HPV.out]; exact HSS.out, HBS.out⟩
                      case measure => have := HKE.out; simp [intOf]; omega
                | false =>
                  have za := HRQ.out.mk (k := r) (by rw [HKN.out]; omega)
                  have zd := HRQ.out.mk (k := q) (by rw [HKN.out]; omega)
                  have ff := HRQ.out.frozen (by rw [HKN.out]; omega) q
                  have HP1 := Lib.hid (show pas1 false st x = if mkd st.1 (r : Nat) && !mkd st.1 (q : Nat) then (st.1.set q true, true) else st by
                    unfold pas1 srcF dstF
                    rw [if_neg (by rw [HQ0.out]; omega)]
                    simp only [Bool.false_eq_true, if_false]
                    rw [HQ0.out, HR0.out, Int.toNat_natCast])
                  obtain ⟨b1, hb1⟩ : ∃ b, mkd st.1 (r : Nat) = b := ⟨_, rfl⟩
                  obtain ⟨b2, hb2⟩ : ∃ b, mkd st.1 (q : Nat) = b := ⟨_, rfl⟩
                  rw [hb1] at za HP1
                  rw [hb2] at zd HP1
                  clear hb1 hb2
                  have HSS := Lib.hid (HRQ.out.set (k := q) (by rw [HKN.out]; omega) true)
                  have HBS := Lib.hid (HBQ.out.setCell (p := ⟨g, q, none⟩) (HRQ.out.low (by rw [HKN.out]; omega)) (.bool true))
                  clear h3
                  cases b1 with
                  | false =>
                    have HPV := Lib.hid (show pas1 false st x = st by rw [HP1.out]; rfl)
                    go_wp2_with fail
                    go_roundw
                    case rel => exact ⟨k + 1, HKE.out, by go_num, by rw [HTK.out, HPV.out], by rw [HTK.out, HPV.out]; exact HRQ.out, HBQ.out⟩
                    case measure => have := HKE.out; simp [intOf]; omega
                  | true =>
                    cases b2 with
                    | true =>
                      have HPV := Lib.hid (show pas1 false st x = st by rw [HP1.out]; rfl)
                      go_wp2_with fail
                      go_roundw
                      case rel => exact ⟨k + 1, HKE.out, by go_num, by rw [HTK.out, HPV.out], by rw [HTK.out, HPV.out]; exact HRQ.out, HBQ.out⟩
                      case measure => have := HKE.out; simp [intOf]; omega
                    | false =>
                      have HPV := Lib.hid (show pas1 false st x = (st.1.set q true, true) by rw [HP1.out]; rfl)
                      go_wp2_with fail
                      go_roundw
                      case rel => exact ⟨k + 1, HKE.out, by go_num, by rw [HTK.out, HPV.out], by rw [HTK.out, HPV.out]; exact HSS.out, HBS.out⟩
                      case measure => have := HKE.out; simp [intOf]; omega
            · have k1 : decide ((k : Int) < (E.length : Int)) = false := decide_eq_false (by omega)
              have HSE := Lib.hid (show E.foldl (pas1 fwd) (m, false) = st by rw [← HST.out, List.take_of_length_le (by omega)])
              have H2 : Hid (roRel ks own L st w1 g cap (.bool st.2) (.int .i64 (0 : Nat)) wr) := Lib.hid ⟨0, Nat.zero_le _, rfl, fun _ => rfl, rfl, HRW.out, HB.out⟩
              have HOG := Lib.hid (fun n => oAll_grw (ks := ks) (show L ≤ ks.length by rw [HKN.out]; exact hLN) n st HSL.out)
              rw [HSE.out] at HE1
              clear HRW HB
              go_wp2_with fail
              go_loopw [13, 17] (fun v13 v17 wr => roRel ks own L st w1 g cap v13 v17 wr) (fun _ v17 _ => 36 - (intOf v17).toNat)
              case atStart => exact H2.out
              case round =>
                clear H2
                obtain ⟨n, hn, rfl, hn0, rfl, hrow, hB⟩ := hrel
                obtain ⟨s2, hs2⟩ : ∃ s2, oAll ks L st n = s2 := ⟨_, rfl⟩
                have HS2 := Lib.hid hs2
                have HSL2 := Lib.hid (show s2.1.length = ks.length by rw [← hs2]; exact (HOG.out n).len.trans HSL.out)
                rw [hs2] at hrow ⊢
                have HRW := Lib.hid hrow
                have HB := Lib.hid hB
                have HN0 := Lib.hid hn0
                have HNK := Lib.hid hn
                clear hrow hB hs2 hn0 hn
                cases own with
                | false =>
                  have HPE := Lib.hid (show pasS E ks fwd false L m = s2 by rw [HE1.out, ← HS2.out, HN0.out rfl]; rfl)
                  have hnl : n < l.length := by rw [HN0.out rfl]; exact h0
                  have j5 : decide ((n : Int) < (l.length : Int)) = true := decide_eq_true (by omega)
                  have j6 : decide (n < l.length) = true := decide_eq_true hnl
                  go_wp2_with fail
                  go_roundg (cntF s2.1 + (if s2.2 then 1 else 0))
                  case rel => exact ⟨s2.1, s2.2, rfl, rfl, by rw [← HPE.out]; exact HNX.out.1, HRW.out, HB.out⟩
                  case measure => have h1 := HNX.out.2; rw [HPE.out] at h1; have h2 := HGK.out; simp only [if_true] at h2; omega
                | true =>
                  by_cases hnl : n < l.length
                  · have j5 : decide ((n : Int) < (l.length : Int)) = true := decide_eq_true (by omega)
                    have j6 : decide (n < l.length) = true := decide_eq_true hnl
                    have n1 : (0 : Int) ≤ (n : Int) := by omega
                    have n2 : (n : Int) < (l.length : Int) := by omega
                    have HNL := Lib.hid hnl
                    have HNS := Lib.hid (oAll_succ ks L st n)
                    have H3 : Hid (rkRel ks n L s2 w1 g cap (.bool s2.2) (.int .i64 (0 : Nat)) wr) := Lib.hid ⟨0, Nat.zero_le _, rfl, rfl, HRW.out, HB.out⟩
                    have HRG := Lib.hid (fun k (hk : k ≤ L) => oRow_grw (ks := ks) (show L ≤ ks.length by rw [HKN.out]; exact hLN) n hk s2 HSL2.out)
                    clear HRW HB
                    go_wp2_with fail
                    go_loopw [13, 18] (fun v13 v18 wr => rkRel ks n L s2 w1 g cap v13 v18 wr) (fun _ v18 _ => 36 - (intOf v18).toNat)
                    case atStart => exact H3.out
                    case round =>
                      clear H3
                      obtain ⟨k, hk, rfl, rfl, hrow, hB⟩ := hrel
                      obtain ⟨s3, hs3⟩ : ∃ s3, oRow ks n k s2 = s3 := ⟨_, rfl⟩
                      have HS3 := Lib.hid hs3
                      have HSU := Lib.hid (oRow_succ ks n s2 k)
                      rw [hs3] at hrow HSU ⊢
                      have HRW3 := Lib.hid hrow
                      have HB3 := Lib.hid hB
                      clear hrow hB hs3
                      have hll := HLL.out
                      by_cases hkL : k < L
                      · have k1 : decide ((k : Int) ≤ La) = true := decide_eq_true (by omega)
                        have k2 : (0 : Int) ≤ (k : Int) := by omega
                        have k3 : (k : Int) < (l.length : Int) := by omega
                        have hkn : k < l.length := by omega
                        have HKL := Lib.hid hkL
                        have za := HRW3.out.mk (k := n) (by rw [HKN.out]; exact hnl)
                        have zb := HRW3.out.mk (k := k) (by rw [HKN.out]; exact hkn)
                        obtain ⟨xb, xo, u1, u2, hbe, hxb, _, _, _, c1n, _, c3n, _, _⟩ := RdAc.piece (HAC1.out.next HB3.out) hnl
                        obtain ⟨xb2, xo2, u3, u4, hbe2, _, _, _, _, c1k, _, c3k, _, _⟩ := RdAc.piece (HAC1.out.next HB3.out) hkn
                        have HBX := Lib.hid hbe
                        rw [hbe] at hbe2
                        injection hbe2 with hbe2
                        injection hbe2 with hbe2 hbe3
                        subst hbe2 hbe3
                        rw [hbe]
                        have HKA := Lib.hid (fun j (hj : j < l.length) => show prK ks (j : Int) = if l[j].key.cls = 0 then none else some l[j].key.lin by rw [← HKK.out]; exact prK_at hj)
                        have hpn := HKA.out n hnl
                        have hpk := HKA.out k hkn
                        obtain ⟨an, han⟩ : ∃ an, l[n]'hnl = an := ⟨_, rfl⟩
                        obtain ⟨ak, hak⟩ : ∃ ak, l[k]'hkn = ak := ⟨_, rfl⟩
                        rw [han] at c1n c3n hpn
                        rw [hak] at c1k c3k hpk
                        obtain ⟨kn, hkn2⟩ : ∃ kn, an.key = kn := ⟨_, rfl⟩
                        obtain ⟨kk, hkk2⟩ : ∃ kk, ak.key = kk := ⟨_, rfl⟩
                        rw [hkn2] at c1n c3n hpn
                        rw [hkk2] at c1k c3k hpk
                        have HPO := Lib.hid (show pasO ks n s3 k = if mkd s3.1 (n : Int) && !mkd s3.1 (k : Int) && (prK ks (n : Int)).isSome && (prK ks (n : Int) == prK ks (k : Int)) then (s3.1.set k true, true) else s3 from rfl)
                        rw [hpn, hpk] at HPO
                        obtain ⟨b1, hb1⟩ : ∃ b, mkd s3.1 (n : Int) = b := ⟨_, rfl⟩
                        obtain ⟨b2, hb2⟩ : ∃ b, mkd s3.1 (k : Int) = b := ⟨_, rfl⟩
                        rw [hb1] at za HPO
                        rw [hb2] at zb HPO
                        clear hb1 hb2 hkn2 hkk2 hpn hpk hll hbe han hak
                        cases b1 with
                        | false =>
                          have HPV := Lib.hid (show pasO ks n s3 k = s3 by rw [HPO.out]; rfl)
                          go_wp2_with fail
                          go_quiet (fail)
                          have HRQ := Lib.hid (HRW3.out.drewN nq)
                          have HBQ := Lib.hid (HB3.out.trans ((below_drewN (Below.refl _ wr) nq).mono HB3.out.size))
                          clear HRW3 HB3
                          generalize wr.drewN nq = w4 at *
                          go_wp2_with fail
                          go_roundw
                          case rel => exact ⟨k + 1, HKL.out, by go_num, by rw [HSU.out, HPV.out], by rw [HSU.out, HPV.out]; exact HRQ.out, HBQ.out⟩
                          case measure => have := HKL.out; simp [intOf]; omega
                        | true =>
                          cases b2 with
                          | true =>
                            have HPV := Lib.hid (show pasO ks n s3 k = s3 by rw [HPO.out]; rfl)
                            go_wp2_with fail
                            go_quiet (fail)
                            have HRQ := Lib.hid (HRW3.out.drewN nq)
                            have HBQ := Lib.hid (HB3.out.trans ((below_drewN (Below.refl _ wr) nq).mono HB3.out.size))
                            clear HRW3 HB3
                            generalize wr.drewN nq = w4 at *
                            go_wp2_with fail
                            go_roundw
                            case rel => exact ⟨k + 1, HKL.out, by go_num, by rw [HSU.out, HPV.out], by rw [HSU.out, HPV.out]; exact HRQ.out, HBQ.out⟩
                            case measure => have := HKL.out; simp [intOf]; omega
                          | false =>
                            by_cases p1 : kn.cls = 0
                            · have e1 : (kn.cls != 0) = false := by rw [p1]; rfl
                              rw [if_pos p1] at HPO
                              clear p1
                              have HPV := Lib.hid (show pasO ks n s3 k = s3 by rw [HPO.out]; rfl)
                              go_wp2_with fail
                              go_quiet (fail)
                              have HRQ := Lib.hid (HRW3.out.drewN nq)
                              have HBQ := Lib.hid (HB3.out.trans ((below_drewN (Below.refl _ wr) nq).mono HB3.out.size))
                              clear HRW3 HB3
                              generalize wr.drewN nq = w4 at *
                              go_wp2_with fail
                              go_roundw
                              case rel => exact ⟨k + 1, HKL.out, by go_num, by rw [HSU.out, HPV.out], by rw [HSU.out, HPV.out]; exact HRQ.out, HBQ.out⟩
                              case measure => have := HKL.out; simp [intOf]; omega
                            · have e1 : (kn.cls != 0) = true := by rw [bne_iff_ne]; exact p1
                              rw [if_neg p1] at HPO
                              clear p1
                              by_cases p2 : kk.cls = 0
                              · have e2 : (kk.cls != 0) = false := by rw [p2]; rfl
                                rw [if_pos p2] at HPO
                                clear p2
                                have HPV := Lib.hid (show pasO ks n s3 k = s3 by rw [HPO.out]; rfl)
                                go_wp2_with fail
                                go_quiet (fail)
                                have HRQ := Lib.hid (HRW3.out.drewN nq)
                                have HBQ := Lib.hid (HB3.out.trans ((below_drewN (Below.refl _ wr) nq).mono HB3.out.size))
                                clear HRW3 HB3
                                generalize wr.drewN nq = w4 at *
                                go_wp2_with fail
                                go_roundw
                                case rel => exact ⟨k + 1, HKL.out, by go_num, by rw [HSU.out, HPV.out], by rw [HSU.out, HPV.out]; exact HRQ.out, HBQ.out⟩
                                case measure => have := HKL.out; simp [intOf]; omega
                              · have e2 : (kk.cls != 0) = true := by rw [bne_iff_ne]; exact p2
                                rw [if_neg p2] at HPO
                                clear p2
                                by_cases p3 : kn.lin = kk.lin
                                · have e3 : ((bs kk.lin).toList == (bs kn.lin).toList) = true := by rw [p3]; exact beq_self_eq_true _
                                  have e4 : (kk.lin == kn.lin) = true := by rw [p3]; exact beq_self_eq_true _
                                  have HP3 := Lib.hid p3
                                  clear p3
                                  have HPV := Lib.hid (show pasO ks n s3 k = (s3.1.set k true, true) by rw [HPO.out]; rw [HP3.out]; simp)
                                  have ff := HRW3.out.frozen (by rw [HKN.out]; omega) k
                                  go_wp2_with fail
                                  go_quiet (fail)
                                  have HRQ := Lib.hid (HRW3.out.drewN nq)
                                  have HBQ := Lib.hid (HB3.out.trans ((below_drewN (Below.refl _ wr) nq).mono HB3.out.size))
                                  have HSS := Lib.hid (HRQ.out.set (k := k) (by rw [HKN.out]; exact hkn) true)
                                  have HBS := Lib.hid (HBQ.out.setCell (p := ⟨g, k, none⟩) (HRQ.out.low (by rw [HKN.out]; omega)) (.bool true))
                                  have ff : (wr.drewN nq).frozen? ⟨g, k, none⟩ = false := ff
                                  have zb : (wr.drewN nq).cell? ⟨g, k, none⟩ = some (.bool false) := zb
                                  clear HRW3 HB3
                                  generalize wr.drewN nq = w4 at *
                                  go_wp2_with fail
                                  go_roundw
                                  case rel => exact ⟨k + 1, HKL.out, by go_num, by rw [HSU.out, HPV.out], by rw [HSU.out, HPV.out]; exact HSS.out, HBS.out⟩
                                  case measure => have := HKL.out; simp [intOf]; omega
                                · have e3 : ((bs kk.lin).toList == (bs kn.lin).toList) = false := by rw [beq_eq_false_iff_ne]; intro h; exact p3 (by have := congrArg id h; simpa [bs, ByteArray.toList_eq] using h.symm)
                                  have e4 : (kk.lin == kn.lin) = false := by rw [beq_eq_false_iff_ne]; exact fun h => p3 h.symm
                                  have HP3 := Lib.hid p3
                                  clear p3
                                  have HPV := Lib.hid (show pasO ks n s3 k = s3 by rw [HPO.out]; simp [HP3.out])
                                  go_wp2_with fail
                                  go_quiet (fail)
                                  have HRQ := Lib.hid (HRW3.out.drewN nq)
                                  have HBQ := Lib.hid (HB3.out.trans ((below_drewN (Below.refl _ wr) nq).mono HB3.out.size))
                                  clear HRW3 HB3
                                  generalize wr.drewN nq = w4 at *
                                  go_wp2_with fail
                                  go_roundw
                                  case rel => exact ⟨k + 1, HKL.out, by go_num, by rw [HSU.out, HPV.out], by rw [HSU.out, HPV.out]; exact HRQ.out, HBQ.out⟩
                                  case measure => have := HKL.out; simp [intOf]; omega
                      · have k1 : decide ((k : Int) ≤ La) = false := decide_eq_false (by omega)
                        have HRE := Lib.hid (show oAll ks L st (n + 1) = s3 by rw [HNS.out, HS2.out, ← HS3.out]; congr 1; omega)
                        clear hll
                        go_wp2_with fail
                        exact ⟨⟨n + 1, by rw [HKN.out]; exact HNL.out, by go_num, fun h => (by cases h), by rw [HRE.out], by rw [HRE.out]; exact HRW3.out, HB3.out⟩, by have := HNL.out; simp [intOf]; omega⟩
                  · have j5 : decide ((n : Int) < (l.length : Int)) = false := decide_eq_false (by omega)
                    have j6 : decide (n < l.length) = false := decide_eq_false (by omega)
                    have HPE := Lib.hid (show pasS E ks fwd true L m = s2 by rw [HE1.out, ← HS2.out, show n = ks.length by have := HKN.out; have := HNK.out; omega]; rfl)
                    go_wp2_with fail
                    go_roundg (cntF s2.1 + (if s2.2 then 1 else 0))
                    case rel => exact ⟨s2.1, s2.2, rfl, rfl, by rw [← HPE.out]; exact HNX.out.1, HRW.out, HB.out⟩
                    case measure => have h1 := HNX.out.2; rw [HPE.out] at h1; have h2 := HGK.out; simp only [if_true] at h2; omega
        | false =>
          have H1 : Hid (rxRel ks m w1 g cap (.slice none 0 0) (.int .i64 (0 : Nat)) wr) := Lib.hid ⟨0, Nat.zero_le _, rfl, World.ownsRow_nil _ _ _ _, HRW.out, HB.out⟩
          have HCL := Lib.hid (HPI.out.fin rfl)
          clear HRW HB
          go_wp2_with fail
          go_loopw [19, 20] (fun v19 v20 wr => rxRel ks m w1 g cap v19 v20 wr) (fun _ v20 _ => 36 - (intOf v20).toNat)
          case atStart => exact H1.out
          case round =>
            clear H1
            obtain ⟨k, hk, rfl, hown, hrow, hB⟩ := hrel
            have HRW := Lib.hid hrow
            have HB := Lib.hid hB
            have hol := outS_len m k
            have HOS := Lib.hid (outS_succ m k)
            obtain ⟨os, hos⟩ : ∃ os, outS m k = os := ⟨_, rfl⟩
            have HOE := Lib.hid hos
            rw [hos] at hown hol HOS
            obtain ⟨A5, c5, rfl, hc5⟩ := own_len hown
            have HOW := Lib.hid hown
            have hk35 : k ≤ 35 := by have := HKN.out; omega
            clear hown hrow hB hos
            by_cases hkl : k < l.length
            · have j1 : decide ((k : Int) < (l.length : Int)) = true := decide_eq_true (by omega)
              have j2 : (0 : Int) ≤ (k : Int) := by omega
              have j3 : (k : Int) < (l.length : Int) := by omega
              have HKL := Lib.hid (show k + 1 ≤ ks.length by rw [HKN.out]; exact hkl)
              have z0 := HRW.out.mk (k := k) (by rw [HKN.out]; exact hkl)
              obtain ⟨b, hb⟩ : ∃ b, mkd m (k : Int) = b := ⟨_, rfl⟩
              rw [hb] at z0 HOS
              clear hb
              cases b with
              | false =>
                have HON := Lib.hid (show outS m (k + 1) = os by rw [HOS.out]; simp)
                go_wp2_with fail
                go_roundw
                case rel => exact ⟨k + 1, HKL.out, by go_num, by rw [HON.out]; exact HOW.out, HRW.out, HB.out⟩
                case measure => have := HKL.out; have := HKN.out; simp [intOf]; omega
              | true =>
                have HON := Lib.hid (show outS m (k + 1) = os ++ [(k : Int)] by rw [HOS.out]; simp)
                have ha := (Below.refl wr.heap.size wr).alloc (Nat.le_refl _) (.cells #[.int .i64 k] 3)
                have R2 := Lib.hid (own_next HOW.out ha)
                have X2 := Lib.hid (rd_new1 wr k)
                have HRW2 := Lib.hid (HRW.out.next ha)
                have HB2 := Lib.hid (HB.out.trans (ha.mono HB.out.size))
                have hws := HB.out.size
                obtain ⟨i0, hi, hz0, hz1, hz2⟩ := info_parts infoIn
                clear ha
                go_upto_region 32 with (at_builtin; refine wpList_append_rd _ rfl _ _ 36 rfl w1.heap.size 3 i0 _ 1 8 Try.underlying36 hi hz0 hz1 hz2 rfl (by decide) _ os.length (os.flatMap inC) (by rfl) R2.out _ _ _ rfl X2.out rfl (by intro u hu; simp only [List.flatMap_cons, List.flatMap_nil, List.append_nil, inC, List.mem_cons, List.not_mem_nil, or_false] at hu; subst hu; rfl) (by simp only [List.length_singleton]; unfold maxLen; omega) (by simp only [List.length_singleton]; omega) (by simp; omega) ?_; intro a3 c3 w3 hown3 hg3; have O3 := Lib.hid hown3; have G3 := Lib.hid hg3; clear hown3 hg3)
                have HRW3 := Lib.hid (show Row1 4 bV w3 w1.heap.size g ks.length cap m from ⟨HRW2.out.1, own_grown HRW2.out.2 R2.out G3.out (.inl (by decide))⟩)
                have HB3 := Lib.hid (HB2.out.grown G3.out HB2.out.size (fun k hk => own_ge R2.out hk))
                clear i0 hi hz0 hz1 hz2
                go_wp2_with fail
                go_roundw
                case rel => exact ⟨k + 1, HKL.out, by go_num, by rw [HON.out, List.length_append, List.flatMap_append]; simpa [inC] using O3.out, HRW3.out, HB3.out⟩
                case measure => have := HKL.out; have := HKN.out; simp [intOf]; omega
            · have j1 : decide ((k : Int) < (l.length : Int)) = false := decide_eq_false (by omega)
              have HKE := Lib.hid (show k = ks.length by have := HKN.out; omega)
              have HRI := Lib.hid (show RdIn wr (.slice A5 os.length c5) os from Rd.of_own HOW.out)
              go_wp2_with fail
              go_ret
              exact ⟨_, os, rfl, HRI.out, ⟨m, HPI.out.len, by rw [← HOE.out, HKE.out], HPI.out.sub, HCL.out, HPI.out.min⟩, P1.out.trans (HB.out.mono P1.out.size)⟩
set_option maxRecDepth 100000 in
set_option maxHeartbeats 4000000 in
theorem rreach_zero {w : World} {v vm : Value} {mm : List Bool} (h : RdAc w v []) (hm : Rd 4 w vm mm.length (mm.map bV)) (hml : mm = []) (fwd own : Bool) :
    Calls Try.prog 32 #[v, vm, .bool fwd, .bool own] w fun e w' => ∃ v' out, e = .returned v' ∧ RdIn w' v' out ∧ RchP (lnkD []).flatten (([] : List Ac).map Ac.key) fwd own (lstS mm 0 + 1).toNat mm out ∧ Below w.heap.size w w' := by
  subst hml
  obtain ⟨A, c, rfl, hc⟩ := RowRd.form h
  obtain ⟨Am, cm, rfl, hcm⟩ := Rd.form hm
  have HLK := Lib.hid (rlinks_is h (fun a ha => by cases ha) (fun a ha => by cases ha) (by decide))
  have HM := Lib.hid hm
  clear h hm
  simp only [List.length_nil] at *
  go_enter Try.func32, Try.ntmps32
  go_wp2_with fail
  go_at_call 14
  refine HLK.out.mono ?_
  rintro e w1 ⟨v9, rfl, hlk, hb⟩
  obtain ⟨A9, c9, rfl, hc9⟩ := RdP.form hlk
  have P1 := Lib.hid hb
  have hbe := (Below.refl w1.heap.size w1).alloc (Nat.le_refl _) (.cells #[] 4)
  have HE0 := Lib.hid (own_empty w1 w1.heap.size 4 1 (Nat.le_refl _))
  have HMS := Lib.hid (show Rd 4 (w1.alloc (.cells #[] 4)) (.slice Am 0 cm) 0 [] from (HM.out.next hb).next hbe)
  have HBE := Lib.hid hbe
  obtain ⟨i0, hi, hz0, hz1, hz2⟩ := info_parts infoBo
  rw [show (lnkD []).flatten.length = 0 from rfl]
  clear hlk hb HLK hbe
  go_upto_region 3 with (at_builtin; refine wpList_append_rd _ rfl _ _ 71 rfl w1.heap.size 4 i0 _ 1 1 Try.underlying71 hi hz0 hz1 hz2 rfl (by decide) _ 0 [] (by rfl) HE0.out _ 0 [] (by rfl) HMS.out (by simp) (by intro u hu; cases hu) (by unfold maxLen; omega) (by omega) (by simp) ?_; intro ao cap w2 hown2 hgrow2; have HG2 := Lib.hid hgrow2; clear hown2 hgrow2)
  have HB2 := Lib.hid (below_own HBE.out HE0.out HG2.out (Nat.le_refl _) (by simp))
  clear HG2 HMS HE0 i0 hi hz0 hz1 hz2
  go_wp2_with fail
  refine wp_loop_rounds 1 ?_
  rw [rounds_succ]
  go_wp2_with fail
  refine wp_loop_rounds 2 ?_
  rw [rounds_succ]
  go_wp2_with fail
  refine wp_loop_rounds 1 ?_
  rw [rounds_succ]
  go_wp2_with fail
  refine wp_loop_rounds 1 ?_
  rw [rounds_succ]
  cases own with
  | false =>
    go_wp2_with fail
    rw [rounds_succ]
    go_wp2_with fail
    refine wp_loop_rounds 1 ?_
    rw [rounds_succ]
    go_wp2_with fail
    go_ret
    exact ⟨_, [], rfl, RdP.nil, ⟨[], rfl, rfl, fun j h => h, clo_nil rfl _ rfl _ _ _ _, fun P _ h => h⟩, P1.out.trans (HB2.out.mono P1.out.size)⟩
  | true =>
    go_wp2_with fail
    rw [rounds_succ]
    go_wp2_with fail
    refine wp_loop_rounds 1 ?_
    rw [rounds_succ]
    go_wp2_with fail
    go_ret
    exact ⟨_, [], rfl, RdP.nil, ⟨[], rfl, rfl, fun j h => h, clo_nil rfl _ rfl _ _ _ _, fun P _ h => h⟩, P1.out.trans (HB2.out.mono P1.out.size)⟩
theorem rreach_is {w : World} {v vm : Value} {l : List Ac} {mm : List Bool} (h : RdAc w v l) (hr : ∀ a ∈ l, AcR a) (ho : ∀ a ∈ l, okAc a = true) (hl : l.length ≤ 35) (hm : Rd 4 w vm mm.length (mm.map bV)) (hml : mm.length = l.length) (fwd own : Bool) :
    Calls Try.prog 32 #[v, vm, .bool fwd, .bool own] w fun e w' => ∃ v' out, e = .returned v' ∧ RdIn w' v' out ∧ RchP (lnkD l).flatten (l.map Ac.key) fwd own (lstS mm l.length + 1).toNat mm out ∧ Below w.heap.size w w' := by
  by_cases h0 : 0 < l.length
  · exact rreach_pos h hr ho hl hm hml h0 fwd own
  · obtain rfl : l = [] := List.length_eq_zero_iff.1 (by omega)
    exact rreach_zero h hm (List.length_eq_zero_iff.1 hml) fwd own
end Go.Proofs.Ytmjkcanjfjfkfaa
