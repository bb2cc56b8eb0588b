/- Walks of layer 41: Expand. -/
import Derived.Test.YtiddchpkmcncdaaG2
namespace Go.Proofs.Ytiddchpkmcncdaa
open Go.RowKit
set_option linter.unusedSimpArgs false
set_option linter.unusedVariables false
def ex0 : Ex := ⟨[], [], false⟩
theorem est_begin (w : World) : ESt w w.heap.size ex0 (((w.alloc (.cells #[.slice none 0 0] 59)).alloc (.cells #[.string ⟨#[]⟩] 9)).alloc (.cells #[.bool false] 4)) := by
  refine ⟨.slice none 0 0, ?_, ?_, ?_, World.ownsRow_nil _ _ _ _, ((((Below.refl _ _).alloc (Nat.le_refl _) _).alloc (by simp) _).alloc (by simp; omega) _), Nat.le_refl _⟩
  · exact ((Blk.new w 59 _).alloc _).alloc _
  · have := (Blk.new (w.alloc (.cells #[.slice none 0 0] 59)) 9 #[.string ⟨#[]⟩]).alloc (.cells #[.bool false] 4)
    simpa [ex0, bs] using this
  · have := Blk.new ((w.alloc (.cells #[.slice none 0 0] 59)).alloc (.cells #[.string ⟨#[]⟩] 9)) 4 #[.bool false]
    simpa [ex0] using this
/-- What a function of names gives. -/
def LkOk (w : World) (fv : Value) (val : Bs → Bs) (ps : Wd) : Prop :=
  ∀ p ∈ ps, p.var = true → ∀ wx : World, Below w.heap.size w wx → Calls Try.prog 61 #[fv, .string (bs p.text)] wx fun e w' => e = .returned (.string (bs (val p.text))) ∧ Below wx.heap.size wx w'
def ExRel (w : World) (val : Bs → Bs) (ps : Wd) (gk : Nat) (i : Value) (wr : World) : Prop :=
  ∃ k, i = .int .i64 ((k : Nat) : Int) ∧ k ≤ ps.length ∧ gk + k = ps.length + 1 ∧ ESt w w.heap.size ((ps.take k).foldl (expP val) ex0) wr
/-- What Expand gives. -/
def ExpP (w : World) (l : List Bs) (e : Ending) (w' : World) : Prop := ∃ v, e = .returned v ∧ Rd 9 w' v l.length (stC l) ∧ Below w.heap.size w w'
theorem ESt.below {w : World} {g : Nat} {t : Ex} {wr : World} (h : ESt w g t wr) : Below w.heap.size w wr := by
  obtain ⟨v, h1, h2, h3, h4, h5, h6⟩ := h
  exact h5
theorem foldC_next (l : Bs) (t : Ex) (j : Nat) (h : j < l.length) : (l.take (j + 1)).foldl expC t = expC ((l.take j).foldl expC t) (l.getD j 0) := by
  rw [fold_next expC l t j h, List.getD_eq_getElem?_getD, List.getElem?_eq_getElem h]; rfl
theorem bt_getD (l : Bs) (j : Nat) : bt (bs l) j = n8 (l.getD j 0) := by unfold bt; rw [bs_list]
theorem ext_one (l : Bs) (j : Nat) (h : j < l.length) : (bs l).extract j (j + 1) = bs [l.getD j 0] := by
  rw [ext_bs]; unfold dr
  rw [bs_list, Nat.add_sub_cancel_left, List.drop_eq_getElem_cons h, List.getD_eq_getElem?_getD, List.getElem?_eq_getElem h]; rfl
def InRel (w : World) (l : Bs) (t : Ex) (gk : Nat) (i : Value) (wr : World) : Prop :=
  ∃ j, i = .int .i64 ((j : Nat) : Int) ∧ j ≤ l.length ∧ gk + j = l.length + 1 ∧ ESt w w.heap.size ((l.take j).foldl expC t) wr
set_option maxRecDepth 100000 in
set_option maxHeartbeats 8000000 in
theorem Expand_pos (w : World) (v fv : Value) (val : Bs → Bs) (ps : Wd) (h : RdW w v ps) (h0 : 0 < ps.length) (hl : ps.length ≤ 100000) (hpl : ∀ p ∈ ps, p.text.length ≤ 100000 ∧ (val p.text).length ≤ 100000) (hlk : LkOk w fv val ps) :
    Calls Try.prog 25 #[v, fv] w (ExpP w (expS val ps)) := by
  obtain ⟨b, o, c, rfl, hc, hb0, hcell⟩ := RdW.piece h h0
  have HC := Lib.hid hcell
  have HPL := Lib.hid hpl
  have HL := Lib.hid hlk
  have H0 := Lib.hid (est_begin w)
  clear h hcell hpl hlk
  go_enter Try.func25, Try.ntmps25
  go_wp2
  go_loopg [18] (ps.length + 1) (fun gk i wr => ExRel w val ps gk i wr)
  case atStart => exact ⟨0, rfl, Nat.zero_le _, by omega, H0.out⟩
  case round =>
    obtain ⟨k, rfl, hk, hgk, hst⟩ := hrel
    have HS := Lib.hid hst
    clear hst H0
    by_cases hlt : k < ps.length
    · skip
      have HF1 := Lib.hid (fold_next (expP val) ps ex0 k hlt)
      obtain ⟨p0, p1, p2⟩ := HC.out k hlt
      have HPM := Lib.hid (List.getElem_mem hlt)
      obtain ⟨p, hp⟩ : ∃ p, ps[k] = p := ⟨_, rfl⟩
      rw [hp] at p0 p1 p2 HF1 HPM
      clear hp
      have hpl := HPL.out p HPM.out
      have hbw := HS.out.below
      have hbr : b < wr.heap.size := Nat.lt_of_lt_of_le hb0 hbw.size
      have b0 := ((bcell hbw).1 b (o + k * 3) hb0).trans p0
      have b1 := ((bcell hbw).1 b (o + k * 3 + 1) hb0).trans p1
      have b2 := ((bcell hbw).1 b (o + k * 3 + 2) hb0).trans p2
      clear p0 p1 p2
      have i1 : (0 : Int) ≤ (k : Int) := by omega
      have i2 : (k : Int) < (ps.length : Int) := by omega
      obtain ⟨t, ht⟩ : ∃ t, (ps.take k).foldl (expP val) ex0 = t := ⟨_, rfl⟩
      rw [ht] at HS HF1
      have hex : exM t ≤ 20000000000 := by
        rw [← ht]
        have h1 := exM_all val 100000 (ps.take k) ex0 (fun q hq => HPL.out q (List.mem_of_mem_take hq))
        have h2 : (ps.take k).length ≤ 100000 := by simp; omega
        have h3 : exM ex0 = 0 := rfl
        omega
      clear ht
      have HS2 := Lib.hid (HS.out.next ((Below.refl _ _).alloc (Nat.le_refl _) (.cells #[.string (bs p.text), .bool p.var, .bool p.quo] 61)))
      have HT2 := Lib.hid (Blk.new wr 61 #[.string (bs p.text), .bool p.var, .bool p.quo])
      go_upto_region 16 with (fail)
      clear b0 b1 b2 hbr hbw
      generalize (wr.alloc (.cells #[.string (bs p.text), .bool p.var, .bool p.quo] 61)) = wa at *
      generalize wr.heap.size = tb at *
      have t0 : wa.cell? ⟨tb, 0, none⟩ = some (.string (bs p.text)) := HT2.out.cell 0
      have t1 : wa.cell? ⟨tb, 1, none⟩ = some (.bool p.var) := HT2.out.cell 1
      have t2 : wa.cell? ⟨tb, 2, none⟩ = some (.bool p.quo) := HT2.out.cell 2
      have htb : tb < wa.heap.size := HT2.out.lt
      cases hv : p.var with
      | false =>
        rw [hv] at t1
        have HE := Lib.hid (show expP val t p = addE t p.text by unfold expP; rw [if_pos hv])
        clear hv
        go_wp2_with fail
        refine (add_any w w.heap.size t p.text _ HS2.out (by omega) (by omega)).mono ?_
        rintro e w3 ⟨rfl, k3⟩
        clear t0 t1 t2 htb
        go_wp2
        go_roundg (gk - 1)
        case rel => exact ⟨k + 1, by go_num, by omega, by omega, by rw [HF1.out, HE.out]; exact k3⟩
        case measure => omega
      | true =>
        rw [hv] at t1
        have HV := Lib.hid hv
        have HLK := Lib.hid (HL.out p HPM.out hv)
        clear hv
        cases hq : p.quo with
        | true =>
          rw [hq] at t2
          have HE := Lib.hid (show expP val t p = addE t (val p.text) by unfold expP; rw [if_neg (by rw [HV.out]; decide), if_pos hq])
          clear hq
          go_wp2_with fail
          refine (HLK.out wa HS2.out.below).mono ?_
          rintro e w3 ⟨rfl, hb3⟩
          have HS3 := Lib.hid (HS2.out.next hb3)
          clear hb3 t0 t1 t2 htb
          go_wp2_with fail
          refine (add_any w w.heap.size t (val p.text) _ HS3.out (by omega) (by omega)).mono ?_
          rintro e w4 ⟨rfl, k4⟩
          go_wp2
          go_roundg (gk - 1)
          case rel => exact ⟨k + 1, by go_num, by omega, by omega, by rw [HF1.out, HE.out]; exact k4⟩
          case measure => omega
        | false =>
          rw [hq] at t2
          have HE := Lib.hid (show expP val t p = (val p.text).foldl expC t by unfold expP; rw [if_neg (by rw [HV.out]; decide), if_neg (by rw [hq]; decide)])
          clear hq
          go_wp2_with fail
          refine (HLK.out wa HS2.out.below).mono ?_
          rintro e w3 ⟨rfl, hb3⟩
          have HS3 := Lib.hid (HS2.out.next hb3)
          clear hb3 t0 t1 t2 htb HS2 HT2 HS
          have hvl := hpl.2
          obtain ⟨l, hl0⟩ : ∃ l, val p.text = l := ⟨_, rfl⟩
          rw [hl0] at HE hvl ⊢
          clear hl0 hpl HLK
          go_wp2
          obtain ⟨gk0, rfl⟩ : ∃ gk0 : Nat, gk0 = gk := ⟨_, rfl⟩
          go_loopg [28] (l.length + 1) (fun gi i wi => InRel w l t gi i wi)
          case atStart => exact ⟨0, rfl, Nat.zero_le _, by omega, HS3.out⟩
          case round =>
            obtain ⟨j, rfl, hj, hgi, hst⟩ := hrel
            have HSI := Lib.hid hst
            clear hst
            by_cases hjl : j < l.length
            · have HFJ := Lib.hid (foldC_next l t j hjl)
              have z1 : j < (bs l).size := by rw [bs_size]; exact hjl
              have z2 : (bs l).size ≤ 100000 := by rw [bs_size]; exact hvl
              have hbj := bt_of (bs l) j z1
              have HBJ := Lib.hid (bt_getD l j)
              have HXT := Lib.hid (ext_one l j hjl)
              obtain ⟨c8, hc8⟩ : ∃ c8, l.getD j 0 = c8 := ⟨_, rfl⟩
              rw [hc8] at HFJ HBJ HXT
              clear hc8
              obtain ⟨t', ht'⟩ : ∃ t', (l.take j).foldl expC t = t' := ⟨_, rfl⟩
              rw [ht'] at HSI HFJ
              have hex' : exM t' ≤ 30000000000 := by
                rw [← ht']
                have h1 := exM_fold (l.take j) t
                have h2 : (l.take j).length ≤ 100000 := by simp; omega
                omega
              clear ht'
              by_cases q0 : bt (bs l) j = 32
              · have s0 : (bt (bs l) j == 32) = true := by simpa using q0
                have HE2 := Lib.hid (show expC t' c8 = endE t' by unfold expC sepB; rw [← HBJ.out]; simp [q0])
                clear q0
                go_wp2_with fail
                refine (end_any w w.heap.size t' _ HSI.out (by omega)).mono ?_
                rintro e w5 ⟨rfl, k5⟩
                clear hbj
                go_wp2
                go_roundg (gk - 1)
                case rel => exact ⟨j + 1, by go_num, by omega, by omega, by rw [HFJ.out, HE2.out]; exact k5⟩
                case measure => omega
              have s0 : (bt (bs l) j == 32) = false := by simpa using q0
              by_cases q1 : bt (bs l) j = 9
              · have s1 : (bt (bs l) j == 9) = true := by simpa using q1
                have HE2 := Lib.hid (show expC t' c8 = endE t' by unfold expC sepB; rw [← HBJ.out]; simp [q1])
                clear q0 q1
                go_wp2_with fail
                refine (end_any w w.heap.size t' _ HSI.out (by omega)).mono ?_
                rintro e w5 ⟨rfl, k5⟩
                clear hbj
                go_wp2
                go_roundg (gk - 1)
                case rel => exact ⟨j + 1, by go_num, by omega, by omega, by rw [HFJ.out, HE2.out]; exact k5⟩
                case measure => omega
              have s1 : (bt (bs l) j == 9) = false := by simpa using q1
              by_cases q2 : bt (bs l) j = 10
              · have s2 : (bt (bs l) j == 10) = true := by simpa using q2
                have HE2 := Lib.hid (show expC t' c8 = endE t' by unfold expC sepB; rw [← HBJ.out]; simp [q2])
                clear q0 q1 q2
                go_wp2_with fail
                refine (end_any w w.heap.size t' _ HSI.out (by omega)).mono ?_
                rintro e w5 ⟨rfl, k5⟩
                clear hbj
                go_wp2
                go_roundg (gk - 1)
                case rel => exact ⟨j + 1, by go_num, by omega, by omega, by rw [HFJ.out, HE2.out]; exact k5⟩
                case measure => omega
              have s2 : (bt (bs l) j == 10) = false := by simpa using q2
              have HE2 := Lib.hid (show expC t' c8 = addE t' [c8] by unfold expC sepB; rw [← HBJ.out]; simp [q0, q1, q2])
              clear q0 q1 q2
              go_wp2_with fail
              rw [HXT.out]
              refine (add_any w w.heap.size t' [c8] _ HSI.out (by omega) (by simp)).mono ?_
              rintro e w5 ⟨rfl, k5⟩
              clear hbj
              go_wp2
              go_roundg (gk - 1)
              case rel => exact ⟨j + 1, by go_num, by omega, by omega, by rw [HFJ.out, HE2.out]; exact k5⟩
              case measure => omega
            · obtain rfl : j = l.length := by omega
              have HTL := Lib.hid (show l.take l.length = l from List.take_length)
              rw [HTL.out] at HSI
              have hbz : (bs l).size = l.length := bs_size l
              have z3 : ¬ (l.length : Int) < ((bs l).size : Int) := by omega
              have z4 : ¬ l.length < (bs l).size := by omega
              have HBZ := Lib.hid hbz
              clear hbz
              go_wp2
              go_roundg (gk0 - 1)
              case rel => exact ⟨k + 1, by go_num, by omega, by omega, by rw [HF1.out, HE.out]; exact HSI.out⟩
              case measure => omega
    · obtain rfl : k = ps.length := by omega
      have HT := Lib.hid (show ps.take ps.length = ps from List.take_length)
      rw [HT.out] at HS
      obtain ⟨t, ht⟩ : ∃ t, ps.foldl (expP val) ex0 = t := ⟨_, rfl⟩
      have hex : exM t ≤ 20000000000 := by
        rw [← ht]
        have h1 := exM_all val 100000 ps ex0 HPL.out
        have h3 : exM ex0 = 0 := rfl
        omega
      have HEX := Lib.hid (show expS val ps = (endE t).out by unfold expS; rw [← ht]; rfl)
      rw [ht] at HS
      clear ht
      go_wp2_with fail
      refine (end_any w w.heap.size t _ HS.out (by omega)).mono ?_
      rintro e w3 ⟨rfl, k3⟩
      obtain ⟨vv, h1, h2, h3, h4, h5, h6⟩ := k3
      have c0 : w3.cell? ⟨w.heap.size, 0, none⟩ = some vv := h1.cell 0
      have hgl : w.heap.size < w3.heap.size := h1.lt
      have HO := Lib.hid h4
      obtain ⟨av, cv, rfl, _⟩ := own_len h4
      clear h1 h2 h3 h4
      go_wp2
      go_ret
      exact ⟨_, rfl, by rw [HEX.out]; exact Rd.of_own HO.out, h5⟩
end Go.Proofs.Ytiddchpkmcncdaa
