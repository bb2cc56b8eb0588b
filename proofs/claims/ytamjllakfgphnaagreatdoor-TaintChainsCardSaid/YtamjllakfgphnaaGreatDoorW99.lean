/- Walks of layer 54: the nearest link to an action. -/
import Derived.Test.YtamjllakfgphnaaGreatDoorW98
namespace Go.Proofs.YtamjllakfgphnaaGreatDoor
open Go.RowKit
set_option linter.unusedSimpArgs false
set_option linter.unusedVariables false
attribute [local go_sem ↓] Go.wp_at_zero Go.wp_at_succ
open Go.MapKept Go.ChangeMaps
theorem zeroInt (w : World) : (zeroValue 3).run Tryz.prog w = .ok (.int .i64 0) w := by kernel_rfl
theorem DMap.ok {w : World} {b : Nat} {D : DM} (h : DMap w b D) (n : Int) {d : Int} {q : Bool} (hd : (lookM n D).getD 0 = d) (hq : (lookM n D).isSome = q) : (Instr.lookup 113 (.map (some b)) (.int .i64 n) true).run Tryz.prog w = .ok (.tuple #[.int .i64 d, .bool q]) w := by
  have := map_okI h n Tryz.underlying113 (zeroInt w)
  rw [getD_map, isSome_map, hd, hq] at this
  exact this
theorem DMap.look {w : World} {b : Nat} {D : DM} (h : DMap w b D) (n : Int) {d : Int} (hd : (lookM n D).getD 0 = d) : (Instr.lookup 113 (.map (some b)) (.int .i64 n) false).run Tryz.prog w = .ok (.int .i64 d) w := by
  have := map_lookI h n Tryz.underlying113 (zeroInt w)
  rw [getD_map, hd] at this
  exact this
theorem GAt.lrow {w : World} {B g : Nat} {l : List Ac} (h : GAt w B g l) {k : Nat} (hk : k < l.length) : ∃ bl c A c2, bl < w.heap.size ∧ w.cell? ⟨g, 1, none⟩ = some (.slice (some ⟨bl, 0, none⟩) l.length c) ∧ w.cell? ⟨bl, k, none⟩ = some (.slice A ((lnkD l)[k]'(by rw [lnkD_len]; exact hk)).length c2) ∧ RdLk w (.slice A ((lnkD l)[k]'(by rw [lnkD_len]; exact hk)).length c2) ((lnkD l)[k]'(by rw [lnkD_len]; exact hk)) := by
  obtain ⟨vk, vl, vu, bw, vL, vU, h⟩ := h
  have hkl : k < vL.length := by rw [h.lu.lenL, lnkD_len]; exact hk
  obtain ⟨hlen, ⟨_, h0⟩ | ⟨bl, c, cur, rfl, hg, hh, h1, h2, h3, h4⟩⟩ := id h.lu.ln
  · rw [lnkD_len] at h0; omega
  have hx := own_cell1 h.lu.ln (List.getElem?_eq_getElem hkl)
  have he := h.lu.el k _ _ (List.getElem?_eq_getElem hkl) (List.getElem?_eq_getElem (by rw [lnkD_len]; exact hk))
  obtain ⟨A, c2, hv, _⟩ := own_len he
  rw [hv] at hx he
  refine ⟨bl, c, A, c2, (Array.getElem?_eq_some_iff.1 hh).1, ?_, hx, Rd.of_own he⟩
  rw [h.blk.cell 1]
  simp [lnkD_len]
theorem GAt.urow {w : World} {B g : Nat} {l : List Ac} (h : GAt w B g l) {k : Nat} (hk : k < l.length) : ∃ bl c A c2, bl < w.heap.size ∧ w.cell? ⟨g, 2, none⟩ = some (.slice (some ⟨bl, 0, none⟩) l.length c) ∧ w.cell? ⟨bl, k, none⟩ = some (.slice A ((UT l.length (lnkD l).flatten)[k]'(by rw [UT_len]; exact hk)).length c2) ∧ RdLk w (.slice A ((UT l.length (lnkD l).flatten)[k]'(by rw [UT_len]; exact hk)).length c2) ((UT l.length (lnkD l).flatten)[k]'(by rw [UT_len]; exact hk)) := by
  obtain ⟨vk, vl, vu, bw, vL, vU, h⟩ := h
  have hkl : k < vU.length := by rw [h.lu.lenU, UT_len]; exact hk
  obtain ⟨hlen, ⟨_, h0⟩ | ⟨bl, c, cur, rfl, hg, hh, h1, h2, h3, h4⟩⟩ := id h.lu.us
  · rw [UT_len] at h0; omega
  have hx := own_cell1 h.lu.us (List.getElem?_eq_getElem hkl)
  have he := h.lu.eu k _ _ (List.getElem?_eq_getElem hkl) (List.getElem?_eq_getElem (by rw [UT_len]; exact hk))
  obtain ⟨A, c2, hv, _⟩ := own_len he
  rw [hv] at hx he
  refine ⟨bl, c, A, c2, (Array.getElem?_eq_some_iff.1 hh).1, ?_, hx, Rd.of_own he⟩
  rw [h.blk.cell 2]
  simp [UT_len]
theorem lnkF_row_len : ∀ (d r : List Ac), (∀ a ∈ r, a.reads.length ≤ 10) → ∀ x ∈ lnkF d r, x.length ≤ 10
  | d, [], _, x, hx => by cases hx
  | d, a :: r, h, x, hx => by
    simp only [lnkF, List.mem_cons] at hx
    rcases hx with rfl | hx
    · unfold lnkA; rw [List.length_map]; exact h a (by simp)
    · exact lnkF_row_len (d ++ [a]) r (fun b hb => h b (by simp [hb])) x hx
/-- The cells of the best link so far. -/
def bestA : Option Lk → Array Value
  | none => #[.int .i64 0, .int .i64 0, .int .i64 0, .string ⟨#[]⟩, .int .i64 0, .int .i64 0, .string ⟨#[]⟩]
  | some x => #[.int .i64 x.frm, .int .i64 x.to_, .int .i64 x.name.kind, .string (bs x.name.owner), .int .i64 x.name.num, .int .i64 x.name.idx, .string (bs x.name.text)]
def linkV : Option Lk → Value
  | none => .agg #[.int .i64 0, .int .i64 0, .int .i64 0, .string ⟨#[]⟩, .int .i64 0, .int .i64 0, .string ⟨#[]⟩]
  | some x => lkV x
def gstRel (D : DM) (k : Nat) (row : List Lk) (R : Option Lk) (w W : World) (bb : Nat) (f i : Value) (wr : World) : Prop := ∃ (m : Nat) (b : Option Lk), m ≤ row.length ∧ i = .int .i64 m ∧ f = .bool b.isSome ∧ stepF D k (row.drop m) b = R ∧ Blk wr bb 61 (bestA b) ∧ Blk wr w.heap.size 61 #[.int .i64 0, .int .i64 0, .int .i64 0, .string ⟨#[]⟩, .int .i64 0, .int .i64 0, .string ⟨#[]⟩] ∧ Below w.heap.size w wr
set_option maxRecDepth 100000 in
set_option maxHeartbeats 4000000 in
theorem gstep_is {w : World} {B g db : Nat} {l : List Ac} {D : DM} {k : Nat} (hg : GAt w B g l) (hd : DMap w db D) (hk : k < l.length) (hl : l.length ≤ 100) (hr : ∀ a ∈ l, a.reads.length ≤ 10) (hD : BOk l.length D) : Calls Tryz.prog 44 #[.pointer (some ⟨g, 0, none⟩), .int .i64 k, .map (some db)] w fun e w' => e = .returned (.tuple #[linkV (stepS (lnkD l) D k), .bool (stepS (lnkD l) D k).isSome]) ∧ Below w.heap.size w w' := by
  have hb0 := ((Below.refl w.heap.size w).alloc (Nat.le_refl _) (.cells #[.int .i64 0, .int .i64 0, .int .i64 0, .string ⟨#[]⟩, .int .i64 0, .int .i64 0, .string ⟨#[]⟩] 61)).alloc (by simp) (.cells #[.int .i64 0, .int .i64 0, .int .i64 0, .string ⟨#[]⟩, .int .i64 0, .int .i64 0, .string ⟨#[]⟩] 61)
  have hz0 := (Blk.new w 61 #[.int .i64 0, .int .i64 0, .int .i64 0, .string ⟨#[]⟩, .int .i64 0, .int .i64 0, .string ⟨#[]⟩]).alloc (.cells #[.int .i64 0, .int .i64 0, .int .i64 0, .string ⟨#[]⟩, .int .i64 0, .int .i64 0, .string ⟨#[]⟩] 61)
  have hz1 := Blk.new (w.alloc (.cells #[.int .i64 0, .int .i64 0, .int .i64 0, .string ⟨#[]⟩, .int .i64 0, .int .i64 0, .string ⟨#[]⟩] 61)) 61 #[.int .i64 0, .int .i64 0, .int .i64 0, .string ⟨#[]⟩, .int .i64 0, .int .i64 0, .string ⟨#[]⟩]
  rw [World.size_alloc] at hz1
  obtain ⟨row, hrow⟩ : ∃ row, (lnkD l)[k]'(by rw [lnkD_len]; exact hk) = row := ⟨_, rfl⟩
  have hrl : row.length ≤ 10 := by rw [← hrow]; exact lnkF_row_len [] l hr _ (List.getElem_mem _)
  have hS : stepS (lnkD l) D k = stepF D k row none := by
    unfold stepS
    rw [Int.toNat_natCast, List.getD_eq_getElem?_getD, List.getElem?_eq_getElem (by rw [lnkD_len]; exact hk), ← hrow]
    rfl
  obtain ⟨R, hR⟩ : ∃ R, stepF D k row none = R := ⟨_, rfl⟩
  rw [hS, hR]
  obtain ⟨bl, c, A, c2, g0, g1, g2, g3⟩ := hg.lrow hk
  rw [hrow] at g2 g3
  replace g1 := (hb0.cell (p := ⟨g, 1, none⟩) hg.lt).trans g1
  replace g2 := (hb0.cell (p := ⟨bl, k, none⟩) g0).trans g2
  have HX := Lib.hid g3
  have HD := Lib.hid hd
  have HBO := Lib.hid hD
  have H0 : Hid (gstRel D k row R w ((w.alloc (.cells #[.int .i64 0, .int .i64 0, .int .i64 0, .string ⟨#[]⟩, .int .i64 0, .int .i64 0, .string ⟨#[]⟩] 61)).alloc (.cells #[.int .i64 0, .int .i64 0, .int .i64 0, .string ⟨#[]⟩, .int .i64 0, .int .i64 0, .string ⟨#[]⟩] 61)) (w.heap.size + 1) (.bool false) (.int .i64 (0 : Nat)) ((w.alloc (.cells #[.int .i64 0, .int .i64 0, .int .i64 0, .string ⟨#[]⟩, .int .i64 0, .int .i64 0, .string ⟨#[]⟩] 61)).alloc (.cells #[.int .i64 0, .int .i64 0, .int .i64 0, .string ⟨#[]⟩, .int .i64 0, .int .i64 0, .string ⟨#[]⟩] 61))) := Lib.hid ⟨0, none, Nat.zero_le _, rfl, rfl, by rw [List.drop_zero]; exact hR, hz1, hz0, hb0⟩
  have j0 : (0 : Int) ≤ (k : Int) := by omega
  have j1 : (k : Int) < (l.length : Int) := by omega
  clear hg hd hD hb0 hz0 hz1 hrow hS hR g3 g0
  go_enter Tryz.func44, Tryz.ntmps44
  go_upto_region 2 with (fail)
  generalize (w.alloc (.cells #[.int .i64 0, .int .i64 0, .int .i64 0, .string ⟨#[]⟩, .int .i64 0, .int .i64 0, .string ⟨#[]⟩] 61)).alloc (.cells #[.int .i64 0, .int .i64 0, .int .i64 0, .string ⟨#[]⟩, .int .i64 0, .int .i64 0, .string ⟨#[]⟩] 61) = W at *
  obtain ⟨bb, hbb⟩ : ∃ bb, w.heap.size + 1 = bb := ⟨_, rfl⟩
  have HBB := Lib.hid hbb
  rw [hbb] at H0 ⊢
  clear hbb
  go_wp2_with fail
  clear g1 g2
  go_loopw [9, 23] (fun f i wr => gstRel D k row R w W bb f i wr) (fun _ i _ => row.length - (intOf i).toNat)
  case atStart => exact H0.out
  case round =>
    clear H0
    obtain ⟨m, b, hml, rfl, rfl, hst, zb, zr, hbw⟩ := hrel
    have HST := Lib.hid hst
    have ZB := Lib.hid zb
    have ZR := Lib.hid zr
    have HBW := Lib.hid hbw
    clear hst zb zr hbw
    by_cases hm : m < row.length
    · have j4 : (0 : Int) ≤ (m : Int) := by omega
      have j5 : (m : Int) < (row.length : Int) := by omega
      have j6 : decide ((m : Int) < (row.length : Int)) = true := decide_eq_true j5
      obtain ⟨xb, xo, hbe, hxb, y0, y1, y2, y3, y4, y5, y6⟩ := RdLk.piece (RdP.next HX.out HBW.out) hm
      subst hbe
      obtain ⟨x, hx⟩ : ∃ x, row[m] = x := ⟨_, rfl⟩
      rw [hx] at y0 y1 y2 y3 y4 y5 y6
      have HDR := Lib.hid (show row.drop m = x :: row.drop (m + 1) by rw [← hx]; exact List.drop_eq_getElem_cons hm)
      clear hx
      go_upto_region 5 with (fail)
      have hba := (Below.refl wr.heap.size wr).alloc (Nat.le_refl _) (.cells #[.int .i64 x.frm, .int .i64 x.to_, .int .i64 x.name.kind, .string (bs x.name.owner), .int .i64 x.name.num, .int .i64 x.name.idx, .string (bs x.name.text)] 61)
      have HBA := Lib.hid (HBW.out.trans (hba.mono HBW.out.size))
      have ZX := Lib.hid (Blk.new wr 61 #[.int .i64 x.frm, .int .i64 x.to_, .int .i64 x.name.kind, .string (bs x.name.owner), .int .i64 x.name.num, .int .i64 x.name.idx, .string (bs x.name.text)])
      have ZB2 := Lib.hid (ZB.out.next hba ZB.out.lt)
      have ZR2 := Lib.hid (ZR.out.next hba ZR.out.lt)
      have hlt : w.heap.size < wr.heap.size := ZR.out.lt
      clear y0 y1 y2 y3 y4 y5 y6 hba hxb
      generalize wr.alloc (.cells #[.int .i64 x.frm, .int .i64 x.to_, .int .i64 x.name.kind, .string (bs x.name.owner), .int .i64 x.name.num, .int .i64 x.name.idx, .string (bs x.name.text)] 61) = W1 at *
      obtain ⟨cb, hcb⟩ : ∃ cb, wr.heap.size = cb := ⟨_, rfl⟩
      rw [hcb] at ZX hlt ⊢
      clear hcb
      have x0 := ZX.out.cell 0
      have f0 := ZB2.out.frozen 0
      have x1 := ZX.out.cell 1
      have f1 := ZB2.out.frozen 1
      have x2 := ZX.out.cell 2
      have f2 := ZB2.out.frozen 2
      have x3 := ZX.out.cell 3
      have f3 := ZB2.out.frozen 3
      have x4 := ZX.out.cell 4
      have f4 := ZB2.out.frozen 4
      have x5 := ZX.out.cell 5
      have f5 := ZB2.out.frozen 5
      have x6 := ZX.out.cell 6
      have f6 := ZB2.out.frozen 6
      simp only [List.getElem?_toArray, List.getElem?_cons_zero, List.getElem?_cons_succ] at x0 x1 x2 x3 x4 x5 x6
      have hle : w.heap.size ≤ bb := by have := HBB.out; omega
      have HRB := Lib.hid (show w.heap.size ≠ bb by have := HBB.out; omega)
      have HD1 := Lib.hid (HD.out.next HBA.out)
      obtain ⟨d1, hd1⟩ : ∃ z, (lookM x.frm D).getD 0 = z := ⟨_, rfl⟩
      obtain ⟨q1, hq1⟩ : ∃ z, (lookM x.frm D).isSome = z := ⟨_, rfl⟩
      obtain ⟨dk, hdk⟩ : ∃ z, (lookM (k : Int) D).getD 0 = z := ⟨_, rfl⟩
      have hok := HD1.out.ok x.frm hd1 hq1
      have hlk := HD1.out.look (k : Int) hdk
      have hdb := HBO.out.dist (k : Int)
      have hDl := HBO.out.le
      rw [hdk] at hdb
      have e3 : IntKind.i64.wrap (dk - 1) = dk - 1 := IntWalk.i64_in _ (by omega)
      obtain ⟨q2, hq2⟩ : ∃ z, (d1 == dk - 1) = z := ⟨_, rfl⟩
      have HE := Lib.hid (show better D k x b = (q1 && q2 && lessB x b) by unfold better; rw [hq1, hd1, hdk, hq2])
      clear hdb hDl hd1 hq1 hdk
      cases q1 with
      | false =>
        have HN := Lib.hid (show stepF D k (row.drop (m + 1)) _ = R by
          have := HST.out
          rw [HDR.out] at this
          simp only [stepF] at this
          rw [HE.out, if_neg (by simp [lessB, *])] at this
          exact this)
        go_wp2_with fail
        go_roundw
        case rel => exact ⟨m + 1, _, by omega, by go_num, rfl, HN.out, ZB2.out, ZR2.out, HBA.out⟩
        case measure => simp [intOf]; omega
      | true =>
        cases q2 with
        | false =>
          have HN := Lib.hid (show stepF D k (row.drop (m + 1)) _ = R by
            have := HST.out
            rw [HDR.out] at this
            simp only [stepF] at this
            rw [HE.out, if_neg (by simp [lessB, *])] at this
            exact this)
          go_wp2_with fail
          go_roundw
          case rel => exact ⟨m + 1, _, by omega, by go_num, rfl, HN.out, ZB2.out, ZR2.out, HBA.out⟩
          case measure => simp [intOf]; omega
        | true =>
          cases b with
          | none =>
            have ZB3 : Blk W1 bb 61 #[.int .i64 0, .int .i64 0, .int .i64 0, .string ⟨#[]⟩, .int .i64 0, .int .i64 0, .string ⟨#[]⟩] := ZB2.out
            have c0 := ZB3.cell 0
            have c1 := ZB3.cell 1
            have c2 := ZB3.cell 2
            have c3 := ZB3.cell 3
            have c4 := ZB3.cell 4
            have c5 := ZB3.cell 5
            have c6 := ZB3.cell 6
            simp only [List.getElem?_toArray, List.getElem?_cons_zero, List.getElem?_cons_succ] at c0 c1 c2 c3 c4 c5 c6
            have HN := Lib.hid (show stepF D k (row.drop (m + 1)) (some x) = R by
              have := HST.out
              rw [HDR.out] at this
              simp only [stepF] at this
              rw [HE.out, if_pos (by simp [lessB, *])] at this
              exact this)
            go_wp2_with fail
            have P0 := (ZB3).set_ 0 (.int .i64 x.frm)
            have P1 := (P0).set_ 1 (.int .i64 x.to_)
            have P2 := (P1).set_ 2 (.int .i64 x.name.kind)
            have P3 := (P2).set_ 3 (.string (bs x.name.owner))
            have P4 := (P3).set_ 4 (.int .i64 x.name.num)
            have P5 := (P4).set_ 5 (.int .i64 x.name.idx)
            have P6 := (P5).set_ 6 (.string (bs x.name.text))
            have q0 := P6.cell 0
            have q1 := P6.cell 1
            have q2 := P6.cell 2
            have q3 := P6.cell 3
            have q4 := P6.cell 4
            have q5 := P6.cell 5
            have q6 := P6.cell 6
            simp only [List.setIfInBounds_toArray, List.set_cons_zero, List.set_cons_succ, List.getElem?_toArray, List.getElem?_cons_zero, List.getElem?_cons_succ] at q0 q1 q2 q3 q4 q5 q6
            have HBE := Lib.hid (((((((HBA.out.setCell (p := ⟨bb, 0, none⟩) hle (.int .i64 x.frm)).setCell (p := ⟨bb, 1, none⟩) hle (.int .i64 x.to_)).setCell (p := ⟨bb, 2, none⟩) hle (.int .i64 x.name.kind)).setCell (p := ⟨bb, 3, none⟩) hle (.string (bs x.name.owner))).setCell (p := ⟨bb, 4, none⟩) hle (.int .i64 x.name.num)).setCell (p := ⟨bb, 5, none⟩) hle (.int .i64 x.name.idx)).setCell (p := ⟨bb, 6, none⟩) hle (.string (bs x.name.text)))
            go_roundw
            case rel => exact ⟨m + 1, some x, by omega, by go_num, rfl, HN.out, by have h6 := P6; simp only [List.setIfInBounds_toArray, List.set_cons_zero, List.set_cons_succ] at h6; exact h6, (((((((ZR2.out.far (p := ⟨bb, 0, none⟩) HRB.out _).far (p := ⟨bb, 1, none⟩) HRB.out _).far (p := ⟨bb, 2, none⟩) HRB.out _).far (p := ⟨bb, 3, none⟩) HRB.out _).far (p := ⟨bb, 4, none⟩) HRB.out _).far (p := ⟨bb, 5, none⟩) HRB.out _).far (p := ⟨bb, 6, none⟩) HRB.out _), HBE.out⟩
            case measure => simp [intOf]; omega
          | some y =>
            have ZB3 : Blk W1 bb 61 #[.int .i64 y.frm, .int .i64 y.to_, .int .i64 y.name.kind, .string (bs y.name.owner), .int .i64 y.name.num, .int .i64 y.name.idx, .string (bs y.name.text)] := ZB2.out
            have c0 := ZB3.cell 0
            have c1 := ZB3.cell 1
            have c2 := ZB3.cell 2
            have c3 := ZB3.cell 3
            have c4 := ZB3.cell 4
            have c5 := ZB3.cell 5
            have c6 := ZB3.cell 6
            simp only [List.getElem?_toArray, List.getElem?_cons_zero, List.getElem?_cons_succ] at c0 c1 c2 c3 c4 c5 c6
            by_cases hlt3 : x.frm < y.frm
            · have d3 : decide (x.frm < y.frm) = true := decide_eq_true hlt3
              have HN := Lib.hid (show stepF D k (row.drop (m + 1)) (some x) = R by
                have := HST.out
                rw [HDR.out] at this
                simp only [stepF] at this
                rw [HE.out, if_pos (by simp [lessB, *])] at this
                exact this)
              go_wp2_with fail
              have P0 := (ZB3).set_ 0 (.int .i64 x.frm)
              have P1 := (P0).set_ 1 (.int .i64 x.to_)
              have P2 := (P1).set_ 2 (.int .i64 x.name.kind)
              have P3 := (P2).set_ 3 (.string (bs x.name.owner))
              have P4 := (P3).set_ 4 (.int .i64 x.name.num)
              have P5 := (P4).set_ 5 (.int .i64 x.name.idx)
              have P6 := (P5).set_ 6 (.string (bs x.name.text))
              have q0 := P6.cell 0
              have q1 := P6.cell 1
              have q2 := P6.cell 2
              have q3 := P6.cell 3
              have q4 := P6.cell 4
              have q5 := P6.cell 5
              have q6 := P6.cell 6
              simp only [List.setIfInBounds_toArray, List.set_cons_zero, List.set_cons_succ, List.getElem?_toArray, List.getElem?_cons_zero, List.getElem?_cons_succ] at q0 q1 q2 q3 q4 q5 q6
              have HBE := Lib.hid (((((((HBA.out.setCell (p := ⟨bb, 0, none⟩) hle (.int .i64 x.frm)).setCell (p := ⟨bb, 1, none⟩) hle (.int .i64 x.to_)).setCell (p := ⟨bb, 2, none⟩) hle (.int .i64 x.name.kind)).setCell (p := ⟨bb, 3, none⟩) hle (.string (bs x.name.owner))).setCell (p := ⟨bb, 4, none⟩) hle (.int .i64 x.name.num)).setCell (p := ⟨bb, 5, none⟩) hle (.int .i64 x.name.idx)).setCell (p := ⟨bb, 6, none⟩) hle (.string (bs x.name.text)))
              go_roundw
              case rel => exact ⟨m + 1, some x, by omega, by go_num, rfl, HN.out, by have h6 := P6; simp only [List.setIfInBounds_toArray, List.set_cons_zero, List.set_cons_succ] at h6; exact h6, (((((((ZR2.out.far (p := ⟨bb, 0, none⟩) HRB.out _).far (p := ⟨bb, 1, none⟩) HRB.out _).far (p := ⟨bb, 2, none⟩) HRB.out _).far (p := ⟨bb, 3, none⟩) HRB.out _).far (p := ⟨bb, 4, none⟩) HRB.out _).far (p := ⟨bb, 5, none⟩) HRB.out _).far (p := ⟨bb, 6, none⟩) HRB.out _), HBE.out⟩
              case measure => simp [intOf]; omega
            · have d3 : decide (x.frm < y.frm) = false := decide_eq_false hlt3
              have HN := Lib.hid (show stepF D k (row.drop (m + 1)) _ = R by
                have := HST.out
                rw [HDR.out] at this
                simp only [stepF] at this
                rw [HE.out, if_neg (by simp [lessB, *])] at this
                exact this)
              go_wp2_with fail
              go_roundw
              case rel => exact ⟨m + 1, _, by omega, by go_num, rfl, HN.out, ZB2.out, ZR2.out, HBA.out⟩
              case measure => simp [intOf]; omega
    · have j6 : decide ((m : Int) < (row.length : Int)) = false := decide_eq_false (by omega)
      have HE := Lib.hid (show b = R by have := HST.out; rw [List.drop_eq_nil_of_le (by omega)] at this; exact this)
      cases b with
      | none =>
        have x0 := ZB.out.cell 0
        have c0 := ZR.out.cell 0
        have f0 := ZR.out.frozen 0
        have x1 := ZB.out.cell 1
        have c1 := ZR.out.cell 1
        have f1 := ZR.out.frozen 1
        have x2 := ZB.out.cell 2
        have c2 := ZR.out.cell 2
        have f2 := ZR.out.frozen 2
        have x3 := ZB.out.cell 3
        have c3 := ZR.out.cell 3
        have f3 := ZR.out.frozen 3
        have x4 := ZB.out.cell 4
        have c4 := ZR.out.cell 4
        have f4 := ZR.out.frozen 4
        have x5 := ZB.out.cell 5
        have c5 := ZR.out.cell 5
        have f5 := ZR.out.frozen 5
        have x6 := ZB.out.cell 6
        have c6 := ZR.out.cell 6
        have f6 := ZR.out.frozen 6
        simp only [bestA, List.getElem?_toArray, List.getElem?_cons_zero, List.getElem?_cons_succ] at x0 x1 x2 x3 x4 x5 x6 c0 c1 c2 c3 c4 c5 c6
        have hle0 : w.heap.size ≤ w.heap.size := Nat.le_refl _
        go_wp2_with fail
        have P0 := (ZR.out).set_ 0 (.int .i64 0)
        have P1 := (P0).set_ 1 (.int .i64 0)
        have P2 := (P1).set_ 2 (.int .i64 0)
        have P3 := (P2).set_ 3 (.string ⟨#[]⟩)
        have P4 := (P3).set_ 4 (.int .i64 0)
        have P5 := (P4).set_ 5 (.int .i64 0)
        have P6 := (P5).set_ 6 (.string ⟨#[]⟩)
        have q0 := P6.cell 0
        have q1 := P6.cell 1
        have q2 := P6.cell 2
        have q3 := P6.cell 3
        have q4 := P6.cell 4
        have q5 := P6.cell 5
        have q6 := P6.cell 6
        simp only [List.setIfInBounds_toArray, List.set_cons_zero, List.set_cons_succ, List.getElem?_toArray, List.getElem?_cons_zero, List.getElem?_cons_succ] at q0 q1 q2 q3 q4 q5 q6
        have HBE := Lib.hid (((((((HBW.out.setCell (p := ⟨w.heap.size, 0, none⟩) hle0 (.int .i64 0)).setCell (p := ⟨w.heap.size, 1, none⟩) hle0 (.int .i64 0)).setCell (p := ⟨w.heap.size, 2, none⟩) hle0 (.int .i64 0)).setCell (p := ⟨w.heap.size, 3, none⟩) hle0 (.string ⟨#[]⟩)).setCell (p := ⟨w.heap.size, 4, none⟩) hle0 (.int .i64 0)).setCell (p := ⟨w.heap.size, 5, none⟩) hle0 (.int .i64 0)).setCell (p := ⟨w.heap.size, 6, none⟩) hle0 (.string ⟨#[]⟩))
        exact bodyPost_ret (v := .tuple #[.agg #[.int .i64 0, .int .i64 0, .int .i64 0, .string ⟨#[]⟩, .int .i64 0, .int .i64 0, .string ⟨#[]⟩], .bool false]) (by simp [results, Tryz.results44, go_sem, q0, q1, q2, q3, q4, q5, q6]) rfl ⟨by rw [← HE.out]; rfl, HBE.out⟩
      | some x =>
        have x0 := ZB.out.cell 0
        have c0 := ZR.out.cell 0
        have f0 := ZR.out.frozen 0
        have x1 := ZB.out.cell 1
        have c1 := ZR.out.cell 1
        have f1 := ZR.out.frozen 1
        have x2 := ZB.out.cell 2
        have c2 := ZR.out.cell 2
        have f2 := ZR.out.frozen 2
        have x3 := ZB.out.cell 3
        have c3 := ZR.out.cell 3
        have f3 := ZR.out.frozen 3
        have x4 := ZB.out.cell 4
        have c4 := ZR.out.cell 4
        have f4 := ZR.out.frozen 4
        have x5 := ZB.out.cell 5
        have c5 := ZR.out.cell 5
        have f5 := ZR.out.frozen 5
        have x6 := ZB.out.cell 6
        have c6 := ZR.out.cell 6
        have f6 := ZR.out.frozen 6
        simp only [bestA, List.getElem?_toArray, List.getElem?_cons_zero, List.getElem?_cons_succ] at x0 x1 x2 x3 x4 x5 x6 c0 c1 c2 c3 c4 c5 c6
        have hle0 : w.heap.size ≤ w.heap.size := Nat.le_refl _
        go_wp2_with fail
        have P0 := (ZR.out).set_ 0 (.int .i64 x.frm)
        have P1 := (P0).set_ 1 (.int .i64 x.to_)
        have P2 := (P1).set_ 2 (.int .i64 x.name.kind)
        have P3 := (P2).set_ 3 (.string (bs x.name.owner))
        have P4 := (P3).set_ 4 (.int .i64 x.name.num)
        have P5 := (P4).set_ 5 (.int .i64 x.name.idx)
        have P6 := (P5).set_ 6 (.string (bs x.name.text))
        have q0 := P6.cell 0
        have q1 := P6.cell 1
        have q2 := P6.cell 2
        have q3 := P6.cell 3
        have q4 := P6.cell 4
        have q5 := P6.cell 5
        have q6 := P6.cell 6
        simp only [List.setIfInBounds_toArray, List.set_cons_zero, List.set_cons_succ, List.getElem?_toArray, List.getElem?_cons_zero, List.getElem?_cons_succ] at q0 q1 q2 q3 q4 q5 q6
        have HBE := Lib.hid (((((((HBW.out.setCell (p := ⟨w.heap.size, 0, none⟩) hle0 (.int .i64 x.frm)).setCell (p := ⟨w.heap.size, 1, none⟩) hle0 (.int .i64 x.to_)).setCell (p := ⟨w.heap.size, 2, none⟩) hle0 (.int .i64 x.name.kind)).setCell (p := ⟨w.heap.size, 3, none⟩) hle0 (.string (bs x.name.owner))).setCell (p := ⟨w.heap.size, 4, none⟩) hle0 (.int .i64 x.name.num)).setCell (p := ⟨w.heap.size, 5, none⟩) hle0 (.int .i64 x.name.idx)).setCell (p := ⟨w.heap.size, 6, none⟩) hle0 (.string (bs x.name.text)))
        exact bodyPost_ret (v := .tuple #[.agg #[.int .i64 x.frm, .int .i64 x.to_, .int .i64 x.name.kind, .string (bs x.name.owner), .int .i64 x.name.num, .int .i64 x.name.idx, .string (bs x.name.text)], .bool true]) (by simp [results, Tryz.results44, go_sem, q0, q1, q2, q3, q4, q5, q6]) rfl ⟨by rw [← HE.out]; rfl, HBE.out⟩
end Go.Proofs.YtamjllakfgphnaaGreatDoor
