/- Walks and plain facts of the earlier laws, packed: W99, W100. -/
import Derived.Test.YtmjkcanjfjfkfaaB9
namespace Go.Proofs.Ytmjkcanjfjfkfaa
open Go.RowKit
set_option linter.unusedSimpArgs false
set_option linter.unusedVariables false
attribute [local go_sem ↓] Go.wp_at_zero Go.wp_at_succ
open Go.MapKept Go.ChangeMaps
theorem zeroInt (w : World) : (zeroValue 3).run Try.prog w = .ok (.int .i64 0) w := by kernel_rfl
theorem DMap.ok {w : World} {b : Nat} {D : DM} (h : DMap w b D) (n : Int) {d : Int} {q : Bool} (hd : (lookM n D).getD 0 = d) (hq : (lookM n D).isSome = q) : (Instr.lookup 91 (.map (some b)) (.int .i64 n) true).run Try.prog w = .ok (.tuple #[.int .i64 d, .bool q]) w := by
  have := map_okI h n Try.underlying91 (zeroInt w)
  rw [getD_map, isSome_map, hd, hq] at this
  exact this
theorem DMap.look {w : World} {b : Nat} {D : DM} (h : DMap w b D) (n : Int) {d : Int} (hd : (lookM n D).getD 0 = d) : (Instr.lookup 91 (.map (some b)) (.int .i64 n) false).run Try.prog w = .ok (.int .i64 d) w := by
  have := map_lookI h n Try.underlying91 (zeroInt w)
  rw [getD_map, hd] at this
  exact this
theorem GAt.lrow {w : World} {B g : Nat} {l : List Ac} (h : GAt w B g l) {k : Nat} (hk : k < l.length) : ∃ bl c A c2, bl < w.heap.size ∧ w.cell? ⟨g, 1, none⟩ = some (.slice (some ⟨bl, 0, none⟩) l.length c) ∧ w.cell? ⟨bl, k, none⟩ = some (.slice A ((lnkD l)[k]'(by rw [lnkD_len]; exact hk)).length c2) ∧ RdLk w (.slice A ((lnkD l)[k]'(by rw [lnkD_len]; exact hk)).length c2) ((lnkD l)[k]'(by rw [lnkD_len]; exact hk)) := by
  obtain ⟨vk, vl, vu, bw, vL, vU, h⟩ := h
  have hkl : k < vL.length := by rw [h.lu.lenL, lnkD_len]; exact hk
  obtain ⟨hlen, ⟨_, h0⟩ | ⟨bl, c, cur, rfl, hg, hh, h1, h2, h3, h4⟩⟩ := id h.lu.ln
  · rw [lnkD_len] at h0; omega
  have hx := own_cell1 h.lu.ln (List.getElem?_eq_getElem hkl)
  have he := h.lu.el k _ _ (List.getElem?_eq_getElem hkl) (List.getElem?_eq_getElem (by rw [lnkD_len]; exact hk))
  obtain ⟨A, c2, hv, _⟩ := own_len he
  rw [hv] at hx he
  refine ⟨bl, c, A, c2, (Array.getElem?_eq_some_iff.1 hh).1, ?_, hx, Rd.of_own he⟩
  rw [h.blk.cell 1]
  simp [lnkD_len]
theorem GAt.urow {w : World} {B g : Nat} {l : List Ac} (h : GAt w B g l) {k : Nat} (hk : k < l.length) : ∃ bl c A c2, bl < w.heap.size ∧ w.cell? ⟨g, 2, none⟩ = some (.slice (some ⟨bl, 0, none⟩) l.length c) ∧ w.cell? ⟨bl, k, none⟩ = some (.slice A ((UT l.length (lnkD l).flatten)[k]'(by rw [UT_len]; exact hk)).length c2) ∧ RdLk w (.slice A ((UT l.length (lnkD l).flatten)[k]'(by rw [UT_len]; exact hk)).length c2) ((UT l.length (lnkD l).flatten)[k]'(by rw [UT_len]; exact hk)) := by
  obtain ⟨vk, vl, vu, bw, vL, vU, h⟩ := h
  have hkl : k < vU.length := by rw [h.lu.lenU, UT_len]; exact hk
  obtain ⟨hlen, ⟨_, h0⟩ | ⟨bl, c, cur, rfl, hg, hh, h1, h2, h3, h4⟩⟩ := id h.lu.us
  · rw [UT_len] at h0; omega
  have hx := own_cell1 h.lu.us (List.getElem?_eq_getElem hkl)
  have he := h.lu.eu k _ _ (List.getElem?_eq_getElem hkl) (List.getElem?_eq_getElem (by rw [UT_len]; exact hk))
  obtain ⟨A, c2, hv, _⟩ := own_len he
  rw [hv] at hx he
  refine ⟨bl, c, A, c2, (Array.getElem?_eq_some_iff.1 hh).1, ?_, hx, Rd.of_own he⟩
  rw [h.blk.cell 2]
  simp [UT_len]
theorem lnkF_row_len : ∀ (d r : List Ac), (∀ a ∈ r, a.reads.length ≤ 10) → ∀ x ∈ lnkF d r, x.length ≤ 10
  | d, [], _, x, hx => by cases hx
  | d, a :: r, h, x, hx => by
    simp only [lnkF, List.mem_cons] at hx
    rcases hx with rfl | hx
    · unfold lnkA; rw [List.length_map]; exact h a (by simp)
    · exact lnkF_row_len (d ++ [a]) r (fun b hb => h b (by simp [hb])) x hx
def bestA : Option Lk → Array Value
  | none => #[.int .i64 0, .int .i64 0, .int .i64 0, .string ⟨#[]⟩, .int .i64 0, .int .i64 0, .string ⟨#[]⟩]
  | some x => #[.int .i64 x.frm, .int .i64 x.to_, .int .i64 x.name.kind, .string (bs x.name.owner), .int .i64 x.name.num, .int .i64 x.name.idx, .string (bs x.name.text)]
def linkV : Option Lk → Value
  | none => .agg #[.int .i64 0, .int .i64 0, .int .i64 0, .string ⟨#[]⟩, .int .i64 0, .int .i64 0, .string ⟨#[]⟩]
  | some x => lkV x
def gstRel (D : DM) (k : Nat) (row : List Lk) (R : Option Lk) (w W : World) (bb : Nat) (f i : Value) (wr : World) : Prop := ∃ (m : Nat) (b : Option Lk), m ≤ row.length ∧ i = .int .i64 m ∧ f = .bool b.isSome ∧ stepF D k (row.drop m) b = R ∧ Blk wr bb 43 (bestA b) ∧ Blk wr w.heap.size 43 #[.int .i64 0, .int .i64 0, .int .i64 0, .string ⟨#[]⟩, .int .i64 0, .int .i64 0, .string ⟨#[]⟩] ∧ Below w.heap.size w wr
set_option maxRecDepth 100000 in
set_option maxHeartbeats 4000000 in
theorem gstep_is {w : World} {B g db : Nat} {l : List Ac} {D : DM} {k : Nat} (hg : GAt w B g l) (hd : DMap w db D) (hk : k < l.length) (hl : l.length ≤ 100) (hr : ∀ a ∈ l, a.reads.length ≤ 10) (hD : BOk l.length D) : Calls Try.prog 38 #[.pointer (some ⟨g, 0, none⟩), .int .i64 k, .map (some db)] w fun e w' => e = .returned (.tuple #[linkV (stepS (lnkD l) D k), .bool (stepS (lnkD l) D k).isSome]) ∧ Below w.heap.size w w' := by
  have hb0 := ((Below.refl w.heap.size w).alloc (Nat.le_refl _) (.cells #[.int .i64 0, .int .i64 0, .int .i64 0, .string ⟨#[]⟩, .int .i64 0, .int .i64 0, .string ⟨#[]⟩] 43)).alloc (by simp) (.cells #[.int .i64 0, .int .i64 0, .int .i64 0, .string ⟨#[]⟩, .int .i64 0, .int .i64 0, .string ⟨#[]⟩] 43)
  have hz0 := (Blk.new w 43 #[.int .i64 0, .int .i64 0, .int .i64 0, .string ⟨#[]⟩, .int .i64 0, .int .i64 0, .string ⟨#[]⟩]).alloc (.cells #[.int .i64 0, .int .i64 0, .int .i64 0, .string ⟨#[]⟩, .int .i64 0, .int .i64 0, .string ⟨#[]⟩] 43)
  have hz1 := Blk.new (w.alloc (.cells #[.int .i64 0, .int .i64 0, .int .i64 0, .string ⟨#[]⟩, .int .i64 0, .int .i64 0, .string ⟨#[]⟩] 43)) 43 #[.int .i64 0, .int .i64 0, .int .i64 0, .string ⟨#[]⟩, .int .i64 0, .int .i64 0, .string ⟨#[]⟩]
  rw [World.size_alloc] at hz1
  obtain ⟨row, hrow⟩ : ∃ row, (lnkD l)[k]'(by rw [lnkD_len]; exact hk) = row := ⟨_, rfl⟩
  have hrl : row.length ≤ 10 := by rw [← hrow]; exact lnkF_row_len [] l hr _ (List.getElem_mem _)
  have hS : stepS (lnkD l) D k = stepF D k row none := by
    unfold stepS
    rw [Int.toNat_natCast, List.getD_eq_getElem?_getD, List.getElem?_eq_getElem (by rw [lnkD_len]; exact hk), ← hrow]
    rfl
  obtain ⟨R, hR⟩ : ∃ R, stepF D k row none = R := ⟨_, rfl⟩
  rw [hS, hR]
  obtain ⟨bl, c, A, c2, g0, g1, g2, g3⟩ := hg.lrow hk
  rw [hrow] at g2 g3
  replace g1 := (hb0.cell (p := ⟨g, 1, none⟩) hg.lt).trans g1
  replace g2 := (hb0.cell (p := ⟨bl, k, none⟩) g0).trans g2
  have HX := Lib.hid g3
  have HD := Lib.hid hd
  have HBO := Lib.hid hD
  have H0 : Hid (gstRel D k row R w ((w.alloc (.cells #[.int .i64 0, .int .i64 0, .int .i64 0, .string ⟨#[]⟩, .int .i64 0, .int .i64 0, .string ⟨#[]⟩] 43)).alloc (.cells #[.int .i64 0, .int .i64 0, .int .i64 0, .string ⟨#[]⟩, .int .i64 0, .int .i64 0, .string ⟨#[]⟩] 43)) (w.heap.size + 1) (.bool false) (.int .i64 (0 : Nat)) ((w.alloc (.cells #[.int .i64 0, .int .i64 0, .int .i64 0, .string ⟨#[]⟩, .int .i64 0, .int .i64 0, .string ⟨#[]⟩] 43)).alloc (.cells #[.int .i64 0, .int .i64 0, .int .i64 0, .string ⟨#[]⟩, .int .i64 0, .int .i64 0, .string ⟨#[]⟩] 43))) := Lib.hid ⟨0, none, Nat.zero_le _, rfl, rfl, by rw [List.drop_zero]; exact hR, hz1, hz0, hb0⟩
  have j0 : (0 : Int) ≤ (k : Int) := by omega
  have j1 : (k : Int) < (l.length : Int) := by omega
  clear hg hd hD hb0 hz0 hz1 hrow hS hR g3 g0
  go_enter Try.func38, Try.ntmps38
  go_upto_region 2 with (fail)
  generalize (w.alloc (.cells #[.int .i64 0, .int .i64 0, .int .i64 0, .string ⟨#[]⟩, .int .i64 0, .int .i64 0, .string ⟨#[]⟩] 43)).alloc (.cells #[.int .i64 0, .int .i64 0, .int .i64 0, .string ⟨#[]⟩, .int .i64 0, .int .i64 0, .string ⟨#[]⟩] 43) = W at *
  obtain ⟨bb, hbb⟩ : ∃ bb, w.heap.size + 1 = bb := ⟨_, rfl⟩
  have HBB := Lib.hid hbb
  rw [hbb] at H0 ⊢
  clear hbb
  go_wp2_with fail
  clear g1 g2
  go_loopw [9, 23] (fun f i wr => gstRel D k row R w W bb f i wr) (fun _ i _ => row.length - (intOf i).toNat)
  case atStart => exact H0.out
  case round =>
    clear H0
    obtain ⟨m, b, hml, rfl, rfl, hst, zb, zr, hbw⟩ := hrel
    have HST := Lib.hid hst
    have ZB := Lib.hid zb
    have ZR := Lib.hid zr
    have HBW := Lib.hid hbw
    clear hst zb zr hbw
    by_cases hm : m < row.length
    · have j4 : (0 : Int) ≤ (m : Int) := by omega
      have j5 : (m : Int) < (row.length : Int) := by omega
      have j6 : decide ((m : Int) < (row.length : Int)) = true := decide_eq_true j5
      obtain ⟨xb, xo, hbe, hxb, y0, y1, y2, y3, y4, y5, y6⟩ := RdLk.piece (RdP.next HX.out HBW.out) hm
      subst hbe
      obtain ⟨x, hx⟩ : ∃ x, row[m] = x := ⟨_, rfl⟩
      rw [hx] at y0 y1 y2 y3 y4 y5 y6
      have HDR := Lib.hid (show row.drop m = x :: row.drop (m + 1) by rw [← hx]; exact List.drop_eq_getElem_cons hm)
      clear hx
      go_upto_region 5 with (fail)
      have hba := (Below.refl wr.heap.size wr).alloc (Nat.le_refl _) (.cells #[.int .i64 x.frm, .int .i64 x.to_, .int .i64 x.name.kind, .string (bs x.name.owner), .int .i64 x.name.num, .int .i64 x.name.idx, .string (bs x.name.text)] 43)
      have HBA := Lib.hid (HBW.out.trans (hba.mono HBW.out.size))
      have ZX := Lib.hid (Blk.new wr 43 #[.int .i64 x.frm, .int .i64 x.to_, .int .i64 x.name.kind, .string (bs x.name.owner), .int .i64 x.name.num, .int .i64 x.name.idx, .string (bs x.name.text)])
      have ZB2 := Lib.hid (ZB.out.next hba ZB.out.lt)
      have ZR2 := Lib.hid (ZR.out.next hba ZR.out.lt)
      have hlt : w.heap.size < wr.heap.size := ZR.out.lt
      clear y0 y1 y2 y3 y4 y5 y6 hba hxb
      generalize wr.alloc (.cells #[.int .i64 x.frm, .int .i64 x.to_, .int .i64 x.name.kind, .string (bs x.name.owner), .int .i64 x.name.num, .int .i64 x.name.idx, .string (bs x.name.text)] 43) = W1 at *
      obtain ⟨cb, hcb⟩ : ∃ cb, wr.heap.size = cb := ⟨_, rfl⟩
      rw [hcb] at ZX hlt ⊢
      clear hcb
      have x0 := ZX.out.cell 0
      have f0 := ZB2.out.frozen 0
      have x1 := ZX.out.cell 1
      have f1 := ZB2.out.frozen 1
      have x2 := ZX.out.cell 2
      have f2 := ZB2.out.frozen 2
      have x3 := ZX.out.cell 3
      have f3 := ZB2.out.frozen 3
      have x4 := ZX.out.cell 4
      have f4 := ZB2.out.frozen 4
      have x5 := ZX.out.cell 5
      have f5 := ZB2.out.frozen 5
      have x6 := ZX.out.cell 6
      have f6 := ZB2.out.frozen 6
      simp only [List.getElem?_toArray, List.getElem?_cons_zero, List.getElem?_cons_succ] at x0 x1 x2 x3 x4 x5 x6
      have hle : w.heap.size ≤ bb := by have := HBB.out; omega
      have HRB := Lib.hid (show w.heap.size ≠ bb by have := HBB.out; omega)
      have HD1 := Lib.hid (HD.out.next HBA.out)
      obtain ⟨d1, hd1⟩ : ∃ z, (lookM x.frm D).getD 0 = z := ⟨_, rfl⟩
      obtain ⟨q1, hq1⟩ : ∃ z, (lookM x.frm D).isSome = z := ⟨_, rfl⟩
      obtain ⟨dk, hdk⟩ : ∃ z, (lookM (k : Int) D).getD 0 = z := ⟨_, rfl⟩
      have hok := HD1.out.ok x.frm hd1 hq1
      have hlk := HD1.out.look (k : Int) hdk
      have hdb := HBO.out.dist (k : Int)
      have hDl := HBO.out.le
      rw [hdk] at hdb
      have e3 : IntKind.i64.wrap (dk - 1) = dk - 1 := IntWalk.i64_in _ (by omega)
      obtain ⟨q2, hq2⟩ : ∃ z, (d1 == dk - 1) = z := ⟨_, rfl⟩
      have HE := Lib.hid (show better D k x b = (q1 && q2 && lessB x b) by unfold better; rw [hq1, hd1, hdk, hq2])
      clear hdb hDl hd1 hq1 hdk
      cases q1 with
      | false =>
        have HN := Lib.hid (show stepF D k (row.drop (m + 1)) _ = R by
          have := HST.out
          rw [HDR.out] at this
          simp only [stepF] at this
          rw [HE.out, if_neg (by simp [lessB, *])] at this
          exact this)
        go_wp2_with fail
        go_roundw
        case rel => exact ⟨m + 1, _, by omega, by go_num, rfl, HN.out, ZB2.out, ZR2.out, HBA.out⟩
        case measure => simp [intOf]; omega
      | true =>
        cases q2 with
        | false =>
          have HN := Lib.hid (show stepF D k (row.drop (m + 1)) _ = R by
            have := HST.out
            rw [HDR.out] at this
            simp only [stepF] at this
            rw [HE.out, if_neg (by simp [lessB, *])] at this
            exact this)
          go_wp2_with fail
          go_roundw
          case rel => exact ⟨m + 1, _, by omega, by go_num, rfl, HN.out, ZB2.out, ZR2.out, HBA.out⟩
          case measure => simp [intOf]; omega
        | true =>
          cases b with
          | none =>
            have ZB3 : Blk W1 bb 43 #[.int .i64 0, .int .i64 0, .int .i64 0, .string ⟨#[]⟩, .int .i64 0, .int .i64 0, .string ⟨#[]⟩] := ZB2.out
            have c0 := ZB3.cell 0
            have c1 := ZB3.cell 1
            have c2 := ZB3.cell 2
            have c3 := ZB3.cell 3
            have c4 := ZB3.cell 4
            have c5 := ZB3.cell 5
            have c6 := ZB3.cell 6
            simp only [List.getElem?_toArray, List.getElem?_cons_zero, List.getElem?_cons_succ] at c0 c1 c2 c3 c4 c5 c6
            have HN := Lib.hid (show stepF D k (row.drop (m + 1)) (some x) = R by
              have := HST.out
              rw [HDR.out] at this
              simp only [stepF] at this
              rw [HE.out, if_pos (by simp [lessB, *])] at this
              exact this)
            go_wp2_with fail
            have P0 := (ZB3).set_ 0 (.int .i64 x.frm)
            have P1 := (P0).set_ 1 (.int .i64 x.to_)
            have P2 := (P1).set_ 2 (.int .i64 x.name.kind)
            have P3 := (P2).set_ 3 (.string (bs x.name.owner))
            have P4 := (P3).set_ 4 (.int .i64 x.name.num)
            have P5 := (P4).set_ 5 (.int .i64 x.name.idx)
            have P6 := (P5).set_ 6 (.string (bs x.name.text))
            have q0 := P6.cell 0
            have q1 := P6.cell 1
            have q2 := P6.cell 2
            have q3 := P6.cell 3
            have q4 := P6.cell 4
            have q5 := P6.cell 5
            have q6 := P6.cell 6
            simp only [List.setIfInBounds_toArray, List.set_cons_zero, List.set_cons_succ, List.getElem?_toArray, List.getElem?_cons_zero, List.getElem?_cons_succ] at q0 q1 q2 q3 q4 q5 q6
            have HBE := Lib.hid (((((((HBA.out.setCell (p := ⟨bb, 0, none⟩) hle (.int .i64 x.frm)).setCell (p := ⟨bb, 1, none⟩) hle (.int .i64 x.to_)).setCell (p := ⟨bb, 2, none⟩) hle (.int .i64 x.name.kind)).setCell (p := ⟨bb, 3, none⟩) hle (.string (bs x.name.owner))).setCell (p := ⟨bb, 4, none⟩) hle (.int .i64 x.name.num)).setCell (p := ⟨bb, 5, none⟩) hle (.int .i64 x.name.idx)).setCell (p := ⟨bb, 6, none⟩) hle (.string (bs x.name.text)))
            go_roundw
            case rel => exact ⟨m + 1, some x, by omega, by go_num, rfl, HN.out, by have h6 := P6; simp only [List.setIfInBounds_toArray, List.set_cons_zero, List.set_cons_succ] at h6; exact h6, (((((((ZR2.out.far (p := ⟨bb, 0, none⟩) HRB.out _).far (p := ⟨bb, 1, none⟩) HRB.out _).far (p := ⟨bb, 2, none⟩) HRB.out _).far (p := ⟨bb, 3, none⟩) HRB.out _).far (p := ⟨bb, 4, none⟩) HRB.out _).far (p := ⟨bb, 5, none⟩) HRB.out _).far (p := ⟨bb, 6, none⟩) HRB.out _), HBE.out⟩
            case measure => simp [intOf]; omega
          | some y =>
            have ZB3 : Blk W1 bb 43 #[.int .i64 y.frm, .int .i64 y.to_, .int .i64 y.name.kind, .string (bs y.name.owner), .int .i64 y.name.num, .int .i64 y.name.idx, .string (bs y.name.text)] := ZB2.out
            have c0 := ZB3.cell 0
            have c1 := ZB3.cell 1
            have c2 := ZB3.cell 2
            have c3 := ZB3.cell 3
            have c4 := ZB3.cell 4
            have c5 := ZB3.cell 5
            have c6 := ZB3.cell 6
            simp only [List.getElem?_toArray, List.getElem?_cons_zero, List.getElem?_cons_succ] at c0 c1 c2 c3 c4 c5 c6
            by_cases hlt3 : x.frm < y.frm
            · have d3 : decide (x.frm < y.frm) = true := decide_eq_true hlt3
              have HN := Lib.hid (show stepF D k (row.drop (m + 1)) (some x) = R by
                have := HST.out
                rw [HDR.out] at this
                simp only [stepF] at this
                rw [HE.out, if_pos (by simp [lessB, *])] at this
                exact this)
              go_wp2_with fail
              have P0 := (ZB3).set_ 0 (.int .i64 x.frm)
              have P1 := (P0).set_ 1 (.int .i64 x.to_)
              have P2 := (P1).set_ 2 (.int .i64 x.name.kind)
              have P3 := (P2).set_ 3 (.string (bs x.name.owner))
              have P4 := (P3).set_ 4 (.int .i64 x.name.num)
              have P5 := (P4).set_ 5 (.int .i64 x.name.idx)
              have P6 := (P5).set_ 6 (.string (bs x.name.text))
              have q0 := P6.cell 0
              have q1 := P6.cell 1
              have q2 := P6.cell 2
              have q3 := P6.cell 3
              have q4 := P6.cell 4
              have q5 := P6.cell 5
              have q6 := P6.cell 6
              simp only [List.setIfInBounds_toArray, List.set_cons_zero, List.set_cons_succ, List.getElem?_toArray, List.getElem?_cons_zero, List.getElem?_cons_succ] at q0 q1 q2 q3 q4 q5 q6
              have HBE := Lib.hid (((((((HBA.out.setCell (p := ⟨bb, 0, none⟩) hle (.int .i64 x.frm)).setCell (p := ⟨bb, 1, none⟩) hle (.int .i64 x.to_)).setCell (p := ⟨bb, 2, none⟩) hle (.int .i64 x.name.kind)).setCell (p := ⟨bb, 3, none⟩) hle (.string (bs x.name.owner))).setCell (p := ⟨bb, 4, none⟩) hle (.int .i64 x.name.num)).setCell (p := ⟨bb, 5, none⟩) hle (.int .i64 x.name.idx)).setCell (p := ⟨bb, 6, none⟩) hle (.string (bs x.name.text)))
              go_roundw
              case rel => exact ⟨m + 1, some x, by omega, by go_num, rfl, HN.out, by have h6 := P6; simp only [List.setIfInBounds_toArray, List.set_cons_zero, List.set_cons_succ] at h6; exact h6, (((((((ZR2.out.far (p := ⟨bb, 0, none⟩) HRB.out _).far (p := ⟨bb, 1, none⟩) HRB.out _).far (p := ⟨bb, 2, none⟩) HRB.out _).far (p := ⟨bb, 3, none⟩) HRB.out _).far (p := ⟨bb, 4, none⟩) HRB.out _).far (p := ⟨bb, 5, none⟩) HRB.out _).far (p := ⟨bb, 6, none⟩) HRB.out _), HBE.out⟩
              case measure => simp [intOf]; omega
            · have d3 : decide (x.frm < y.frm) = false := decide_eq_false hlt3
              have HN := Lib.hid (show stepF D k (row.drop (m + 1)) _ = R by
                have := HST.out
                rw [HDR.out] at this
                simp only [stepF] at this
                rw [HE.out, if_neg (by simp [lessB, *])] at this
                exact this)
              go_wp2_with fail
              go_roundw
              case rel => exact ⟨m + 1, _, by omega, by go_num, rfl, HN.out, ZB2.out, ZR2.out, HBA.out⟩
              case measure => simp [intOf]; omega
    · have j6 : decide ((m : Int) < (row.length : Int)) = false := decide_eq_false (by omega)
      have HE := Lib.hid (show b = R by have := HST.out; rw [List.drop_eq_nil_of_le (by omega)] at this; exact this)
      cases b with
      | none =>
        have x0 := ZB.out.cell 0
        have c0 := ZR.out.cell 0
        have f0 := ZR.out.frozen 0
        have x1 := ZB.out.cell 1
        have c1 := ZR.out.cell 1
        have f1 := ZR.out.frozen 1
        have x2 := ZB.out.cell 2
        have c2 := ZR.out.cell 2
        have f2 := ZR.out.frozen 2
        have x3 := ZB.out.cell 3
        have c3 := ZR.out.cell 3
        have f3 := ZR.out.frozen 3
        have x4 := ZB.out.cell 4
        have c4 := ZR.out.cell 4
        have f4 := ZR.out.frozen 4
        have x5 := ZB.out.cell 5
        have c5 := ZR.out.cell 5
        have f5 := ZR.out.frozen 5
        have x6 := ZB.out.cell 6
        have c6 := ZR.out.cell 6
        have f6 := ZR.out.frozen 6
        simp only [bestA, List.getElem?_toArray, List.getElem?_cons_zero, List.getElem?_cons_succ] at x0 x1 x2 x3 x4 x5 x6 c0 c1 c2 c3 c4 c5 c6
        have hle0 : w.heap.size ≤ w.heap.size := Nat.le_refl _
        go_wp2_with fail
        have P0 := (ZR.out).set_ 0 (.int .i64 0)
        have P1 := (P0).set_ 1 (.int .i64 0)
        have P2 := (P1).set_ 2 (.int .i64 0)
        have P3 := (P2).set_ 3 (.string ⟨#[]⟩)
        have P4 := (P3).set_ 4 (.int .i64 0)
        have P5 := (P4).set_ 5 (.int .i64 0)
        have P6 := (P5).set_ 6 (.string ⟨#[]⟩)
        have q0 := P6.cell 0
        have q1 := P6.cell 1
        have q2 := P6.cell 2
        have q3 := P6.cell 3
        have q4 := P6.cell 4
        have q5 := P6.cell 5
        have q6 := P6.cell 6
        simp only [List.setIfInBounds_toArray, List.set_cons_zero, List.set_cons_succ, List.getElem?_toArray, List.getElem?_cons_zero, List.getElem?_cons_succ] at q0 q1 q2 q3 q4 q5 q6
        have HBE := Lib.hid (((((((HBW.out.setCell (p := ⟨w.heap.size, 0, none⟩) hle0 (.int .i64 0)).setCell (p := ⟨w.heap.size, 1, none⟩) hle0 (.int .i64 0)).setCell (p := ⟨w.heap.size, 2, none⟩) hle0 (.int .i64 0)).setCell (p := ⟨w.heap.size, 3, none⟩) hle0 (.string ⟨#[]⟩)).setCell (p := ⟨w.heap.size, 4, none⟩) hle0 (.int .i64 0)).setCell (p := ⟨w.heap.size, 5, none⟩) hle0 (.int .i64 0)).setCell (p := ⟨w.heap.size, 6, none⟩) hle0 (.string ⟨#[]⟩))
        exact bodyPost_ret (v := .tuple #[.agg #[.int .i64 0, .int .i64 0, .int .i64 0, .string ⟨#[]⟩, .int .i64 0, .int .i64 0, .string ⟨#[]⟩], .bool false]) (by simp [results, Try.results38, go_sem, q0, q1, q2, q3, q4, q5, q6]) rfl ⟨by rw [← HE.out]; rfl, HBE.out⟩
      | some x =>
        have x0 := ZB.out.cell 0
        have c0 := ZR.out.cell 0
        have f0 := ZR.out.frozen 0
        have x1 := ZB.out.cell 1
        have c1 := ZR.out.cell 1
        have f1 := ZR.out.frozen 1
        have x2 := ZB.out.cell 2
        have c2 := ZR.out.cell 2
        have f2 := ZR.out.frozen 2
        have x3 := ZB.out.cell 3
        have c3 := ZR.out.cell 3
        have f3 := ZR.out.frozen 3
        have x4 := ZB.out.cell 4
        have c4 := ZR.out.cell 4
        have f4 := ZR.out.frozen 4
        have x5 := ZB.out.cell 5
        have c5 := ZR.out.cell 5
        have f5 := ZR.out.frozen 5
        have x6 := ZB.out.cell 6
        have c6 := ZR.out.cell 6
        have f6 := ZR.out.frozen 6
        simp only [bestA, List.getElem?_toArray, List.getElem?_cons_zero, List.getElem?_cons_succ] at x0 x1 x2 x3 x4 x5 x6 c0 c1 c2 c3 c4 c5 c6
        have hle0 : w.heap.size ≤ w.heap.size := Nat.le_refl _
        go_wp2_with fail
        have P0 := (ZR.out).set_ 0 (.int .i64 x.frm)
        have P1 := (P0).set_ 1 (.int .i64 x.to_)
        have P2 := (P1).set_ 2 (.int .i64 x.name.kind)
        have P3 := (P2).set_ 3 (.string (bs x.name.owner))
        have P4 := (P3).set_ 4 (.int .i64 x.name.num)
        have P5 := (P4).set_ 5 (.int .i64 x.name.idx)
        have P6 := (P5).set_ 6 (.string (bs x.name.text))
        have q0 := P6.cell 0
        have q1 := P6.cell 1
        have q2 := P6.cell 2
        have q3 := P6.cell 3
        have q4 := P6.cell 4
        have q5 := P6.cell 5
        have q6 := P6.cell 6
        simp only [List.setIfInBounds_toArray, List.set_cons_zero, List.set_cons_succ, List.getElem?_toArray, List.getElem?_cons_zero, List.getElem?_cons_succ] at q0 q1 q2 q3 q4 q5 q6
        have HBE := Lib.hid (((((((HBW.out.setCell (p := ⟨w.heap.size, 0, none⟩) hle0 (.int .i64 x.frm)).setCell (p := ⟨w.heap.size, 1, none⟩) hle0 (.int .i64 x.to_)).setCell (p := ⟨w.heap.size, 2, none⟩) hle0 (.int .i64 x.name.kind)).setCell (p := ⟨w.heap.size, 3, none⟩) hle0 (.string (bs x.name.owner))).setCell (p := ⟨w.heap.size, 4, none⟩) hle0 (.int .i64 x.name.num)).setCell (p := ⟨w.heap.size, 5, none⟩) hle0 (.int .i64 x.name.idx)).setCell (p := ⟨w.heap.size, 6, none⟩) hle0 (.string (bs x.name.text)))
        exact bodyPost_ret (v := .tuple #[.agg #[.int .i64 x.frm, .int .i64 x.to_, .int .i64 x.name.kind, .string (bs x.name.owner), .int .i64 x.name.num, .int .i64 x.name.idx, .string (bs x.name.text)], .bool true]) (by simp [results, Try.results38, go_sem, q0, q1, q2, q3, q4, q5, q6]) rfl ⟨by rw [← HE.out]; rfl, HBE.out⟩
end Go.Proofs.Ytmjkcanjfjfkfaa
namespace Go.Proofs.Ytmjkcanjfjfkfaa
open Go.RowKit
set_option linter.unusedSimpArgs false
set_option linter.unusedVariables false
attribute [local go_sem ↓] Go.wp_at_zero Go.wp_at_succ
open Go.MapKept Go.ChangeMaps
theorem wpList_push (w : World) {ops : Array Oper} {rest : List Oper} {o : Oper} {a : Go.Act} {Q : Exit → Go.Act → World → Prop} (hg : o.guard = none) (s x : Operand) (hop : o.op = Op.call { callee := Callee.builtin Builtin.append, args := #[s, x], argTypes := #[36, 36] })
    {B : Nat} {v : Value} {q : List Int} (hs : a.eval s = v) (h : QOwn w B v q) (n : Int) (hx : a.eval x = .slice (some ⟨w.heap.size, 0, none⟩) 1 1) (hB : B ≤ w.heap.size) (hl : q.length ≤ 1000000)
    (hK : ∀ v' w', QOwn w' B v' (q ++ [n]) → (∀ b, b < w.heap.size → (∀ cs, w.heap[b]? ≠ some (.cells cs 3 (0, 0))) → w'.heap[b]? = w.heap[b]?) → Below B w w' → w.heap.size ≤ w'.heap.size → wpList Try.prog ops Q rest (a.put o.dst v') w') :
    wpList Try.prog ops Q (o :: rest) a (w.alloc (.cells #[.int .i64 n] 3)) := by
  refine wpList_plain hg fun K' hK' => ?_
  obtain ⟨v', w', hrun, h1, h2, h3, h4⟩ := h.push n hB hl o.type
  unfold Oper.wp
  simp [execOp, hop, resolve, invoke, builtin, hs, hx, hrun, Result.andThen]
  exact hK' _ _ (hK v' w' h1 h2 h3 h4)
theorem rd_new2 (w : World) (x y : Int) : RdIn (w.alloc (.cells #[.int .i64 x, .int .i64 y] 3)) (.slice (some ⟨w.heap.size, 0, none⟩) 2 2) [x, y] :=
  ⟨_, 2, rfl, Nat.le_refl _, by unfold maxLen; omega, .inr ⟨_, 0, _, _, rfl, heap_alloc_new w _, fun j u hj => by rw [Nat.zero_add, ← Array.getElem?_toList]; exact hj⟩⟩
theorem DMap.noInt {w : World} {b : Nat} {D : DM} (h : DMap w b D) : ∀ cs, w.heap[b]? ≠ some (.cells cs 3 (0, 0)) := by
  obtain ⟨es, c, hb, _⟩ := h
  intro cs e
  rw [hb] at e
  injection e with e
  cases e
theorem DMap.lt {w : World} {b : Nat} {D : DM} (h : DMap w b D) : b < w.heap.size := MapAtI.lt h
theorem DMap.noRow {w : World} {b : Nat} {D : DM} (h : DMap w b D) {base s n : Nat} {e : TypeId} {v : Value} {xs : List Value} (ho : w.ownsRow base e s v n xs) : v.ownBlock ≠ some b := fun hv => by
  obtain ⟨cur, hc⟩ := own_cells_of ho hv
  obtain ⟨es, c, hb, _⟩ := h
  rw [hb] at hc
  injection hc with hc
  cases hc
def chRel (l : List Ac) (frm : Int) (R : DM) (mb : Nat) (w : World) (gk : Nat) (v : Value) (wr : World) : Prop := ∃ (D : DM) (Q : List Int), DMap wr mb D ∧ QOwn wr w.heap.size v Q ∧ BOk l.length D ∧ (∀ q ∈ Q, 0 ≤ q ∧ q < (l.length : Int)) ∧ l.length - D.length + Q.length = gk ∧ gk ≤ 100 ∧ bfs (UT l.length (lnkD l).flatten) gk D Q = R ∧ (lookM frm D).isSome = true ∧ Below w.heap.size w wr
def ciRel (l : List Ac) (frm : Int) (k : Nat) (row : List Lk) (S : DM × List Int) (G : Nat) (mb : Nat) (w : World) (v i : Value) (wr : World) : Prop := ∃ (m : Nat) (D : DM) (Q : List Int), m ≤ row.length ∧ i = .int .i64 m ∧ DMap wr mb D ∧ QOwn wr w.heap.size v ((k : Int) :: Q) ∧ BOk l.length D ∧ (∀ q ∈ Q, 0 ≤ q ∧ q < (l.length : Int)) ∧ l.length - D.length + Q.length = G ∧ bfsIn k (row.drop m) (D, (k : Int) :: Q) = S ∧ (lookM frm D).isSome = true ∧ Below w.heap.size w wr
def baRel (l : List Ac) (D : DM) (frm : Int) (R : Option (List Lk)) (mb : Nat) (w : World) (gk : Nat) (v i : Value) (wr : World) : Prop := ∃ (n : Int) (ls : List Lk), i = .int .i64 n ∧ wr.ownsRow w.heap.size 43 7 v ls.length (ls.flatMap lkC) ∧ DMap wr mb D ∧ gk = ((lookM n D).getD 0).toNat + 1 ∧ (lookM n D).isSome = true ∧ ls.length + gk ≤ 101 ∧ backS (lnkD l) D frm gk n ls = R ∧ Below w.heap.size w wr
set_option maxRecDepth 100000 in
set_option maxHeartbeats 8000000 in
theorem chain_is {w : World} {B g : Nat} {l : List Ac} (frm to_ : Int) (hg : GAt w B g l) (hl : l.length ≤ 100) (hr : ∀ a ∈ l, a.reads.length ≤ 10) : Calls Try.prog 11 #[.pointer (some ⟨g, 0, none⟩), .int .i64 frm, .int .i64 to_] w fun e w' => ∃ v, e = .returned (.tuple #[v, .bool (chainS l frm to_).isSome]) ∧ RdLk w' v ((chainS l frm to_).getD []) ∧ Below w.heap.size w w' := by
  have ha := (Below.refl w.heap.size w).alloc (Nat.le_refl _) (.cells #[.int .i64 frm, .int .i64 to_] 3)
  have HA := Lib.hid ha
  have HG := Lib.hid hg
  have HC := Lib.hid (gcheck_is (hg.next ha) (show RdIn _ (.slice (some ⟨w.heap.size, 0, none⟩) 2 2) [frm, to_] from rd_new2 w frm to_) (by omega) (by simp))
  have hmm := @run_makeMap Try.prog
  clear hg ha
  by_cases hin : 0 ≤ frm ∧ frm < (l.length : Int) ∧ 0 ≤ to_ ∧ to_ < (l.length : Int)
  · have HE := Lib.hid (show chk2 l.length [frm, to_] = 0 by unfold chk2; rw [if_pos]; simp [inR]; omega)
    have HI := Lib.hid hin
    have HCS := Lib.hid (show chainS l frm to_ = (if (lookM to_ (bfsD l frm)).isSome = true then (backS (lnkD l) (bfsD l frm) frm (((lookM to_ (bfsD l frm)).getD 0).toNat + 1) to_ []).map List.reverse else none) by unfold chainS; rw [if_pos hin])
    clear hin
    go_enter Try.func11, Try.ntmps11
    go_wp2_with fail
    go_at_call 37
    refine HC.out.mono ?_
    rintro e w1 ⟨rfl, hb1⟩
    rw [HE.out]
    have HB1 := Lib.hid (HA.out.trans (hb1.mono HA.out.size))
    clear hb1 HC HA
    obtain ⟨w2, hup, hm2, hg2⟩ := map_putI (MapAtI.new w1) frm (.int .i64 0) Try.underlying91
    have HM2 := Lib.hid (show DMap w2 w1.heap.size [(frm, 0)] from put_map [] frm 0 hm2)
    have hb2 := ((Below.refl w1.heap.size w1).alloc (Nat.le_refl _) (.map #[] 0)).grown hg2 (by simp) (fun k hk => by injection hk with hk; omega)
    have HB2 := Lib.hid (HB1.out.trans (hb2.mono HB1.out.size))
    clear hm2 hg2 hb2
    go_upto_region 5 with (fail)
    clear hup
    obtain ⟨mb, hmb⟩ : ∃ mb, w1.heap.size = mb := ⟨_, rfl⟩
    rw [hmb] at HM2 ⊢
    have hmw : w.heap.size ≤ mb := by rw [← hmb]; exact HB1.out.size
    clear hmb
    have hba := (Below.refl w2.heap.size w2).alloc (Nat.le_refl _) (.cells #[.int .i64 frm] 3)
    obtain ⟨R, hR⟩ : ∃ R, bfsD l frm = R := ⟨_, rfl⟩
    have hN1 : 1 ≤ l.length := by have := HI.out; omega
    have H0 : Hid (chRel l frm R mb w l.length (.slice (some ⟨w2.heap.size, 0, none⟩) 1 1) (w2.alloc (.cells #[.int .i64 frm] 3))) := Lib.hid ⟨[(frm, 0)], [frm], HM2.out.next hba, ⟨w2.heap.size, 0, 1, _, rfl, HB2.out.size, Blk.new w2 3 _, Nat.le_refl _, by simp, by unfold maxLen; omega, fun j hj => by
        simp only [List.length_singleton] at hj
        obtain rfl : j = 0 := by omega
        simp⟩, ⟨by simp, fun p hp => by
          simp only [List.mem_singleton] at hp; subst hp; have := HI.out; simp; omega, by simp⟩, fun q hq => by simp only [List.mem_singleton] at hq; subst hq; have := HI.out; omega, by simp; omega, hl, hR, by simp [lookM], HB2.out.trans (hba.mono HB2.out.size)⟩
    have HRR := Lib.hid hR
    clear hba hR HB1 HB2 HM2
    generalize w2.alloc (.cells #[.int .i64 frm] 3) = W at *
    go_loopg [9] l.length (fun gk v wr => chRel l frm R mb w gk v wr)
    case atStart => exact H0.out
    case round =>
      clear H0
      obtain ⟨D, Q, hd, hq, hbo, hqr, hgk, hg100, hbf, hfr, hbw⟩ := hrel
      have HD := Lib.hid hd
      have HBO := Lib.hid hbo
      have HFR := Lib.hid hfr
      have HBW := Lib.hid hbw
      cases Q with
      | nil =>
        obtain ⟨A, c, rfl, hc⟩ := hq.form
        have HRD := Lib.hid (show D = R by rw [← hbf]; exact (bfs_nil _ _ _).symm)
        clear hd hq hbo hqr hgk hg100 hbf hfr hbw hc
        have HCD := Lib.hid (show chainS l frm to_ = (if (lookM to_ D).isSome = true then (backS (lnkD l) D frm (((lookM to_ D).getD 0).toNat + 1) to_ []).map List.reverse else none) by rw [HCS.out, HRR.out, ← HRD.out])
        clear HCS HRR HRD
        obtain ⟨dt, hdt⟩ : ∃ z, (lookM to_ D).getD 0 = z := ⟨_, rfl⟩
        obtain ⟨qt, hqt⟩ : ∃ z, (lookM to_ D).isSome = z := ⟨_, rfl⟩
        have hok := HD.out.ok to_ hdt hqt
        have HQT := Lib.hid hqt
        have HDT := Lib.hid hdt
        have hdb := HBO.out.dist to_
        have hDl := HBO.out.le
        rw [hdt] at hdb
        cases qt with
        | false =>
          have HCN := Lib.hid (show chainS l frm to_ = none by rw [HCD.out, if_neg (by rw [HQT.out]; simp)])
          clear hdt hqt hdb hDl
          go_wp2_with fail
          go_ret2
          exact ⟨_, by rw [HCN.out]; rfl, by rw [HCN.out]; exact RdP.nil, HBW.out⟩
        | true =>
          obtain ⟨R2, hR2⟩ : ∃ R2, backS (lnkD l) D frm (dt.toNat + 1) to_ [] = R2 := ⟨_, rfl⟩
          have HCN := Lib.hid (show chainS l frm to_ = R2.map List.reverse by rw [HCD.out, if_pos HQT.out, HDT.out, hR2])
          have H0 : Hid (baRel l D frm R2 mb w (dt.toNat + 1) (.slice none 0 0) (.int .i64 to_) wr) := Lib.hid ⟨to_, [], rfl, World.ownsRow_nil _ _ _ _, HD.out, by rw [HDT.out], HQT.out, by simp; omega, hR2, HBW.out⟩
          clear hdt hqt hdb hDl hR2 HCD
          go_wp2_with fail
          clear hok
          go_loopg [17, 18] (dt.toNat + 1) (fun gk v iv wr => baRel l D frm R2 mb w gk v iv wr)
          case atStart => exact H0.out
          case round =>
            clear H0 HD HBW
            obtain ⟨n, ls, rfl, hown, hd3, hgk, hsome, hlen, hbk, hbw3⟩ := hrel
            obtain ⟨A5, c5, rfl, hc5⟩ := own_len hown
            have HOW := Lib.hid hown
            have HD3 := Lib.hid hd3
            have HBW3 := Lib.hid hbw3
            have HSM := Lib.hid hsome
            have hgk1 : gk = gk - 1 + 1 := by omega
            have HBK := Lib.hid (show backS (lnkD l) D frm (gk - 1 + 1) n ls = R2 by rw [← hgk1]; exact hbk)
            have HGK := Lib.hid hgk
            clear hown hd3 hgk hsome hbk hbw3 hgk1
            by_cases hnf : n = frm
            · have j7 : (n != frm) = false := by rw [hnf]; simp
              have HRS := Lib.hid (show R2 = some ls by rw [← HBK.out]; simp only [backS]; rw [if_pos hnf])
              clear hnf
              go_wp2_with fail
              go_at_call 39
              refine (revlk_is HOW.out (by omega) HBW3.out.size).mono ?_
              rintro e w5 ⟨rfl, hrd, hb5⟩
              have HRD5 := Lib.hid hrd
              have HB5 := Lib.hid (HBW3.out.trans hb5)
              clear hrd hb5
              go_wp2_with fail
              go_ret2
              exact ⟨_, by rw [HCN.out, HRS.out]; rfl, by rw [HCN.out, HRS.out]; exact HRD5.out, HB5.out⟩
            · have j7 : (n != frm) = true := by rw [bne_iff_ne]; exact hnf
              obtain ⟨hn0, hn1⟩ := HBO.out.node HSM.out
              obtain ⟨kn, rfl⟩ : ∃ kn : Nat, n = kn := ⟨n.toNat, by omega⟩
              have hkn : kn < l.length := by omega
              obtain ⟨R3, hR3⟩ : ∃ R3, stepS (lnkD l) D kn = R3 := ⟨_, rfl⟩
              have HR3 := Lib.hid hR3
              have HNF := Lib.hid hnf
              have HGS := Lib.hid (gstep_is (HG.out.next HBW3.out) HD3.out hkn hl hr HBO.out)
              rw [hR3] at HGS
              clear hnf hR3 hn0 hn1
              cases R3 with
              | none =>
                have HRS := Lib.hid (show R2 = none by
                  have := HBK.out
                  simp only [backS] at this
                  rw [if_neg HNF.out, HR3.out] at this
                  exact this.symm)
                go_wp2_with fail
                go_at_call 38
                refine HGS.out.mono ?_
                rintro e w5 ⟨rfl, hb5⟩
                simp only [linkV, Option.isSome]
                have HB5 := Lib.hid (HBW3.out.trans (hb5.mono HBW3.out.size))
                clear hb5
                go_wp2_with fail
                go_ret2
                exact ⟨_, by rw [HCN.out, HRS.out]; rfl, by rw [HCN.out, HRS.out]; exact RdP.nil, HB5.out.trans ((Below.refl w5.heap.size w5).alloc (Nat.le_refl _) _ |>.mono HB5.out.size)⟩
              | some x =>
                have HBK2 := Lib.hid (show backS (lnkD l) D frm (gk - 1) x.frm (ls ++ [x]) = R2 by
                  have := HBK.out
                  simp only [backS] at this
                  rw [if_neg HNF.out, HR3.out] at this
                  exact this)
                have HSO := Lib.hid (stepS_of HR3.out)
                clear HBK
                go_wp2_with fail
                go_at_call 38
                refine HGS.out.mono ?_
                rintro e w5 ⟨rfl, hb5⟩
                simp only [linkV, lkV, Option.isSome]
                have hba := (Below.refl w5.heap.size w5).alloc (Nat.le_refl _) (.cells #[.int .i64 x.frm, .int .i64 x.to_, .int .i64 x.name.kind, .string (bs x.name.owner), .int .i64 x.name.num, .int .i64 x.name.idx, .string (bs x.name.text)] 43)
                have hb6 := hb5.trans (hba.mono hb5.size)
                have HOW6 := Lib.hid (own_next HOW.out hb6)
                have HD6 := Lib.hid (HD3.out.next hb6)
                have HB6 := Lib.hid (HBW3.out.trans (hb6.mono HBW3.out.size))
                have ZX := Lib.hid (Blk.new w5 43 #[.int .i64 x.frm, .int .i64 x.to_, .int .i64 x.name.kind, .string (bs x.name.owner), .int .i64 x.name.num, .int .i64 x.name.idx, .string (bs x.name.text)])
                have HNE := Lib.hid (show (Value.slice A5 ls.length c5).ownBlock ≠ some w5.heap.size from fun e => by
                  obtain ⟨cur, hc⟩ := own_cells_of HOW.out e
                  have h1 := (Array.getElem?_eq_some_iff.1 hc).1
                  have h2 := hb5.size
                  omega)
                clear hb5 hba hb6
                go_upto_region 25 with (fail)
                generalize w5.alloc (.cells #[.int .i64 x.frm, .int .i64 x.to_, .int .i64 x.name.kind, .string (bs x.name.owner), .int .i64 x.name.num, .int .i64 x.name.idx, .string (bs x.name.text)] 43) = W6 at *
                obtain ⟨cb, hcb⟩ : ∃ cb, w5.heap.size = cb := ⟨_, rfl⟩
                rw [hcb] at ZX HNE ⊢
                clear hcb
                have x0 := ZX.out.cell 0
                have x1 := ZX.out.cell 1
                have x2 := ZX.out.cell 2
                have x3 := ZX.out.cell 3
                have x4 := ZX.out.cell 4
                have x5 := ZX.out.cell 5
                have x6 := ZX.out.cell 6
                simp only [List.getElem?_toArray, List.getElem?_cons_zero, List.getElem?_cons_succ] at x0 x1 x2 x3 x4 x5 x6
                have hbk := (Below.refl W6.heap.size W6).alloc (Nat.le_refl _) (.cells #[.int .i64 x.frm, .int .i64 x.to_, .int .i64 x.name.kind, .string (bs x.name.owner), .int .i64 x.name.num, .int .i64 x.name.idx, .string (bs x.name.text)] 43)
                have HOW7 := Lib.hid (own_next HOW6.out hbk)
                have HD7 := Lib.hid (HD6.out.next hbk)
                have ZX7 := Lib.hid (ZX.out.next hbk ZX.out.lt)
                have HB7 := Lib.hid (HB6.out.trans (hbk.mono HB6.out.size))
                obtain ⟨i0, hi, hz0, hz1, hz2⟩ := info_parts infoLk
                clear hbk
                go_wp2_with (at_builtin; refine wpList_append_own _ rfl _ _ 32 rfl w.heap.size 43 i0 _ 7 72 Try.underlying32 hi hz0 hz1 hz2 rfl (by decide) _ _ _ rfl HOW7.out ⟨W6.heap.size, 0, none⟩ 1 1 [.int .i64 x.frm, .int .i64 x.to_, .int .i64 x.name.kind, .string (bs x.name.owner), .int .i64 x.name.num, .int .i64 x.name.idx, .string (bs x.name.text)] rfl rfl ?c1 ?c2 ?c3 ?c4 ?c5 ?_)
                case c1 => exact fun j u h => newN W6 #[.int .i64 x.frm, .int .i64 x.to_, .int .i64 x.name.kind, .string (bs x.name.owner), .int .i64 x.name.num, .int .i64 x.name.idx, .string (bs x.name.text)] 43 j u h
                case c2 => intro u hu; simp only [List.mem_cons, List.not_mem_nil, or_false] at hu; rcases hu with rfl | rfl | rfl | rfl | rfl | rfl | rfl <;> rfl
                case c3 => unfold maxLen; omega
                case c4 => omega
                case c5 => exact HB7.out.size
                intro v8 w8 hown8 hg8 _
                have HOW8 := Lib.hid (show w8.ownsRow w.heap.size 43 7 v8 (ls ++ [x]).length ((ls ++ [x]).flatMap lkC) by
                  rw [List.length_append, List.flatMap_append]
                  simpa [lkC] using hown8)
                have HD8 := Lib.hid (HD7.out.same (hg8.block mb HD7.out.lt (fun e => HD7.out.noRow HOW7.out e.symm)))
                have HB8 := Lib.hid (HB7.out.grown hg8 HB7.out.size (fun k hk => own_ge HOW7.out hk))
                have ZX8 := Lib.hid (ZX7.out.grown hg8 (fun e => HNE.out e.symm))
                have HF := Lib.hid (show gk - 1 = ((lookM x.frm D).getD 0).toNat + 1 ∧ 0 < gk ∧ (ls ++ [x]).length + (gk - 1) ≤ 101 by
                  have h1 := HGK.out
                  have h2 := HSO.out.2
                  have h3 := (HBO.out.dist x.frm).1
                  have h4 := (HBO.out.dist (kn : Int)).1
                  rw [List.length_append, List.length_singleton]
                  omega)
                clear hown8 hg8 x0 x1 x2 x3 x4 x5 x6 i0 hi hz0 hz1 hz2
                have x0 := ZX8.out.cell 0
                simp only [List.getElem?_toArray, List.getElem?_cons_zero, List.getElem?_cons_succ] at x0
                go_wp2_with fail
                go_roundg (gk - 1)
                case rel => exact ⟨x.frm, ls ++ [x], rfl, HOW8.out, HD8.out, HF.out.1, HSO.out.1, HF.out.2.2, HBK2.out, HB8.out⟩
                case measure => have := HF.out.2.1; omega
      | cons i Q1 =>
        obtain ⟨g0, o0, c, rfl, hc, x0⟩ := hq.at0
        obtain ⟨hi0, hi1⟩ := hqr i (by simp)
        obtain ⟨k, rfl⟩ : ∃ k : Nat, i = k := ⟨i.toNat, by omega⟩
        have hk : k < l.length := by omega
        have j0 : (0 : Int) ≤ (k : Int) := by omega
        have j1 : (k : Int) < (l.length : Int) := by omega
        obtain ⟨row, hrow⟩ : ∃ row, (UT l.length (lnkD l).flatten)[k]'(by rw [UT_len]; exact hk) = row := ⟨_, rfl⟩
        obtain ⟨bl, c3, A3, c4, u0, u1, u2, u3⟩ := HG.out.urow hk
        rw [hrow] at u2 u3
        replace u1 := (HBW.out.cell (p := ⟨g, 2, none⟩) HG.out.lt).trans u1
        replace u2 := (HBW.out.cell (p := ⟨bl, k, none⟩) u0).trans u2
        have hrl : row.length ≤ 1000 := by rw [← hrow]; exact Nat.le_trans (UT_row_len hr _) (by omega)
        have HTO := Lib.hid (show ∀ x ∈ row, 0 ≤ x.to_ ∧ x.to_ < (l.length : Int) by rw [← hrow]; exact UT_row_to _)
        have HX := Lib.hid u3
        obtain ⟨S, hS⟩ : ∃ S, bfsIn k row (D, (k : Int) :: Q1) = S := ⟨_, rfl⟩
        have hgk1 : gk = gk - 1 + 1 := by simp only [List.length_cons] at hgk; omega
        have HBF := Lib.hid (show bfs (UT l.length (lnkD l).flatten) (gk - 1) S.1 S.2.tail = R by
          rw [← hS, ← hrow, ← hbf, hgk1]
          simp only [bfs, Int.toNat_natCast, Nat.add_sub_cancel]
          rw [List.getD_eq_getElem?_getD, List.getElem?_eq_getElem (by rw [UT_len]; exact hk)]
          rfl)
        obtain ⟨G, hG⟩ : ∃ G, l.length - D.length + Q1.length = G := ⟨_, rfl⟩
        have HGG := Lib.hid (show G = gk - 1 by simp only [List.length_cons] at hgk; omega)
        have HQR := Lib.hid (show ∀ q ∈ Q1, 0 ≤ q ∧ q < (l.length : Int) from fun q hq => hqr q (by simp [hq]))
        have HGP := Lib.hid (show 0 < gk ∧ gk ≤ 100 from ⟨by omega, hg100⟩)
        obtain ⟨n, hn⟩ : ∃ n, Q1.length + 1 = n := ⟨_, rfl⟩
        have e1 : (0 : Int) < (n : Int) := by omega
        have e2 : decide ((0 : Int) < (n : Int)) = true := decide_eq_true e1
        have e2b : decide (0 < n) = true := decide_eq_true (by omega)
        rw [hn] at hq ⊢
        have H1 : Hid (ciRel l frm k row S G mb w (.slice (some ⟨g0, o0, none⟩) n c) (.int .i64 (0 : Nat)) wr) := Lib.hid ⟨0, D, Q1, Nat.zero_le _, rfl, hd, hq, hbo, HQR.out, hG, hS, hfr, hbw⟩
        clear hd hq hbo hqr hbf hfr hbw hrow u3 hS hG hgk hgk1 hn hg100
        go_wp2_with fail
        clear x0 u0 u1 u2
        go_loopw [9, 48] (fun v iv wr => ciRel l frm k row S G mb w v iv wr) (fun _ iv _ => row.length - (intOf iv).toNat)
        case atStart => exact H1.out
        case round =>
          clear H1 HBO HD HBW HFR HQR
          obtain ⟨m, D2, Q2, hml, rfl, hd2, hq2, hbo2, hqr2, hG2, hbi2, hfr2, hbw2⟩ := hrel
          obtain ⟨A2, c2, rfl, hc2⟩ := hq2.form
          have HD2 := Lib.hid hd2
          have HQ2 := Lib.hid hq2
          have HBO2 := Lib.hid hbo2
          have HQR2 := Lib.hid hqr2
          have HG2 := Lib.hid hG2
          have HBI2 := Lib.hid hbi2
          have HFR2 := Lib.hid hfr2
          have HBW2 := Lib.hid hbw2
          clear hd2 hq2 hbo2 hqr2 hG2 hbi2 hfr2 hbw2
          by_cases hm : m < row.length
          ·
            have j4 : (0 : Int) ≤ (m : Int) := by omega
            have j5 : (m : Int) < (row.length : Int) := by omega
            have j6 : decide ((m : Int) < (row.length : Int)) = true := decide_eq_true j5
            obtain ⟨xb, xo, hbe, hxb, y0, y1, y2, y3, y4, y5, y6⟩ := RdLk.piece (RdP.next HX.out HBW2.out) hm
            subst hbe
            obtain ⟨x, hx⟩ : ∃ x, row[m] = x := ⟨_, rfl⟩
            rw [hx] at y0 y1 y2 y3 y4 y5 y6
            have HDR := Lib.hid (show row.drop m = x :: row.drop (m + 1) by rw [← hx]; exact List.drop_eq_getElem_cons hm)
            have HT := Lib.hid (show 0 ≤ x.to_ ∧ x.to_ < (l.length : Int) from HTO.out x (by rw [← hx]; exact List.getElem_mem hm))
            clear hx
            go_upto_region 11 with (fail)
            have hba := (Below.refl wr.heap.size wr).alloc (Nat.le_refl _) (.cells #[.int .i64 x.frm, .int .i64 x.to_, .int .i64 x.name.kind, .string (bs x.name.owner), .int .i64 x.name.num, .int .i64 x.name.idx, .string (bs x.name.text)] 43)
            have HBA := Lib.hid (HBW2.out.trans (hba.mono HBW2.out.size))
            have ZX := Lib.hid (Blk.new wr 43 #[.int .i64 x.frm, .int .i64 x.to_, .int .i64 x.name.kind, .string (bs x.name.owner), .int .i64 x.name.num, .int .i64 x.name.idx, .string (bs x.name.text)])
            have HD3 := Lib.hid (HD2.out.next hba)
            have HQ3 := Lib.hid (HQ2.out.next hba)
            clear y0 y1 y2 y3 y4 y5 y6 hba hxb HQ2 HD2 HBW2
            generalize wr.alloc (.cells #[.int .i64 x.frm, .int .i64 x.to_, .int .i64 x.name.kind, .string (bs x.name.owner), .int .i64 x.name.num, .int .i64 x.name.idx, .string (bs x.name.text)] 43) = W1 at *
            obtain ⟨cb, hcb⟩ : ∃ cb, wr.heap.size = cb := ⟨_, rfl⟩
            rw [hcb] at ZX ⊢
            clear hcb
            have x1 := ZX.out.cell 1
            simp only [List.getElem?_toArray, List.getElem?_cons_zero, List.getElem?_cons_succ] at x1
            obtain ⟨d1, hd1⟩ : ∃ z, (lookM x.to_ D2).getD 0 = z := ⟨_, rfl⟩
            obtain ⟨q1, hq1⟩ : ∃ z, (lookM x.to_ D2).isSome = z := ⟨_, rfl⟩
            obtain ⟨dk, hdk⟩ : ∃ z, (lookM (k : Int) D2).getD 0 = z := ⟨_, rfl⟩
            have hok := HD3.out.ok x.to_ hd1 hq1
            have hlk := HD3.out.look (k : Int) hdk
            have hdb := HBO2.out.dist (k : Int)
            have hDl := HBO2.out.le
            rw [hdk] at hdb
            have e3 : IntKind.i64.wrap (dk + 1) = dk + 1 := IntWalk.i64_in _ (by omega)
            have HQ1 := Lib.hid hq1
            cases q1 with
            | true =>
              have HN := Lib.hid (show bfsIn k (row.drop (m + 1)) (D2, (k : Int) :: Q2) = S by
                have := HBI2.out
                rw [HDR.out] at this
                simp only [bfsIn] at this
                rw [if_pos HQ1.out] at this
                exact this)
              clear hdb hDl hd1 hq1 hdk
              go_wp2_with fail
              go_roundw
              case rel => exact ⟨m + 1, D2, Q2, by omega, by go_num, HD3.out, HQ3.out, HBO2.out, HQR2.out, HG2.out, HN.out, HFR2.out, HBA.out⟩
              case measure => simp [intOf]; omega
            | false =>
              have HN := Lib.hid (show bfsIn k (row.drop (m + 1)) (D2 ++ [(x.to_, dk + 1)], (k : Int) :: (Q2 ++ [x.to_])) = S by
                have := HBI2.out
                rw [HDR.out] at this
                simp only [bfsIn] at this
                rw [if_neg (by rw [HQ1.out]; simp), hdk] at this
                exact this)
              have HBO3 := Lib.hid (HBO2.out.add HQ1.out HT.out.1 HT.out.2 (d := dk + 1) (by omega) (by omega))
              obtain ⟨w3, hup, hm3, hg3⟩ := map_putI HD3.out x.to_ (.int .i64 (dk + 1)) Try.underlying91
              have HD4 := Lib.hid (show DMap w3 mb (D2 ++ [(x.to_, dk + 1)]) by rw [← putM_new _ _ _ HQ1.out]; exact put_map D2 x.to_ (dk + 1) hm3)
              have hcm : cb ≠ mb := fun e => by
                have h1 := ZX.out
                rw [e] at h1
                obtain ⟨es, c, h2, _⟩ := HD3.out
                unfold Blk at h1
                rw [h1] at h2
                injection h2 with h2
                cases h2
              have ZX3 := Lib.hid (ZX.out.grown hg3 (fun e => hcm (by injection e)))
              have HQ4 := Lib.hid (HQ3.out.grown hg3 (fun r cs e => by injection e with e; subst e; exact HD3.out.noInt cs))
              have HB3 := Lib.hid (HBA.out.grown hg3 HBA.out.size (fun r e => by injection e with e; omega))
              clear hm3 hg3 hdb hDl hd1 hq1 hdk hcm
              go_upto_region 14 with (fail)
              clear hup hok hlk x1
              have x1 := ZX3.out.cell 1
              simp only [List.getElem?_toArray, List.getElem?_cons_zero, List.getElem?_cons_succ] at x1
              have hql : Q2.length ≤ 100 := by
                have h1 := HG2.out
                have h2 := HGG.out
                have h3 := HGP.out.2
                omega
              go_wp2_with (at_builtin; refine wpList_push w3 rfl _ _ rfl rfl HQ4.out x.to_ rfl HB3.out.size (by simp only [List.length_cons]; omega) ?_)
              intro v4 w4 hq4 hk4 hb4 hs4
              have HQ5 := Lib.hid hq4
              have HD5 := Lib.hid (HD4.out.same (hk4 mb HD4.out.lt HD4.out.noInt))
              have HB5 := Lib.hid (HB3.out.trans hb4)
              clear hq4 hk4 hb4 hs4
              go_wp2_with fail
              go_roundw
              case rel =>
                exact ⟨m + 1, _, Q2 ++ [x.to_], by omega, by go_num, HD5.out, HQ5.out, HBO3.out, fun q hq => by
                  rcases List.mem_append.1 hq with hq | hq
                  · exact HQR2.out q hq
                  · simp only [List.mem_singleton] at hq; subst hq; exact HT.out, by
                    have := HBO3.out.le
                    have := HG2.out
                    simp only [List.length_append, List.length_singleton] at *
                    omega, HN.out, by rw [lookM_app _ _ _ HFR2.out]; exact HFR2.out, HB5.out⟩
              case measure => simp [intOf]; omega
          ·
            have j6 : decide ((m : Int) < (row.length : Int)) = false := decide_eq_false (by omega)
            have HN := Lib.hid (show (D2, (k : Int) :: Q2) = S by
              have := HBI2.out
              rw [List.drop_eq_nil_of_le (by omega)] at this
              exact this)
            obtain ⟨n2, hn2⟩ : ∃ n2, ((k : Int) :: Q2).length = n2 := ⟨_, rfl⟩
            rw [hn2] at HQ2 hc2 ⊢
            have HN2 := Lib.hid hn2
            have n1 : 1 ≤ n2 := by rw [← hn2]; simp
            have n3 : (1 : Int) ≤ (n2 : Int) := by omega
            have n4 : (1 : Int) ≤ (c2 : Int) := by omega
            have n5 : 1 ≤ c2 := by omega
            have HT2 := Lib.hid HQ2.out.tail
            have HR2 := Lib.hid (show l.length - D2.length + Q2.length = gk - 1 ∧ bfs (UT l.length (lnkD l).flatten) (gk - 1) D2 Q2 = R by
              have h1 := HG2.out
              have h2 := HGG.out
              have h3 := HBF.out
              rw [← HN.out] at h3
              exact ⟨by omega, h3⟩)
            have hgp : 0 < gk := by
              have h1 := HGP.out.1
              omega
            clear hn2
            by_cases hc1 : c2 = 1
            · subst hc1
              have HT3 := Lib.hid (show QOwn wr w.heap.size (.slice A2 0 0) Q2 by have := HT2.out; rw [if_pos rfl, show n2 - 1 = 0 by omega] at this; exact this)
              clear HT2 HQ2
              go_wp2_with fail
              go_roundg (gk - 1)
              case rel => exact ⟨D2, Q2, HD2.out, HT3.out, HBO2.out, HQR2.out, HR2.out.1, by have := HGP.out.2; omega, HR2.out.2, HFR2.out, HBW2.out⟩
              case measure => omega
            · have HT3 := Lib.hid (show QOwn wr w.heap.size (.slice (A2.map (·.add 1)) (n2 - 1) (c2 - 1)) Q2 by have := HT2.out; rw [if_neg hc1] at this; exact this)
              clear HT2 HQ2
              go_wp2_with fail
              go_roundg (gk - 1)
              case rel => exact ⟨D2, Q2, HD2.out, HT3.out, HBO2.out, HQR2.out, HR2.out.1, by have := HGP.out.2; omega, HR2.out.2, HFR2.out, HBW2.out⟩
              case measure => omega
  · have HE := Lib.hid (show chk2 l.length [frm, to_] = 2 by unfold chk2; rw [if_neg]; simp [inR]; omega)
    have HCS := Lib.hid (show chainS l frm to_ = none by unfold chainS; rw [if_neg hin])
    clear hin
    go_enter Try.func11, Try.ntmps11
    go_wp2_with fail
    go_at_call 37
    refine HC.out.mono ?_
    rintro e w1 ⟨rfl, hb1⟩
    rw [HE.out]
    have HB1 := Lib.hid (HA.out.trans (hb1.mono HA.out.size))
    clear hb1 HC HA
    go_wp2_with fail
    go_ret2
    exact ⟨_, by rw [HCS.out]; rfl, by rw [HCS.out]; exact RdP.nil, HB1.out⟩
end Go.Proofs.Ytmjkcanjfjfkfaa
