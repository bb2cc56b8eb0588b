/- Walks and plain facts, packed: W112, GU, M17, W85, W90, W91, W95, Q7. -/
import Derived.Test.YtamjllakfgphnaaGreatDoorRows
import Derived.ProofKit
import Derived.LaidMore
import Derived.OpenShut
import Derived.Stop.Joined
import Derived.WideShapes
import Derived.Test.YtamjllakfgphnaaGreatDoorZS7
namespace Go.Proofs.YtamjllakfgphnaaGreatDoor
open Go.RowKit
set_option linter.unusedSimpArgs false
set_option linter.unusedVariables false
attribute [local go_sem ↓] Go.wp_at_zero Go.wp_at_succ
open Go.MapKept Go.ChangeMaps
theorem infoBo : (Tryz.prog.info? 4).map (fun i => (i.zero, i.size, i.bytes)) = some (some (.bool false), 1, 1) := by kernel_rfl
theorem make_bools (w : World) (n : Nat) (hn : n ≤ 100) : (Instr.makeSlice 129 (.int .i64 n) (.int .i64 n)).run Tryz.prog w = .ok (.slice (some ⟨w.heap.size, 0, none⟩) n n) (w.alloc (.cells (madeCells #[.bool false] n) 4)) := by
  obtain ⟨i0, hi, hz0, hz1, hz2⟩ := info_parts infoBo
  have h := run_make (P := Tryz.prog) w 129 4 i0 _ Tryz.underlying129 hi hz0 .i64 .i64 n n (by omega) (Int.le_refl _) (by rw [hz2]; omega) (by omega)
  rw [hz1] at h
  simp only [Int.toNat_natCast, Nat.mul_one] at h
  exact h
theorem own_made_bo (w : World) (n : Nat) (hn : n ≤ 100) : (w.alloc (.cells (madeCells #[.bool false] n) 4)).ownsRow w.heap.size 4 1 (.slice (some ⟨w.heap.size, 0, none⟩) n n) n ((List.replicate n false).map Value.bool) := by
  refine ⟨by simp, .inr ⟨w.heap.size, n, _, rfl, Nat.le_refl _, heap_alloc_new w _, Nat.le_refl _, by unfold maxLen; omega, by rw [size_madeCells]; omega, ?_⟩⟩
  rw [toList_madeCells_one, Nat.mul_one, List.take_replicate, Nat.min_self, List.map_replicate]
def msRel (l : List Ac) (ks : List Ky) (o : Int) (ib : Nat) (W : World) (gk : Nat) (v8 : Value) (wr : World) : Prop := ∃ (I : List Bool) (m : Bool), v8 = .bool m ∧ I.length = l.length ∧ inI I o ∧ (∀ j, inI I j → Rch (stp (lnkD l) ks) o j) ∧ (m = false → PasR (stp (lnkD l) ks) o I I ks.length false) ∧ l.length - cntT I + (if m = true then 1 else 0) = gk ∧
  wr.ownsRow ib 4 1 (.slice (some ⟨ib, 0, none⟩) l.length l.length) I.length (I.map Value.bool) ∧ Below ib W wr
def msIn (l : List Ac) (ks : List Ky) (o : Int) (ib : Nat) (I0 : List Bool) (W : World) (v8 v9 : Value) (wr : World) : Prop := ∃ (i : Nat) (I : List Bool) (m : Bool), i ≤ ks.length ∧ v9 = .int .i64 i ∧ v8 = .bool m ∧ PasR (stp (lnkD l) ks) o I0 I i m ∧
  wr.ownsRow ib 4 1 (.slice (some ⟨ib, 0, none⟩) l.length l.length) I.length (I.map Value.bool) ∧ Below ib W wr
def csRel (kf : List Ky) (I : List Bool) (sb : Nat) (W : World) (v11 : Value) (wr : World) : Prop := ∃ (k : Nat) (va vi vl : Value), k ≤ I.length ∧ v11 = .int .i64 k ∧ Blk wr sb 36 #[va, vi, vl] ∧
  wr.ownsRow (sb + 1) 3 1 va (selI I k).length ((selI I k).flatMap inC) ∧ wr.ownsRow (sb + 1) 3 1 vi (inpK kf (selI I k)).length ((inpK kf (selI I k)).flatMap inC) ∧ wr.ownsRow (sb + 1) 22 1 vl (linK kf (selI I k)).length ((linK kf (selI I k)).flatMap fun s => [Value.string (bs s)]) ∧ Apart va vi ∧ Below sb W wr
set_option maxRecDepth 100000 in
set_option maxHeartbeats 8000000 in
theorem wslice_is {w : World} {l : List Ac} {A1 : Option Addr} {c1 : Nat} {pb : Option Addr} {vx vg : Value} (o N : Nat) (hac : RdAc w (.slice A1 l.length c1) l) (ho : o < N) (hN : N ≤ l.length) (hl : l.length ≤ 100) (hr : ∀ a ∈ l, a.reads.length ≤ 10) (hw : ∀ a ∈ l, a.writes.length ≤ 10) (h5 : ∀ a ∈ l, a.key.lin ∈ lin5) :
    Calls Tryz.prog 19 #[.agg #[.pointer pb, .slice A1 l.length c1, vx, vg], .int .i64 o, .int .i64 N] w fun e w' => ∃ (v1 v2 v3 : Value) (S : List Int), e = .returned (.agg #[v1, v2, v3]) ∧ Clo (lnkD l) ((l.take N).map Ac.key) o S ∧ RdIn w' v1 S ∧ RdIn w' v2 (inpK ((l.take N).map Ac.key) S) ∧ RdSt w' v3 (lsrt (linK ((l.take N).map Ac.key) S)) ∧ Below w.heap.size w w' := by
  have ha := ((Below.refl w.heap.size w).alloc (Nat.le_refl _) (.cells #[.pointer pb, .slice A1 l.length c1, vx, vg] 49)).alloc (by simp) (.cells #[.slice none 0 0, .slice none 0 0, .slice none 0 0] 36)
  have hsz : ((w.alloc (.cells #[.pointer pb, .slice A1 l.length c1, vx, vg] 49)).alloc (.cells #[.slice none 0 0, .slice none 0 0, .slice none 0 0] 36)).heap.size = w.heap.size + 1 + 1 := by simp
  have hmk := make_bools ((w.alloc (.cells #[.pointer pb, .slice A1 l.length c1, vx, vg] 49)).alloc (.cells #[.slice none 0 0, .slice none 0 0, .slice none 0 0] 36)) l.length hl
  have hmo := own_made_bo ((w.alloc (.cells #[.pointer pb, .slice A1 l.length c1, vx, vg] 49)).alloc (.cells #[.slice none 0 0, .slice none 0 0, .slice none 0 0] 36)) l.length hl
  rw [hsz] at hmk hmo
  have ha3 := ha.alloc (by simp; omega) (.cells (madeCells #[.bool false] l.length) 4)
  have zw := ((Blk.new w 49 #[.pointer pb, .slice A1 l.length c1, vx, vg]).alloc (.cells #[.slice none 0 0, .slice none 0 0, .slice none 0 0] 36)).alloc (.cells (madeCells #[.bool false] l.length) 4)
  have zr := (Blk.new (w.alloc (.cells #[.pointer pb, .slice A1 l.length c1, vx, vg] 49)) 36 #[.slice none 0 0, .slice none 0 0, .slice none 0 0]).alloc (.cells (madeCells #[.bool false] l.length) 4)
  rw [World.size_alloc] at zr
  obtain ⟨ks, hks⟩ : ∃ ks, (l.take N).map Ac.key = ks := ⟨_, rfl⟩
  have HKL := Lib.hid (show ks.length = N by rw [← hks, List.length_map, List.length_take]; omega)
  have HKS := Lib.hid hks
  have HAC := Lib.hid hac
  have HLR := Lib.hid hr
  have HLW := Lib.hid hw
  have H5 := Lib.hid h5
  have HB3 := Lib.hid ha3
  have ZW := Lib.hid zw
  have ZR := Lib.hid zr
  have HMO := Lib.hid hmo
  have HN := Lib.hid hN
  have hol : (o : Int) < (l.length : Int) := by omega
  have hol2 : o < l.length := by omega
  have ho0 : (0 : Int) ≤ (o : Int) := by omega
  have w1c := ((Blk.new w 49 #[.pointer pb, .slice A1 l.length c1, vx, vg]).alloc (.cells #[.slice none 0 0, .slice none 0 0, .slice none 0 0] 36)).cell 1
  simp only [qB, qC, qD] at w1c
  clear ha hsz hmo ha3 zw zr hac hr hw h5 hks hN
  go_enter Tryz.func19, Tryz.ntmps19
  go_upto_region 2 with (fail)
  clear hmk w1c
  generalize (((w.alloc (.cells #[.pointer pb, .slice A1 l.length c1, vx, vg] 49)).alloc (.cells #[.slice none 0 0, .slice none 0 0, .slice none 0 0] 36)).alloc (.cells (madeCells #[.bool false] l.length) 4)) = W3 at *
  obtain ⟨ib, hib⟩ : ∃ x, w.heap.size + 1 + 1 = x := ⟨_, rfl⟩
  obtain ⟨rb, hrb⟩ : ∃ x, w.heap.size + 1 = x := ⟨_, rfl⟩
  obtain ⟨wb, hwb⟩ : ∃ x, w.heap.size = x := ⟨_, rfl⟩
  have HBB := Lib.hid (show w.heap.size = wb ∧ wb < rb ∧ rb < ib from ⟨hwb, by omega, by omega⟩)
  rw [hib] at HMO ⊢
  rw [hrb] at ZR ⊢
  rw [hwb] at ZW ⊢
  clear hib hrb hwb
  have x0 : W3.cell? ⟨ib, o, none⟩ = some (.bool false) := own_cell1 HMO.out (by rw [List.getElem?_map, List.getElem?_replicate, if_pos hol2]; rfl)
  have f0 := own_frozen1 HMO.out o
  go_upto_region 4 with (fail)
  have hset := own_set1 HMO.out (i := o) hol2 (.bool true)
  rw [map_set] at hset
  have HB4 := Lib.hid (show Below ib W3 (W3.setCell ⟨ib, o, none⟩ (.bool true)) from (Below.refl ib W3).setCell (p := ⟨ib, o, none⟩) (Nat.le_refl _) _)
  have HBW3 := Lib.hid (HB3.out.trans (HB4.out.mono (by have := HBB.out; omega)))
  have ZW4 := Lib.hid ((HB4.out.block wb (by have := HBB.out; omega)).trans ZW.out)
  have ZR4 := Lib.hid ((HB4.out.block rb (by have := HBB.out; omega)).trans ZR.out)
  have hcf : cntT (List.replicate l.length false) = 0 := by unfold cntT; rw [List.countP_replicate]; simp
  have hc1 : cntT ((List.replicate l.length false).set o true) = 1 := by
    rw [cntT_set (by rw [List.getElem?_replicate, if_pos hol2]), hcf]
  have hin : ∀ j, inI ((List.replicate l.length false).set o true) j ↔ j = (o : Int) := by
    intro j
    rw [inI_set (by rw [List.length_replicate]; exact hol2)]
    constructor
    · rintro (h | h)
      · have := h.2
        rw [List.getElem?_replicate] at this
        split at this
        · cases this
        · cases this
      · exact h
    · exact .inr
  have H0 : Hid (msRel l ks o ib (W3.setCell ⟨ib, o, none⟩ (.bool true)) l.length (.bool true) (W3.setCell ⟨ib, o, none⟩ (.bool true))) := Lib.hid ⟨(List.replicate l.length false).set o true, true, rfl, by simp, (hin _).2 rfl, fun j hj => by rw [(hin j).1 hj]; exact .base, fun h => (by cases h), by rw [hc1]; simp; omega, by rw [List.length_set, List.length_replicate]; exact hset, Below.refl _ _⟩
  clear hset hcf hc1 hin x0 f0 HB4 HB3 ZW ZR HMO
  generalize W3.setCell ⟨ib, o, none⟩ (.bool true) = W4 at *
  go_loopg [8] l.length (fun gk v wr => msRel l ks o ib W4 gk v wr)
  case atStart => exact H0.out
  case round =>
    clear H0
    obtain ⟨I, m, rfl, hIl, hino, hirch, hcl, hgk, hown, hbw⟩ := hrel
    have HIL := Lib.hid hIl
    have HINO := Lib.hid hino
    have HRC := Lib.hid hirch
    have HCLO := Lib.hid hcl
    have HGK := Lib.hid hgk
    have HOW := Lib.hid hown
    have HBW := Lib.hid hbw
    clear hIl hino hirch hcl hgk hown hbw
    cases m with
    | true =>
      have H1 : Hid (msIn l ks o ib I W4 (.bool false) (.int .i64 (0 : Nat)) wr) := Lib.hid ⟨0, I, false, Nat.zero_le _, rfl, rfl, PasR.start HINO.out HRC.out, HOW.out, HBW.out⟩
      clear HOW HBW
      go_wp2_with fail
      go_loopw [8, 9] (fun v8 v9 wr => msIn l ks o ib I W4 v8 v9 wr) (fun _ v9 _ => ks.length - (intOf v9).toNat)
      case atStart => exact H1.out
      case round =>
        clear H1
        obtain ⟨i, I2, m2, hik, rfl, rfl, hpas, hown, hbw⟩ := hrel
        have HPA := Lib.hid hpas
        have HOW := Lib.hid hown
        have HBW := Lib.hid hbw
        have hik2 : i ≤ N := by have := HKL.out; omega
        clear hpas hown hbw hik
        by_cases hi : i < N
        · have j3 : decide ((i : Int) < (N : Int)) = true := decide_eq_true (by omega)
          have j1 : (0 : Int) ≤ (i : Int) := by omega
          have j2 : (i : Int) < (l.length : Int) := by have := HN.out; omega
          have hiI : i < I2.length := by have := HPA.out.len; have := HIL.out; have := HN.out; omega
          obtain ⟨bk, hbk⟩ : ∃ bk, I2[i] = bk := ⟨_, rfl⟩
          have hbk? : I2[i]? = some bk := by rw [List.getElem?_eq_getElem hiI, hbk]
          have x0 : wr.cell? ⟨ib, i, none⟩ = some (.bool bk) := own_cell1 HOW.out (by rw [List.getElem?_map, hbk?]; rfl)
          have HBK := Lib.hid hbk?
          clear hbk hbk?
          cases bk with
          | false =>
            go_wp2_with fail
            go_roundw
            case rel => exact ⟨i + 1, I2, m2, by have := HKL.out; omega, by go_num, rfl, HPA.out.skip (fun h => by have := inI_nat.1 h; rw [HBK.out] at this; cases this), HOW.out, HBW.out⟩
            case measure => simp [intOf]; have := HKL.out; omega
          | true =>
            have HZW := Lib.hid ((HBW.out.block wb (by have := HBB.out; omega)).trans ZW4.out)
            have w0c := (show Blk wr wb _ _ from HZW.out).cell 0
            have w1c := (show Blk wr wb _ _ from HZW.out).cell 1
            have w2c := (show Blk wr wb _ _ from HZW.out).cell 2
            have w3c := (show Blk wr wb _ _ from HZW.out).cell 3
            simp only [qB, qC, qD] at w0c w1c w2c w3c
            have hbb := HBB.out
            have HADD := Lib.hid (wadd_is (w0 := w) (w := wr) (B := ib) (I := I2) (vi := .slice (some ⟨ib, 0, none⟩) l.length l.length) (pb := pb) (vx := vx) (vg := vg) i N HAC.out (HBW3.out.trans (HBW.out.mono (by omega))) (by omega) (Nat.le_of_lt (by obtain ⟨cur, hc⟩ := own_cells_of HOW.out (g := ib) rfl; exact (Array.getElem?_eq_some_iff.1 hc).1)) HOW.out (by have := HPA.out.len; have := HIL.out; omega) hi HN.out hl HLR.out HLW.out)
            rw [HKS.out] at HADD
            clear hbb
            go_wp2_with fail
            go_at_call 49
            refine HADD.out.mono ?_
            rintro e w9 ⟨I9, m9, rfl, had, hown9, hb9⟩
            have HP9 := Lib.hid (HPA.out.add (inI_nat.2 HBK.out) had)
            have HOW9 := Lib.hid hown9
            have HB9 := Lib.hid (HBW.out.trans hb9)
            clear had hown9 hb9 w0c w1c w2c w3c x0 HADD
            cases m9 with
            | true =>
              go_wp2_with fail
              go_roundw
              case rel => exact ⟨i + 1, I9, true, by have := HKL.out; omega, by go_num, rfl, HP9.out, HOW9.out, HB9.out⟩
              case measure => simp [intOf]; have := HKL.out; omega
            | false =>
              go_wp2_with fail
              go_roundw
              case rel => exact ⟨i + 1, I9, m2, by have := HKL.out; omega, by go_num, rfl, HP9.out, HOW9.out, HB9.out⟩
              case measure => simp [intOf]; have := HKL.out; omega
        · have j3 : decide ((i : Int) < (N : Int)) = false := decide_eq_false (by omega)
          have HIN := Lib.hid (show i = ks.length by have := HKL.out; omega)
          have HML := Lib.hid (show l.length - cntT I2 + (if m2 = true then 1 else 0) < gk by
            have h1 := HGK.out
            simp only [if_true] at h1
            have h2 := cntT_le I2
            have h3 := HPA.out.len
            have h4 := HIL.out
            cases m2
            · have h5 := (HPA.out.no rfl).1
              subst h5
              simp
              omega
            · have h5 := HPA.out.yes rfl
              simp
              omega)
          go_wp2_with fail
          go_roundg (l.length - cntT I2 + (if m2 = true then 1 else 0))
          case rel => exact ⟨I2, m2, rfl, by rw [HPA.out.len]; exact HIL.out, HPA.out.org, HPA.out.rch, fun e => by
              have h1 := HPA.out
              rw [HIN.out, e] at h1
              have h2 := (h1.no rfl).1
              rw [← h2] at h1
              exact h1, rfl, HOW.out, HBW.out⟩
          case measure => exact HML.out
    | false =>
      have HCL := Lib.hid ((HCLO.out rfl).clo (by have := HKL.out; omega) (fun i h0 h1 x hx => by have := lnkD_lt h0 hx; omega))
      have HZW := Lib.hid (show Blk wr wb 49 #[.pointer pb, .slice A1 l.length c1, vx, vg] from (HBW.out.block wb (by have := HBB.out; omega)).trans ZW4.out)
      have HZR := Lib.hid (show Blk wr rb 36 #[.slice none 0 0, .slice none 0 0, .slice none 0 0] from (HBW.out.block rb (by have := HBB.out; omega)).trans ZR4.out)
      have HB0 := Lib.hid (HBW3.out.trans (HBW.out.mono (by have := HBB.out; omega)))
      have hal := (Below.refl wr.heap.size wr).alloc (Nat.le_refl _) (.cells #[.slice none 0 0, .slice none 0 0, .slice none 0 0] 36)
      have zs := Blk.new wr 36 #[.slice none 0 0, .slice none 0 0, .slice none 0 0]
      have H1 := Lib.hid (show csRel (l.map Ac.key) I wr.heap.size (wr.alloc (.cells #[.slice none 0 0, .slice none 0 0, .slice none 0 0] 36)) (.int .i64 (0 : Nat)) _ from ⟨0, _, _, _, Nat.zero_le _, rfl, zs, World.ownsRow_nil _ _ _ _, World.ownsRow_nil _ _ _ _, World.ownsRow_nil _ _ _ _, fun g h => (by cases h), Below.refl _ _⟩)
      have HOW2 := Lib.hid (own_next HOW.out hal)
      have HZW2 := Lib.hid (HZW.out.next hal HZW.out.lt)
      have HZR2 := Lib.hid (HZR.out.next hal HZR.out.lt)
      have HB2 := Lib.hid (HB0.out.trans (hal.mono HB0.out.size))
      have hso : ib < wr.heap.size := by obtain ⟨cur, hc⟩ := own_cells_of HOW.out (g := ib) rfl; exact (Array.getElem?_eq_some_iff.1 hc).1
      have hsz : (wr.alloc (.cells #[.slice none 0 0, .slice none 0 0, .slice none 0 0] 36)).heap.size = wr.heap.size + 1 := by simp
      have HSO := Lib.hid (show ib < wr.heap.size ∧ (wr.alloc (.cells #[.slice none 0 0, .slice none 0 0, .slice none 0 0] 36)).heap.size = wr.heap.size + 1 from ⟨hso, hsz⟩)
      clear hal zs HOW HZW HZR HB0 hso hsz HBW
      go_upto_region 13 with (fail)
      generalize wr.alloc (.cells #[.slice none 0 0, .slice none 0 0, .slice none 0 0] 36) = W6 at *
      obtain ⟨sb, hsb⟩ : ∃ x, wr.heap.size = x := ⟨_, rfl⟩
      rw [hsb] at H1 HSO ⊢
      clear hsb
      go_loopw [11] (fun v11 wr => csRel (l.map Ac.key) I sb W6 v11 wr) (fun v11 _ => l.length - (intOf v11).toNat)
      case atStart => exact H1.out
      case round =>
        clear H1
        obtain ⟨k, va, vi, vl, hkI, rfl, hz, hoa, hoi, hol, hap, hbw⟩ := hrel
        obtain ⟨la, hla⟩ : ∃ la, selI I k = la := ⟨_, rfl⟩
        obtain ⟨li, hli⟩ : ∃ li, inpK (l.map Ac.key) (selI I k) = li := ⟨_, rfl⟩
        obtain ⟨ll, hll⟩ : ∃ ll, linK (l.map Ac.key) (selI I k) = ll := ⟨_, rfl⟩
        have HIK := Lib.hid (show k ≤ l.length by have := HIL.out; omega)
        have hlal : la.length ≤ 100 := by rw [← hla]; have := selI_len I k; have := HIL.out; omega
        have hlil : li.length ≤ 100 := by rw [← hli]; have := inpK_len (l.map Ac.key) (selI I k); have := selI_len I k; have := HIL.out; omega
        have hlll : ll.length ≤ 100 := by rw [← hll]; have := linK_len (l.map Ac.key) (selI I k); have := selI_len I k; have := HIL.out; omega
        have HLA := Lib.hid hla
        have HLI := Lib.hid hli
        have HLL := Lib.hid hll
        rw [hla] at hoa
        rw [hli] at hoi
        rw [hll] at hol
        obtain ⟨Aa, ca, rfl, _⟩ := own_len hoa
        obtain ⟨Ai, ci, rfl, _⟩ := own_len hoi
        obtain ⟨Al, cl, rfl, _⟩ := own_len hol
        have HZ := Lib.hid hz
        have HA := Lib.hid hoa
        have HI := Lib.hid hoi
        have HL := Lib.hid hol
        have HAP := Lib.hid hap
        have HBW := Lib.hid hbw
        have HSZ := Lib.hid (show sb + 1 ≤ wr.heap.size by have := hz.lt; omega)
        have HWBX := Lib.hid (show Blk wr wb 49 #[.pointer pb, .slice A1 l.length c1, vx, vg] from (hbw.block wb (by have := HBB.out; have := HSO.out; omega)).trans HZW2.out)
        have HOI := Lib.hid (own_same HOW2.out (fun g hg => hbw.block g (by
          have h2 : ib = g := by injection hg
          have := HSO.out.1
          omega)))
        have HBT0 := Lib.hid (HB2.out.trans (hbw.mono (by have := HBB.out; have := HSO.out; omega)))
        have w1c := HWBX.out.cell 1
        simp only [qB, qC, qD] at w1c
        clear hz hoa hoi hol hap hbw hla hli hll hkI
        by_cases hk : k < l.length
        · have j1 : (0 : Int) ≤ (k : Int) := by omega
          have j2 : (k : Int) < (l.length : Int) := by omega
          have j3 : decide ((k : Int) < (l.length : Int)) = true := decide_eq_true j2
          have hkI2 : k < I.length := by have := HIL.out; omega
          obtain ⟨bk, hbk⟩ : ∃ bk, I[k] = bk := ⟨_, rfl⟩
          have hbk? : I[k]? = some bk := by rw [List.getElem?_eq_getElem hkI2, hbk]
          have x0 : wr.cell? ⟨ib, k, none⟩ = some (.bool bk) := own_cell1 HOI.out (by rw [List.getElem?_map, hbk?]; rfl)
          have HBK := Lib.hid hbk?
          have HSS := Lib.hid (selI_succ I k)
          clear hbk hbk? hkI2
          cases bk with
          | false =>
            have HSE := Lib.hid (show selI I (k + 1) = selI I k by rw [HSS.out, if_neg (by rw [HBK.out]; simp)])
            go_wp2_with fail
            go_roundw
            case rel => exact ⟨k + 1, _, _, _, by have := HIL.out; omega, by go_num, HZ.out, by rw [HSE.out, HLA.out]; exact HA.out, by rw [HSE.out, HLI.out]; exact HI.out, by rw [HSE.out, HLL.out]; exact HL.out, HAP.out, HBW.out⟩
            case measure => simp [intOf]; omega
          | true =>
            have HSE := Lib.hid (show selI I (k + 1) = la ++ [(k : Int)] by rw [HSS.out, if_pos HBK.out, HLA.out])
            obtain ⟨b, o', u1, u2, hbe, hbl0, m1, m2, y0, y1, y2, y3, y4, y5⟩ := RdAc.piece HAC.out hk
            subst hbe
            have HGT := Lib.hid (show (l.map Ac.key)[(k : Int).toNat]? = some l[k].key by rw [Int.toNat_natCast, List.getElem?_map, List.getElem?_eq_getElem hk]; rfl)
            obtain ⟨ac, hac⟩ : ∃ ac, l[k] = ac := ⟨_, rfl⟩
            rw [hac] at y0 y1 y2 y3 HGT
            clear hac m1 m2 y0 y4 y5
            have hbs : b < sb := by have := HBB.out; have := HSO.out; omega
            have HBS := Lib.hid hbs
            replace y1 := (HBT0.out.cell (p := ⟨b, o' + k * 6 + 1, none⟩) hbl0).trans y1
            replace y2 := (HBT0.out.cell (p := ⟨b, o' + k * 6 + 2, none⟩) hbl0).trans y2
            replace y3 := (HBT0.out.cell (p := ⟨b, o' + k * 6 + 3, none⟩) hbl0).trans y3
            have hbl : b < wr.heap.size := by have := HSZ.out; omega
            have z0 := HZ.out.cell 0
            simp only [qB, qC, qD] at z0
            have hal := (Below.refl wr.heap.size wr).alloc (Nat.le_refl _) (.cells #[.int .i64 k] 3)
            have HA6 := Lib.hid (own_next HA.out hal)
            have HI6 := Lib.hid (own_next HI.out hal)
            have HL6 := Lib.hid (own_next HL.out hal)
            have HZ6 := Lib.hid (HZ.out.next hal HZ.out.lt)
            have HWX6 := Lib.hid (HWBX.out.next hal HWBX.out.lt)
            have HBA := Lib.hid (HBW.out.trans (hal.mono (by have := HSZ.out; omega)))
            have HSZ6 := Lib.hid (show sb + 1 ≤ (wr.alloc (.cells #[.int .i64 k] 3)).heap.size by have := HSZ.out; simp; omega)
            have HBX6 := Lib.hid hal
            obtain ⟨i0, hi, hz0, hz1, hz2⟩ := info_parts infoIn
            clear hal
            go_upto_region 16 with (fail)
            go_wp2_with (at_builtin; refine wpList_append_w _ rfl _ _ _ rfl (sb + 1) 3 i0 _ 1 8 Tryz.underlying33 hi hz0 hz1 hz2 rfl (by omega) (.slice Aa la.length ca) la.length (la.flatMap inC) rfl HA6.out (.slice (some ⟨wr.heap.size, 0, none⟩) 1 1) 1 [.int .i64 k] rfl (Rd.of_own (own_new wr 0 3 1 [.int .i64 k] rfl (Nat.zero_le _))) (by omega) rfl (by simp [Value.oneCell']) (by unfold maxLen; omega) (by omega) HSZ6.out ?_)
            intro v5 w5 hown5 hg5 hat5
            obtain ⟨A5, c5, rfl, _⟩ := own_len hown5
            have hz5 := HZ6.out.grown hg5 (fun e => own_blk_ne HA6.out HZ6.out (by decide) e.symm)
            have k0 := hz5.cell 0
            have kf := hz5.frozen 0
            simp only [qB, qC, qD] at k0
            have hpu := slc_push (j := 0) HZ6.out HA6.out HI6.out (.inr HAP.out.symm) (by decide) (by decide) hown5 hg5 (Nat.lt_succ_self sb)
            have hpu2 := slc_push (j := 0) HZ6.out HA6.out HL6.out (.inl (by decide)) (by decide) (by decide) hown5 hg5 (Nat.lt_succ_self sb)
            have HAP7 := Lib.hid (apart_at HI6.out HAP.out hat5)
            have HPU := Lib.hid hpu
            have HPU2 := Lib.hid hpu2
            have HB7 := Lib.hid (HBA.out.trans (hpu.2.2.2.mono (Nat.le_refl _)))
            have HBB7 := Lib.hid (hpu.2.2.2)
            clear hpu hpu2 hown5 hg5 hat5 hz5 i0 hi hz0 hz1 hz2
            go_upto_region 17 with (fail)
            clear k0 kf z0
            generalize w5.setCell ⟨sb, 0, none⟩ (.slice A5 (la.length + 1) c5) = W7 at *
            have HWBX7 : Hid (Blk W7 wb 49 #[.pointer pb, .slice (some ⟨b, o', none⟩) l.length c1, vx, vg]) := Lib.hid ((HBB7.out.block wb (by have := HBB.out; have := HSO.out; omega)).trans HWX6.out)
            replace y1 := (HBB7.out.cell (p := ⟨b, o' + k * 6 + 1, none⟩) hbs).trans ((HBX6.out.cell (p := ⟨b, o' + k * 6 + 1, none⟩) hbl).trans y1)
            replace y2 := (HBB7.out.cell (p := ⟨b, o' + k * 6 + 2, none⟩) hbs).trans ((HBX6.out.cell (p := ⟨b, o' + k * 6 + 2, none⟩) hbl).trans y2)
            replace y3 := (HBB7.out.cell (p := ⟨b, o' + k * 6 + 3, none⟩) hbs).trans ((HBX6.out.cell (p := ⟨b, o' + k * 6 + 3, none⟩) hbl).trans y3)
            obtain ⟨la2, hla2⟩ : ∃ la2, la ++ [(k : Int)] = la2 := ⟨_, rfl⟩
            have hla2l : la.length + 1 = la2.length := by rw [← hla2]; simp
            have HA7 := Lib.hid (show W7.ownsRow (sb + 1) 3 1 (.slice A5 la2.length c5) la2.length (la2.flatMap inC) by
              have := HPU.out.2.1
              rw [hla2l] at this
              rw [← hla2, List.flatMap_append]
              rw [← hla2] at this
              exact this)
            have HZ7 := Lib.hid (show Blk W7 sb 36 #[.slice A5 la2.length c5, .slice Ai li.length ci, .slice Al ll.length cl] by have := HPU.out.1; rw [hla2l] at this; exact this)
            have HI7 := Lib.hid HPU.out.2.2.1
            have HL7 := Lib.hid HPU2.out.2.2.1
            rw [hla2l] at HAP7
            have HSE2 := Lib.hid (show selI I (k + 1) = la2 by rw [← hla2]; exact HSE.out)
            have HIN := Lib.hid (show inpK (l.map Ac.key) (selI I (k + 1)) = li ++ (if ac.key.cls = 0 then [ac.key.num] else []) by rw [HSE.out, inpK_snoc, HGT.out, ← HLA.out, HLI.out])
            have HLN := Lib.hid (show linK (l.map Ac.key) (selI I (k + 1)) = ll ++ (if ac.key.cls = 0 then [] else [ac.key.lin]) by rw [HSE.out, linK_snoc, HGT.out, ← HLA.out, HLL.out])
            have HSZ7 := Lib.hid (show sb + 1 ≤ W7.heap.size by have := HZ7.out.lt; omega)
            have hbl7 : b < W7.heap.size := by have := HSZ7.out; omega
            have hwl := HWBX7.out.lt
            have w1c := HWBX7.out.cell 1
            have x1 := HZ7.out.cell 1
            have x2 := HZ7.out.cell 2
            simp only [qB, qC, qD] at w1c x1 x2
            clear HPU HPU2 hla2 hla2l HA HI HL HZ HA6 HI6 HL6 HZ6 HAP HBA HWBX HWX6 HSZ HSZ6 hbl hlal
            rename_i wr_old
            have HSZ := HSZ7
            have hbl := hbl7
            have HBW := HB7
            have HWBX := HWBX7
            have HZ := HZ7
            have HA := HA7
            have HI := HI7
            have HL := HL7
            have HAP := HAP7
            have hlal : la2.length ≤ 101 := by have := selI_len I (k + 1); rw [HSE2.out] at this; have := HIK.out; omega
            by_cases hcl : ac.key.cls = 0
            · have j9 : (ac.key.cls == 0) = true := by rw [beq_iff_eq]; exact hcl
              rw [if_pos hcl] at HIN HLN
              clear hcl
              go_upto_region 18 with (fail)
              have hal := ((Below.refl W7.heap.size W7).alloc (Nat.le_refl _) (.cells #[.int .i64 ac.key.num] 3)).drew
              have HAL6 : Hid (Below W7.heap.size W7 (W7.alloc (.cells #[.int .i64 ac.key.num] 3)).drew) := Lib.hid hal
              have HA6 : Hid ((W7.alloc (.cells #[.int .i64 ac.key.num] 3)).drew.ownsRow (sb + 1) 3 1 (.slice A5 la2.length c5) la2.length (la2.flatMap inC)) := Lib.hid (own_next HA.out hal)
              have HI6 : Hid ((W7.alloc (.cells #[.int .i64 ac.key.num] 3)).drew.ownsRow (sb + 1) 3 1 (.slice Ai li.length ci) li.length (li.flatMap inC)) := Lib.hid (own_next HI.out hal)
              have HL6 : Hid ((W7.alloc (.cells #[.int .i64 ac.key.num] 3)).drew.ownsRow (sb + 1) 22 1 (.slice Al ll.length cl) ll.length (ll.flatMap fun s => [Value.string (bs s)])) := Lib.hid (own_next HL.out hal)
              have HZ6 : Hid (Blk (W7.alloc (.cells #[.int .i64 ac.key.num] 3)).drew sb 36 #[.slice A5 la2.length c5, .slice Ai li.length ci, .slice Al ll.length cl]) := Lib.hid (HZ.out.next hal HZ.out.lt)
              have HW6 : Hid (Blk (W7.alloc (.cells #[.int .i64 ac.key.num] 3)).drew wb 49 #[.pointer pb, .slice (some ⟨b, o', none⟩) l.length c1, vx, vg]) := Lib.hid (HWBX.out.next hal HWBX.out.lt)
              have HBL6 : Hid (b < (W7.alloc (.cells #[.int .i64 ac.key.num] 3)).drew.heap.size) := Lib.hid (Nat.lt_of_lt_of_le hbl hal.size)
              have HBA := Lib.hid (HBW.out.trans (hal.mono (by have := HSZ.out; omega)))
              obtain ⟨i0, hi, hz0, hz1, hz2⟩ := info_parts infoIn
              clear hal
              refine wp_region_noPanic ?_
              refine wp_region_last (S := (fun (w' : World) => w'.cell? ⟨sb, 1, none⟩ = some (.slice Ai li.length ci) ∧ w'.cell? ⟨wb, 1, none⟩ = some (.slice (some ⟨b, o', none⟩) l.length c1) ∧ w'.cell? ⟨b, o' + k * 6 + 2, none⟩ = some (.int .i64 ac.key.num))) 12 12 rfl (by kernel_rfl) (by kernel_rfl) ?_ (fun hHeld => ?_)
              · exact ⟨x1, w1c, y2⟩
              refine tk (v := ?_) 0 rfl (by kernel_rfl) (fun _ _ _ h => h) ?_ hHeld ?_
              rotate_left
              · (intro w h; (try dsimp only at h); go_simp; try with_reducible rfl)
              try simp only [Act.put, pB, pC, pD]
              refine tk (v := ?_) 1 rfl (by kernel_rfl) (fun _ _ _ h => h) ?_ hHeld ?_
              rotate_left
              · (intro w h; (try dsimp only at h); go_simp; try with_reducible rfl)
              try simp only [Act.put, pB, pC, pD]
              refine tk (v := ?_) 2 rfl (by kernel_rfl) (fun _ _ _ h => h) ?_ hHeld ?_
              rotate_left
              · (intro w h; (try dsimp only at h); go_simp; try with_reducible rfl)
              try simp only [Act.put, pB, pC, pD]
              refine tk (v := ?_) 3 rfl (by kernel_rfl) (fun _ _ _ h => h) ?_ hHeld ?_
              rotate_left
              · (intro w h; (try dsimp only at h); go_simp; try with_reducible rfl)
              try simp only [Act.put, pB, pC, pD]
              refine tk (v := ?_) 4 rfl (by kernel_rfl) (fun _ _ _ h => h) ?_ hHeld ?_
              rotate_left
              · (intro w h; (try dsimp only at h); go_simp; try with_reducible rfl)
              try simp only [Act.put, pB, pC, pD]
              refine tk (v := ?_) 5 rfl (by kernel_rfl) (fun _ _ _ h => h) ?_ hHeld ?_
              rotate_left
              · (intro w h; (try dsimp only at h); go_simp; try with_reducible rfl)
              try simp only [Act.put, pB, pC, pD]
              refine tk (v := ?_) 6 rfl (by kernel_rfl) (fun _ _ _ h => h) ?_ hHeld ?_
              rotate_left
              · (intro w h; (try dsimp only at h); go_simp; try with_reducible rfl)
              try simp only [Act.put, pB, pC, pD]
              refine tk (v := ?_) 7 rfl (by kernel_rfl) (fun _ _ _ h => h) ?_ hHeld ?_
              rotate_left
              · (intro w h; (try dsimp only at h); go_simp; try with_reducible rfl)
              try simp only [Act.put, pB, pC, pD]
              refine tk (v := ?_) 8 rfl (by kernel_rfl) (fun _ _ _ h => h) ?_ hHeld ?_
              rotate_left
              · (intro w h; (try dsimp only at h); go_simp; try with_reducible rfl)
              try simp only [Act.put, pB, pC, pD]
              refine wpAnyH_ready (rs := [9]) (by kernel_rfl) (by simp) ?_
              refine AllReadyH.cons rfl (fun K hK => ?_) AllReadyH.nil
              go_simp
              refine hK.out _ _ ?_ (fun hNew => ?_)
              · exact ⟨(World.cell?_alloc_lt W7 _ _ HZ.out.lt).trans x1, (World.cell?_alloc_lt W7 _ _ hwl).trans w1c, (World.cell?_alloc_lt W7 _ _ hbl).trans y2⟩
              clear hK K hHeld
              have hHeld := hNew
              clear hNew
              try simp only [Act.put, pB, pC, pD]
              refine wpAnyH_ready (rs := [10]) (by kernel_rfl) (by simp) ?_
              refine AllReadyH.cons rfl (fun K hK => ?_) AllReadyH.nil
              refine step_append_w _ (by rfl) _ _ _ (by rfl) (sb + 1) 3 i0 _ 1 8 Tryz.underlying33 hi hz0 hz1 hz2 rfl (by omega) (.slice Ai li.length ci) li.length (li.flatMap inC) (by rfl) HI6.out (.slice (some ⟨W7.heap.size, 0, none⟩) 1 1) 1 [.int .i64 ac.key.num] (by rfl) (show Rd 3 (W7.alloc (.cells #[.int .i64 ac.key.num] 3)).drew _ 1 _ from Rd.of_own (own_new W7 0 3 1 [.int .i64 ac.key.num] rfl (Nat.zero_le _))) (by omega) (by rfl) (by simp [Value.oneCell']) (by unfold maxLen; omega) (by omega) (by have := HSZ.out; simp; omega) ?_; intro v5 w5 hown5 hg5 hat5; obtain ⟨A5, c5, rfl, _⟩ := own_len hown5; have hz5 := HZ6.out.grown hg5 (fun e => own_blk_ne HI6.out HZ6.out (by decide) e.symm); have k0 := hz5.cell 1; have kf := hz5.frozen 1; have hw5 := HW6.out.grown hg5 (fun e => own_blk_ne HI6.out HW6.out (by decide) e.symm); have k1 := hw5.cell 1; have kb5 := hg5.block b HBL6.out (fun e => by have := own_ge HI6.out e.symm; have := HBS.out; omega); have k2 := (show w5.cell? ⟨b, o' + k * 6 + 2, none⟩ = (W7.alloc (.cells #[.int .i64 ac.key.num] 3)).drew.cell? ⟨b, o' + k * 6 + 2, none⟩ by unfold World.cell?; rw [kb5]).trans ((HAL6.out.cell (p := ⟨b, o' + k * 6 + 2, none⟩) hbl).trans y2); clear kb5; (simp only [qB, qC, qD] at k0 k1); have HOWN5 := Lib.hid hown5; have HG5 := Lib.hid hg5; have HAT5 := Lib.hid hat5; clear hown5 hg5 hat5
              refine hK.out _ _ ?_ (fun hNew => ?_)
              · exact ⟨k0, k1, k2⟩
              clear hK K hHeld
              have hHeld := hNew
              clear hNew
              try simp only [Act.put, pB, pC, pD]
              refine tk (v := ?_) 11 rfl (by kernel_rfl) (fun _ _ _ h => h) ?_ hHeld ?_
              rotate_left
              · (intro w h; (try dsimp only at h); go_simp; try with_reducible rfl)
              try simp only [Act.put, pB, pC, pD]
              refine wpAnyH_done (by kernel_rfl) ?_ _
              refine lastQ_step rfl (fun K hK => ?_)
              clear hHeld
              go_simp
              refine hK _ _ ?_
              clear hK K
              refine NoPanic.normal ?_
              have hpu := slc_push (j := 1) HZ6.out HI6.out HA6.out (.inr HAP.out) (by decide) (by decide) HOWN5.out HG5.out (Nat.lt_succ_self sb)
              have hpu2 := slc_push (j := 1) HZ6.out HI6.out HL6.out (.inl (by decide)) (by decide) (by decide) HOWN5.out HG5.out (Nat.lt_succ_self sb)
              have HAP2 := Lib.hid ((apart_at HA6.out HAP.out.symm HAT5.out).symm)
              have HPU := Lib.hid hpu
              have HPU2 := Lib.hid hpu2
              have HB9 := Lib.hid (HBA.out.trans (hpu.2.2.2.mono (Nat.le_refl _)))
              clear hpu hpu2 HOWN5 HG5 HAT5 kf k0 k1 k2 hz5 hw5 i0 hi hz0 hz1 hz2
              go_wp2_with fail
              go_roundw
              case rel => exact ⟨k + 1, _, _, _, by have := HIL.out; omega, by go_num, HPU.out.1, by rw [HSE2.out]; exact HPU.out.2.2.1, by rw [HIN.out, List.length_append, List.flatMap_append]; exact HPU.out.2.1, by rw [HLN.out, List.append_nil]; exact HPU2.out.2.2.1, HAP2.out, HB9.out⟩
              case measure => simp [intOf]; omega
            · have j9 : (ac.key.cls == 0) = false := by rw [beq_eq_false_iff_ne]; exact hcl
              rw [if_neg hcl] at HIN HLN
              clear hcl
              go_upto_region 19 with (fail)
              have hal := ((Below.refl W7.heap.size W7).alloc (Nat.le_refl _) (.cells #[.string (bs ac.key.lin)] 22)).drew
              have HAL6 : Hid (Below W7.heap.size W7 (W7.alloc (.cells #[.string (bs ac.key.lin)] 22)).drew) := Lib.hid hal
              have HA6 : Hid ((W7.alloc (.cells #[.string (bs ac.key.lin)] 22)).drew.ownsRow (sb + 1) 3 1 (.slice A5 la2.length c5) la2.length (la2.flatMap inC)) := Lib.hid (own_next HA.out hal)
              have HI6 : Hid ((W7.alloc (.cells #[.string (bs ac.key.lin)] 22)).drew.ownsRow (sb + 1) 3 1 (.slice Ai li.length ci) li.length (li.flatMap inC)) := Lib.hid (own_next HI.out hal)
              have HL6 : Hid ((W7.alloc (.cells #[.string (bs ac.key.lin)] 22)).drew.ownsRow (sb + 1) 22 1 (.slice Al ll.length cl) ll.length (ll.flatMap fun s => [Value.string (bs s)])) := Lib.hid (own_next HL.out hal)
              have HZ6 : Hid (Blk (W7.alloc (.cells #[.string (bs ac.key.lin)] 22)).drew sb 36 #[.slice A5 la2.length c5, .slice Ai li.length ci, .slice Al ll.length cl]) := Lib.hid (HZ.out.next hal HZ.out.lt)
              have HW6 : Hid (Blk (W7.alloc (.cells #[.string (bs ac.key.lin)] 22)).drew wb 49 #[.pointer pb, .slice (some ⟨b, o', none⟩) l.length c1, vx, vg]) := Lib.hid (HWBX.out.next hal HWBX.out.lt)
              have HBL6 : Hid (b < (W7.alloc (.cells #[.string (bs ac.key.lin)] 22)).drew.heap.size) := Lib.hid (Nat.lt_of_lt_of_le hbl hal.size)
              have HBA := Lib.hid (HBW.out.trans (hal.mono (by have := HSZ.out; omega)))
              obtain ⟨i0, hi, hz0, hz1, hz2⟩ := info_parts infoSt
              clear hal
              refine wp_region_noPanic ?_
              refine wp_region_last (S := (fun (w' : World) => w'.cell? ⟨sb, 2, none⟩ = some (.slice Al ll.length cl) ∧ w'.cell? ⟨wb, 1, none⟩ = some (.slice (some ⟨b, o', none⟩) l.length c1) ∧ w'.cell? ⟨b, o' + k * 6 + 3, none⟩ = some (.string (bs ac.key.lin)))) 12 12 rfl (by kernel_rfl) (by kernel_rfl) ?_ (fun hHeld => ?_)
              · exact ⟨x2, w1c, y3⟩
              refine tk (v := ?_) 0 rfl (by kernel_rfl) (fun _ _ _ h => h) ?_ hHeld ?_
              rotate_left
              · (intro w h; (try dsimp only at h); go_simp; try with_reducible rfl)
              try simp only [Act.put, pB, pC, pD]
              refine tk (v := ?_) 1 rfl (by kernel_rfl) (fun _ _ _ h => h) ?_ hHeld ?_
              rotate_left
              · (intro w h; (try dsimp only at h); go_simp; try with_reducible rfl)
              try simp only [Act.put, pB, pC, pD]
              refine tk (v := ?_) 2 rfl (by kernel_rfl) (fun _ _ _ h => h) ?_ hHeld ?_
              rotate_left
              · (intro w h; (try dsimp only at h); go_simp; try with_reducible rfl)
              try simp only [Act.put, pB, pC, pD]
              refine tk (v := ?_) 3 rfl (by kernel_rfl) (fun _ _ _ h => h) ?_ hHeld ?_
              rotate_left
              · (intro w h; (try dsimp only at h); go_simp; try with_reducible rfl)
              try simp only [Act.put, pB, pC, pD]
              refine tk (v := ?_) 4 rfl (by kernel_rfl) (fun _ _ _ h => h) ?_ hHeld ?_
              rotate_left
              · (intro w h; (try dsimp only at h); go_simp; try with_reducible rfl)
              try simp only [Act.put, pB, pC, pD]
              refine tk (v := ?_) 5 rfl (by kernel_rfl) (fun _ _ _ h => h) ?_ hHeld ?_
              rotate_left
              · (intro w h; (try dsimp only at h); go_simp; try with_reducible rfl)
              try simp only [Act.put, pB, pC, pD]
              refine tk (v := ?_) 6 rfl (by kernel_rfl) (fun _ _ _ h => h) ?_ hHeld ?_
              rotate_left
              · (intro w h; (try dsimp only at h); go_simp; try with_reducible rfl)
              try simp only [Act.put, pB, pC, pD]
              refine tk (v := ?_) 7 rfl (by kernel_rfl) (fun _ _ _ h => h) ?_ hHeld ?_
              rotate_left
              · (intro w h; (try dsimp only at h); go_simp; try with_reducible rfl)
              try simp only [Act.put, pB, pC, pD]
              refine tk (v := ?_) 8 rfl (by kernel_rfl) (fun _ _ _ h => h) ?_ hHeld ?_
              rotate_left
              · (intro w h; (try dsimp only at h); go_simp; try with_reducible rfl)
              try simp only [Act.put, pB, pC, pD]
              refine wpAnyH_ready (rs := [9]) (by kernel_rfl) (by simp) ?_
              refine AllReadyH.cons rfl (fun K hK => ?_) AllReadyH.nil
              go_simp
              refine hK.out _ _ ?_ (fun hNew => ?_)
              · exact ⟨(World.cell?_alloc_lt W7 _ _ HZ.out.lt).trans x2, (World.cell?_alloc_lt W7 _ _ hwl).trans w1c, (World.cell?_alloc_lt W7 _ _ hbl).trans y3⟩
              clear hK K hHeld
              have hHeld := hNew
              clear hNew
              try simp only [Act.put, pB, pC, pD]
              refine wpAnyH_ready (rs := [10]) (by kernel_rfl) (by simp) ?_
              refine AllReadyH.cons rfl (fun K hK => ?_) AllReadyH.nil
              refine step_append_w _ (by rfl) _ _ _ (by rfl) (sb + 1) 22 i0 _ 1 16 Tryz.underlying34 hi hz0 hz1 hz2 rfl (by omega) (.slice Al ll.length cl) ll.length (ll.flatMap fun s => [Value.string (bs s)]) (by rfl) HL6.out (.slice (some ⟨W7.heap.size, 0, none⟩) 1 1) 1 [.string (bs ac.key.lin)] (by rfl) (show Rd 22 (W7.alloc (.cells #[.string (bs ac.key.lin)] 22)).drew _ 1 _ from Rd.of_own (own_new W7 0 22 1 [.string (bs ac.key.lin)] rfl (Nat.zero_le _))) (by omega) (by rfl) (by simp [Value.oneCell']) (by unfold maxLen; omega) (by omega) (by have := HSZ.out; simp; omega) ?_; intro v5 w5 hown5 hg5 hat5; obtain ⟨A5, c5, rfl, _⟩ := own_len hown5; have hz5 := HZ6.out.grown hg5 (fun e => own_blk_ne HL6.out HZ6.out (by decide) e.symm); have k0 := hz5.cell 2; have kf := hz5.frozen 2; have hw5 := HW6.out.grown hg5 (fun e => own_blk_ne HL6.out HW6.out (by decide) e.symm); have k1 := hw5.cell 1; have kb5 := hg5.block b HBL6.out (fun e => by have := own_ge HL6.out e.symm; have := HBS.out; omega); have k2 := (show w5.cell? ⟨b, o' + k * 6 + 3, none⟩ = (W7.alloc (.cells #[.string (bs ac.key.lin)] 22)).drew.cell? ⟨b, o' + k * 6 + 3, none⟩ by unfold World.cell?; rw [kb5]).trans ((HAL6.out.cell (p := ⟨b, o' + k * 6 + 3, none⟩) hbl).trans y3); clear kb5; (simp only [qB, qC, qD] at k0 k1); have HOWN5 := Lib.hid hown5; have HG5 := Lib.hid hg5; have HAT5 := Lib.hid hat5; clear hown5 hg5 hat5
              refine hK.out _ _ ?_ (fun hNew => ?_)
              · exact ⟨k0, k1, k2⟩
              clear hK K hHeld
              have hHeld := hNew
              clear hNew
              try simp only [Act.put, pB, pC, pD]
              refine tk (v := ?_) 11 rfl (by kernel_rfl) (fun _ _ _ h => h) ?_ hHeld ?_
              rotate_left
              · (intro w h; (try dsimp only at h); go_simp; try with_reducible rfl)
              try simp only [Act.put, pB, pC, pD]
              refine wpAnyH_done (by kernel_rfl) ?_ _
              refine lastQ_step rfl (fun K hK => ?_)
              clear hHeld
              go_simp
              refine hK _ _ ?_
              clear hK K
              refine NoPanic.normal ?_
              have hpu := slc_push (j := 2) HZ6.out HL6.out HA6.out (.inl (by decide)) (by decide) (by decide) HOWN5.out HG5.out (Nat.lt_succ_self sb)
              have hpu2 := slc_push (j := 2) HZ6.out HL6.out HI6.out (.inl (by decide)) (by decide) (by decide) HOWN5.out HG5.out (Nat.lt_succ_self sb)
              have HPU := Lib.hid hpu
              have HPU2 := Lib.hid hpu2
              have HB9 := Lib.hid (HBA.out.trans (hpu.2.2.2.mono (Nat.le_refl _)))
              clear hpu hpu2 HOWN5 HG5 HAT5 kf k0 k1 k2 hz5 hw5 i0 hi hz0 hz1 hz2
              go_wp2_with fail
              go_roundw
              case rel => exact ⟨k + 1, _, _, _, by have := HIL.out; omega, by go_num, HPU.out.1, by rw [HSE2.out]; exact HPU.out.2.2.1, by rw [HIN.out, List.append_nil]; exact HPU2.out.2.2.1, by rw [HLN.out, List.length_append, List.flatMap_append]; exact HPU.out.2.1, HAP.out, HB9.out⟩
              case measure => simp [intOf]; omega
        · have j3 : decide ((k : Int) < (l.length : Int)) = false := decide_eq_false (by omega)
          have HKN := Lib.hid (show k = I.length by have := HIL.out; have := HIK.out; omega)
          have HCL2 := Lib.hid (show Clo (lnkD l) ks o la by rw [← HLA.out, HKN.out]; exact HCL.out)
          have HTK := Lib.hid (show li = inpK ks la ∧ ll = linK ks la by
            have h1 : ks = (l.map Ac.key).take N := by rw [← HKS.out, List.map_take]
            have h2 := HCL2.out.rng
            rw [← HLI.out, ← HLL.out, HLA.out, h1]
            have h3 : ∀ i ∈ la, 0 ≤ i ∧ i < (N : Int) := fun i hi => by have := h2 i hi; have := HKL.out; omega
            exact ⟨(inpK_take _ N h3).symm, (linK_take _ N h3).symm⟩)
          have x2 := HZ.out.cell 2
          simp only [qB, qC, qD] at x2
          go_wp2_with fail
          go_at_call 50
          refine (lsort_is (show RdSt wr _ ll from Rd.of_own HL.out) (by rw [HTK.out.2]; exact linK_mem (fun kk hkk _ => by rw [← HKS.out] at hkk; obtain ⟨x, hx, rfl⟩ := List.mem_map.1 hkk; exact H5.out x (List.mem_of_mem_take hx))) (by omega)).mono ?_
          rintro e w8 ⟨v8, rfl, hrd8, hb8⟩
          obtain ⟨A8, c8, rfl, _⟩ := RdP.form hrd8
          have HR8 := Lib.hid hrd8
          have HA8 := Lib.hid (own_next HA.out hb8)
          have HI8 := Lib.hid (own_next HI.out hb8)
          have HZ8 := Lib.hid (HZ.out.next hb8 HZ.out.lt)
          have HB8 := Lib.hid (HBW.out.trans (hb8.mono (by have := HSZ.out; omega)))
          have hrs : rb < sb := by have := HBB.out; have := HSO.out; omega
          have HZR8 : Hid (Blk w8 rb 36 #[.slice none 0 0, .slice none 0 0, .slice none 0 0]) := Lib.hid ((HB8.out.block rb hrs).trans HZR2.out)
          have hne : rb ≠ sb := by omega
          have hne2 : sb ≠ rb := fun e => hne e.symm
          clear hrd8 hb8 x2 HA HI HL HZ
          have x0 := HZ8.out.cell 0
          have x1 := HZ8.out.cell 1
          have x2 := HZ8.out.cell 2
          have f2 := HZ8.out.frozen 2
          have r0 := HZR8.out.cell 0
          have r1 := HZR8.out.cell 1
          have r2 := HZR8.out.cell 2
          have g0 := HZR8.out.frozen 0
          have g1 := HZR8.out.frozen 1
          have g2 := HZR8.out.frozen 2
          simp only [qB, qC, qD] at x0 x1 x2 r0 r1 r2
          have hgs : w8.grownBy (w8.setCell ⟨sb, 2, none⟩ (.slice A8 (lsrt ll).length c8)) (some sb) := only_setCell (World.grownBy.refl w8 _) (.inl rfl) _
          have k1 : Kept [36] w8 (w8.setCell ⟨sb, 2, none⟩ (.slice A8 (lsrt ll).length c8)) := Kept.of_blk _ HZ8.out hgs rfl
          have hzr9 : Blk (w8.setCell ⟨sb, 2, none⟩ (.slice A8 (lsrt ll).length c8)) rb 36 #[.slice none 0 0, .slice none 0 0, .slice none 0 0] := (Below.heap_setCell w8 ⟨sb, 2, none⟩ (.slice A8 (lsrt ll).length c8) rb hne).trans HZR8.out
          have hg3 := set3 (w8.setCell ⟨sb, 2, none⟩ (.slice A8 (lsrt ll).length c8)) rb (.slice Aa la.length ca) (.slice Ai li.length ci) (.slice A8 (lsrt ll).length c8)
          have k2 := k1.trans (Kept.of_blk [36] hzr9 hg3 rfl)
          have HRA := Lib.hid (RdP.keep (show RdIn w8 (.slice Aa la.length ca) la from Rd.of_own HA8.out) k2 (by decide))
          have HRI := Lib.hid (RdP.keep (show RdIn w8 (.slice Ai li.length ci) li from Rd.of_own HI8.out) k2 (by decide))
          have HRS := Lib.hid (RdP.keep HR8.out k2 (by decide))
          have hb9 : Below rb w8 (w8.setCell ⟨sb, 2, none⟩ (.slice A8 (lsrt ll).length c8)) := (Below.refl rb w8).setCell (p := ⟨sb, 2, none⟩) (Nat.le_of_lt hrs) _
          have HBF := Lib.hid (HB2.out.trans (((HB8.out.mono (Nat.le_of_lt hrs)).trans (hb9.grown hg3 (by rw [World.size_setCell]; exact Nat.le_of_lt HZR8.out.lt) (fun k hk => by injection hk with hk; omega))).mono (by have := HBB.out; omega)))
          clear hgs k1 hzr9 hg3 k2 hb9
          go_wp2_with fail
          exact bodyPost_ret (v := .agg #[.slice Aa la.length ca, .slice Ai li.length ci, .slice A8 (lsrt ll).length c8]) (by simp [results, Tryz.results19, go_sem, r0, r1, r2]) rfl ⟨_, _, _, la, rfl, by rw [HKS.out]; exact HCL2.out, HRA.out, by rw [HKS.out, ← HTK.out.1]; exact HRI.out, by rw [HKS.out, ← HTK.out.2]; exact HRS.out, HBF.out⟩
end Go.Proofs.YtamjllakfgphnaaGreatDoor
namespace Go.Proofs.YtamjllakfgphnaaGreatDoor
open Go.ChangeShapes Go.WideShapes Go.ChangeAt Go.RowKit
set_option linter.unusedSimpArgs false
set_option linter.unusedVariables false
theorem own : ownKnob Tryz.prog.godebug = none := by kernel_rfl
theorem gTab : Tryz.prog.globalNamed "replevin/object.usages" = some 0 := by kernel_rfl
theorem tTab : (Tryz.prog.globals[0]?).map (·.type) = some 216 := by kernel_rfl
theorem cellsU : Tryz.prog.cellsOf 215 = 6 := by kernel_rfl
theorem cellsS : Tryz.prog.cellsOf 9 = 1 := by kernel_rfl
theorem cellsI : Tryz.prog.cellsOf 3 = 1 := by kernel_rfl
theorem cellsB : Tryz.prog.cellsOf 4 = 1 := by kernel_rfl
def useD {H : Type} (k : Nat) : DataW H := .agg [.lit (.string (useT k).word), .lit (.bool (useT k).owner), .lit (.bool (useT k).number), .lit (.bool (useT k).index), .lit (.bool (useT k).text), .lit (.int .i64 (useT k).most)]
def dataL {H : Type} : DataW H → List (DataW H)
  | .agg l => l
  | _ => []
theorem laid_at {H : Type} {k : Nat} (hk : k = 13 ∨ k = 15 ∨ k = 16 ∨ k = 17 ∨ k = 20) : (dataL (Rows.laid_replevin_object_usages : DataW H))[k]? = some (useD k) := by
  rcases hk with rfl | rfl | rfl | rfl | rfl <;> kernel_rfl
theorem at_of_take {α : Type} (l : List α) (a j : Nat) (v : α) (hj : j < 6) (h : (((l.drop a).take 6).drop j).take 1 = [v]) : l[a + j]? = some v := by
  have h0 : ((((l.drop a).take 6).drop j).take 1)[0]? = some v := by rw [h]; rfl
  rw [List.getElem?_take, if_pos (by omega), List.getElem?_drop, List.getElem?_take, if_pos (by omega), List.getElem?_drop] at h0
  simpa using h0
theorem use_of_laid {W : World} (h : laidMetH Tryz.prog [("replevin/object.usages", Rows.laid_replevin_object_usages)] W) : UseAt W := by
  rw [MakeChecks.laidMetH_plain _ _ _ (by kernel_rfl)] at h
  obtain ⟨ps, ⟨g0, t0, cs0, f0, p0, q0, hg0, ht0, hv0, hd0, _, _⟩, _, _⟩ := h
  obtain rfl := Option.some.inj (gTab.symm.trans hg0)
  obtain rfl := Option.some.inj (tTab.symm.trans ht0)
  have hcell : ∀ i, W.cell? ⟨0, i, none⟩ = cs0[i]? := fun i => World.var?_cell hg0 hv0 i
  obtain ⟨xs, m, _, hx, _, hlen, hel⟩ := DataW.trod_array Tryz.underlying216 hd0
  simp only [Prod.mk.injEq] at hx
  have hxs : ∀ k, (k = 13 ∨ k = 15 ∨ k = 16 ∨ k = 17 ∨ k = 20) → (xs.map (·.1))[k]? = some (useD k) := by
    intro k hk
    have h1 := laid_at (H := Unit) hk
    rw [hx.1] at h1
    exact h1
  have key : ∀ k, (k = 13 ∨ k = 15 ∨ k = 16 ∨ k = 17 ∨ k = 20) → cs0[k * 6]? = some (.string (bs (useT k).word)) ∧ cs0[k * 6 + 1]? = some (.bool (useT k).owner) ∧ cs0[k * 6 + 2]? = some (.bool (useT k).number) ∧ cs0[k * 6 + 3]? = some (.bool (useT k).index) ∧ cs0[k * 6 + 4]? = some (.bool (useT k).text) ∧ cs0[k * 6 + 5]? = some (.int .i64 (useT k).most) := by
    intro k hkk
    have hk : k < 21 := by omega
    have h1 := hel k hk
    have hxk : xs[k]? = some (xs[k]'(by omega)) := List.getElem?_eq_getElem (by omega)
    rw [hxk, cellsU] at h1
    have hd : (xs[k]'(by omega)).1 = useD k := by
      have := hxs k hkk
      simpa [hxk] using this
    obtain ⟨ys, n, _, hy, _, hyl, hf⟩ := DataW.trod_struct Tryz.underlying215 h1
    rw [hy] at hd
    simp only [useD, DataW.agg.injEq] at hd
    match ys, hyl, hd, hf with
    | [y0, y1, y2, y3, y4, y5], _, hd, hf =>
      simp only [List.map_cons, List.map_nil, List.cons.injEq, and_true] at hd
      obtain ⟨d0, d1, d2, d3, d4, d5⟩ := hd
      have g0 := hf 0 _ rfl
      have g1 := hf 1 _ rfl
      have g2 := hf 2 _ rfl
      have g3 := hf 3 _ rfl
      have g4 := hf 4 _ rfl
      have g5 := hf 5 _ rfl
      obtain ⟨s, e0, z0, _⟩ := DataW.trod_string Tryz.underlying9 g0
      obtain ⟨n1, e1, z1⟩ := DataW.trod_bool Tryz.underlying4 g1
      obtain ⟨n2, e2, z2⟩ := DataW.trod_bool Tryz.underlying4 g2
      obtain ⟨n3, e3, z3⟩ := DataW.trod_bool Tryz.underlying4 g3
      obtain ⟨n4, e4, z4⟩ := DataW.trod_bool Tryz.underlying4 g4
      obtain ⟨n5, e5, z5, _⟩ := DataW.trod_int Tryz.underlying3 g5
      rw [z0] at d0; rw [z1] at d1; rw [z2] at d2; rw [z3] at d3; rw [z4] at d4; rw [z5] at d5
      simp only [DataW.lit.injEq, Lit.string.injEq, Lit.int.injEq, Lit.bool.injEq, true_and] at d0 d1 d2 d3 d4 d5
      replace e0 : (((cs0.toList.drop (k * 6)).take 6).drop 0).take (Tryz.prog.cellsOf 9) = [.string s] := e0
      replace e1 : (((cs0.toList.drop (k * 6)).take 6).drop 1).take (Tryz.prog.cellsOf 4) = [.bool n1] := e1
      replace e2 : (((cs0.toList.drop (k * 6)).take 6).drop 2).take (Tryz.prog.cellsOf 4) = [.bool n2] := e2
      replace e3 : (((cs0.toList.drop (k * 6)).take 6).drop 3).take (Tryz.prog.cellsOf 4) = [.bool n3] := e3
      replace e4 : (((cs0.toList.drop (k * 6)).take 6).drop 4).take (Tryz.prog.cellsOf 4) = [.bool n4] := e4
      replace e5 : (((cs0.toList.drop (k * 6)).take 6).drop 5).take (Tryz.prog.cellsOf 3) = [.int .i64 n5] := e5
      rw [cellsS] at e0
      rw [cellsB] at e1 e2 e3 e4
      rw [cellsI] at e5
      have q0 := at_of_take _ _ 0 _ (by omega) e0
      have q1 := at_of_take _ _ 1 _ (by omega) e1
      have q2 := at_of_take _ _ 2 _ (by omega) e2
      have q3 := at_of_take _ _ 3 _ (by omega) e3
      have q4 := at_of_take _ _ 4 _ (by omega) e4
      have q5 := at_of_take _ _ 5 _ (by omega) e5
      have hs : s = bs (useT k).word := by
        rw [← d0]
        exact (bs_of s).symm
      rw [hs] at q0
      rw [d1] at q1; rw [d2] at q2; rw [d3] at q3; rw [d4] at q4; rw [d5] at q5
      simp only [Array.getElem?_toList, Nat.add_zero] at q0 q1 q2 q3 q4 q5
      exact ⟨q0, q1, q2, q3, q4, q5⟩
  refine ⟨?_, fun k hk => ?_⟩
  · have := (key 13 (.inl rfl)).1
    rw [← hcell] at this
    apply Nat.lt_of_not_le
    intro hle
    have h0 : W.heap[0]? = .none := by simp; exact Array.size_eq_zero_iff.1 (by omega)
    simp [World.cell?, h0] at this
  · simp only [hcell]
    exact key k hk
end Go.Proofs.YtamjllakfgphnaaGreatDoor
namespace Go.Proofs.YtamjllakfgphnaaGreatDoor
open Go.RowKit
set_option linter.unusedSimpArgs false
set_option linter.unusedVariables false
abbrev LW : List TypeId := [49]
theorem VAt.keepB {w w' : World} {F : Nat → Prop} {g : Nat} {s0 : St} {l : List Ac} (h : VAt w F g s0 l) (k : Kept LW w w') (m : KpM w w') : VAt w' F g s0 l := by
  obtain ⟨pb, va, vk, pl, bw, br, h⟩ := h
  exact ⟨pb, va, vk, pl, bw, br, ⟨h.blk.keep k rfl, h.fg, h.base.keep k rfl rfl, h.last.keep k rfl rfl, OwnAc.keep h.act k rfl rfl, h.actF, OwnKp.keep h.kp k rfl rfl rfl, h.kpF, h.wr.kept k m rfl (fun _ h => h), h.rd.kept k m rfl (fun _ h => h), h.ne⟩⟩
theorem GAt.keepB {w w' : World} {B g : Nat} {l : List Ac} (h : GAt w B g l) (k : Kept LW w w') (m : KpM w w') : GAt w' B g l := by
  obtain ⟨vk, vl, vu, bw, vL, vU, h⟩ := h
  exact ⟨vk, vl, vu, bw, vL, vU, ⟨h.blk.keep k rfl, h.gB, own_keep h.ky k rfl, h.lu.keep k rfl rfl, h.wr.kept k m rfl (fun _ h => h)⟩⟩
theorem world_set {w : World} {b : Nat} {cs : Array Value} (h : Blk w b 49 cs) (i : Nat) (v : Value) : Kept LW w (w.setCell ⟨b, i, none⟩ v) ∧ KpM w (w.setCell ⟨b, i, none⟩ v) := by
  have hg : w.grownBy (w.setCell ⟨b, i, none⟩ v) (some b) := only_setCell (only_of_below (Below.refl _ _) _) (.inl rfl) v
  exact ⟨Kept.of_blk _ h hg rfl, KpM.of_blk h hg⟩
end Go.Proofs.YtamjllakfgphnaaGreatDoor
namespace Go.Proofs.YtamjllakfgphnaaGreatDoor
open Go.RowKit
set_option linter.unusedSimpArgs false
set_option linter.unusedVariables false
attribute [local go_sem ↓] Go.wp_at_zero Go.wp_at_succ
def a54C (a : A54) : List Value := [.int .u8 a.wait, .int .u8 a.who, .int .u8 a.reads, .int .u8 a.writes, .string (bs a.value), .bool a.absent]
theorem a54C_len (a : A54) : (a54C a).length = 6 := rfl
def A54R (a : A54) : Prop := 0 ≤ a.wait ∧ 0 ≤ a.who ∧ 0 ≤ a.reads ∧ 0 ≤ a.writes ∧ a.wait < 256 ∧ a.who < 256
def A54At (B : Nat) (w : World) (v : Value) (l : List A54) : Prop := Ra B w v l.length (l.flatMap a54C) ∧ ∀ a ∈ l, A54R a
theorem A54At.below {B : Nat} {w w' : World} {v : Value} {l : List A54} (h : A54At B w v l) (hb : Below B w w') : A54At B w' v l := ⟨h.1.below hb, h.2⟩
theorem A54At.piece {B : Nat} {w : World} {A : Option Addr} {n c : Nat} {l : List A54} (h : A54At B w (.slice A n c) l) {k : Nat} (hk : k < l.length) : ∃ b o, A = some ⟨b, o, none⟩ ∧ b < B ∧
    w.cell? ⟨b, o + k * 6, none⟩ = some (.int .u8 l[k].wait) ∧ w.cell? ⟨b, o + k * 6 + 1, none⟩ = some (.int .u8 l[k].who) ∧ w.cell? ⟨b, o + k * 6 + 2, none⟩ = some (.int .u8 l[k].reads) ∧ w.cell? ⟨b, o + k * 6 + 3, none⟩ = some (.int .u8 l[k].writes) ∧ w.cell? ⟨b, o + k * 6 + 4, none⟩ = some (.string (bs l[k].value)) ∧ w.cell? ⟨b, o + k * 6 + 5, none⟩ = some (.bool l[k].absent) := by
  obtain ⟨b, o, c', hv, _, _, hb, hc⟩ := h.1.at_ (by omega)
  injection hv with hv _ _
  have hg := fun j v (hj : j < 6) (hv : (a54C l[k])[j]? = some v) => hc (k * 6 + j) v ((fm_get a54C_len l k hk j hj).trans hv)
  exact ⟨b, o, hv, hb, hg 0 _ (by omega) rfl, hg 1 _ (by omega) rfl, hg 2 _ (by omega) rfl, hg 3 _ (by omega) rfl, hg 4 _ (by omega) rfl, hg 5 _ (by omega) rfl⟩
theorem A54At.form {B : Nat} {w : World} {v : Value} {l : List A54} (h : A54At B w v l) : ∃ A c, v = .slice A l.length c ∧ l.length ≤ c ∧ c ≤ maxLen := h.1.form
theorem name_at0 (w : World) : (Instr.index 102 (.agg #[.string (bs [50]), .string (bs [50, 46, 49]), .string (bs [51]), .string (bs [49])]) (.int .u8 0)).run Tryz.prog w = .ok (.string (bs [50])) w := by kernel_rfl
theorem name_at1 (w : World) : (Instr.index 102 (.agg #[.string (bs [50]), .string (bs [50, 46, 49]), .string (bs [51]), .string (bs [49])]) (.int .u8 1)).run Tryz.prog w = .ok (.string (bs [50, 46, 49])) w := by kernel_rfl
theorem name_at2 (w : World) : (Instr.index 102 (.agg #[.string (bs [50]), .string (bs [50, 46, 49]), .string (bs [51]), .string (bs [49])]) (.int .u8 2)).run Tryz.prog w = .ok (.string (bs [51])) w := by kernel_rfl
theorem name_at3 (w : World) : (Instr.index 102 (.agg #[.string (bs [50]), .string (bs [50, 46, 49]), .string (bs [51]), .string (bs [49])]) (.int .u8 3)).run Tryz.prog w = .ok (.string (bs [49])) w := by kernel_rfl
def KBx (k : Ky) (W : World) (v : Value) (wx : World) : Prop := ∃ kb, v = .pointer (some ⟨kb, 0, none⟩) ∧ W.heap.size ≤ kb ∧ Blk wx kb 74 #[.int .i64 k.tick, .int .i64 k.cls, .int .i64 k.num, .string (bs k.lin)] ∧ Below W.heap.size W wx
theorem so_own {m : Nat} (hm : m < 4) : OwnE (so54.getD m obT) := by
  have h : m = 0 ∨ m = 1 ∨ m = 2 ∨ m = 3 := by omega
  unfold OwnE
  rcases h with rfl | rfl | rfl | rfl <;> rfl
theorem obs_take {m : Nat} (hm : m < 4) : obs.take (m + 1) = obs.take m ++ [obs.getD m (obT, 0)] := by
  rw [List.take_succ_eq_append_getElem (show m < obs.length from hm), List.getD_eq_getElem?_getD, List.getElem?_eq_getElem (show m < obs.length from hm)]
  rfl
theorem rds_take (s : St) (a : A54) {m d : Nat} {n : Nm} (hm : m < 4) (h1 : (obs.getD m (obT, 0)).2 = d) (h2 : (obs.getD m (obT, 0)).1 = n) : rdsU s a (m + 1) = rdsU s a m ++ (if hasB a.reads d then [rdC s n] else []) := by
  unfold rdsU
  rw [obs_take hm, List.filter_append, List.map_append]
  congr 1
  subst h1 h2
  generalize obs.getD m (obT, 0) = p
  by_cases h : hasB a.reads p.2 = true
  · simp [h]
  · simp [h]
theorem wrs_take (a : A54) {m d : Nat} {n : Nm} (hm : m < 4) (h1 : (obs.getD m (obT, 0)).2 = d) (h2 : (obs.getD m (obT, 0)).1 = n) : wrsU a (m + 1) = wrsU a m ++ (if hasB a.writes d then [wrC a n] else []) := by
  unfold wrsU
  rw [obs_take hm, List.filter_append, List.map_append]
  congr 1
  subst h1 h2
  generalize obs.getD m (obT, 0) = p
  by_cases h : hasB a.writes p.2 = true
  · simp [h]
  · simp [h]
theorem ext_n (l : Bs) (n : Nat) : (bs l).extract 0 n = bs (l.take n) := by
  rw [← bs_of ((bs l).extract 0 n), Lib.extract_data, bs_list]
  simp
theorem ext_m (l : Bs) : (bs l).extract 0 (min ((bs l).size : Int) 6).toNat = bs (l.take 6) := by
  rw [ext_n, bs_size, show (min (l.length : Int) 6).toNat = min 6 l.length by omega, ← List.take_take, List.take_length]
theorem ext6 (l : Bs) : (bs l).extract 0 6 = bs (l.take 6) := by
  rw [← bs_of ((bs l).extract 0 6), Lib.extract_data, bs_list]
  simp
theorem len6 {l : Bs} (h : ((bs l).size : Int) ≤ 6) : l.length ≤ 6 := by
  rw [bs_size] at h; omega
theorem good_ks {b : B54} {n : Nat} (hg : Good b n) : KS b.l := fun k hk => by
  have h1 := hg.app (k + 1) hk
  rw [List.take_succ_eq_append_getElem (show k < b.l.length by omega), appR_snoc (hg.all _ (List.getElem_mem hk)).2.1] at h1
  by_cases h : cmpK (b.l[k]'(by omega)).key (b.l[k + 1]'hk).key < 0
  · exact h
  · rw [if_neg h] at h1
    cases h1
theorem W54_ks (l : List A54) : KS (W54 l) := good_ks (good_W l)
def CRel (c : Nat) (W : World) (v : Value) (wr : World) : Prop := ∃ b : Nat, b ≤ c ∧ v = .int .i64 b ∧ Below W.heap.size W wr
theorem bit_at {m : Nat} (hm : m < 4) : ∃ c, c < 4 ∧ (obs.getD m (obT, 0)).2 = c ∧ (obs.getD m (obT, 0)).1 = so54.getD m obT ∧ ob54.getD c obT = so54.getD m obT ∧ ∀ b, b < c → ob54.getD b obT ≠ so54.getD m obT := by
  have h : m = 0 ∨ m = 1 ∨ m = 2 ∨ m = 3 := by omega
  rcases h with rfl | rfl | rfl | rfl
  · exact ⟨2, by decide, rfl, rfl, by decide +kernel, by decide +kernel⟩
  · exact ⟨3, by decide, rfl, rfl, by decide +kernel, by decide +kernel⟩
  · exact ⟨0, by decide, rfl, rfl, by decide +kernel, by decide +kernel⟩
  · exact ⟨1, by decide, rfl, rfl, by decide +kernel, by decide +kernel⟩
def JRel (a : A54) (now : St) (ky : Ky) (xb : Nat) (W : World) (v : Value) (wr : World) : Prop := ∃ (m : Nat) (rv wv : Value), m ≤ 4 ∧ v = .int .i64 m ∧ Blk wr xb 77 #[.int .i64 ky.tick, .int .i64 ky.cls, .int .i64 ky.num, .string (bs ky.lin), rv, wv] ∧ OwnP 105 7 chC wr W.heap.size rv (rdsU now a m) ∧ OwnP 105 7 chC wr W.heap.size wv (wrsU a m) ∧ Apart rv wv ∧ Below xb W wr
def B54P (l : List A54) (w : World) (e : Ending) (w' : World) : Prop := ∃ pb lv gx gg F B', e = .returned (.tuple #[.agg #[.pointer pb, lv, .pointer (some ⟨gx, 0, none⟩), .pointer (some ⟨gg, 0, none⟩)], .bool true]) ∧ StAt w' pb base54 ∧ RdAc w' lv (W54 l) ∧ VAt w' F gx base54 (W54 l) ∧ GAt w' B' gg (W54 l) ∧ (∀ i, F i → w.heap.size ≤ i) ∧ Below w.heap.size w w'
def B54Rel (l : List A54) (B0 rb wb : Nat) (W : World) (v5 v6 v7 v8 : Value) (wr : World) : Prop := ∃ (k : Nat) (q pb : Option Addr) (lv : Value), k ≤ l.length ∧ k ≤ 20 ∧ v8 = .int .i64 k ∧ v7 = .int .i64 (fold54 (l.take k)).inp ∧ v6 = .int .i64 (fold54 (l.take k)).tick ∧ v5 = .pointer q ∧ StAt wr q (fold54 (l.take k)).now ∧ StAt wr pb base54 ∧ OwnAc wr B0 lv (fold54 (l.take k)).l ∧ Blk wr wb 49 #[.pointer pb, lv, .pointer none, .pointer none] ∧ Blk wr rb 49 #[.pointer none, .slice none 0 0, .pointer none, .pointer none] ∧ Below B0 W wr
set_option maxRecDepth 100000 in
set_option maxHeartbeats 16000000 in
theorem build54_is {w : World} {v : Value} {l : List A54} (h : A54At w.heap.size w v l) (hu : UseAt w) : Calls Tryz.prog 13 #[v] w (B54P l w) := by
  obtain ⟨A, c, rfl, hc, hcm⟩ := h.form
  have hlm : l.length ≤ 9223372036854775807 := by unfold maxLen at hcm; omega
  have zr0 := (Blk.new w 49 #[.pointer none, .slice none 0 0, .pointer none, .pointer none]).next ((Below.refl (w.alloc (.cells #[.pointer none, .slice none 0 0, .pointer none, .pointer none] 49)).heap.size (w.alloc (.cells #[.pointer none, .slice none 0 0, .pointer none, .pointer none] 49))).alloc (Nat.le_refl _) (.cells #[.pointer none, .slice none 0 0, .pointer none, .pointer none] 49)) (by simp)
  have zw0 := Blk.new (w.alloc (.cells #[.pointer none, .slice none 0 0, .pointer none, .pointer none] 49)) 49 #[.pointer none, .slice none 0 0, .pointer none, .pointer none]
  rw [World.size_alloc] at zw0
  have ha := ((Below.refl w.heap.size w).alloc (Nat.le_refl _) (.cells #[.pointer none, .slice none 0 0, .pointer none, .pointer none] 49)).alloc (by simp) (.cells #[.pointer none, .slice none 0 0, .pointer none, .pointer none] 49)
  have HA := Lib.hid h
  have HU0 := Lib.hid hu
  have HU := Lib.hid (hu.below ha)
  have HB0 := Lib.hid ha
  have ZR0 := Lib.hid zr0
  have ZW0 := Lib.hid zw0
  clear h hu ha zr0 zw0 hc hcm
  go_enter Tryz.func13, Tryz.ntmps13
  go_upto_region 2 with (fail)
  generalize (w.alloc (.cells #[.pointer none, .slice none 0 0, .pointer none, .pointer none] 49)).alloc (.cells #[.pointer none, .slice none 0 0, .pointer none, .pointer none] 49) = W at *
  obtain ⟨wb, hwb⟩ : ∃ x, w.heap.size + 1 = x := ⟨_, rfl⟩
  have HWB := Lib.hid hwb
  rw [hwb] at ZW0 ⊢
  obtain ⟨rb, hrb⟩ : ∃ x, w.heap.size = x := ⟨_, rfl⟩
  have HRB := Lib.hid hrb
  rw [hrb] at ZR0 HB0 ⊢
  clear hwb hrb
  go_wp2_with (go_at_call 34; refine (new_is _).mono ?_)
  rintro e w1 ⟨p0, rfl, hp0, hb1⟩
  have HP0 := Lib.hid hp0
  have HB1 := Lib.hid hb1
  clear hp0 hb1
  go_wp2_with (go_at_call 36; refine (box_is [98] _).mono ?_)
  rintro e w2 ⟨rfl, hb2⟩
  have HB2 := Lib.hid (HB1.out.trans (hb2.mono HB1.out.size))
  have HP2 := Lib.hid (HP0.out.next hb2)
  clear hb2 HB1 HP0
  go_wp2_with fail
  refine (with_st (n := obB) (v := [98, 97, 115, 101]) HP2.out (by unfold IsOb; decide +kernel) (HU.out.below HB2.out) (by simp) st0_v.sm).mono ?_
  rintro e w3 ⟨q0, rfl, hq0, hb3⟩
  have HB3 := Lib.hid (HB2.out.trans (hb3.mono HB2.out.size))
  have HQ0 := Lib.hid (show StAt w3 q0 base54 from hq0)
  have ZW3 := Lib.hid (ZW0.out.next HB3.out ZW0.out.lt)
  have ZR3 := Lib.hid (ZR0.out.next HB3.out ZR0.out.lt)
  have x0 := ZW3.out.cell 0
  have f0 := ZW3.out.frozen 0
  simp only [qB, qC, qD] at x0
  clear hq0 hb3 HP2 HB2
  go_upto_region 3 with (fail)
  have hg3 : w3.grownBy (w3.setCell ⟨wb, 0, none⟩ (.pointer q0)) (some wb) := only_setCell (only_of_below (Below.refl _ _) _) (.inl rfl) _
  have k3 : Kept [49] w3 (w3.setCell ⟨wb, 0, none⟩ (.pointer q0)) := Kept.of_blk _ ZW3.out hg3 rfl
  have HQ4 := Lib.hid (HQ0.out.keep k3 rfl rfl)
  have ZW4 : Hid (Blk (w3.setCell ⟨wb, 0, none⟩ (.pointer q0)) wb 49 #[.pointer q0, .slice none 0 0, .pointer none, .pointer none]) := Lib.hid (ZW3.out.set_ 0 (.pointer q0))
  have ZR4 := Lib.hid (ZR3.out.far (p := ⟨wb, 0, none⟩) (show rb ≠ wb by have := HWB.out; have := HRB.out; omega) (.pointer q0))
  have HB4 : Hid (Below rb w (w3.setCell ⟨wb, 0, none⟩ (.pointer q0))) := Lib.hid ((HB0.out.trans (HB3.out.mono (by have := HB0.out.size; have := HRB.out; omega))).setCell (p := ⟨wb, 0, none⟩) (by have := HWB.out; have := HRB.out; show rb ≤ wb; omega) _)
  clear x0 f0 hg3 k3 HQ0 ZW3 ZR3 HB3 ZR0 ZW0
  generalize w3.setCell ⟨wb, 0, none⟩ (.pointer q0) = w4 at *
  have x0 := ZW4.out.cell 0
  simp only [qB, qC, qD] at x0
  have H0 : Hid (B54Rel l rb rb wb w (.pointer q0) (.int .i64 0) (.int .i64 0) (.int .i64 (0 : Nat)) w4) := Lib.hid ⟨0, q0, q0, .slice none 0 0, Nat.zero_le _, Nat.zero_le _, rfl, rfl, rfl, rfl, HQ4.out, HQ4.out, RowOwn.nil, ZW4.out, ZR4.out, HB4.out⟩
  go_upto_region 5 with (fail)
  clear x0
  go_loopw [5, 6, 7, 8] (fun v5 v6 v7 v8 wr => B54Rel l rb rb wb w v5 v6 v7 v8 wr) (fun _ _ _ v8 _ => 20 - (intOf v8).toNat)
  case atStart => exact H0.out
  case round =>
    clear H0 ZW4 ZR4 HB4 HQ4
    rw [HRB.out] at HA
    obtain ⟨k, q, pb, lv, hkl, hk20, rfl, rfl, rfl, rfl, hst0, hstb, hac, hzw, hzr, hbw⟩ := hrel
    have HBW := Lib.hid hbw
    clear hbw
    by_cases hk : k < l.length
    · by_cases hk2 : k < 20
      · have HK2 := Lib.hid hk2
        have j1 : (0 : Int) ≤ (k : Int) := by omega
        have j2 : (k : Int) < (l.length : Int) := by omega
        have j3 : decide ((k : Int) < (l.length : Int)) = true := decide_eq_true j2
        have j4 : decide ((k : Int) < 20) = true := decide_eq_true (by omega)
        obtain ⟨ba, oa, hAe, hba, y0, y1, y2, y3, y4, y5⟩ := A54At.piece (HA.out.below HBW.out) hk
        subst hAe
        have HGD := Lib.hid (good_fold l k (by omega) (by omega))
        have HST := Lib.hid (fold54_take l k hk)
        have har := HA.out.2 _ (List.getElem_mem hk)
        obtain ⟨a, hae⟩ : ∃ a, l[k] = a := ⟨_, rfl⟩
        rw [hae] at y0 y1 y2 y3 y4 y5 har HST
        clear hae
        obtain ⟨b, hb⟩ : ∃ b, fold54 (l.take k) = b := ⟨_, rfl⟩
        rw [hb] at HGD HST hst0 hac ⊢
        clear hb
        obtain ⟨hw0, hwt⟩ : 0 ≤ a.who ∧ 0 ≤ a.wait := ⟨har.2.1, har.1⟩
        have em2 : Int.tmod a.wait 2 = a.wait % 2 := Int.tmod_eq_emod_of_nonneg hwt
        have em21 : 0 ≤ a.wait % 2 := Int.emod_nonneg _ (by decide)
        have em22 : a.wait % 2 < 2 := Int.emod_lt_of_pos _ (by decide)
        have ht0 : 0 ≤ b.tick := HGD.out.t0
        have ht1 : b.tick ≤ 40 := by have := HGD.out.t1; omega
        have hi0 : 0 ≤ b.inp := HGD.out.i0
        have hi1 : b.inp ≤ 20 := by have := HGD.out.i1; omega
        obtain ⟨tkv, htk⟩ : ∃ t, b.tick = t := ⟨_, rfl⟩
        obtain ⟨ip, hip⟩ : ∃ t, b.inp = t := ⟨_, rfl⟩
        rw [htk] at ht0 ht1 ⊢
        rw [hip] at hi0 hi1 ⊢
        have HTK := Lib.hid htk
        have HIP := Lib.hid hip
        have HS0 := Lib.hid hst0
        have HSB := Lib.hid hstb
        have HAC := Lib.hid hac
        have HZW := Lib.hid hzw
        have HZR := Lib.hid hzr
        clear htk hip hst0 hstb hac hzw hzr har
        go_upto_region 8 with (fail)
        have hbb := (Below.refl wr.heap.size wr).alloc (Nat.le_refl _) (.cells #[.int .u8 a.wait, .int .u8 a.who, .int .u8 a.reads, .int .u8 a.writes, .string (bs a.value), .bool a.absent] 93)
        have ZA := Lib.hid (Blk.new wr 93 #[.int .u8 a.wait, .int .u8 a.who, .int .u8 a.reads, .int .u8 a.writes, .string (bs a.value), .bool a.absent])
        have HS1 := Lib.hid (HS0.out.next hbb)
        have HSB1 := Lib.hid (HSB.out.next hbb)
        have HAC1 := Lib.hid (OwnAc.next HAC.out hbb)
        have HZW1 := Lib.hid (HZW.out.next hbb HZW.out.lt)
        have HZR1 := Lib.hid (HZR.out.next hbb HZR.out.lt)
        have HBW1 := Lib.hid (HBW.out.trans (hbb.mono (HRB.out ▸ HBW.out.size)))
        clear y0 y1 y2 y3 y4 y5 hbb HS0 HSB HAC HZW HZR HBW hba
        generalize wr.alloc (.cells #[.int .u8 a.wait, .int .u8 a.who, .int .u8 a.reads, .int .u8 a.writes, .string (bs a.value), .bool a.absent] 93) = W5 at *
        obtain ⟨ab, habe⟩ : ∃ ab, wr.heap.size = ab := ⟨_, rfl⟩
        rw [habe] at ZA ⊢
        clear habe
        have x0 := ZA.out.cell 0
        have x1 := ZA.out.cell 1
        simp only [qB, qC, qD] at x0 x1
        have hab := ZA.out.lt
        go_upto_region 9 with (fail)
        obtain ⟨T, hT⟩ : ∃ T, tkv + 1 + a.wait % 2 = T := ⟨_, rfl⟩
        rw [hT]
        have HT := Lib.hid hT
        clear hT x0 em2 em21 em22 hwt
        go_cut [10] (fun v wx => KBx ⟨T, 2, 0, lin4 (a.who % 4)⟩ W5 v wx)
        case first =>
          have h4 : a.who % 4 = 0 ∨ a.who % 4 = 1 ∨ a.who % 4 = 2 ∨ a.who % 4 = 3 := by omega
          rcases h4 with h4 | h4 | h4 | h4
          · have em4 : Int.tmod a.who 4 = 0 := by rw [Int.tmod_eq_emod_of_nonneg hw0]; exact h4
            have hix := name_at0
            have HL4 := Lib.hid (show lin4 (a.who % 4) = [50] by rw [h4]; rfl)
            clear h4
            refine wp_region_noPanic ?_
            refine wp_region_last (S := (fun (w' : World) => w'.cell? ⟨ab, 1, none⟩ = some (.int .u8 a.who))) 8 8 rfl (by kernel_rfl) (by kernel_rfl) ?_ (fun hHeld => ?_)
            · exact x1
            refine tk (v := ?_) 0 rfl (by kernel_rfl) (fun _ _ _ h => h) ?_ hHeld ?_
            rotate_left
            · (intro w h; (try dsimp only at h); go_simp; try with_reducible rfl)
            try simp only [Act.put, pB, pC, pD]
            refine tk (v := ?_) 2 rfl (by kernel_rfl) (fun _ _ _ h => h) ?_ hHeld ?_
            rotate_left
            · (intro w h; (try dsimp only at h); go_simp; try with_reducible rfl)
            try simp only [Act.put, pB, pC, pD]
            refine tk (v := ?_) 3 rfl (by kernel_rfl) (fun _ _ _ h => h) ?_ hHeld ?_
            rotate_left
            · (intro w h; (try dsimp only at h); go_simp; try with_reducible rfl)
            try simp only [Act.put, pB, pC, pD]
            refine tk (v := ?_) 4 rfl (by kernel_rfl) (fun _ _ _ h => h) ?_ hHeld ?_
            rotate_left
            · (intro w h; (try dsimp only at h); go_simp; try with_reducible rfl)
            try simp only [Act.put, pB, pC, pD]
            refine wpAnyH_ready (rs := [1, 7]) (by kernel_rfl) (by simp) ?_
            refine AllReadyH.cons rfl (fun K hK => ?_) (AllReadyH.cons rfl (fun K hK => ?_) AllReadyH.nil)
            · go_simp
              refine (names54_is W5.drew).mono ?_; rintro e w6 ⟨rfl, hb6'⟩; unfold names54; have hb6 := (Below.refl W5.heap.size W5).drew.trans hb6'; have HB6 := Lib.hid hb6; have hab6 := Nat.lt_of_lt_of_le hab hb6.size; clear hb6'
              try (go_wp2_with fail)
              refine hK.out _ _ ?_ (fun hNew => ?_)
              · exact (hb6.cell (p := ⟨ab, 1, none⟩) hab).trans x1
              clear hK K hHeld
              have hHeld := hNew
              clear hNew
              try simp only [Act.put, pB, pC, pD]
              refine tk (v := ?_) 5 rfl (by kernel_rfl) (fun _ _ _ h => h) ?_ hHeld ?_
              rotate_left
              · (intro w h; (try dsimp only at h); go_simp; try with_reducible rfl)
              try simp only [Act.put, pB, pC, pD]
              refine tk (v := ?_) 6 rfl (by kernel_rfl) (fun _ _ _ h => h) ?_ hHeld ?_
              rotate_left
              · (intro w h; (try dsimp only at h); go_simp; try with_reducible rfl)
              try simp only [Act.put, pB, pC, pD]
              refine wpAnyH_ready (rs := [7]) (by kernel_rfl) (by simp) ?_
              refine AllReadyH.cons rfl (fun K hK => ?_) AllReadyH.nil
              go_simp
              refine hK.out _ _ ?_ (fun hNew => ?_)
              · exact (World.cell?_alloc_lt w6 _ _ hab6).trans ((hb6.cell (p := ⟨ab, 1, none⟩) hab).trans x1)
              clear hK K hHeld
              have hHeld := hNew
              clear hNew
              try simp only [Act.put, pB, pC, pD]
              refine wpAnyH_done (by kernel_rfl) ?_ _
              refine lastQ_step rfl (fun K hK => ?_)
              clear hHeld
              go_simp
              refine hK _ _ ?_
              clear hK K
              refine NoPanic.normal ?_
              go_wp2_with fail
              go_meet
              case rel => rw [HL4.out]; exact ⟨w6.heap.size, rfl, HB6.out.size, Blk.new _ _ _, HB6.out.alloc HB6.out.size _⟩
            · go_simp
              refine hK.out _ _ ?_ (fun hNew => ?_)
              · exact (World.cell?_alloc_lt W5 _ _ hab).trans x1
              clear hK K hHeld
              have hHeld := hNew
              clear hNew
              try simp only [Act.put, pB, pC, pD]
              refine wpAnyH_ready (rs := [1]) (by kernel_rfl) (by simp) ?_
              refine AllReadyH.cons rfl (fun K hK => ?_) AllReadyH.nil
              go_simp
              have hbx := ((Below.refl W5.heap.size W5).alloc (Nat.le_refl _) (.cells #[.int .i64 0, .int .i64 0, .int .i64 0, .string ⟨#[]⟩] 74)).drew; have zq := Blk.new W5 74 #[.int .i64 0, .int .i64 0, .int .i64 0, .string ⟨#[]⟩]; refine (names54_is _).mono ?_; rintro e w6 ⟨rfl, hb6'⟩; unfold names54; have hb6 := hbx.trans (hb6'.mono hbx.size); have HB6 := Lib.hid hb6; have ZQ := Lib.hid (zq.drew.next hb6' zq.lt); have q0 := ZQ.out.cell 0; have p0 := ZQ.out.frozen 0; have q1 := ZQ.out.cell 1; have p1 := ZQ.out.frozen 1; have q2 := ZQ.out.cell 2; have p2 := ZQ.out.frozen 2; have q3 := ZQ.out.cell 3; have p3 := ZQ.out.frozen 3; (simp only [qB, qC, qD] at q0 q1 q2 q3); clear hb6' hbx zq
              try (go_wp2_with fail)
              refine hK.out _ _ ?_ (fun hNew => ?_)
              · exact (hb6.cell (p := ⟨ab, 1, none⟩) hab).trans x1
              clear hK K hHeld
              have hHeld := hNew
              clear hNew
              try simp only [Act.put, pB, pC, pD]
              refine tk (v := ?_) 5 rfl (by kernel_rfl) (fun _ _ _ h => h) ?_ hHeld ?_
              rotate_left
              · (intro w h; (try dsimp only at h); go_simp; try with_reducible rfl)
              try simp only [Act.put, pB, pC, pD]
              refine tk (v := ?_) 6 rfl (by kernel_rfl) (fun _ _ _ h => h) ?_ hHeld ?_
              rotate_left
              · (intro w h; (try dsimp only at h); go_simp; try with_reducible rfl)
              try simp only [Act.put, pB, pC, pD]
              refine wpAnyH_done (by kernel_rfl) ?_ _
              refine lastQ_step rfl (fun K hK => ?_)
              clear hHeld
              go_simp
              refine hK _ _ ?_
              clear hK K
              refine NoPanic.normal ?_
              go_wp2_with fail
              go_meet
              case rel => rw [HL4.out]; exact ⟨W5.heap.size, rfl, Nat.le_refl _, ((((ZQ.out.set_ 0 (.int .i64 T)).set_ 1 (.int .i64 2)).set_ 2 (.int .i64 0)).set_ 3 (.string (bs [50]))), ((((HB6.out.setCell (p := ⟨W5.heap.size, 0, none⟩) (Nat.le_refl _) _).setCell (p := ⟨W5.heap.size, 1, none⟩) (Nat.le_refl _) _).setCell (p := ⟨W5.heap.size, 2, none⟩) (Nat.le_refl _) _).setCell (p := ⟨W5.heap.size, 3, none⟩) (Nat.le_refl _) _)⟩
          · have em4 : Int.tmod a.who 4 = 1 := by rw [Int.tmod_eq_emod_of_nonneg hw0]; exact h4
            have hix := name_at1
            have HL4 := Lib.hid (show lin4 (a.who % 4) = [50, 46, 49] by rw [h4]; rfl)
            clear h4
            refine wp_region_noPanic ?_
            refine wp_region_last (S := (fun (w' : World) => w'.cell? ⟨ab, 1, none⟩ = some (.int .u8 a.who))) 8 8 rfl (by kernel_rfl) (by kernel_rfl) ?_ (fun hHeld => ?_)
            · exact x1
            refine tk (v := ?_) 0 rfl (by kernel_rfl) (fun _ _ _ h => h) ?_ hHeld ?_
            rotate_left
            · (intro w h; (try dsimp only at h); go_simp; try with_reducible rfl)
            try simp only [Act.put, pB, pC, pD]
            refine tk (v := ?_) 2 rfl (by kernel_rfl) (fun _ _ _ h => h) ?_ hHeld ?_
            rotate_left
            · (intro w h; (try dsimp only at h); go_simp; try with_reducible rfl)
            try simp only [Act.put, pB, pC, pD]
            refine tk (v := ?_) 3 rfl (by kernel_rfl) (fun _ _ _ h => h) ?_ hHeld ?_
            rotate_left
            · (intro w h; (try dsimp only at h); go_simp; try with_reducible rfl)
            try simp only [Act.put, pB, pC, pD]
            refine tk (v := ?_) 4 rfl (by kernel_rfl) (fun _ _ _ h => h) ?_ hHeld ?_
            rotate_left
            · (intro w h; (try dsimp only at h); go_simp; try with_reducible rfl)
            try simp only [Act.put, pB, pC, pD]
            refine wpAnyH_ready (rs := [1, 7]) (by kernel_rfl) (by simp) ?_
            refine AllReadyH.cons rfl (fun K hK => ?_) (AllReadyH.cons rfl (fun K hK => ?_) AllReadyH.nil)
            · go_simp
              refine (names54_is W5.drew).mono ?_; rintro e w6 ⟨rfl, hb6'⟩; unfold names54; have hb6 := (Below.refl W5.heap.size W5).drew.trans hb6'; have HB6 := Lib.hid hb6; have hab6 := Nat.lt_of_lt_of_le hab hb6.size; clear hb6'
              try (go_wp2_with fail)
              refine hK.out _ _ ?_ (fun hNew => ?_)
              · exact (hb6.cell (p := ⟨ab, 1, none⟩) hab).trans x1
              clear hK K hHeld
              have hHeld := hNew
              clear hNew
              try simp only [Act.put, pB, pC, pD]
              refine tk (v := ?_) 5 rfl (by kernel_rfl) (fun _ _ _ h => h) ?_ hHeld ?_
              rotate_left
              · (intro w h; (try dsimp only at h); go_simp; try with_reducible rfl)
              try simp only [Act.put, pB, pC, pD]
              refine tk (v := ?_) 6 rfl (by kernel_rfl) (fun _ _ _ h => h) ?_ hHeld ?_
              rotate_left
              · (intro w h; (try dsimp only at h); go_simp; try with_reducible rfl)
              try simp only [Act.put, pB, pC, pD]
              refine wpAnyH_ready (rs := [7]) (by kernel_rfl) (by simp) ?_
              refine AllReadyH.cons rfl (fun K hK => ?_) AllReadyH.nil
              go_simp
              refine hK.out _ _ ?_ (fun hNew => ?_)
              · exact (World.cell?_alloc_lt w6 _ _ hab6).trans ((hb6.cell (p := ⟨ab, 1, none⟩) hab).trans x1)
              clear hK K hHeld
              have hHeld := hNew
              clear hNew
              try simp only [Act.put, pB, pC, pD]
              refine wpAnyH_done (by kernel_rfl) ?_ _
              refine lastQ_step rfl (fun K hK => ?_)
              clear hHeld
              go_simp
              refine hK _ _ ?_
              clear hK K
              refine NoPanic.normal ?_
              go_wp2_with fail
              go_meet
              case rel => rw [HL4.out]; exact ⟨w6.heap.size, rfl, HB6.out.size, Blk.new _ _ _, HB6.out.alloc HB6.out.size _⟩
            · go_simp
              refine hK.out _ _ ?_ (fun hNew => ?_)
              · exact (World.cell?_alloc_lt W5 _ _ hab).trans x1
              clear hK K hHeld
              have hHeld := hNew
              clear hNew
              try simp only [Act.put, pB, pC, pD]
              refine wpAnyH_ready (rs := [1]) (by kernel_rfl) (by simp) ?_
              refine AllReadyH.cons rfl (fun K hK => ?_) AllReadyH.nil
              go_simp
              have hbx := ((Below.refl W5.heap.size W5).alloc (Nat.le_refl _) (.cells #[.int .i64 0, .int .i64 0, .int .i64 0, .string ⟨#[]⟩] 74)).drew; have zq := Blk.new W5 74 #[.int .i64 0, .int .i64 0, .int .i64 0, .string ⟨#[]⟩]; refine (names54_is _).mono ?_; rintro e w6 ⟨rfl, hb6'⟩; unfold names54; have hb6 := hbx.trans (hb6'.mono hbx.size); have HB6 := Lib.hid hb6; have ZQ := Lib.hid (zq.drew.next hb6' zq.lt); have q0 := ZQ.out.cell 0; have p0 := ZQ.out.frozen 0; have q1 := ZQ.out.cell 1; have p1 := ZQ.out.frozen 1; have q2 := ZQ.out.cell 2; have p2 := ZQ.out.frozen 2; have q3 := ZQ.out.cell 3; have p3 := ZQ.out.frozen 3; (simp only [qB, qC, qD] at q0 q1 q2 q3); clear hb6' hbx zq
              try (go_wp2_with fail)
              refine hK.out _ _ ?_ (fun hNew => ?_)
              · exact (hb6.cell (p := ⟨ab, 1, none⟩) hab).trans x1
              clear hK K hHeld
              have hHeld := hNew
              clear hNew
              try simp only [Act.put, pB, pC, pD]
              refine tk (v := ?_) 5 rfl (by kernel_rfl) (fun _ _ _ h => h) ?_ hHeld ?_
              rotate_left
              · (intro w h; (try dsimp only at h); go_simp; try with_reducible rfl)
              try simp only [Act.put, pB, pC, pD]
              refine tk (v := ?_) 6 rfl (by kernel_rfl) (fun _ _ _ h => h) ?_ hHeld ?_
              rotate_left
              · (intro w h; (try dsimp only at h); go_simp; try with_reducible rfl)
              try simp only [Act.put, pB, pC, pD]
              refine wpAnyH_done (by kernel_rfl) ?_ _
              refine lastQ_step rfl (fun K hK => ?_)
              clear hHeld
              go_simp
              refine hK _ _ ?_
              clear hK K
              refine NoPanic.normal ?_
              go_wp2_with fail
              go_meet
              case rel => rw [HL4.out]; exact ⟨W5.heap.size, rfl, Nat.le_refl _, ((((ZQ.out.set_ 0 (.int .i64 T)).set_ 1 (.int .i64 2)).set_ 2 (.int .i64 0)).set_ 3 (.string (bs [50, 46, 49]))), ((((HB6.out.setCell (p := ⟨W5.heap.size, 0, none⟩) (Nat.le_refl _) _).setCell (p := ⟨W5.heap.size, 1, none⟩) (Nat.le_refl _) _).setCell (p := ⟨W5.heap.size, 2, none⟩) (Nat.le_refl _) _).setCell (p := ⟨W5.heap.size, 3, none⟩) (Nat.le_refl _) _)⟩
          · have em4 : Int.tmod a.who 4 = 2 := by rw [Int.tmod_eq_emod_of_nonneg hw0]; exact h4
            have hix := name_at2
            have HL4 := Lib.hid (show lin4 (a.who % 4) = [51] by rw [h4]; rfl)
            clear h4
            refine wp_region_noPanic ?_
            refine wp_region_last (S := (fun (w' : World) => w'.cell? ⟨ab, 1, none⟩ = some (.int .u8 a.who))) 8 8 rfl (by kernel_rfl) (by kernel_rfl) ?_ (fun hHeld => ?_)
            · exact x1
            refine tk (v := ?_) 0 rfl (by kernel_rfl) (fun _ _ _ h => h) ?_ hHeld ?_
            rotate_left
            · (intro w h; (try dsimp only at h); go_simp; try with_reducible rfl)
            try simp only [Act.put, pB, pC, pD]
            refine tk (v := ?_) 2 rfl (by kernel_rfl) (fun _ _ _ h => h) ?_ hHeld ?_
            rotate_left
            · (intro w h; (try dsimp only at h); go_simp; try with_reducible rfl)
            try simp only [Act.put, pB, pC, pD]
            refine tk (v := ?_) 3 rfl (by kernel_rfl) (fun _ _ _ h => h) ?_ hHeld ?_
            rotate_left
            · (intro w h; (try dsimp only at h); go_simp; try with_reducible rfl)
            try simp only [Act.put, pB, pC, pD]
            refine tk (v := ?_) 4 rfl (by kernel_rfl) (fun _ _ _ h => h) ?_ hHeld ?_
            rotate_left
            · (intro w h; (try dsimp only at h); go_simp; try with_reducible rfl)
            try simp only [Act.put, pB, pC, pD]
            refine wpAnyH_ready (rs := [1, 7]) (by kernel_rfl) (by simp) ?_
            refine AllReadyH.cons rfl (fun K hK => ?_) (AllReadyH.cons rfl (fun K hK => ?_) AllReadyH.nil)
            · go_simp
              refine (names54_is W5.drew).mono ?_; rintro e w6 ⟨rfl, hb6'⟩; unfold names54; have hb6 := (Below.refl W5.heap.size W5).drew.trans hb6'; have HB6 := Lib.hid hb6; have hab6 := Nat.lt_of_lt_of_le hab hb6.size; clear hb6'
              try (go_wp2_with fail)
              refine hK.out _ _ ?_ (fun hNew => ?_)
              · exact (hb6.cell (p := ⟨ab, 1, none⟩) hab).trans x1
              clear hK K hHeld
              have hHeld := hNew
              clear hNew
              try simp only [Act.put, pB, pC, pD]
              refine tk (v := ?_) 5 rfl (by kernel_rfl) (fun _ _ _ h => h) ?_ hHeld ?_
              rotate_left
              · (intro w h; (try dsimp only at h); go_simp; try with_reducible rfl)
              try simp only [Act.put, pB, pC, pD]
              refine tk (v := ?_) 6 rfl (by kernel_rfl) (fun _ _ _ h => h) ?_ hHeld ?_
              rotate_left
              · (intro w h; (try dsimp only at h); go_simp; try with_reducible rfl)
              try simp only [Act.put, pB, pC, pD]
              refine wpAnyH_ready (rs := [7]) (by kernel_rfl) (by simp) ?_
              refine AllReadyH.cons rfl (fun K hK => ?_) AllReadyH.nil
              go_simp
              refine hK.out _ _ ?_ (fun hNew => ?_)
              · exact (World.cell?_alloc_lt w6 _ _ hab6).trans ((hb6.cell (p := ⟨ab, 1, none⟩) hab).trans x1)
              clear hK K hHeld
              have hHeld := hNew
              clear hNew
              try simp only [Act.put, pB, pC, pD]
              refine wpAnyH_done (by kernel_rfl) ?_ _
              refine lastQ_step rfl (fun K hK => ?_)
              clear hHeld
              go_simp
              refine hK _ _ ?_
              clear hK K
              refine NoPanic.normal ?_
              go_wp2_with fail
              go_meet
              case rel => rw [HL4.out]; exact ⟨w6.heap.size, rfl, HB6.out.size, Blk.new _ _ _, HB6.out.alloc HB6.out.size _⟩
            · go_simp
              refine hK.out _ _ ?_ (fun hNew => ?_)
              · exact (World.cell?_alloc_lt W5 _ _ hab).trans x1
              clear hK K hHeld
              have hHeld := hNew
              clear hNew
              try simp only [Act.put, pB, pC, pD]
              refine wpAnyH_ready (rs := [1]) (by kernel_rfl) (by simp) ?_
              refine AllReadyH.cons rfl (fun K hK => ?_) AllReadyH.nil
              go_simp
              have hbx := ((Below.refl W5.heap.size W5).alloc (Nat.le_refl _) (.cells #[.int .i64 0, .int .i64 0, .int .i64 0, .string ⟨#[]⟩] 74)).drew; have zq := Blk.new W5 74 #[.int .i64 0, .int .i64 0, .int .i64 0, .string ⟨#[]⟩]; refine (names54_is _).mono ?_; rintro e w6 ⟨rfl, hb6'⟩; unfold names54; have hb6 := hbx.trans (hb6'.mono hbx.size); have HB6 := Lib.hid hb6; have ZQ := Lib.hid (zq.drew.next hb6' zq.lt); have q0 := ZQ.out.cell 0; have p0 := ZQ.out.frozen 0; have q1 := ZQ.out.cell 1; have p1 := ZQ.out.frozen 1; have q2 := ZQ.out.cell 2; have p2 := ZQ.out.frozen 2; have q3 := ZQ.out.cell 3; have p3 := ZQ.out.frozen 3; (simp only [qB, qC, qD] at q0 q1 q2 q3); clear hb6' hbx zq
              try (go_wp2_with fail)
              refine hK.out _ _ ?_ (fun hNew => ?_)
              · exact (hb6.cell (p := ⟨ab, 1, none⟩) hab).trans x1
              clear hK K hHeld
              have hHeld := hNew
              clear hNew
              try simp only [Act.put, pB, pC, pD]
              refine tk (v := ?_) 5 rfl (by kernel_rfl) (fun _ _ _ h => h) ?_ hHeld ?_
              rotate_left
              · (intro w h; (try dsimp only at h); go_simp; try with_reducible rfl)
              try simp only [Act.put, pB, pC, pD]
              refine tk (v := ?_) 6 rfl (by kernel_rfl) (fun _ _ _ h => h) ?_ hHeld ?_
              rotate_left
              · (intro w h; (try dsimp only at h); go_simp; try with_reducible rfl)
              try simp only [Act.put, pB, pC, pD]
              refine wpAnyH_done (by kernel_rfl) ?_ _
              refine lastQ_step rfl (fun K hK => ?_)
              clear hHeld
              go_simp
              refine hK _ _ ?_
              clear hK K
              refine NoPanic.normal ?_
              go_wp2_with fail
              go_meet
              case rel => rw [HL4.out]; exact ⟨W5.heap.size, rfl, Nat.le_refl _, ((((ZQ.out.set_ 0 (.int .i64 T)).set_ 1 (.int .i64 2)).set_ 2 (.int .i64 0)).set_ 3 (.string (bs [51]))), ((((HB6.out.setCell (p := ⟨W5.heap.size, 0, none⟩) (Nat.le_refl _) _).setCell (p := ⟨W5.heap.size, 1, none⟩) (Nat.le_refl _) _).setCell (p := ⟨W5.heap.size, 2, none⟩) (Nat.le_refl _) _).setCell (p := ⟨W5.heap.size, 3, none⟩) (Nat.le_refl _) _)⟩
          · have em4 : Int.tmod a.who 4 = 3 := by rw [Int.tmod_eq_emod_of_nonneg hw0]; exact h4
            have hix := name_at3
            have HL4 := Lib.hid (show lin4 (a.who % 4) = [49] by rw [h4]; rfl)
            clear h4
            refine wp_region_noPanic ?_
            refine wp_region_last (S := (fun (w' : World) => w'.cell? ⟨ab, 1, none⟩ = some (.int .u8 a.who))) 8 8 rfl (by kernel_rfl) (by kernel_rfl) ?_ (fun hHeld => ?_)
            · exact x1
            refine tk (v := ?_) 0 rfl (by kernel_rfl) (fun _ _ _ h => h) ?_ hHeld ?_
            rotate_left
            · (intro w h; (try dsimp only at h); go_simp; try with_reducible rfl)
            try simp only [Act.put, pB, pC, pD]
            refine tk (v := ?_) 2 rfl (by kernel_rfl) (fun _ _ _ h => h) ?_ hHeld ?_
            rotate_left
            · (intro w h; (try dsimp only at h); go_simp; try with_reducible rfl)
            try simp only [Act.put, pB, pC, pD]
            refine tk (v := ?_) 3 rfl (by kernel_rfl) (fun _ _ _ h => h) ?_ hHeld ?_
            rotate_left
            · (intro w h; (try dsimp only at h); go_simp; try with_reducible rfl)
            try simp only [Act.put, pB, pC, pD]
            refine tk (v := ?_) 4 rfl (by kernel_rfl) (fun _ _ _ h => h) ?_ hHeld ?_
            rotate_left
            · (intro w h; (try dsimp only at h); go_simp; try with_reducible rfl)
            try simp only [Act.put, pB, pC, pD]
            refine wpAnyH_ready (rs := [1, 7]) (by kernel_rfl) (by simp) ?_
            refine AllReadyH.cons rfl (fun K hK => ?_) (AllReadyH.cons rfl (fun K hK => ?_) AllReadyH.nil)
            · go_simp
              refine (names54_is W5.drew).mono ?_; rintro e w6 ⟨rfl, hb6'⟩; unfold names54; have hb6 := (Below.refl W5.heap.size W5).drew.trans hb6'; have HB6 := Lib.hid hb6; have hab6 := Nat.lt_of_lt_of_le hab hb6.size; clear hb6'
              try (go_wp2_with fail)
              refine hK.out _ _ ?_ (fun hNew => ?_)
              · exact (hb6.cell (p := ⟨ab, 1, none⟩) hab).trans x1
              clear hK K hHeld
              have hHeld := hNew
              clear hNew
              try simp only [Act.put, pB, pC, pD]
              refine tk (v := ?_) 5 rfl (by kernel_rfl) (fun _ _ _ h => h) ?_ hHeld ?_
              rotate_left
              · (intro w h; (try dsimp only at h); go_simp; try with_reducible rfl)
              try simp only [Act.put, pB, pC, pD]
              refine tk (v := ?_) 6 rfl (by kernel_rfl) (fun _ _ _ h => h) ?_ hHeld ?_
              rotate_left
              · (intro w h; (try dsimp only at h); go_simp; try with_reducible rfl)
              try simp only [Act.put, pB, pC, pD]
              refine wpAnyH_ready (rs := [7]) (by kernel_rfl) (by simp) ?_
              refine AllReadyH.cons rfl (fun K hK => ?_) AllReadyH.nil
              go_simp
              refine hK.out _ _ ?_ (fun hNew => ?_)
              · exact (World.cell?_alloc_lt w6 _ _ hab6).trans ((hb6.cell (p := ⟨ab, 1, none⟩) hab).trans x1)
              clear hK K hHeld
              have hHeld := hNew
              clear hNew
              try simp only [Act.put, pB, pC, pD]
              refine wpAnyH_done (by kernel_rfl) ?_ _
              refine lastQ_step rfl (fun K hK => ?_)
              clear hHeld
              go_simp
              refine hK _ _ ?_
              clear hK K
              refine NoPanic.normal ?_
              go_wp2_with fail
              go_meet
              case rel => rw [HL4.out]; exact ⟨w6.heap.size, rfl, HB6.out.size, Blk.new _ _ _, HB6.out.alloc HB6.out.size _⟩
            · go_simp
              refine hK.out _ _ ?_ (fun hNew => ?_)
              · exact (World.cell?_alloc_lt W5 _ _ hab).trans x1
              clear hK K hHeld
              have hHeld := hNew
              clear hNew
              try simp only [Act.put, pB, pC, pD]
              refine wpAnyH_ready (rs := [1]) (by kernel_rfl) (by simp) ?_
              refine AllReadyH.cons rfl (fun K hK => ?_) AllReadyH.nil
              go_simp
              have hbx := ((Below.refl W5.heap.size W5).alloc (Nat.le_refl _) (.cells #[.int .i64 0, .int .i64 0, .int .i64 0, .string ⟨#[]⟩] 74)).drew; have zq := Blk.new W5 74 #[.int .i64 0, .int .i64 0, .int .i64 0, .string ⟨#[]⟩]; refine (names54_is _).mono ?_; rintro e w6 ⟨rfl, hb6'⟩; unfold names54; have hb6 := hbx.trans (hb6'.mono hbx.size); have HB6 := Lib.hid hb6; have ZQ := Lib.hid (zq.drew.next hb6' zq.lt); have q0 := ZQ.out.cell 0; have p0 := ZQ.out.frozen 0; have q1 := ZQ.out.cell 1; have p1 := ZQ.out.frozen 1; have q2 := ZQ.out.cell 2; have p2 := ZQ.out.frozen 2; have q3 := ZQ.out.cell 3; have p3 := ZQ.out.frozen 3; (simp only [qB, qC, qD] at q0 q1 q2 q3); clear hb6' hbx zq
              try (go_wp2_with fail)
              refine hK.out _ _ ?_ (fun hNew => ?_)
              · exact (hb6.cell (p := ⟨ab, 1, none⟩) hab).trans x1
              clear hK K hHeld
              have hHeld := hNew
              clear hNew
              try simp only [Act.put, pB, pC, pD]
              refine tk (v := ?_) 5 rfl (by kernel_rfl) (fun _ _ _ h => h) ?_ hHeld ?_
              rotate_left
              · (intro w h; (try dsimp only at h); go_simp; try with_reducible rfl)
              try simp only [Act.put, pB, pC, pD]
              refine tk (v := ?_) 6 rfl (by kernel_rfl) (fun _ _ _ h => h) ?_ hHeld ?_
              rotate_left
              · (intro w h; (try dsimp only at h); go_simp; try with_reducible rfl)
              try simp only [Act.put, pB, pC, pD]
              refine wpAnyH_done (by kernel_rfl) ?_ _
              refine lastQ_step rfl (fun K hK => ?_)
              clear hHeld
              go_simp
              refine hK _ _ ?_
              clear hK K
              refine NoPanic.normal ?_
              go_wp2_with fail
              go_meet
              case rel => rw [HL4.out]; exact ⟨W5.heap.size, rfl, Nat.le_refl _, ((((ZQ.out.set_ 0 (.int .i64 T)).set_ 1 (.int .i64 2)).set_ 2 (.int .i64 0)).set_ 3 (.string (bs [49]))), ((((HB6.out.setCell (p := ⟨W5.heap.size, 0, none⟩) (Nat.le_refl _) _).setCell (p := ⟨W5.heap.size, 1, none⟩) (Nat.le_refl _) _).setCell (p := ⟨W5.heap.size, 2, none⟩) (Nat.le_refl _) _).setCell (p := ⟨W5.heap.size, 3, none⟩) (Nat.le_refl _) _)⟩
        case rest =>
          obtain ⟨kb, rfl, hkb, hzk, hbc⟩ := hcut
          have ZK := Lib.hid hzk
          have ZA2 := Lib.hid (ZA.out.next hbc ZA.out.lt)
          have x1 := ZA2.out.cell 1
          have z0 := ZK.out.cell 0
          have z1 := ZK.out.cell 1
          have z2 := ZK.out.cell 2
          have z3 := ZK.out.cell 3
          have f0 := ZK.out.frozen 0
          have f1 := ZK.out.frozen 1
          have f2 := ZK.out.frozen 2
          have f3 := ZK.out.frozen 3
          simp only [qB, qC, qD] at x1 z0 z1 z2 z3
          have HBC := Lib.hid hbc
          have em5 : Int.tmod a.who 5 = a.who % 5 := Int.tmod_eq_emod_of_nonneg hw0
          obtain ⟨bq, hbq⟩ : ∃ bq, (a.who % 5 == 4) = bq := ⟨_, rfl⟩
          have HBQ := Lib.hid hbq
          clear hzk hbc hw0
          go_upto_if 64 with (fail)
          go_cut [7] (fun v wx => v = .int .i64 (inp54 ip a) ∧ Blk wx kb 74 #[.int .i64 (key54 T ip a).tick, .int .i64 (key54 T ip a).cls, .int .i64 (key54 T ip a).num, .string (bs (key54 T ip a).lin)] ∧ Below W5.heap.size W5 wx)
          case first =>
            cases bq with
            | true =>
              have H5 := Lib.hid (show a.who % 5 = 4 from by have := HBQ.out; rwa [beq_iff_eq] at this)
              go_wp2_with fail
              go_meet
              case rel =>
                refine ⟨by unfold inp54; rw [if_pos H5.out], ?_, ?_⟩
                · unfold key54
                  rw [if_pos H5.out]
                  exact (((ZK.out.set_ 0 (.int .i64 T)).set_ 1 (.int .i64 0)).set_ 2 (.int .i64 (ip + 1))).set_ 3 (.string ⟨#[]⟩)
                · exact (((HBC.out.setCell (p := ⟨kb, 0, none⟩) hkb _).setCell (p := ⟨kb, 1, none⟩) hkb _).setCell (p := ⟨kb, 2, none⟩) hkb _).setCell (p := ⟨kb, 3, none⟩) hkb _
            | false =>
              have H5 := Lib.hid (show ¬ a.who % 5 = 4 from by have := HBQ.out; rwa [beq_eq_false_iff_ne] at this)
              go_wp2_with fail
              go_meet
              case rel =>
                refine ⟨by unfold inp54; rw [if_neg H5.out], ?_, HBC.out⟩
                unfold key54
                rw [if_neg H5.out]
                exact ZK.out
          case rest =>
            clear z0 z1 z2 z3 f0 f1 f2 f3 x1 em5 hbq HBQ HBC ZK ZA2
            obtain ⟨rfl, hzk, hbc⟩ := hcut
            obtain ⟨ky, hky⟩ : ∃ ky, key54 T ip a = ky := ⟨_, rfl⟩
            rw [hky] at hzk
            have HKY := Lib.hid hky
            have z0 := hzk.cell 0
            have z1 := hzk.cell 1
            have z2 := hzk.cell 2
            have z3 := hzk.cell 3
            simp only [qB, qC, qD] at z0 z1 z2 z3
            have HBC := Lib.hid hbc
            obtain ⟨i2, hi2⟩ : ∃ i2, inp54 ip a = i2 := ⟨_, rfl⟩
            have HI2 := Lib.hid hi2
            rw [hi2]
            clear hky hi2 hbc
            go_upto_region 14 with (fail)
            have ZX := Lib.hid (Blk.new wc 77 #[.int .i64 ky.tick, .int .i64 ky.cls, .int .i64 ky.num, .string (bs ky.lin), .slice none 0 0, .slice none 0 0])
            have hbx := (Below.refl wc.heap.size wc).alloc (Nat.le_refl _) (.cells #[.int .i64 ky.tick, .int .i64 ky.cls, .int .i64 ky.num, .string (bs ky.lin), .slice none 0 0, .slice none 0 0] 77)
            have HBX := Lib.hid (HBC.out.trans (hbx.mono HBC.out.size))
            have HBXX := Lib.hid hbx
            clear z0 z1 z2 z3 hzk hbx
            generalize wc.alloc (.cells #[.int .i64 ky.tick, .int .i64 ky.cls, .int .i64 ky.num, .string (bs ky.lin), .slice none 0 0, .slice none 0 0] 77) = W6 at *
            obtain ⟨xb, hxb⟩ : ∃ x, wc.heap.size = x := ⟨_, rfl⟩
            have hx5 : W5.heap.size ≤ xb := by rw [← hxb]; exact HBC.out.size
            rw [hxb] at ZX ⊢
            clear hxb HBC HBXX
            have HS2 := Lib.hid (HS1.out.next HBX.out)
            have ZA6 := Lib.hid (ZA.out.next HBX.out ZA.out.lt)
            have H0 : Hid (JRel a b.now ky xb W6 (.int .i64 (0 : Nat)) W6) := Lib.hid ⟨0, .slice none 0 0, .slice none 0 0, by omega, rfl, ZX.out, OwnP.nil, OwnP.nil, (fun g h => by cases h), Below.refl _ _⟩
            have hx6 : xb < W6.heap.size := ZX.out.lt
            clear hkb
            go_upto_region 15 with (fail)
            go_loopw [12] (fun v wr => JRel a b.now ky xb W6 v wr) (fun v _ => 4 - (intOf v).toNat)
            case atStart => exact H0.out
            case round =>
              clear H0 ZX
              obtain ⟨m, rv, wv, hm4, rfl, hzx, hrv, hwv, hap, hbj⟩ := hrel
              have ZX := Lib.hid hzx
              have HRV := Lib.hid hrv
              have HWV := Lib.hid hwv
              have HAP := Lib.hid hap
              have HBJ := Lib.hid hbj
              clear hzx hrv hwv hap hbj
              by_cases hm : m < 4
              · have j5 : (0 : Int) ≤ (m : Int) := by omega
                have j6 : (m : Int) < 4 := by omega
                have j7 : decide ((m : Int) < 4) = true := decide_eq_true j6
                have ONCE : True := trivial
                go_wp2_with (clear ONCE; go_at_call 38; refine (sorted54_is _).mono ?_)
                rintro e w5 ⟨g5, c5, rfl, how5, hb5⟩
                have HB5 := Lib.hid hb5
                clear how5 hb5
                go_wp2_with (go_at_call 38; refine (sorted54_is _).mono ?_)
                rintro e w6 ⟨g6, c6, rfl, how6, hb6⟩
                have HB6 := Lib.hid (HB5.out.trans (hb6.mono HB5.out.size))
                obtain ⟨bb, oo, hbe, hbr, t0, t1, t2, t3, t4⟩ := RdNm.piece (show RdNm w6 (.slice (some ⟨g6, 0, none⟩) so54.length c6) so54 from Rd.of_own how6) (k := m) (show m < so54.length from hm)
                injection hbe with hbe
                injection hbe with e1 e2
                subst e1 e2
                simp only [Nat.zero_add] at t0 t1 t2 t3 t4
                obtain ⟨n, hn⟩ : ∃ n, so54[m]'(show m < so54.length from hm) = n := ⟨_, rfl⟩
                rw [hn] at t0 t1 t2 t3 t4
                have HN := Lib.hid hn
                clear hn how6 hb6 HB5
                go_upto_region 18 with (fail)
                have hbn := (Below.refl w6.heap.size w6).alloc (Nat.le_refl _) (.cells #[.int .i64 n.kind, .string (bs n.owner), .int .i64 n.num, .int .i64 n.idx, .string (bs n.text)] 26)
                have zb := Blk.new w6 26 #[.int .i64 n.kind, .string (bs n.owner), .int .i64 n.num, .int .i64 n.idx, .string (bs n.text)]
                have HB7 := Lib.hid (HB6.out.trans (hbn.mono HB6.out.size))
                have hxr : xb < wr.heap.size := ZX.out.lt
                have ZX7 := Lib.hid (ZX.out.next HB7.out hxr)
                have HRV7 := Lib.hid (OwnP.next HRV.out HB7.out)
                have HWV7 := Lib.hid (OwnP.next HWV.out HB7.out)
                have HBJ7 := Lib.hid (HBJ.out.trans (HB7.out.mono (Nat.le_of_lt hxr)))
                have v0 := zb.cell 0
                have v1 := zb.cell 1
                have v2 := zb.cell 2
                have v3 := zb.cell 3
                have v4 := zb.cell 4
                have hnb := zb.lt
                simp only [qB, qC, qD] at v0 v1 v2 v3 v4
                have ZN := Lib.hid zb
                clear t0 t1 t2 t3 t4 hbn zb ZX HRV HWV HBJ HB7 HB6 hbr
                generalize w6.alloc (.cells #[.int .i64 n.kind, .string (bs n.owner), .int .i64 n.num, .int .i64 n.idx, .string (bs n.text)] 26) = W7 at *
                generalize w6.heap.size = nb at *
                obtain ⟨cbit, hc4, hcb, hcn, hce, hcl⟩ := bit_at hm
                have HCB := Lib.hid hcb
                have HCN := Lib.hid hcn
                have HNN := Lib.hid (show so54.getD m obT = n by rw [← HN.out, List.getD_eq_getElem?_getD, List.getElem?_eq_getElem (show m < so54.length from hm)]; rfl)
                rw [HNN.out] at hce hcl
                have HCE := Lib.hid hce
                have HCL := Lib.hid hcl
                clear hcb hcn hce hcl
                have V0 := Lib.hid v0
                have V1 := Lib.hid v1
                have V2 := Lib.hid v2
                have V3 := Lib.hid v3
                have V4 := Lib.hid v4
                clear v0 v1 v2 v3 v4
                have H0 : Hid (CRel cbit W7 (.int .i64 (0 : Nat)) W7) := Lib.hid ⟨0, Nat.zero_le _, rfl, Below.refl _ _⟩
                go_upto_region 19 with (fail)
                go_loopw [14] (fun v wr => CRel cbit W7 v wr) (fun v _ => 5 - (intOf v).toNat)
                case atStart => exact H0.out
                case round =>
                  clear H0
                  obtain ⟨d, hdc, rfl, hbd⟩ := hrel
                  have HBD := Lib.hid hbd
                  clear hbd
                  have k1 : (0 : Int) ≤ (d : Int) := by omega
                  have k2 : (d : Int) < 4 := by omega
                  have hd8 : d < ob54.length := by show d < 4; omega
                  have v0 := (HBD.out.cell (p := ⟨nb, 0, none⟩) hnb).trans V0.out
                  have v1 := (HBD.out.cell (p := ⟨nb, 1, none⟩) hnb).trans V1.out
                  have v2 := (HBD.out.cell (p := ⟨nb, 2, none⟩) hnb).trans V2.out
                  have v3 := (HBD.out.cell (p := ⟨nb, 3, none⟩) hnb).trans V3.out
                  have v4 := (HBD.out.cell (p := ⟨nb, 4, none⟩) hnb).trans V4.out
                  have hnr := Nat.lt_of_lt_of_le hnb HBD.out.size
                  obtain ⟨bq, hbq⟩ : ∃ bq, decide (ob54.getD d obT = n) = bq := ⟨_, rfl⟩
                  obtain ⟨on, hon⟩ : ∃ on, ob54.getD d obT = on := ⟨_, rfl⟩
                  have HON := Lib.hid (show ob54[d]'hd8 = on by rw [← hon, List.getD_eq_getElem?_getD, List.getElem?_eq_getElem hd8]; rfl)
                  have HOQ := Lib.hid hon
                  rw [hon] at hbq
                  have he := fun W => neqNm on n bq hbq W
                  have hg := guardNm
                  unfold nmV nmA at he
                  have HBQ := Lib.hid hbq
                  clear hbq hon
                  go_upto_region 19 with (fail)
                  refine wp_region_noPanic ?_
                  refine wp_region_held_drew (S := (fun (w' : World) => w'.cell? ⟨nb, 0, none⟩ = some (.int .i64 n.kind) ∧ w'.cell? ⟨nb, 1, none⟩ = some (.string (bs n.owner)) ∧ w'.cell? ⟨nb, 2, none⟩ = some (.int .i64 n.num) ∧ w'.cell? ⟨nb, 3, none⟩ = some (.int .i64 n.idx) ∧ w'.cell? ⟨nb, 4, none⟩ = some (.string (bs n.text)))) (by kernel_rfl) ?_ (fun hHeld => ?_)
                  · exact ⟨v0, v1, v2, v3, v4⟩
                  refine tk (v := ?_) 1 rfl (by kernel_rfl) (fun _ _ _ h => h) ?_ hHeld ?_
                  rotate_left
                  · (intro w h; (try dsimp only at h); go_simp; try with_reducible rfl)
                  try simp only [Act.put, pB, pC, pD]
                  refine tk (v := ?_) 4 rfl (by kernel_rfl) (fun _ _ _ h => h) ?_ hHeld ?_
                  rotate_left
                  · (intro w h; (try dsimp only at h); go_simp; try with_reducible rfl)
                  try simp only [Act.put, pB, pC, pD]
                  refine wpAnyH_ready (rs := [0]) (by kernel_rfl) (by simp) ?_
                  refine AllReadyH.cons rfl (fun K hK => ?_) AllReadyH.nil
                  go_simp
                  refine (objects_is wr.drew).mono ?_; rintro e w9 ⟨go, co, rfl, how9, hb9'⟩; have hb9 := (Below.refl wr.heap.size wr).drew.trans hb9'; have HB9 := Lib.hid hb9; clear hb9'
                  try (go_wp2_with fail)
                  refine hK.out _ _ ?_ (fun hNew => ?_)
                  · exact ⟨(hb9.cell (p := ⟨nb, 0, none⟩) hnr).trans v0, (hb9.cell (p := ⟨nb, 1, none⟩) hnr).trans v1, (hb9.cell (p := ⟨nb, 2, none⟩) hnr).trans v2, (hb9.cell (p := ⟨nb, 3, none⟩) hnr).trans v3, (hb9.cell (p := ⟨nb, 4, none⟩) hnr).trans v4⟩
                  clear hK K hHeld
                  have hHeld := hNew
                  clear hNew
                  try simp only [Act.put, pB, pC, pD]
                  have yy := RdNm.piece (show RdNm w9 (.slice (some ⟨go, 0, none⟩) ob54.length co) ob54 from Rd.of_own how9) (k := d) hd8
                  obtain ⟨b9, o9, hbe9, hbr9, y0, y1, y2, y3, y4⟩ := yy
                  injection hbe9 with hbe9
                  injection hbe9 with e1 e2
                  subst e1 e2
                  simp only [Nat.zero_add] at y0 y1 y2 y3 y4
                  rw [HON.out] at y0 y1 y2 y3 y4
                  refine wpAnyH_more (S' := (fun (w' : World) => (w'.cell? ⟨nb, 0, none⟩ = some (.int .i64 n.kind) ∧ w'.cell? ⟨nb, 1, none⟩ = some (.string (bs n.owner)) ∧ w'.cell? ⟨nb, 2, none⟩ = some (.int .i64 n.num) ∧ w'.cell? ⟨nb, 3, none⟩ = some (.int .i64 n.idx) ∧ w'.cell? ⟨nb, 4, none⟩ = some (.string (bs n.text))) ∧ w'.cell? ⟨go, d * 5, none⟩ = some (.int .i64 on.kind) ∧ w'.cell? ⟨go, d * 5 + 1, none⟩ = some (.string (bs on.owner)) ∧ w'.cell? ⟨go, d * 5 + 2, none⟩ = some (.int .i64 on.num) ∧ w'.cell? ⟨go, d * 5 + 3, none⟩ = some (.int .i64 on.idx) ∧ w'.cell? ⟨go, d * 5 + 4, none⟩ = some (.string (bs on.text)))) (fun _ h => h.1) ?_
                  clear hHeld
                  have hHeld : (fun (w' : World) => (w'.cell? ⟨nb, 0, none⟩ = some (.int .i64 n.kind) ∧ w'.cell? ⟨nb, 1, none⟩ = some (.string (bs n.owner)) ∧ w'.cell? ⟨nb, 2, none⟩ = some (.int .i64 n.num) ∧ w'.cell? ⟨nb, 3, none⟩ = some (.int .i64 n.idx) ∧ w'.cell? ⟨nb, 4, none⟩ = some (.string (bs n.text))) ∧ w'.cell? ⟨go, d * 5, none⟩ = some (.int .i64 on.kind) ∧ w'.cell? ⟨go, d * 5 + 1, none⟩ = some (.string (bs on.owner)) ∧ w'.cell? ⟨go, d * 5 + 2, none⟩ = some (.int .i64 on.num) ∧ w'.cell? ⟨go, d * 5 + 3, none⟩ = some (.int .i64 on.idx) ∧ w'.cell? ⟨go, d * 5 + 4, none⟩ = some (.string (bs on.text))) _ := ⟨⟨(hb9.cell (p := ⟨nb, 0, none⟩) hnr).trans v0, (hb9.cell (p := ⟨nb, 1, none⟩) hnr).trans v1, (hb9.cell (p := ⟨nb, 2, none⟩) hnr).trans v2, (hb9.cell (p := ⟨nb, 3, none⟩) hnr).trans v3, (hb9.cell (p := ⟨nb, 4, none⟩) hnr).trans v4⟩, y0, y1, y2, y3, y4⟩
                  refine tk (v := ?_) 2 rfl (by kernel_rfl) (fun _ _ _ h => h) ?_ hHeld ?_
                  rotate_left
                  · (intro w h; (try dsimp only at h); go_simp; try with_reducible rfl)
                  try simp only [Act.put, pB, pC, pD]
                  refine tk (v := ?_) 3 rfl (by kernel_rfl) (fun _ _ _ h => h) ?_ hHeld ?_
                  rotate_left
                  · (intro w h; (try dsimp only at h); go_simp; try with_reducible rfl)
                  try simp only [Act.put, pB, pC, pD]
                  refine tk (v := ?_) 5 rfl (by kernel_rfl) (fun _ _ _ h => h) ?_ hHeld ?_
                  rotate_left
                  · (intro w h; (try dsimp only at h); go_simp; try with_reducible rfl)
                  try simp only [Act.put, pB, pC, pD]
                  refine wpAnyH_done (by kernel_rfl) ?_ _
                  clear hHeld
                  try simp only [List.getElem_toArray, List.getElem_cons_zero, List.getElem_cons_succ, Act.put, pB, pC, pD]
                  refine NoPanic.normal ?_
                  clear y0 y1 y2 y3 y4 v0 v1 v2 v3 v4 how9 hb9
                  cases bq with
                  | false =>
                    have hdl : d < cbit := by
                      rcases Nat.lt_or_ge d cbit with h | h
                      · exact h
                      · exfalso
                        obtain rfl : d = cbit := by omega
                        have h1 := of_decide_eq_false HBQ.out
                        exact h1 (by rw [← HOQ.out]; exact HCE.out)
                    go_wp2_with fail
                    go_roundw
                    case rel => exact ⟨d + 1, by omega, by go_num, HBD.out.trans (HB9.out.mono HBD.out.size)⟩
                    case measure => simp [intOf]; omega
                  | true =>
                    have HDE := Lib.hid (show d = cbit from Classical.byContradiction fun h => HCL.out d (by omega) (by rw [HOQ.out]; exact of_decide_eq_true HBQ.out))
                    go_upto_region 21 with (fail)
                    have hde := HDE.out
                    subst hde
                    have HB8 := Lib.hid (HBD.out.trans (HB9.out.mono HBD.out.size))
                    have hx7 : xb < W7.heap.size := ZX7.out.lt
                    have ZX8 := Lib.hid (ZX7.out.next HB8.out hx7)
                    have HRV8 := Lib.hid (OwnP.next HRV7.out HB8.out)
                    have HWV8 := Lib.hid (OwnP.next HWV7.out HB8.out)
                    have HBJ8 := Lib.hid (HBJ7.out.trans (HB8.out.mono (Nat.le_of_lt hx7)))
                    have HB58 := Lib.hid (HBX.out.trans (HBJ8.out.mono hx5))
                    have HS8 := Lib.hid (HS1.out.next HB58.out)
                    have ZA8 := Lib.hid (ZA.out.next HB58.out hab)
                    replace V0 := Lib.hid ((HB8.out.cell (p := ⟨nb, 0, none⟩) hnb).trans V0.out)
                    replace V1 := Lib.hid ((HB8.out.cell (p := ⟨nb, 1, none⟩) hnb).trans V1.out)
                    replace V2 := Lib.hid ((HB8.out.cell (p := ⟨nb, 2, none⟩) hnb).trans V2.out)
                    replace V3 := Lib.hid ((HB8.out.cell (p := ⟨nb, 3, none⟩) hnb).trans V3.out)
                    replace V4 := Lib.hid ((HB8.out.cell (p := ⟨nb, 4, none⟩) hnb).trans V4.out)
                    have ZN8 := Lib.hid (ZN.out.next HB8.out hnb)
                    have hn8 := Nat.lt_of_lt_of_le hnb HB8.out.size
                    have hx8 := Nat.lt_of_lt_of_le hx7 HB8.out.size
                    have hw6 : W6.heap.size ≤ w9.heap.size := HBJ8.out.size
                    clear ZX7 HRV7 HWV7 HBJ7 HB8 HB9 HBD hnb hnr hx7 HB58 he hg
                    generalize w9 = W8 at *
                    have x2 := ZA8.out.cell 2
                    simp only [qB, qC, qD] at x2
                    obtain ⟨bq, hbq⟩ : ∃ bq, (bits BinOp.and IntKind.u8 (a.reads / 2 ^ d) 1 == 1) = bq := ⟨_, rfl⟩
                    have HBQ2 := Lib.hid (show hasB a.reads d = bq by rw [← hbq]; exact (bit_is _ _).symm)
                    have HTR := Lib.hid (rds_take b.now a hm HCB.out (HCN.out.trans HNN.out))
                    have HON := Lib.hid (show OwnE n by rw [← HNN.out]; exact so_own hm)
                    have HRL := rdsU_le b.now a m
                    obtain ⟨A3, c3, rfl, hc3⟩ := own_len HRV8.out
                    have HRV8' := Lib.hid (show OwnP 105 7 chC W8 W6.heap.size (.slice A3 (rdsU b.now a m).length c3) (rdsU b.now a m) from HRV8.out)
                    go_upto_if 95 with (fail)
                    go_cut [15, 16] (fun _ _ wx => ∃ rv', Blk wx xb 77 #[.int .i64 ky.tick, .int .i64 ky.cls, .int .i64 ky.num, .string (bs ky.lin), rv', wv] ∧ OwnP 105 7 chC wx W6.heap.size rv' (rdsU b.now a (m + 1)) ∧ OwnP 105 7 chC wx W6.heap.size wv (wrsU a m) ∧ Apart rv' wv ∧ Blk wx nb 26 #[.int .i64 n.kind, .string (bs n.owner), .int .i64 n.num, .int .i64 n.idx, .string (bs n.text)] ∧ Below xb W8 wx)
                    case first =>
                      cases bq with
                      | true =>
                        have v0 := V0.out
                        have v1 := V1.out
                        have v2 := V2.out
                        have v3 := V3.out
                        have v4 := V4.out
                        have ONCE : True := trivial
                        go_wp2_with (clear ONCE; go_at_call 22; refine (get_is (n := n) HS8.out HON.out).mono ?_)
                        rintro e w9 ⟨rfl, hb9⟩
                        obtain ⟨tx, htx⟩ : ∃ tx, (look cmpN n b.now).getD [] = tx := ⟨_, rfl⟩
                        obtain ⟨so, hso⟩ : ∃ so, (look cmpN n b.now).isSome = so := ⟨_, rfl⟩
                        have HRC := Lib.hid (show rdC b.now n = ⟨n, tx, !so⟩ by unfold rdC; rw [htx, ← hso]; cases look cmpN n b.now <;> rfl)
                        rw [htx, hso]
                        clear v0 v1 v2 v3 v4
                        have HB9 := Lib.hid hb9
                        have ZX9 := Lib.hid (ZX8.out.next HB9.out hx8)
                        have v0 := (HB9.out.cell (p := ⟨nb, 0, none⟩) hn8).trans V0.out
                        have v1 := (HB9.out.cell (p := ⟨nb, 1, none⟩) hn8).trans V1.out
                        have v2 := (HB9.out.cell (p := ⟨nb, 2, none⟩) hn8).trans V2.out
                        have v3 := (HB9.out.cell (p := ⟨nb, 3, none⟩) hn8).trans V3.out
                        have v4 := (HB9.out.cell (p := ⟨nb, 4, none⟩) hn8).trans V4.out
                        have z4 := ZX9.out.cell 4
                        simp only [qB, qC, qD] at z4
                        have hw69 : W6.heap.size ≤ w9.heap.size := Nat.le_trans hw6 HB9.out.size
                        have HAL := Lib.hid ((Below.refl w9.heap.size w9).alloc (Nat.le_refl _) (.cells #[.int .i64 n.kind, .string (bs n.owner), .int .i64 n.num, .int .i64 n.idx, .string (bs n.text), .string (bs tx), .bool (!so)] 105))
                        have HRV9 := Lib.hid (OwnP.next (OwnP.next HRV8'.out HB9.out) HAL.out)
                        have HWV9 := Lib.hid (OwnP.next (OwnP.next HWV8.out HB9.out) HAL.out)
                        have ZX10 := Lib.hid (ZX9.out.alloc (.cells #[.int .i64 n.kind, .string (bs n.owner), .int .i64 n.num, .int .i64 n.idx, .string (bs n.text), .string (bs tx), .bool (!so)] 105))
                        obtain ⟨i0, hi, hz0, hz1, hz2⟩ := info_parts infoCh
                        clear hb9 htx hso x2 hbq
                        go_wp2_with (at_builtin; refine wpList_append_w _ rfl _ _ _ rfl W6.heap.size 105 i0 _ 7 80 Tryz.underlying75 hi hz0 hz1 hz2 rfl (by omega) (.slice A3 (rdsU b.now a m).length c3) (rdsU b.now a m).length ((rdsU b.now a m).flatMap chC) rfl HRV9.out (.slice (some ⟨w9.heap.size, 0, none⟩) 1 1) 1 [.int .i64 n.kind, .string (bs n.owner), .int .i64 n.num, .int .i64 n.idx, .string (bs n.text), .string (bs tx), .bool (!so)] rfl (Rd.of_own (own_new w9 0 105 7 [.int .i64 n.kind, .string (bs n.owner), .int .i64 n.num, .int .i64 n.idx, .string (bs n.text), .string (bs tx), .bool (!so)] rfl (Nat.zero_le _))) (by omega) rfl (by simp [Value.oneCell']) (by unfold maxLen; omega) (by omega) (by simp; omega) ?_; intro v7 w10 hown7 hg7 hat7; obtain ⟨A7, c7, rfl, hc7⟩ := own_len hown7; have HPU := Lib.hid (box_push (c := ⟨n, tx, !so⟩) ZX10.out HRV9.out HWV9.out HAP.out hown7 hg7 hat7 4 hx6); have HZ10 := Lib.hid (ZX10.out.grown hg7 (fun e => own_blk_ne HRV9.out ZX10.out (by decide) e.symm)); have z4 := HZ10.out.cell 4; have f4 := HZ10.out.frozen 4; (simp only [qB, qC, qD] at z4); clear hown7 hg7 hat7)
                        go_meet
                        case rel =>
                          refine ⟨_, HPU.out.1, ?_, HPU.out.2.2.1, HPU.out.2.2.2.1, ((ZN8.out.next HB9.out hn8).alloc _).keep HPU.out.2.2.2.2.2 (by decide), (HB9.out.mono (Nat.le_of_lt hx8)).trans ((HAL.out.mono (by have := HB9.out.size; omega)).trans HPU.out.2.2.2.2.1)⟩
                          rw [HTR.out, HBQ2.out, if_pos rfl, HRC.out]
                          exact HPU.out.2.1
                      | false =>
                        go_wp2_with fail
                        go_meet
                        case rel => exact ⟨.slice A3 (rdsU b.now a m).length c3, ZX8.out, by rw [HTR.out, HBQ2.out]; simpa using HRV8.out, HWV8.out, HAP.out, ZN8.out, Below.refl _ _⟩
                    case rest =>
                      clear x2 hbq HBQ2
                      obtain ⟨rv2, hzx, hrv2, hwv2, hap2, hzn, hbe⟩ := hcut
                      obtain ⟨W8b, hw8b⟩ : ∃ x : World, x = wc := ⟨_, rfl⟩
                      subst hw8b
                      have ZXc := Lib.hid hzx
                      have HRVc := Lib.hid hrv2
                      have HWVc0 := Lib.hid hwv2
                      have HAPc := Lib.hid hap2
                      have ZNc := Lib.hid hzn
                      have HBEc := Lib.hid hbe
                      have ZAc := Lib.hid (ZA8.out.next HBEc.out (Nat.lt_of_lt_of_le hab hx5))
                      clear hzx hrv2 hwv2 hap2 hzn hbe V0 V1 V2 V3 V4 HRV8 HWV8 HRV8' ZX8 HAP ZN8
                      have x3 := ZAc.out.cell 3
                      have x4 := ZAc.out.cell 4
                      have x5 := ZAc.out.cell 5
                      have v0 := ZNc.out.cell 0
                      have v1 := ZNc.out.cell 1
                      have v2 := ZNc.out.cell 2
                      have v3 := ZNc.out.cell 3
                      have v4 := ZNc.out.cell 4
                      simp only [qB, qC, qD] at x3 x4 x5 v0 v1 v2 v3 v4
                      obtain ⟨bw, hbw⟩ : ∃ bw, (bits BinOp.and IntKind.u8 (a.writes / 2 ^ d) 1 == 1) = bw := ⟨_, rfl⟩
                      have HBW2 := Lib.hid (show hasB a.writes d = bw by rw [← hbw]; exact (bit_is _ _).symm)
                      have HTW := Lib.hid (wrs_take a hm HCB.out (HCN.out.trans HNN.out))
                      have HWL := wrsU_le a m
                      obtain ⟨A4, c4, rfl, hc4'⟩ := own_len HWVc0.out
                      have HWVc := Lib.hid (show OwnP 105 7 chC W8b W6.heap.size (.slice A4 (wrsU a m).length c4) (wrsU a m) from HWVc0.out)
                      clear HWVc0
                      have hwc : W6.heap.size ≤ W8b.heap.size := Nat.le_trans hw6 HBEc.out.size
                      go_upto_if 117 with (fail)
                      cases bw with
                      | true =>
                        obtain ⟨aq, haq⟩ : ∃ q, a.absent = q := ⟨_, rfl⟩
                        rw [haq] at x5
                        have HAQ := Lib.hid haq
                        clear haq
                        go_upto_region 26 with (fail)
                        have ZC := Lib.hid (Blk.new W8b 105 #[.int .i64 n.kind, .string (bs n.owner), .int .i64 n.num, .int .i64 n.idx, .string (bs n.text), .string ⟨#[]⟩, .bool aq])
                        have HAL := Lib.hid ((Below.refl W8b.heap.size W8b).alloc (Nat.le_refl _) (.cells #[.int .i64 n.kind, .string (bs n.owner), .int .i64 n.num, .int .i64 n.idx, .string (bs n.text), .string ⟨#[]⟩, .bool aq] 105))
                        have ZAd := Lib.hid (ZAc.out.next HAL.out ZAc.out.lt)
                        have ZXd := Lib.hid (ZXc.out.next HAL.out ZXc.out.lt)
                        have HRVd := Lib.hid (OwnP.next HRVc.out HAL.out)
                        have HWVd := Lib.hid (OwnP.next HWVc.out HAL.out)
                        have hbc : xb < W8b.heap.size := ZXc.out.lt
                        have HBEd := Lib.hid (HBEc.out.trans (HAL.out.mono (Nat.le_of_lt hbc)))
                        clear x3 x4 x5 v0 v1 v2 v3 v4 ZAc ZNc HRVd HWVd ZXd HBEd hbw
                        generalize W8b.alloc (.cells #[.int .i64 n.kind, .string (bs n.owner), .int .i64 n.num, .int .i64 n.idx, .string (bs n.text), .string ⟨#[]⟩, .bool aq] 105) = W9 at *
                        obtain ⟨cb, hcb0⟩ : ∃ x, W8b.heap.size = x := ⟨_, rfl⟩
                        have HCB0 := Lib.hid hcb0
                        rw [hcb0] at ZC hbc hwc ⊢
                        clear hcb0
                        have x4 := ZAd.out.cell 4
                        have x5 := ZAd.out.cell 5
                        have c5 := ZC.out.cell 5
                        have cf5 := ZC.out.frozen 5
                        simp only [qB, qC, qD] at x4 x5 c5
                        rw [HAQ.out] at x5
                        obtain ⟨tv, htv⟩ : ∃ tv, (if a.absent then [] else a.value.take 6) = tv := ⟨_, rfl⟩
                        have HTV := Lib.hid htv
                        have HWC := Lib.hid (show wrC a n = ⟨n, tv, aq⟩ by unfold wrC; rw [htv, HAQ.out])
                        clear htv
                        go_upto_if 124 with (fail)
                        go_cut [17] (fun v wx => v = .pointer (some ⟨cb, 0, none⟩) ∧ Blk wx cb 105 #[.int .i64 n.kind, .string (bs n.owner), .int .i64 n.num, .int .i64 n.idx, .string (bs n.text), .string (bs tv), .bool aq] ∧ Below cb W8b wx)
                        case first =>
                          cases aq with
                          | true =>
                            go_wp2_with fail
                            go_meet
                            case rel => exact ⟨rfl, by rw [← HTV.out, HAQ.out]; exact ZC.out, HCB0.out ▸ HAL.out⟩
                          | false =>
                            have HE6 := Lib.hid (ext_m a.value)
                            have HV6 := Lib.hid (show tv = a.value.take 6 by rw [← HTV.out, HAQ.out]; rfl)
                            go_wp2_with fail
                            go_meet
                            case rel => exact ⟨rfl, by rw [HE6.out, HV6.out]; exact ZC.out.set_ 5 _, (HCB0.out ▸ HAL.out).setCell (p := ⟨cb, 5, none⟩) (Nat.le_refl _) _⟩
                        case rest =>
                          obtain ⟨rfl, hzc, hbd⟩ := hcut
                          have HBD2 := Lib.hid hbd
                          have hbd' : Below W8b.heap.size W8b wc := by rw [HCB0.out]; exact hbd
                          have ZXe := Lib.hid (ZXc.out.next hbd hbc)
                          have hsz9 : cb ≤ wc.heap.size := by have := hbd'.size; rw [HCB0.out] at this; exact this
                          have HAE := Lib.hid ((Below.refl wc.heap.size wc).alloc (Nat.le_refl _) (.cells #[.int .i64 n.kind, .string (bs n.owner), .int .i64 n.num, .int .i64 n.idx, .string (bs n.text), .string (bs tv), .bool aq] 105))
                          have HRV9 := Lib.hid (OwnP.next (OwnP.next HRVc.out hbd') HAE.out)
                          have HWV9 := Lib.hid (OwnP.next (OwnP.next HWVc.out hbd') HAE.out)
                          have ZX10 := Lib.hid (ZXe.out.alloc (.cells #[.int .i64 n.kind, .string (bs n.owner), .int .i64 n.num, .int .i64 n.idx, .string (bs n.text), .string (bs tv), .bool aq] 105))
                          have z5 := ZXe.out.cell 5
                          have c0 := hzc.cell 0
                          have c1 := hzc.cell 1
                          have c2 := hzc.cell 2
                          have c3 := hzc.cell 3
                          have c4' := hzc.cell 4
                          have c5' := hzc.cell 5
                          have c6 := hzc.cell 6
                          simp only [qB, qC, qD] at z5 c0 c1 c2 c3 c4' c5' c6
                          clear hbd hbd' hzc c5 cf5 x4 x5
                          obtain ⟨i0, hi, hz0, hz1, hz2⟩ := info_parts infoCh
                          go_wp2_with (at_builtin; refine wpList_append_w _ rfl _ _ _ rfl W6.heap.size 105 i0 _ 7 80 Tryz.underlying75 hi hz0 hz1 hz2 rfl (by omega) (.slice A4 (wrsU a m).length c4) (wrsU a m).length ((wrsU a m).flatMap chC) rfl HWV9.out (.slice (some ⟨wc.heap.size, 0, none⟩) 1 1) 1 [.int .i64 n.kind, .string (bs n.owner), .int .i64 n.num, .int .i64 n.idx, .string (bs n.text), .string (bs tv), .bool aq] rfl (Rd.of_own (own_new wc 0 105 7 [.int .i64 n.kind, .string (bs n.owner), .int .i64 n.num, .int .i64 n.idx, .string (bs n.text), .string (bs tv), .bool aq] rfl (Nat.zero_le _))) (by omega) rfl (by simp [Value.oneCell']) (by unfold maxLen; omega) (by omega) (by simp; omega) ?_; intro v7 w10 hown7 hg7 hat7; obtain ⟨A7, c7, rfl, hc7⟩ := own_len hown7; have HPU := Lib.hid (box_push (c := ⟨n, tv, aq⟩) ZX10.out HWV9.out HRV9.out HAPc.out.symm hown7 hg7 hat7 5 hx6); have HZ10 := Lib.hid (ZX10.out.grown hg7 (fun e => own_blk_ne HWV9.out ZX10.out (by decide) e.symm)); have z5 := HZ10.out.cell 5; have f5 := HZ10.out.frozen 5; (simp only [qB, qC, qD] at z5); clear hown7 hg7 hat7)
                          go_roundw
                          case rel => exact ⟨m + 1, rv2, _, by omega, by go_num, HPU.out.1, HPU.out.2.2.1, by rw [HTW.out, HBW2.out, if_pos rfl, HWC.out]; exact HPU.out.2.1, HPU.out.2.2.2.1.symm, HBJ8.out.trans (HBEc.out.trans ((HBD2.out.mono (Nat.le_of_lt hbc)).trans ((HAE.out.mono (by omega)).trans HPU.out.2.2.2.2.1)))⟩
                          case measure => simp [intOf]; omega
                      | false =>
                        go_wp2_with fail
                        go_roundw
                        case rel => exact ⟨m + 1, rv2, .slice A4 (wrsU a m).length c4, by omega, by go_num, ZXc.out, HRVc.out, by rw [HTW.out, HBW2.out]; simpa using HWVc.out, HAPc.out, HBJ8.out.trans HBEc.out⟩
                        case measure => simp [intOf]; omega
              · have j7 : decide ((m : Int) < 4) = false := decide_eq_false (by omega)
                have j8 : decide (m < so54.length) = false := decide_eq_false (show ¬ m < 4 by omega)
                have ONCE : True := trivial
                go_wp2_with (clear ONCE; go_at_call 38; refine (sorted54_is _).mono ?_)
                rintro e wE ⟨g5, c5, rfl, how5, hb5⟩
                have hxr : xb < wr.heap.size := ZX.out.lt
                have ZXE := Lib.hid (ZX.out.next hb5 ZX.out.lt)
                have HBJE := Lib.hid (HBJ.out.trans (hb5.mono (Nat.le_of_lt hxr)))
                have HRVE := Lib.hid (OwnP.next HRV.out hb5)
                have HWVE := Lib.hid (OwnP.next HWV.out hb5)
                clear how5 hb5 ZX HBJ HRV HWV hxr
                have hm4 : m = 4 := by omega
                have hrv4 : OwnP 105 7 chC wE W6.heap.size rv (rdsU b.now a 4) := by rw [← hm4]; exact HRVE.out
                have hwv4 : OwnP 105 7 chC wE W6.heap.size wv (wrsU a 4) := by rw [← hm4]; exact HWVE.out
                obtain ⟨A3, c3, rfl, hc3⟩ := own_len hrv4
                obtain ⟨A4, c4, rfl, hc4⟩ := own_len hwv4
                have HRV4 := Lib.hid hrv4
                have HWV4 := Lib.hid hwv4
                clear hm4 hrv4 hwv4 HRVE HWVE hm
                obtain ⟨vs, hrow, hown⟩ := HAC1.out
                obtain ⟨A9, c9, rfl, hc9⟩ := own_len hown
                have HROW := Lib.hid hrow
                have HOWN := Lib.hid hown
                have hbl : b.l.length ≤ 20 := by have := HGD.out.len; have := HK2.out; omega
                clear hrow hown
                have HR5 := Lib.hid (HBX.out.trans (HBJE.out.mono hx5))
                have HSr := Lib.hid (HS1.out.next HR5.out)
                have hrbs : rb ≤ W5.heap.size := by have := HBW1.out.size; have := HRB.out; omega
                have HBr := Lib.hid (HBW1.out.trans (HR5.out.mono hrbs))
                have HUr := Lib.hid (HU0.out.next HBr.out (by have := HU0.out.1; have := HRB.out; omega))
                have hwl : (wrsU a 4).length ≤ 100000 := by have := wrsU_le a 4; omega
                have z0 := ZXE.out.cell 0
                have z1 := ZXE.out.cell 1
                have z2 := ZXE.out.cell 2
                have z3 := ZXE.out.cell 3
                have z4 := ZXE.out.cell 4
                have z5 := ZXE.out.cell 5
                simp only [qB, qC, qD] at z0 z1 z2 z3 z4 z5
                go_wp2_with fail
                go_at_call 21
                refine (apply_st HSr.out HGD.out.v (OwnP.rd HWV4.out) (wrs_v a) HUr.out hwl).mono ?_
                rintro e w7 ⟨q7, rfl, hq7, hb7⟩
                have HB7 := Lib.hid hb7
                have HQ7 := Lib.hid hq7
                have HR7 := Lib.hid (HR5.out.trans (hb7.mono HR5.out.size))
                have HBr7 := Lib.hid (HBW1.out.trans (HR7.out.mono hrbs))
                have HRV7 := Lib.hid (OwnP.next HRV4.out hb7)
                have HWV7 := Lib.hid (OwnP.next HWV4.out hb7)
                have ZX7 := Lib.hid (ZXE.out.next hb7 ZXE.out.lt)
                have ZW7 := Lib.hid (HZW1.out.next HR7.out HZW1.out.lt)
                have ZR7 := Lib.hid (HZR1.out.next HR7.out HZR1.out.lt)
                have HSB7 := Lib.hid (HSB1.out.next HR7.out)
                have HOWN7 := Lib.hid (own_next HOWN.out HR7.out)
                have HROW7 := Lib.hid (HROW.out.imp fun _ _ h => NAc.next HR7.out h)
                have hal := (Below.refl w7.heap.size w7).alloc (Nat.le_refl _) (.cells #[.int .i64 ky.tick, .int .i64 ky.cls, .int .i64 ky.num, .string (bs ky.lin), .slice A3 (rdsU b.now a 4).length c3, .slice A4 (wrsU a 4).length c4] 77)
                have HAL := Lib.hid hal
                have HOWN8 := Lib.hid (own_next HOWN7.out hal)
                have ZW8 := Lib.hid (ZW7.out.alloc (.cells #[.int .i64 ky.tick, .int .i64 ky.cls, .int .i64 ky.num, .string (bs ky.lin), .slice A3 (rdsU b.now a 4).length c3, .slice A4 (wrsU a 4).length c4] 77))
                have hr7 : rb ≤ w7.heap.size := by have := HR7.out.size; omega
                replace z0 := ZX7.out.cell 0
                replace z1 := ZX7.out.cell 1
                replace z2 := ZX7.out.cell 2
                replace z3 := ZX7.out.cell 3
                replace z4 := ZX7.out.cell 4
                replace z5 := ZX7.out.cell 5
                have y1 := ZW7.out.cell 1
                simp only [qB, qC, qD] at z0 z1 z2 z3 z4 z5 y1
                clear hb7 hq7 HB7 HRV4 HWV4 ZXE HOWN HROW HSr HBr HUr HR5 hal j7
                obtain ⟨i0, hi, hz0, hz1, hz2⟩ := info_parts infoAc
                go_wp2_with (at_builtin; refine wpList_append_lies _ rfl _ _ _ rfl rb 77 i0 _ 6 88 Tryz.underlying45 hi hz0 hz1 hz2 rfl (by omega) (.slice A9 b.l.length c9) b.l.length (rowC acC b.l vs) (by rfl) HOWN8.out ⟨w7.heap.size, 0, none⟩ 1 1 [.int .i64 ky.tick, .int .i64 ky.cls, .int .i64 ky.num, .string (bs ky.lin), .slice A3 (rdsU b.now a 4).length c3, .slice A4 (wrsU a 4).length c4] rfl rfl (World.news_of_block (cs := #[.int .i64 ky.tick, .int .i64 ky.cls, .int .i64 ky.num, .string (bs ky.lin), .slice A3 (rdsU b.now a 4).length c3, .slice A4 (wrsU a 4).length c4]) (t := 77) (fr := (0, 0)) (heap_alloc_new w7 _)) (by simp [Value.oneCell']) (by omega) (by unfold maxLen; omega) (by omega) (by simp; omega) (w7.heap.size + 1) (by simp) ?_; intro gg cap w8 hown8 hgrow8 hat8 hlt8; have HN8 := Lib.hid hown8; have HG8 := Lib.hid hgrow8; have ZW9 := Lib.hid (ZW8.out.grown hgrow8 (fun e => own_blk_ne HOWN8.out ZW8.out (by decide) e.symm)); have y1 := ZW9.out.cell 1; have f1 := ZW9.out.frozen 1; (simp only [qB, qC, qD] at y1); clear hown8 hgrow8 hat8 hlt8)
                go_roundw
                case rel =>
                  have hk8 := Kept.of_own [77] HOWN8.out HG8.out (by decide)
                  have hs9 := world_set ZW9.out 1 (.slice (some ⟨gg, 0, none⟩) (b.l.length + 1) cap)
                  have hB9 : Below rb w (w8.setCell ⟨wb, 1, none⟩ (.slice (some ⟨gg, 0, none⟩) (b.l.length + 1) cap)) := (below_own (HBr7.out.trans (HAL.out.mono hr7)) HOWN8.out HG8.out (Nat.le_refl _) (by simp; omega)).setCell (p := ⟨wb, 1, none⟩) (by have := HWB.out; have := HRB.out; show rb ≤ wb; omega) _
                  refine ⟨k + 1, q7, pb, _, by omega, by omega, by go_num, ?_, ?_, rfl, ?_, ?_, ?_, ZW9.out.set_ 1 _, ?_, hB9⟩
                  · rw [HST.out]
                    show _ = Value.int .i64 (inp54 b.inp a)
                    rw [HIP.out, HI2.out]
                  · rw [HST.out]
                    show _ = Value.int .i64 (b.tick + 1 + a.wait % 2)
                    rw [HTK.out, HT.out]
                  · rw [HST.out]
                    exact ((HQ7.out.next HAL.out).keep hk8 (by decide) (by decide)).keep hs9.1 (by decide) (by decide)
                  · exact ((HSB7.out.next HAL.out).keep hk8 (by decide) (by decide)).keep hs9.1 (by decide) (by decide)
                  · rw [HST.out]
                    have hp := RowOwn.push (x := (⟨ky, rdsU b.now a 4, wrsU a 4⟩ : Ac)) (W := w7) (u := (_, _)) HROW7.out HN8.out (fun _ _ h => NAc.keep hk8 (by decide) (NAc.next HAL.out h)) ⟨RdP.keep (RdP.next (OwnP.rd HRV7.out) HAL.out) hk8 (by decide), RdP.keep (RdP.next (OwnP.rd HWV7.out) HAL.out) hk8 (by decide)⟩
                    have he : (step54 b a).l = b.l ++ [⟨ky, rdsU b.now a 4, wrsU a 4⟩] := by
                      show b.l ++ [ac54 b.now (b.tick + 1 + a.wait % 2) b.inp a] = _
                      unfold ac54
                      rw [HTK.out, HT.out, HIP.out, HKY.out]
                    rw [he]
                    exact RowOwn.keep hp hs9.1 (by decide) (fun _ _ => NAc.keep hs9.1 (by decide))
                  · exact (((ZR7.out.alloc _).grown HG8.out (fun e => own_blk_ne HOWN8.out (ZR7.out.alloc _) (by decide) e.symm))).far (p := ⟨wb, 1, none⟩) (by have := HWB.out; have := HRB.out; show rb ≠ wb; omega) _
                case measure => simp [intOf]; omega
      · have hfe : fold54 (l.take k) = fold54 (l.take 20) := by rw [show k = 20 by omega]
        have j3 : decide ((k : Int) < (l.length : Int)) = true := decide_eq_true (by omega)
        have j3' : decide (k < l.length) = true := decide_eq_true hk
        have j4 : decide ((k : Int) < 20) = false := decide_eq_false (by omega)
        have HW := Lib.hid (good_W l)
        have hwe : W54 l = (fold54 (l.take k)).l := by unfold W54; rw [hfe]
        have hbl : (W54 l).length ≤ 20 := by have := HW.out.len; unfold W54; omega
        have hac2 : OwnAc wr rb lv (W54 l) := by rw [hwe]; exact hac
        have HAR := Lib.hid (show ∀ x ∈ W54 l, AcR x from fun x hx => (HW.out.all x hx).1)
        have HOK := Lib.hid (show ∀ x ∈ W54 l, okAc x = true from fun x hx => (HW.out.all x hx).2.1)
        have HKS := Lib.hid (W54_ks l)
        have HBL := Lib.hid (W54_bld l)
        obtain ⟨L, hL⟩ : ∃ L, W54 l = L := ⟨_, rfl⟩
        have HL := Lib.hid hL
        rw [hL] at hac2 HAR HOK HKS HBL hbl
        obtain ⟨vs, hrow, hown⟩ := id hac2
        obtain ⟨A9, c9, rfl, hc9⟩ := own_len hown
        have HRD := Lib.hid (RowOwn.rd hac2)
        have HZW := Lib.hid hzw
        have HZR := Lib.hid hzr
        have HSB := Lib.hid hstb
        have HUr := Lib.hid (HU0.out.next HBW.out (by have := HU0.out.1; have := HRB.out; omega))
        have hwr : rb ≤ wr.heap.size := Nat.le_of_lt HZR.out.lt
        have y0 := HZW.out.cell 0
        have y1 := HZW.out.cell 1
        simp only [qB, qC, qD] at y0 y1
        clear hrow hown hac hac2 hzw hzr hstb hst0 hwe hfe hL HW
        go_wp2_with fail
        go_at_call 39
        refine (build_is HSB.out HRD.out HUr.out HAR.out base54_v (by omega)).mono ?_
        rintro e w1 ⟨hb1, ⟨hok, gx, F, rfl, hv, hF⟩ | ⟨hbad, rfl⟩⟩
        · have HV1 := Lib.hid hv
          have HF1 := Lib.hid hF
          have HB1 := Lib.hid hb1
          have ZW1 := Lib.hid (HZW.out.next hb1 HZW.out.lt)
          have HRD1 := Lib.hid (RdAc.next HRD.out hb1)
          replace y0 := ZW1.out.cell 0
          replace y1 := ZW1.out.cell 1
          simp only [qB, qC, qD] at y0 y1
          clear hv hF hb1 hok HUr
          go_wp2_with fail
          go_at_call 23
          refine (dbuild_is HRD1.out HKS.out HAR.out HOK.out (by omega)).mono ?_
          rintro e w2 ⟨gg, rfl, hg, hb2⟩
          have HB2 := Lib.hid (HB1.out.trans (hb2.mono HB1.out.size))
          have HV2 := Lib.hid (HV1.out.next hb2)
          have HG2 := Lib.hid hg
          have ZW2 := Lib.hid (HZW.out.next HB2.out HZW.out.lt)
          have ZR2 := Lib.hid (HZR.out.next HB2.out HZR.out.lt)
          have HRD2 := Lib.hid (RdAc.next HRD.out HB2.out)
          have HSB2 := Lib.hid (HSB.out.next HB2.out)
          have n1 : ¬ rb = wb := by have := HWB.out; have := HRB.out; omega
          have n2 : ¬ wb = rb := by omega
          replace y0 := ZW2.out.cell 0
          replace y1 := ZW2.out.cell 1
          have y2 := ZW2.out.cell 2
          have y3 := ZW2.out.cell 3
          have f2 := ZW2.out.frozen 2
          have f3 := ZW2.out.frozen 3
          have r0 := ZR2.out.cell 0
          have r1 := ZR2.out.cell 1
          have r2 := ZR2.out.cell 2
          have r3 := ZR2.out.cell 3
          have g0 := ZR2.out.frozen 0
          have g1 := ZR2.out.frozen 1
          have g2 := ZR2.out.frozen 2
          have g3 := ZR2.out.frozen 3
          simp only [qB, qC, qD] at y0 y1 y2 y3 r0 r1 r2 r3
          clear hg hb2 HRD1 HB1 HV1 ZW1
          go_wp2_with fail
          have s0 := world_set ZW2.out 2 (.pointer (some ⟨gx, 0, none⟩))
          have Z1 := ZW2.out.set_ 2 (.pointer (some ⟨gx, 0, none⟩))
          have s1 := world_set Z1 3 (.pointer (some ⟨gg, 0, none⟩))
          have R2 := (ZR2.out.far (p := ⟨wb, 2, none⟩) n1 (.pointer (some ⟨gx, 0, none⟩))).far (p := ⟨wb, 3, none⟩) n1 (.pointer (some ⟨gg, 0, none⟩))
          have s2 := world_set R2 0 (.pointer pb)
          have R3 := R2.set_ 0 (.pointer pb)
          have s3 := world_set R3 1 (.slice A9 L.length c9)
          have R4 := R3.set_ 1 (.slice A9 L.length c9)
          have s4 := world_set R4 2 (.pointer (some ⟨gx, 0, none⟩))
          have R5 := R4.set_ 2 (.pointer (some ⟨gx, 0, none⟩))
          have s5 := world_set R5 3 (.pointer (some ⟨gg, 0, none⟩))
          have R6 := R5.set_ 3 (.pointer (some ⟨gg, 0, none⟩))
          have kk := ((((s0.1.trans s1.1).trans s2.1).trans s3.1).trans s4.1).trans s5.1
          have mm := ((((s0.2.trans s1.2).trans s2.2).trans s3.2).trans s4.2).trans s5.2
          have q0 := R6.cell 0
          have q1 := R6.cell 1
          have q2 := R6.cell 2
          have q3 := R6.cell 3
          simp only [pB, pC, pD, qB, qC, qD] at q0 q1 q2 q3
          have hbw : rb ≤ wb := by have := HWB.out; have := HRB.out; omega
          have HBF := Lib.hid (((((((HBW.out.trans (HB2.out.mono hwr)).setCell (p := ⟨wb, 2, none⟩) hbw (.pointer (some ⟨gx, 0, none⟩))).setCell (p := ⟨wb, 3, none⟩) hbw (.pointer (some ⟨gg, 0, none⟩))).setCell (p := ⟨rb, 0, none⟩) (Nat.le_refl _) (.pointer pb)).setCell (p := ⟨rb, 1, none⟩) (Nat.le_refl _) (.slice A9 L.length c9)).setCell (p := ⟨rb, 2, none⟩) (Nat.le_refl _) (.pointer (some ⟨gx, 0, none⟩))).setCell (p := ⟨rb, 3, none⟩) (Nat.le_refl _) (.pointer (some ⟨gg, 0, none⟩)))
          exact bodyPost_ret (v := .tuple #[.agg #[.pointer pb, .slice A9 L.length c9, .pointer (some ⟨gx, 0, none⟩), .pointer (some ⟨gg, 0, none⟩)], .bool true]) (by simp [results, Tryz.results13, go_sem, q0, q1, q2, q3]) rfl ⟨pb, _, gx, gg, F, _, rfl, HSB2.out.keep kk rfl rfl, by rw [HL.out]; exact RowRd.keep HRD2.out kk rfl (fun _ _ => NAc.keep kk rfl), by rw [HL.out]; exact HV2.out.keepB kk mm, by rw [HL.out]; exact HG2.out.keepB kk mm, fun i hi => by have := (HF1.out i hi).1; have := HRB.out; omega, by rw [HRB.out]; exact HBF.out⟩
        · exact absurd HBL.out hbad
    · have hfe : fold54 (l.take k) = fold54 (l.take 20) := by rw [List.take_of_length_le (show l.length ≤ k by omega), List.take_of_length_le (show l.length ≤ 20 by omega)]
      have j3 : decide ((k : Int) < (l.length : Int)) = false := decide_eq_false (by omega)
      have j3' : decide (k < l.length) = false := decide_eq_false hk
      have HW := Lib.hid (good_W l)
      have hwe : W54 l = (fold54 (l.take k)).l := by unfold W54; rw [hfe]
      have hbl : (W54 l).length ≤ 20 := by have := HW.out.len; unfold W54; omega
      have hac2 : OwnAc wr rb lv (W54 l) := by rw [hwe]; exact hac
      have HAR := Lib.hid (show ∀ x ∈ W54 l, AcR x from fun x hx => (HW.out.all x hx).1)
      have HOK := Lib.hid (show ∀ x ∈ W54 l, okAc x = true from fun x hx => (HW.out.all x hx).2.1)
      have HKS := Lib.hid (W54_ks l)
      have HBL := Lib.hid (W54_bld l)
      obtain ⟨L, hL⟩ : ∃ L, W54 l = L := ⟨_, rfl⟩
      have HL := Lib.hid hL
      rw [hL] at hac2 HAR HOK HKS HBL hbl
      obtain ⟨vs, hrow, hown⟩ := id hac2
      obtain ⟨A9, c9, rfl, hc9⟩ := own_len hown
      have HRD := Lib.hid (RowOwn.rd hac2)
      have HZW := Lib.hid hzw
      have HZR := Lib.hid hzr
      have HSB := Lib.hid hstb
      have HUr := Lib.hid (HU0.out.next HBW.out (by have := HU0.out.1; have := HRB.out; omega))
      have hwr : rb ≤ wr.heap.size := Nat.le_of_lt HZR.out.lt
      have y0 := HZW.out.cell 0
      have y1 := HZW.out.cell 1
      simp only [qB, qC, qD] at y0 y1
      clear hrow hown hac hac2 hzw hzr hstb hst0 hwe hfe hL HW
      go_wp2_with fail
      go_at_call 39
      refine (build_is HSB.out HRD.out HUr.out HAR.out base54_v (by omega)).mono ?_
      rintro e w1 ⟨hb1, ⟨hok, gx, F, rfl, hv, hF⟩ | ⟨hbad, rfl⟩⟩
      · have HV1 := Lib.hid hv
        have HF1 := Lib.hid hF
        have HB1 := Lib.hid hb1
        have ZW1 := Lib.hid (HZW.out.next hb1 HZW.out.lt)
        have HRD1 := Lib.hid (RdAc.next HRD.out hb1)
        replace y0 := ZW1.out.cell 0
        replace y1 := ZW1.out.cell 1
        simp only [qB, qC, qD] at y0 y1
        clear hv hF hb1 hok HUr
        go_wp2_with fail
        go_at_call 23
        refine (dbuild_is HRD1.out HKS.out HAR.out HOK.out (by omega)).mono ?_
        rintro e w2 ⟨gg, rfl, hg, hb2⟩
        have HB2 := Lib.hid (HB1.out.trans (hb2.mono HB1.out.size))
        have HV2 := Lib.hid (HV1.out.next hb2)
        have HG2 := Lib.hid hg
        have ZW2 := Lib.hid (HZW.out.next HB2.out HZW.out.lt)
        have ZR2 := Lib.hid (HZR.out.next HB2.out HZR.out.lt)
        have HRD2 := Lib.hid (RdAc.next HRD.out HB2.out)
        have HSB2 := Lib.hid (HSB.out.next HB2.out)
        have n1 : ¬ rb = wb := by have := HWB.out; have := HRB.out; omega
        have n2 : ¬ wb = rb := by omega
        replace y0 := ZW2.out.cell 0
        replace y1 := ZW2.out.cell 1
        have y2 := ZW2.out.cell 2
        have y3 := ZW2.out.cell 3
        have f2 := ZW2.out.frozen 2
        have f3 := ZW2.out.frozen 3
        have r0 := ZR2.out.cell 0
        have r1 := ZR2.out.cell 1
        have r2 := ZR2.out.cell 2
        have r3 := ZR2.out.cell 3
        have g0 := ZR2.out.frozen 0
        have g1 := ZR2.out.frozen 1
        have g2 := ZR2.out.frozen 2
        have g3 := ZR2.out.frozen 3
        simp only [qB, qC, qD] at y0 y1 y2 y3 r0 r1 r2 r3
        clear hg hb2 HRD1 HB1 HV1 ZW1
        go_wp2_with fail
        have s0 := world_set ZW2.out 2 (.pointer (some ⟨gx, 0, none⟩))
        have Z1 := ZW2.out.set_ 2 (.pointer (some ⟨gx, 0, none⟩))
        have s1 := world_set Z1 3 (.pointer (some ⟨gg, 0, none⟩))
        have R2 := (ZR2.out.far (p := ⟨wb, 2, none⟩) n1 (.pointer (some ⟨gx, 0, none⟩))).far (p := ⟨wb, 3, none⟩) n1 (.pointer (some ⟨gg, 0, none⟩))
        have s2 := world_set R2 0 (.pointer pb)
        have R3 := R2.set_ 0 (.pointer pb)
        have s3 := world_set R3 1 (.slice A9 L.length c9)
        have R4 := R3.set_ 1 (.slice A9 L.length c9)
        have s4 := world_set R4 2 (.pointer (some ⟨gx, 0, none⟩))
        have R5 := R4.set_ 2 (.pointer (some ⟨gx, 0, none⟩))
        have s5 := world_set R5 3 (.pointer (some ⟨gg, 0, none⟩))
        have R6 := R5.set_ 3 (.pointer (some ⟨gg, 0, none⟩))
        have kk := ((((s0.1.trans s1.1).trans s2.1).trans s3.1).trans s4.1).trans s5.1
        have mm := ((((s0.2.trans s1.2).trans s2.2).trans s3.2).trans s4.2).trans s5.2
        have q0 := R6.cell 0
        have q1 := R6.cell 1
        have q2 := R6.cell 2
        have q3 := R6.cell 3
        simp only [pB, pC, pD, qB, qC, qD] at q0 q1 q2 q3
        have hbw : rb ≤ wb := by have := HWB.out; have := HRB.out; omega
        have HBF := Lib.hid (((((((HBW.out.trans (HB2.out.mono hwr)).setCell (p := ⟨wb, 2, none⟩) hbw (.pointer (some ⟨gx, 0, none⟩))).setCell (p := ⟨wb, 3, none⟩) hbw (.pointer (some ⟨gg, 0, none⟩))).setCell (p := ⟨rb, 0, none⟩) (Nat.le_refl _) (.pointer pb)).setCell (p := ⟨rb, 1, none⟩) (Nat.le_refl _) (.slice A9 L.length c9)).setCell (p := ⟨rb, 2, none⟩) (Nat.le_refl _) (.pointer (some ⟨gx, 0, none⟩))).setCell (p := ⟨rb, 3, none⟩) (Nat.le_refl _) (.pointer (some ⟨gg, 0, none⟩)))
        exact bodyPost_ret (v := .tuple #[.agg #[.pointer pb, .slice A9 L.length c9, .pointer (some ⟨gx, 0, none⟩), .pointer (some ⟨gg, 0, none⟩)], .bool true]) (by simp [results, Tryz.results13, go_sem, q0, q1, q2, q3]) rfl ⟨pb, _, gx, gg, F, _, rfl, HSB2.out.keep kk rfl rfl, by rw [HL.out]; exact RowRd.keep HRD2.out kk rfl (fun _ _ => NAc.keep kk rfl), by rw [HL.out]; exact HV2.out.keepB kk mm, by rw [HL.out]; exact HG2.out.keepB kk mm, fun i hi => by have := (HF1.out i hi).1; have := HRB.out; omega, by rw [HRB.out]; exact HBF.out⟩
      · exact absurd HBL.out hbad
def FLoop (vs : List Ver) (i : Int) (w : World) (v9 v10 : Value) (wr : World) : Prop := ∃ f k : Nat, ∃ hf : f < vs.length, k ≤ vs.length ∧ v9 = .int .i64 f ∧ v10 = .int .i64 k ∧ vs[f].idx < i ∧ (∀ (j : Nat) (hj : j < vs.length), f < j → j < k → ¬ vs[j].idx < i) ∧ w = wr
def BLoop (vs : List Ver) (A : Nat) (bb : UInt8) (res : Option (Int × UInt8)) (w : World) (v9 : Value) (wr : World) : Prop := ∃ f : Nat, ∃ hf : f < vs.length, v9 = .int .i64 f ∧ orgF A (some (vs[f].idx, bb)) (vs.take f).reverse = res ∧ Below w.heap.size w wr
theorem take_rev {α : Type} (l : List α) (m : Nat) (h : m < l.length) : (l.take (m + 1)).reverse = l[m] :: (l.take m).reverse := by
  rw [List.take_succ_eq_append_getElem h, List.reverse_append]
  rfl
theorem verL_pair {s0 : St} {l : List Ac} {n : Nm} (ho : VOk l) : (verL s0 l n).Pairwise fun a b => a.idx < b.idx := by
  unfold verL
  refine List.pairwise_cons.2 ⟨fun u hu => ?_, ho.inc n⟩
  have := vers_idx n 0 l u hu
  show (-1 : Int) < u.idx
  omega
set_option maxRecDepth 100000 in
set_option maxHeartbeats 4000000 in
theorem worigin_is {w : World} {F0 : Nat → Prop} {g : Nat} {s0 : St} {l : List Ac} {n : Nm} {pb : Option Addr} {A1 : Option Addr} {c1 : Nat} {vg : Value} (a i : Int) (hv : VAt w F0 g s0 l) (hn : OwnE n) (ho : VOk l) :
    Calls Tryz.prog 16 #[.agg #[.pointer pb, .slice A1 l.length c1, .pointer (some ⟨g, 0, none⟩), vg], plV n a, .int .i64 i] w (OrgP (orgR l.length (verL s0 l n) a i) w) := by
  have ha := ((Below.refl w.heap.size w).alloc (Nat.le_refl _) (.cells #[.pointer pb, .slice A1 l.length c1, .pointer (some ⟨g, 0, none⟩), vg] 49)).alloc (by simp) (.cells #[.int .i64 n.kind, .string (bs n.owner), .int .i64 n.num, .int .i64 n.idx, .string (bs n.text), .int .i64 a] 28)
  have z := (Blk.new w 49 #[.pointer pb, .slice A1 l.length c1, .pointer (some ⟨g, 0, none⟩), vg]).alloc (.cells #[.int .i64 n.kind, .string (bs n.owner), .int .i64 n.num, .int .i64 n.idx, .string (bs n.text), .int .i64 a] 28)
  have zp := Blk.new (w.alloc (.cells #[.pointer pb, .slice A1 l.length c1, .pointer (some ⟨g, 0, none⟩), vg] 49)) 28 #[.int .i64 n.kind, .string (bs n.owner), .int .i64 n.num, .int .i64 n.idx, .string (bs n.text), .int .i64 a]
  rw [World.size_alloc] at zp
  have HV := Lib.hid (hv.next ha)
  have HZ := Lib.hid zp
  have HA := Lib.hid ha
  have HN := Lib.hid hn
  have HO := Lib.hid ho
  have u1 := z.cell 1
  have u2 := z.cell 2
  have x0 := zp.cell 0
  have x1 := zp.cell 1
  have x2 := zp.cell 2
  have x3 := zp.cell 3
  have x4 := zp.cell 4
  have x5 := zp.cell 5
  simp only [qB, qC, qD] at u1 u2 x0 x1 x2 x3 x4 x5
  have hll : l.length ≤ 100 := ho.len
  clear hv ha z zp hn ho
  simp only [plV]
  go_enter Tryz.func16, Tryz.ntmps16
  by_cases h1 : i < 0
  · have HR := Lib.hid (show orgR l.length (verL s0 l n) a i = (0, 2) by unfold orgR; rw [if_pos (.inl h1)])
    have d1 : decide (i < 0) = true := decide_eq_true h1
    go_wp2_with fail
    go_ret2
    exact ⟨by rw [HR.out]; rfl, HA.out⟩
  · have d1 : decide (i < 0) = false := decide_eq_false h1
    by_cases h2 : (l.length : Int) < i
    · have HR := Lib.hid (show orgR l.length (verL s0 l n) a i = (0, 2) by unfold orgR; rw [if_pos (.inr (.inl h2))])
      have d2 : decide ((l.length : Int) < i) = true := decide_eq_true h2
      go_wp2_with fail
      go_ret2
      exact ⟨by rw [HR.out]; rfl, HA.out⟩
    · have d2 : decide ((l.length : Int) < i) = false := decide_eq_false h2
      by_cases h3 : a < 0
      · have HR := Lib.hid (show orgR l.length (verL s0 l n) a i = (0, 2) by unfold orgR; rw [if_pos (.inr (.inr h3))])
        have d3 : decide (a < 0) = true := decide_eq_true h3
        go_wp2_with fail
        go_ret2
        exact ⟨by rw [HR.out]; rfl, HA.out⟩
      · obtain ⟨A, rfl⟩ : ∃ A : Nat, a = (A : Int) := ⟨a.toNat, by omega⟩
        have d3 : decide ((A : Int) < 0) = false := decide_eq_false h3
        have HR := Lib.hid (show orgR l.length (verL s0 l n) (A : Int) i = match orgF A none (backL i (verL s0 l n)) with | none => (0, 8) | some (o, _) => (o, 0) by unfold orgR; rw [if_neg (by omega)]; rfl)
        go_wp2_with fail
        generalize (w.alloc (.cells #[.pointer pb, .slice A1 l.length c1, .pointer (some ⟨g, 0, none⟩), vg] 49)).alloc (.cells #[.int .i64 n.kind, .string (bs n.owner), .int .i64 n.num, .int .i64 n.idx, .string (bs n.text), .int .i64 (A : Int)] 28) = W at *
        obtain ⟨pp, hpp⟩ : ∃ x, w.heap.size + 1 = x := ⟨_, rfl⟩
        have HPP := Lib.hid hpp
        rw [hpp] at HZ x0 x1 x2 x3 x4 x5 ⊢
        clear hpp
        obtain ⟨cb, hcb⟩ : ∃ x, w.heap.size = x := ⟨_, rfl⟩
        have HCB := Lib.hid hcb
        rw [hcb] at HA u1 u2 ⊢
        clear hcb
        go_at_call 42
        refine (of_is (n := n) HV.out HN.out HO.out).mono ?_
        rintro e w2 ⟨v2, rfl, hov, hb2⟩
        have hvp : 0 < (verL s0 l n).length := by unfold verL; simp
        have hvl : (verL s0 l n).length ≤ 1001 := by
          have := HO.out.vlen n
          unfold verL; simp; omega
        have HPW := Lib.hid (verL_pair (s0 := s0) (n := n) HO.out)
        have hid0 : ((verL s0 l n)[0]'hvp).idx < i := by
          show (-1 : Int) < i
          omega
        have HRV := Lib.hid (OwnP.rd hov)
        obtain ⟨vs, hvs⟩ : ∃ vs, verL s0 l n = vs := ⟨_, rfl⟩
        have HVS := Lib.hid hvs
        simp only [hvs] at HR HRV hvp hvl HPW hid0
        rw [hvs] at hov
        obtain ⟨A2, c2, rfl, hc2⟩ := own_len hov
        have HB2 := Lib.hid hb2
        have HBF := Lib.hid HA.out
        have hppl : pp < W.heap.size := HZ.out.lt
        have HZ2 := Lib.hid (HZ.out.next hb2 HZ.out.lt)
        have hcbs : cb ≤ W.heap.size := by have := HA.out.size; rw [← HCB.out]; exact this
        have H0 : Hid (FLoop vs i w2 (.int .i64 (0 : Nat)) (.int .i64 (0 : Nat)) w2) := Lib.hid ⟨0, 0, hvp, Nat.zero_le _, rfl, rfl, hid0, fun j hj h1 h2 => by omega, rfl⟩
        clear hov hb2 hvs hid0 u1 u2 x0 x1 x2 x3 x4 x5 HV HZ hvp
        go_wp2_with fail
        go_loopw [9, 10] (fun v9 v10 wr => FLoop vs i w2 v9 v10 wr) (fun _ v10 _ => vs.length - (intOf v10).toNat)
        case atStart => exact H0.out
        case round =>
          clear H0
          obtain ⟨f, k, hf, hkl, rfl, rfl, hfi, hbt, hwr⟩ := hrel
          subst hwr
          have HBT := Lib.hid hbt
          have HFI := Lib.hid hfi
          clear hbt hfi
          by_cases hk : k < vs.length
          · have j1 : (0 : Int) ≤ (k : Int) := by omega
            have j2 : (k : Int) < (vs.length : Int) := by omega
            have j3 : decide (k < vs.length) = true := decide_eq_true hk
            obtain ⟨b, o, hbe, hbr, y0, y1, y2⟩ := RdVe.piece HRV.out hk
            subst hbe
            obtain ⟨q, hq⟩ : ∃ q, decide (vs[k].idx < i) = q := ⟨_, rfl⟩
            have HQ := Lib.hid hq
            obtain ⟨xi, hxi⟩ : ∃ q, vs[k].idx = q := ⟨_, rfl⟩
            rw [hxi] at hq y0
            clear hxi
            cases q with
            | true =>
              go_wp2_with fail
              go_roundw
              case rel => exact ⟨k, k + 1, hk, by omega, rfl, by go_num, of_decide_eq_true HQ.out, fun j hj h1 h2 => by omega, rfl⟩
              case measure => simp [intOf]; omega
            | false =>
              go_wp2_with fail
              go_roundw
              case rel => exact ⟨f, k + 1, hf, by omega, rfl, by go_num, HFI.out, fun j hj h1 h2 => by
                rcases Nat.lt_or_ge j k with h | h
                · exact HBT.out j hj h1 h
                · obtain rfl : j = k := by omega
                  exact of_decide_eq_false HQ.out, rfl⟩
              case measure => simp [intOf]; omega
          · have j3 : decide (k < vs.length) = false := decide_eq_false hk
            have HBL := Lib.hid (backL_take HPW.out hf HFI.out (fun j hj h => HBT.out j hj h (by omega)))
            have j1 : (0 : Int) ≤ (f : Int) := by omega
            have j2 : (f : Int) < (vs.length : Int) := by omega
            obtain ⟨b, o, hbe, hbr, y0, y1, y2⟩ := RdVe.piece HRV.out hf
            subst hbe
            have x5 := HZ2.out.cell 5
            simp only [qB, qC, qD] at x5
            obtain ⟨xa, hxa⟩ : ∃ q, vs[f].absent = q := ⟨_, rfl⟩
            obtain ⟨xv, hxv⟩ : ∃ q, vs[f].value = q := ⟨_, rfl⟩
            have HXA := Lib.hid hxa
            have HXV := Lib.hid hxv
            rw [hxa] at y2
            rw [hxv] at y1
            clear hxa hxv hk hkl HBT HFI
            cases xa with
            | true =>
              have HN0 := Lib.hid (orgF_no A none (v := vs[f]) (by unfold hasAt; rw [HXA.out]; rfl) (vs.take f).reverse)
              go_wp2_with fail
              go_quiet (fail)
              go_wp2_with fail
              go_ret2
              exact ⟨by rw [HVS.out, HR.out, HBL.out, HN0.out]; rfl, by rw [HCB.out]; exact HBF.out.trans ((HB2.out.trans (below_drewN (Below.refl _ _) nq)).mono hcbs)⟩
            | false =>
              rcases Nat.lt_or_ge A xv.length with hlA | hlA
              · have e1 : decide ((bs xv).size ≤ A) = false := decide_eq_false (by rw [bs_size]; omega)
                have e2 : ((A : Nat) : Int) < ((bs xv).size : Int) := by rw [bs_size]; omega
                have e3 : A < (bs xv).size := by rw [bs_size]; omega
                obtain ⟨bb, hbb⟩ : ∃ q, xv.getD A 0 = q := ⟨_, rfl⟩
                have HBB2 := Lib.hid hbb
                have e4 : (bs xv)[A]'e3 = bb := by
                  rw [← hbb, List.getD_eq_getElem?_getD, List.getElem?_eq_getElem hlA]
                  rfl
                have HRES := Lib.hid (show orgF A (some (vs[f].idx, bb)) (vs.take f).reverse = orgF A none (backL i vs) by
                  rw [HBL.out, orgF_first A (by unfold hasAt; rw [HXA.out, HXV.out]; simp [hlA]), HXV.out, HBB2.out])
                obtain ⟨res, hres⟩ : ∃ q, orgF A none (backL i vs) = q := ⟨_, rfl⟩
                have HRS := Lib.hid hres
                rw [hres] at HRES
                clear hbb hres
                go_wp2_with fail
                go_quiet (fail)
                generalize nq = n1
                go_wp2_with fail
                go_quiet (fail)
                generalize nq = n2
                have HBW := Lib.hid (below_drewN (below_drewN (Below.refl w2.heap.size w2) n1) n2)
                have HZ3 := Lib.hid (HZ2.out.next HBW.out HZ2.out.lt)
                have HRV3 := Lib.hid (RdP.next HRV.out HBW.out)
                clear y0 y1 y2 x5 e1 e2 e3 e4 hlA j1 j2 j3 hbr
                generalize (w2.drewN n1).drewN n2 = W3 at *
                have H0 : Hid (BLoop vs A bb res W3 (.int .i64 f) W3) := Lib.hid ⟨f, hf, rfl, HRES.out, Below.refl _ _⟩
                go_wp2_with fail
                go_loopw [9] (fun v9 wr => BLoop vs A bb res W3 v9 wr) (fun v9 _ => (intOf v9).toNat)
                case atStart => exact H0.out
                case round =>
                  clear H0 HRES HXA HXV HBL HBB2 hf
                  obtain ⟨f, hf, rfl, hres, hbw⟩ := hrel
                  have HRES := Lib.hid hres
                  have HBR := Lib.hid hbw
                  clear hres hbw
                  have hW3 : w2.heap.size ≤ W3.heap.size := HBW.out.size
                  have HBE := Lib.hid (HBF.out.trans ((HB2.out.trans ((HBW.out.trans (HBR.out.mono hW3)).mono HB2.out.size)).mono hcbs))
                  have HRVr := Lib.hid (RdP.next HRV3.out HBR.out)
                  have HZr := Lib.hid (HZ3.out.next HBR.out HZ3.out.lt)
                  have x5 := HZr.out.cell 5
                  simp only [qB, qC, qD] at x5
                  clear hW3 HRV HRV3 HZ2 HZ3
                  rcases Nat.eq_zero_or_pos f with hf0 | hf0
                  · subst hf0
                    obtain ⟨b, o, hbe, hbr, y0, y1, y2⟩ := RdVe.piece HRVr.out hf
                    injection hbe with hbe
                    injection hbe with q1 q2
                    subst q1 q2
                    have k1 : (0 : Int) < (vs.length : Int) := by omega
                    have HRE := Lib.hid (show res = some (vs[0].idx, bb) from by rw [← HRES.out]; exact orgF_nil _ _)
                    simp only [Nat.zero_mul, Nat.add_zero] at y0 y1 y2
                    clear y1 y2
                    go_wp2_with fail
                    go_quiet (fail)
                    go_wp2_with fail
                    go_ret2
                    exact ⟨by rw [HVS.out, HR.out, HRS.out, HRE.out]; rfl, by rw [HCB.out]; exact HBE.out.trans (below_drewN (Below.refl _ _) nq)⟩
                  · obtain ⟨m, rfl⟩ : ∃ m, f = m + 1 := ⟨f - 1, by omega⟩
                    have hm : m < vs.length := by omega
                    have HTR := Lib.hid (take_rev vs m hm)
                    obtain ⟨b, o, hbe, hbr, y0, y1, y2⟩ := RdVe.piece HRVr.out hm
                    obtain ⟨b', o', hbe', hbr', y0', _, _⟩ := RdVe.piece HRVr.out hf
                    injection hbe with hbe
                    injection hbe with q1 q2
                    subst q1 q2
                    injection hbe' with hbe'
                    injection hbe' with q1 q2
                    subst q1 q2
                    obtain ⟨z, hz⟩ : ∃ z : Int, ((m + 1 : Nat) : Int) = z := ⟨_, rfl⟩
                    have k1 : decide ((0 : Int) < z) = true := decide_eq_true (by omega)
                    have k2 : IntKind.i64.wrap (z - 1) = (m : Int) := by rw [show z - 1 = (m : Int) by omega]; exact IntWalk.i64_in _ (by omega)
                    have k2' : z - 1 = (m : Int) := by omega
                    have k3 : (0 : Int) ≤ (m : Int) := by omega
                    have k4 : (m : Int) < (vs.length : Int) := by omega
                    have k5 : (0 : Int) ≤ z := by omega
                    have k6 : z < (vs.length : Int) := by omega
                    have k7 : z.toNat = m + 1 := by omega
                    rw [hz]
                    have HZZ := Lib.hid hz
                    obtain ⟨xa, hxa⟩ : ∃ q, vs[m].absent = q := ⟨_, rfl⟩
                    obtain ⟨xv, hxv⟩ : ∃ q, vs[m].value = q := ⟨_, rfl⟩
                    have HXA := Lib.hid hxa
                    have HXV := Lib.hid hxv
                    rw [hxa] at y2
                    rw [hxv] at y1
                    clear hxa hxv hz hf0
                    cases xa with
                    | true =>
                      have HRE := Lib.hid (show res = some (vs[m + 1].idx, bb) from by
                        rw [← HRES.out, HTR.out]
                        exact orgF_no A _ (by unfold hasAt; rw [HXA.out]; rfl) _)
                      go_wp2_with fail
                      go_quiet (fail)
                      go_wp2_with fail
                      go_ret2
                      exact ⟨by rw [HVS.out, HR.out, HRS.out, HRE.out]; rfl, by rw [HCB.out]; exact HBE.out.trans (below_drewN (Below.refl _ _) nq)⟩
                    | false =>
                      rcases Nat.lt_or_ge A xv.length with hlA | hlA
                      · have e1 : decide (A < (bs xv).size) = true := decide_eq_true (by rw [bs_size]; omega)
                        have e2 : ((A : Nat) : Int) < ((bs xv).size : Int) := by rw [bs_size]; omega
                        have e3 : A < (bs xv).size := by rw [bs_size]; omega
                        have e0 : (0 : Int) ≤ (A : Int) := by omega
                        have hha := Lib.hid (show hasAt A vs[m] = true by unfold hasAt; rw [HXA.out, HXV.out]; simp [hlA])
                        obtain ⟨b2, hb2⟩ : ∃ q, xv.getD A 0 = q := ⟨_, rfl⟩
                        have HB2Q := Lib.hid hb2
                        have e4 : (bs xv)[A]'e3 = b2 := by
                          rw [← hb2, List.getD_eq_getElem?_getD, List.getElem?_eq_getElem hlA]
                          rfl
                        clear hb2
                        by_cases hne : b2 = bb
                        · subst hne
                          have e5 : (((b2.toNat : Int)) == ((b2.toNat : Int))) = true := by simp
                          have HN2 := Lib.hid (show orgF A (some (vs[m].idx, b2)) (vs.take m).reverse = res by
                            rw [← HRES.out, HTR.out, orgF_eq A hha.out (by rw [HXV.out]; exact HB2Q.out)])
                          go_wp2_with fail
                          go_quiet (fail)
                          go_wp2_with fail
                          go_roundw
                          case rel => exact ⟨m, hm, rfl, HN2.out, HBR.out.trans (below_drewN (Below.refl _ _) nq)⟩
                          case measure => simp [intOf]; omega
                        · have e5 : (((b2.toNat : Int)) == ((bb.toNat : Int))) = false := by
                            rw [beq_eq_false_iff_ne]
                            intro e
                            exact hne (UInt8.toNat_inj.1 (by omega))
                          have HRE := Lib.hid (show res = some (vs[m + 1].idx, bb) from by
                            rw [← HRES.out, HTR.out]
                            exact orgF_ne A (by rw [HXV.out, HB2Q.out]; exact hne) _)
                          clear hne
                          go_wp2_with fail
                          go_quiet (fail)
                          go_wp2_with fail
                          go_ret2
                          exact ⟨by rw [HVS.out, HR.out, HRS.out, HRE.out]; rfl, by rw [HCB.out]; exact HBE.out.trans (below_drewN (Below.refl _ _) nq)⟩
                      · have e1 : decide (A < (bs xv).size) = false := decide_eq_false (by rw [bs_size]; omega)
                        have HRE := Lib.hid (show res = some (vs[m + 1].idx, bb) from by
                          rw [← HRES.out, HTR.out]
                          exact orgF_no A _ (by unfold hasAt; rw [HXA.out, HXV.out]; simp; omega) _)
                        go_wp2_with fail
                        go_quiet (fail)
                        go_wp2_with fail
                        go_ret2
                        exact ⟨by rw [HVS.out, HR.out, HRS.out, HRE.out]; rfl, by rw [HCB.out]; exact HBE.out.trans (below_drewN (Below.refl _ _) nq)⟩
              · have e1 : decide ((bs xv).size ≤ A) = true := decide_eq_true (by rw [bs_size]; omega)
                have HN0 := Lib.hid (orgF_no A none (v := vs[f]) (by unfold hasAt; rw [HXA.out, HXV.out]; simp; omega) (vs.take f).reverse)
                go_wp2_with fail
                go_quiet (fail)
                go_wp2_with fail
                go_ret2
                exact ⟨by rw [HVS.out, HR.out, HBL.out, HN0.out]; rfl, by rw [HCB.out]; exact HBF.out.trans ((HB2.out.trans (below_drewN (Below.refl _ _) nq)).mono hcbs)⟩
def acts3 : List A54 := [⟨0, 1, 0, 1, [97, 98], false⟩, ⟨0, 2, 0, 2, [120], false⟩, ⟨0, 1, 0, 1, [97, 99], false⟩]
theorem W54_vok (l : List A54) : VOk (W54 l) := ⟨fun a ha => ((good_W l).all a ha).2.1, fun a ha => ((good_W l).all a ha).1, by have := (good_W l).len; unfold W54; omega⟩
theorem obA_own : OwnE obA := ob54_own _ (by simp [ob54])
theorem known_a : orgR (W54 acts3).length (verL base54 (W54 acts3) obA) 0 3 = (0, 0) := by decide +kernel
theorem known_b : orgR (W54 acts3).length (verL base54 (W54 acts3) obA) 1 3 = (2, 0) := by decide +kernel
theorem acts3_at (w : World) : A54At (w.alloc (.cells (acts3.flatMap a54C).toArray 93)).heap.size (w.alloc (.cells (acts3.flatMap a54C).toArray 93)) (.slice (some ⟨w.heap.size, 0, none⟩) 3 3) acts3 := by
  refine ⟨⟨some ⟨w.heap.size, 0, none⟩, 3, rfl, Nat.le_refl _, by unfold maxLen; omega, .inr ⟨w.heap.size, 0, rfl, by simp, fun j u hu => ?_⟩⟩, fun a ha => ?_⟩
  · rw [Nat.zero_add, (Blk.new w 93 (acts3.flatMap a54C).toArray).cell j, List.getElem?_toArray]
    exact hu
  · simp only [acts3, List.mem_cons, List.not_mem_nil, or_false] at ha
    rcases ha with rfl | rfl | rfl <;> exact ⟨by decide, by decide, by decide, by decide, by decide, by decide⟩
set_option maxRecDepth 100000 in
set_option maxHeartbeats 2000000 in
theorem known54_is {w : World} (hu : UseAt w) : Calls Tryz.prog 10 #[] w fun e w' => e = .returned (.bool true) ∧ Below w.heap.size w w' := by
  have ha := (Below.refl w.heap.size w).alloc (Nat.le_refl _) (.cells #[.int .u8 0, .int .u8 1, .int .u8 0, .int .u8 1, .string (bs [97, 98]), .bool false, .int .u8 0, .int .u8 2, .int .u8 0, .int .u8 2, .string (bs [120]), .bool false, .int .u8 0, .int .u8 1, .int .u8 0, .int .u8 1, .string (bs [97, 99]), .bool false] 93)
  have HA := Lib.hid ha
  have HAT : Hid (A54At (w.alloc (.cells #[.int .u8 0, .int .u8 1, .int .u8 0, .int .u8 1, .string (bs [97, 98]), .bool false, .int .u8 0, .int .u8 2, .int .u8 0, .int .u8 2, .string (bs [120]), .bool false, .int .u8 0, .int .u8 1, .int .u8 0, .int .u8 1, .string (bs [97, 99]), .bool false] 93)).heap.size (w.alloc (.cells #[.int .u8 0, .int .u8 1, .int .u8 0, .int .u8 1, .string (bs [97, 98]), .bool false, .int .u8 0, .int .u8 2, .int .u8 0, .int .u8 2, .string (bs [120]), .bool false, .int .u8 0, .int .u8 1, .int .u8 0, .int .u8 1, .string (bs [97, 99]), .bool false] 93)) (.slice (some ⟨w.heap.size, 0, none⟩) 3 3) acts3) := Lib.hid (acts3_at w)
  have HU := Lib.hid (hu.below ha)
  have KA := Lib.hid known_a
  have KB := Lib.hid known_b
  have HVO := Lib.hid (W54_vok acts3)
  clear ha hu
  go_enter Tryz.func10, Tryz.ntmps10
  go_wp2_with fail
  go_at_call 13
  refine (build54_is HAT.out HU.out).mono ?_
  rintro e w2 ⟨pb, lv, gx, gg, F, B', rfl, hst, hac, hvx, hgx, hF, hb2⟩
  have hal := (Below.refl w2.heap.size w2).alloc (Nat.le_refl _) (.cells #[.pointer pb, lv, .pointer (some ⟨gx, 0, none⟩), .pointer (some ⟨gg, 0, none⟩)] 49)
  have zc := Blk.new w2 49 #[.pointer pb, lv, .pointer (some ⟨gx, 0, none⟩), .pointer (some ⟨gg, 0, none⟩)]
  have HX := Lib.hid (hvx.next hal)
  have HB2 := Lib.hid (HA.out.trans (hb2.mono HA.out.size))
  have HB3 := Lib.hid (HB2.out.trans (hal.mono HB2.out.size))
  obtain ⟨A9, c9, rfl, hc9⟩ := RowRd.form hac
  generalize W54 acts3 = L at *
  go_upto_region 4 with (fail)
  have hcb : w2.heap.size < (w2.alloc (.cells #[.pointer pb, .slice A9 L.length c9, .pointer (some ⟨gx, 0, none⟩), .pointer (some ⟨gg, 0, none⟩)] 49)).heap.size := by simp
  have h0l : 0 < ob54.length := by decide
  have x2 := zc.cell 2
  simp only [qB, qC, qD] at x2
  have ZC := Lib.hid zc
  clear hal hb2 hst hac hvx hgx zc HAT HU
  generalize w2.alloc (.cells #[.pointer pb, .slice A9 L.length c9, .pointer (some ⟨gx, 0, none⟩), .pointer (some ⟨gg, 0, none⟩)] 49) = W at *
  generalize w2.heap.size = cb at *
  refine wp_region_noPanic ?_
  refine wp_region_held_drew (S := (fun (w' : World) => w'.cell? ⟨cb, 2, none⟩ = some (.pointer (some ⟨gx, 0, none⟩)))) (by kernel_rfl) ?_ (fun hHeld => ?_)
  · exact x2
  refine tk (v := ?_) 0 rfl (by kernel_rfl) (fun _ _ _ h => h) ?_ hHeld ?_
  rotate_left
  · (intro w h; (try dsimp only at h); go_simp; try with_reducible rfl)
  try simp only [Act.put, pB, pC, pD]
  refine tk (v := ?_) 1 rfl (by kernel_rfl) (fun _ _ _ h => h) ?_ hHeld ?_
  rotate_left
  · (intro w h; (try dsimp only at h); go_simp; try with_reducible rfl)
  try simp only [Act.put, pB, pC, pD]
  refine wpAnyH_ready (rs := [2]) (by kernel_rfl) (by simp) ?_
  refine AllReadyH.cons rfl (fun K hK => ?_) AllReadyH.nil
  go_simp
  refine (objects_is W.drew).mono ?_; rintro e w9 ⟨go, co, rfl, how9, hb9'⟩; have hb9 := (Below.refl W.heap.size W).drew.trans hb9'; have HB9 := Lib.hid hb9; clear hb9'
  try (go_wp2_with fail)
  refine hK.out _ _ ?_ (fun hNew => ?_)
  · exact (hb9.cell (p := ⟨cb, 2, none⟩) hcb).trans x2
  clear hK K hHeld
  have hHeld := hNew
  clear hNew
  try simp only [Act.put, pB, pC, pD]
  have yy := RdNm.piece (show RdNm w9 (.slice (some ⟨go, 0, none⟩) ob54.length co) ob54 from Rd.of_own how9) (k := 0) (by decide)
  obtain ⟨b9, o9, hbe9, hbr9, y0, y1, y2, y3, y4⟩ := yy
  injection hbe9 with hbe9
  injection hbe9 with e1 e2
  subst e1 e2
  simp only [Nat.zero_add, Nat.zero_mul, show ob54[0]'(by decide) = obA from rfl] at y0 y1 y2 y3 y4
  refine wpAnyH_more (S' := (fun (w' : World) => w'.cell? ⟨cb, 2, none⟩ = some (.pointer (some ⟨gx, 0, none⟩)) ∧ w'.cell? ⟨go, 0, none⟩ = some (.int .i64 obA.kind) ∧ w'.cell? ⟨go, 1, none⟩ = some (.string (bs obA.owner)) ∧ w'.cell? ⟨go, 2, none⟩ = some (.int .i64 obA.num) ∧ w'.cell? ⟨go, 3, none⟩ = some (.int .i64 obA.idx) ∧ w'.cell? ⟨go, 4, none⟩ = some (.string (bs obA.text)))) (fun _ h => h.1) ?_
  clear hHeld
  have hHeld : (fun (w' : World) => w'.cell? ⟨cb, 2, none⟩ = some (.pointer (some ⟨gx, 0, none⟩)) ∧ w'.cell? ⟨go, 0, none⟩ = some (.int .i64 obA.kind) ∧ w'.cell? ⟨go, 1, none⟩ = some (.string (bs obA.owner)) ∧ w'.cell? ⟨go, 2, none⟩ = some (.int .i64 obA.num) ∧ w'.cell? ⟨go, 3, none⟩ = some (.int .i64 obA.idx) ∧ w'.cell? ⟨go, 4, none⟩ = some (.string (bs obA.text))) _ := ⟨(hb9.cell (p := ⟨cb, 2, none⟩) hcb).trans x2, y0, y1, y2, y3, y4⟩
  refine tk (v := ?_) 3 rfl (by kernel_rfl) (fun _ _ _ h => h) ?_ hHeld ?_
  rotate_left
  · (intro w h; (try dsimp only at h); go_simp; try with_reducible rfl)
  try simp only [Act.put, pB, pC, pD]
  refine tk (v := ?_) 4 rfl (by kernel_rfl) (fun _ _ _ h => h) ?_ hHeld ?_
  rotate_left
  · (intro w h; (try dsimp only at h); go_simp; try with_reducible rfl)
  try simp only [Act.put, pB, pC, pD]
  refine tk (v := ?_) 5 rfl (by kernel_rfl) (fun _ _ _ h => h) ?_ hHeld ?_
  rotate_left
  · (intro w h; (try dsimp only at h); go_simp; try with_reducible rfl)
  try simp only [Act.put, pB, pC, pD]
  refine wpAnyH_ready (rs := [6]) (by kernel_rfl) (by simp) ?_
  refine AllReadyH.cons rfl (fun K hK => ?_) AllReadyH.nil
  go_simp
  refine (origin_is (n := obA) 0 3 (HX.out.next HB9.out) obA_own HVO.out).mono ?_; rintro e w10 ⟨rfl, hb10⟩; rw [KA.out]; have HB10 := Lib.hid (HB9.out.trans (hb10.mono HB9.out.size))
  try (go_wp2_with fail)
  refine hK.out _ _ ?_ (fun hNew => ?_)
  · exact ⟨(HB10.out.cell (p := ⟨cb, 2, none⟩) hcb).trans x2, (hb10.cell (p := ⟨go, 0, none⟩) hbr9).trans y0, (hb10.cell (p := ⟨go, 1, none⟩) hbr9).trans y1, (hb10.cell (p := ⟨go, 2, none⟩) hbr9).trans y2, (hb10.cell (p := ⟨go, 3, none⟩) hbr9).trans y3, (hb10.cell (p := ⟨go, 4, none⟩) hbr9).trans y4⟩
  clear hK K hHeld
  have hHeld := hNew
  clear hNew
  try simp only [Act.put, pB, pC, pD]
  refine tk (v := ?_) 7 rfl (by kernel_rfl) (fun _ _ _ h => h) ?_ hHeld ?_
  rotate_left
  · (intro w h; (try dsimp only at h); go_simp; try with_reducible rfl)
  try simp only [Act.put, pB, pC, pD]
  refine tk (v := ?_) 8 rfl (by kernel_rfl) (fun _ _ _ h => h) ?_ hHeld ?_
  rotate_left
  · (intro w h; (try dsimp only at h); go_simp; try with_reducible rfl)
  try simp only [Act.put, pB, pC, pD]
  refine tk (v := ?_) 9 rfl (by kernel_rfl) (fun _ _ _ h => h) ?_ hHeld ?_
  rotate_left
  · (intro w h; (try dsimp only at h); go_simp; try with_reducible rfl)
  try simp only [Act.put, pB, pC, pD]
  refine tk (v := ?_) 10 rfl (by kernel_rfl) (fun _ _ _ h => h) ?_ hHeld ?_
  rotate_left
  · (intro w h; (try dsimp only at h); go_simp; try with_reducible rfl)
  try simp only [Act.put, pB, pC, pD]
  refine tk (v := ?_) 11 rfl (by kernel_rfl) (fun _ _ _ h => h) ?_ hHeld ?_
  rotate_left
  · (intro w h; (try dsimp only at h); go_simp; try with_reducible rfl)
  try simp only [Act.put, pB, pC, pD]
  refine wpAnyH_done (by kernel_rfl) ?_ _
  clear hHeld
  try simp only [List.getElem_toArray, List.getElem_cons_zero, List.getElem_cons_succ, Act.put, pB, pC, pD]
  refine NoPanic.normal ?_
  clear y0 y1 y2 y3 y4 how9 hb9 hb10
  have HB5 := Lib.hid HB10.out
  replace x2 := (HB5.out.cell (p := ⟨cb, 2, none⟩) hcb).trans x2
  replace hcb := Nat.lt_of_lt_of_le hcb HB5.out.size
  replace HX := Lib.hid (HX.out.next HB5.out)
  have HBB := Lib.hid (HB3.out.trans (HB5.out.mono HB3.out.size))
  clear HB3 HB9 HB10 HB2
  generalize w10 = W at *
  go_upto_region 5 with (fail)
  refine wp_region_noPanic ?_
  refine wp_region_held_drew (S := (fun (w' : World) => w'.cell? ⟨cb, 2, none⟩ = some (.pointer (some ⟨gx, 0, none⟩)))) (by kernel_rfl) ?_ (fun hHeld => ?_)
  · exact x2
  refine tk (v := ?_) 0 rfl (by kernel_rfl) (fun _ _ _ h => h) ?_ hHeld ?_
  rotate_left
  · (intro w h; (try dsimp only at h); go_simp; try with_reducible rfl)
  try simp only [Act.put, pB, pC, pD]
  refine tk (v := ?_) 1 rfl (by kernel_rfl) (fun _ _ _ h => h) ?_ hHeld ?_
  rotate_left
  · (intro w h; (try dsimp only at h); go_simp; try with_reducible rfl)
  try simp only [Act.put, pB, pC, pD]
  refine wpAnyH_ready (rs := [2]) (by kernel_rfl) (by simp) ?_
  refine AllReadyH.cons rfl (fun K hK => ?_) AllReadyH.nil
  go_simp
  refine (objects_is W.drew).mono ?_; rintro e w9 ⟨go, co, rfl, how9, hb9'⟩; have hb9 := (Below.refl W.heap.size W).drew.trans hb9'; have HB9 := Lib.hid hb9; clear hb9'
  try (go_wp2_with fail)
  refine hK.out _ _ ?_ (fun hNew => ?_)
  · exact (hb9.cell (p := ⟨cb, 2, none⟩) hcb).trans x2
  clear hK K hHeld
  have hHeld := hNew
  clear hNew
  try simp only [Act.put, pB, pC, pD]
  have yy := RdNm.piece (show RdNm w9 (.slice (some ⟨go, 0, none⟩) ob54.length co) ob54 from Rd.of_own how9) (k := 0) (by decide)
  obtain ⟨b9, o9, hbe9, hbr9, y0, y1, y2, y3, y4⟩ := yy
  injection hbe9 with hbe9
  injection hbe9 with e1 e2
  subst e1 e2
  simp only [Nat.zero_add, Nat.zero_mul, show ob54[0]'(by decide) = obA from rfl] at y0 y1 y2 y3 y4
  refine wpAnyH_more (S' := (fun (w' : World) => w'.cell? ⟨cb, 2, none⟩ = some (.pointer (some ⟨gx, 0, none⟩)) ∧ w'.cell? ⟨go, 0, none⟩ = some (.int .i64 obA.kind) ∧ w'.cell? ⟨go, 1, none⟩ = some (.string (bs obA.owner)) ∧ w'.cell? ⟨go, 2, none⟩ = some (.int .i64 obA.num) ∧ w'.cell? ⟨go, 3, none⟩ = some (.int .i64 obA.idx) ∧ w'.cell? ⟨go, 4, none⟩ = some (.string (bs obA.text)))) (fun _ h => h.1) ?_
  clear hHeld
  have hHeld : (fun (w' : World) => w'.cell? ⟨cb, 2, none⟩ = some (.pointer (some ⟨gx, 0, none⟩)) ∧ w'.cell? ⟨go, 0, none⟩ = some (.int .i64 obA.kind) ∧ w'.cell? ⟨go, 1, none⟩ = some (.string (bs obA.owner)) ∧ w'.cell? ⟨go, 2, none⟩ = some (.int .i64 obA.num) ∧ w'.cell? ⟨go, 3, none⟩ = some (.int .i64 obA.idx) ∧ w'.cell? ⟨go, 4, none⟩ = some (.string (bs obA.text))) _ := ⟨(hb9.cell (p := ⟨cb, 2, none⟩) hcb).trans x2, y0, y1, y2, y3, y4⟩
  refine tk (v := ?_) 3 rfl (by kernel_rfl) (fun _ _ _ h => h) ?_ hHeld ?_
  rotate_left
  · (intro w h; (try dsimp only at h); go_simp; try with_reducible rfl)
  try simp only [Act.put, pB, pC, pD]
  refine tk (v := ?_) 4 rfl (by kernel_rfl) (fun _ _ _ h => h) ?_ hHeld ?_
  rotate_left
  · (intro w h; (try dsimp only at h); go_simp; try with_reducible rfl)
  try simp only [Act.put, pB, pC, pD]
  refine tk (v := ?_) 5 rfl (by kernel_rfl) (fun _ _ _ h => h) ?_ hHeld ?_
  rotate_left
  · (intro w h; (try dsimp only at h); go_simp; try with_reducible rfl)
  try simp only [Act.put, pB, pC, pD]
  refine wpAnyH_ready (rs := [6]) (by kernel_rfl) (by simp) ?_
  refine AllReadyH.cons rfl (fun K hK => ?_) AllReadyH.nil
  go_simp
  refine (origin_is (n := obA) 1 3 (HX.out.next HB9.out) obA_own HVO.out).mono ?_; rintro e w10 ⟨rfl, hb10⟩; rw [KB.out]; have HB10 := Lib.hid (HB9.out.trans (hb10.mono HB9.out.size))
  try (go_wp2_with fail)
  refine hK.out _ _ ?_ (fun hNew => ?_)
  · exact ⟨(HB10.out.cell (p := ⟨cb, 2, none⟩) hcb).trans x2, (hb10.cell (p := ⟨go, 0, none⟩) hbr9).trans y0, (hb10.cell (p := ⟨go, 1, none⟩) hbr9).trans y1, (hb10.cell (p := ⟨go, 2, none⟩) hbr9).trans y2, (hb10.cell (p := ⟨go, 3, none⟩) hbr9).trans y3, (hb10.cell (p := ⟨go, 4, none⟩) hbr9).trans y4⟩
  clear hK K hHeld
  have hHeld := hNew
  clear hNew
  try simp only [Act.put, pB, pC, pD]
  refine tk (v := ?_) 7 rfl (by kernel_rfl) (fun _ _ _ h => h) ?_ hHeld ?_
  rotate_left
  · (intro w h; (try dsimp only at h); go_simp; try with_reducible rfl)
  try simp only [Act.put, pB, pC, pD]
  refine tk (v := ?_) 8 rfl (by kernel_rfl) (fun _ _ _ h => h) ?_ hHeld ?_
  rotate_left
  · (intro w h; (try dsimp only at h); go_simp; try with_reducible rfl)
  try simp only [Act.put, pB, pC, pD]
  refine tk (v := ?_) 9 rfl (by kernel_rfl) (fun _ _ _ h => h) ?_ hHeld ?_
  rotate_left
  · (intro w h; (try dsimp only at h); go_simp; try with_reducible rfl)
  try simp only [Act.put, pB, pC, pD]
  refine tk (v := ?_) 10 rfl (by kernel_rfl) (fun _ _ _ h => h) ?_ hHeld ?_
  rotate_left
  · (intro w h; (try dsimp only at h); go_simp; try with_reducible rfl)
  try simp only [Act.put, pB, pC, pD]
  refine tk (v := ?_) 11 rfl (by kernel_rfl) (fun _ _ _ h => h) ?_ hHeld ?_
  rotate_left
  · (intro w h; (try dsimp only at h); go_simp; try with_reducible rfl)
  try simp only [Act.put, pB, pC, pD]
  refine wpAnyH_done (by kernel_rfl) ?_ _
  clear hHeld
  try simp only [List.getElem_toArray, List.getElem_cons_zero, List.getElem_cons_succ, Act.put, pB, pC, pD]
  refine NoPanic.normal ?_
  go_wp2_with fail
  go_ret
  exact ⟨rfl, HBB.out.trans (HB10.out.mono HBB.out.size)⟩
end Go.Proofs.YtamjllakfgphnaaGreatDoor
namespace Go.Proofs.YtamjllakfgphnaaGreatDoor
open Go.RowKit
set_option linter.unusedSimpArgs false
set_option linter.unusedVariables false
attribute [local go_sem ↓] Go.wp_at_zero Go.wp_at_succ
set_option maxRecDepth 100000 in
theorem tequal_is {w : World} {v1 v2 v3 u1 u2 u3 : Value} {a1 a2 b1 b2 : List Int} {a3 b3 : List Bs} (h1 : RdIn w v1 a1) (h2 : RdIn w v2 a2) (h3 : RdSt w v3 a3) (k1 : RdIn w u1 b1) (k2 : RdIn w u2 b2) (k3 : RdSt w u3 b3)
    (l1 : a1.length ≤ 1000000) (l2 : a2.length ≤ 1000000) (l3 : a3.length ≤ 1000000) (m1 : b1.length ≤ 1000000) (m2 : b2.length ≤ 1000000) (m3 : b3.length ≤ 1000000) :
    Calls Tryz.prog 11 #[.agg #[v1, v2, v3], .agg #[u1, u2, u3]] w fun e w' => e = .returned (.bool (decide (a1 = b1) && decide (a2 = b2) && decide (a3 = b3))) ∧ Below w.heap.size w w' := by
  have ha := ((Below.refl w.heap.size w).alloc (Nat.le_refl _) (.cells #[v1, v2, v3] 36)).alloc (by simp) (.cells #[u1, u2, u3] 36)
  have zx := (Blk.new w 36 #[v1, v2, v3]).alloc (.cells #[u1, u2, u3] 36)
  have zy := Blk.new (w.alloc (.cells #[v1, v2, v3] 36)) 36 #[u1, u2, u3]
  rw [World.size_alloc] at zy
  obtain ⟨A1, c1, rfl, _⟩ := RdP.form h1
  obtain ⟨A2, c2, rfl, _⟩ := RdP.form h2
  obtain ⟨A3, c3, rfl, _⟩ := RdP.form h3
  obtain ⟨B1, d1, rfl, _⟩ := RdP.form k1
  obtain ⟨B2, d2, rfl, _⟩ := RdP.form k2
  obtain ⟨B3, d3, rfl, _⟩ := RdP.form k3
  have H1 := Lib.hid (RdP.next h1 ha)
  have H2 := Lib.hid (RdP.next h2 ha)
  have H3 := Lib.hid (RdP.next h3 ha)
  have K1 := Lib.hid (RdP.next k1 ha)
  have K2 := Lib.hid (RdP.next k2 ha)
  have K3 := Lib.hid (RdP.next k3 ha)
  have HA := Lib.hid ha
  have ZX := Lib.hid zx
  have ZY := Lib.hid zy
  have x0 := zx.cell 0
  have y0 := zy.cell 0
  simp only [qB, qC, qD] at x0 y0
  obtain ⟨q1, hq1⟩ : ∃ q, decide (a1 = b1) = q := ⟨_, rfl⟩
  obtain ⟨q2, hq2⟩ : ∃ q, decide (a2 = b2) = q := ⟨_, rfl⟩
  obtain ⟨q3, hq3⟩ : ∃ q, decide (a3 = b3) = q := ⟨_, rfl⟩
  have HQ1 := Lib.hid hq1
  have HQ2 := Lib.hid hq2
  have HQ3 := Lib.hid hq3
  rw [hq1, hq2, hq3]
  clear h1 h2 h3 k1 k2 k3 ha zx zy hq1 hq2 hq3
  go_enter Tryz.func11, Tryz.ntmps11
  go_wp2_with fail
  generalize (w.alloc (.cells #[.slice A1 a1.length c1, .slice A2 a2.length c2, .slice A3 a3.length c3] 36)).alloc (.cells #[.slice B1 b1.length d1, .slice B2 b2.length d2, .slice B3 b3.length d3] 36) = W at *
  obtain ⟨yb, hyb⟩ : ∃ x, w.heap.size + 1 = x := ⟨_, rfl⟩
  have HYB := Lib.hid hyb
  rw [hyb] at ZY y0 ⊢
  obtain ⟨xb, hxb⟩ : ∃ x, w.heap.size = x := ⟨_, rfl⟩
  have HXB := Lib.hid hxb
  rw [hxb] at ZX HA x0 ⊢
  clear hyb hxb
  go_at_call 31
  refine (eqint_is H1.out K1.out l1 m1).mono ?_
  rintro e w2 ⟨rfl, hb2⟩
  rw [HQ1.out]
  have HB2 := Lib.hid (HA.out.trans (hb2.mono (Nat.le_of_lt ZX.out.lt)))
  have x1 := (ZX.out.next hb2 ZX.out.lt).cell 1
  have y1 := (ZY.out.next hb2 ZY.out.lt).cell 1
  have ZX2 := Lib.hid (ZX.out.next hb2 ZX.out.lt)
  have ZY2 := Lib.hid (ZY.out.next hb2 ZY.out.lt)
  replace H2 := Lib.hid (RdP.next H2.out hb2)
  replace H3 := Lib.hid (RdP.next H3.out hb2)
  replace K2 := Lib.hid (RdP.next K2.out hb2)
  replace K3 := Lib.hid (RdP.next K3.out hb2)
  simp only [qB, qC, qD] at x1 y1
  clear hb2 x0 y0
  cases q1 with
  | false =>
    go_wp2_with fail
    go_ret
    exact ⟨rfl, by rw [HXB.out]; exact HB2.out⟩
  | true =>
    go_wp2_with fail
    go_at_call 31
    refine (eqint_is H2.out K2.out l2 m2).mono ?_
    rintro e w3 ⟨rfl, hb3⟩
    rw [HQ2.out]
    have HB3 := Lib.hid (HB2.out.trans (hb3.mono (Nat.le_of_lt ZX2.out.lt)))
    have x2 := (ZX2.out.next hb3 ZX2.out.lt).cell 2
    have y2 := (ZY2.out.next hb3 ZY2.out.lt).cell 2
    replace H3 := Lib.hid (RdP.next H3.out hb3)
    replace K3 := Lib.hid (RdP.next K3.out hb3)
    have hl3 : xb ≤ w3.heap.size := Nat.le_of_lt (ZX2.out.next hb3 ZX2.out.lt).lt
    simp only [qB, qC, qD] at x2 y2
    clear hb3 x1 y1
    cases q2 with
    | false =>
      go_wp2_with fail
      go_ret
      exact ⟨rfl, by rw [HXB.out]; exact HB3.out⟩
    | true =>
      go_wp2_with fail
      go_at_call 32
      refine (eqname_is H3.out K3.out l3 m3).mono ?_
      rintro e w4 ⟨rfl, hb4⟩
      rw [HQ3.out]
      have HB4 := Lib.hid (HB3.out.trans (hb4.mono hl3))
      clear hb4
      go_wp2_with fail
      go_ret
      exact ⟨by simp, by rw [HXB.out]; exact HB4.out⟩
end Go.Proofs.YtamjllakfgphnaaGreatDoor
namespace Go.Proofs.YtamjllakfgphnaaGreatDoor
set_option linter.unusedVariables false
def InpLt (a b : Ky) : Prop := a.cls = 0 → b.cls = 0 → a.num < b.num
theorem fold_inp (l : List A54) : ∀ k, k ≤ l.length → ((fold54 (l.take k)).l.map Ac.key).Pairwise InpLt ∧ ∀ a ∈ (fold54 (l.take k)).l, a.key.cls = 0 → a.key.num ≤ (fold54 (l.take k)).inp
  | 0, _ => by simp [fold54]
  | k + 1, hk => by
    obtain ⟨h1, h2⟩ := fold_inp l k (by omega)
    rw [fold54_take l k (by omega)]
    generalize fold54 (l.take k) = b at h1 h2
    generalize l[k] = a
    unfold step54
    simp only
    have hk1 : (ac54 b.now (b.tick + 1 + a.wait % 2) b.inp a).key = key54 (b.tick + 1 + a.wait % 2) b.inp a := rfl
    refine ⟨?_, fun x hx hc => ?_⟩
    · rw [List.map_append, List.pairwise_append]
      refine ⟨h1, by simp, fun x hx y hy => ?_⟩
      obtain ⟨z, hz, rfl⟩ := List.mem_map.1 hx
      simp only [List.map_cons, List.map_nil, List.mem_singleton] at hy
      subst hy
      intro c1 c2
      have := h2 z hz c1
      rw [hk1] at c2 ⊢
      unfold key54 at c2 ⊢
      split at c2
      · rename_i h; rw [if_pos h]; simp only; omega
      · simp at c2
    · rcases List.mem_append.1 hx with hx | hx
      · have := h2 x hx hc
        unfold inp54
        split <;> omega
      · simp only [List.mem_singleton] at hx
        subst hx
        rw [hk1] at hc ⊢
        unfold key54 at hc ⊢
        unfold inp54
        split at hc
        · rename_i h; rw [if_pos h, if_pos h]; simp
        · simp at hc
theorem W54_inp (l : List A54) : ((W54 l).map Ac.key).Pairwise InpLt := by
  have := (fold_inp (l.take 20) (l.take 20).length (Nat.le_refl _)).1
  rw [List.take_length] at this
  exact this
theorem inpK_asc {ks : List Ky} {S : List Int} (hk : ks.Pairwise InpLt) (hS : S.Pairwise (· < ·)) (hr : ∀ i ∈ S, 0 ≤ i) : (inpK ks S).Pairwise (· < ·) := by
  unfold inpK
  rw [List.pairwise_filterMap]
  refine List.Pairwise.imp_of_mem ?_ hS
  intro a b ha hb hab x hx y hy
  have ha0 := hr a ha
  have hb0 := hr b hb
  cases h1 : ks[a.toNat]? with
  | none => rw [h1] at hx; simp at hx
  | some ka =>
    cases h2 : ks[b.toNat]? with
    | none => rw [h2] at hy; simp at hy
    | some kb =>
      rw [h1] at hx
      rw [h2] at hy
      simp only at hx hy
      split at hx
      · rename_i c1
        split at hy
        · rename_i c2
          simp at hx hy
          subst hx hy
          obtain ⟨l1, e1⟩ := List.getElem?_eq_some_iff.1 h1
          obtain ⟨l2, e2⟩ := List.getElem?_eq_some_iff.1 h2
          have := List.pairwise_iff_getElem.1 hk _ _ l1 l2 (by omega)
          rw [e1, e2] at this
          exact this c1 c2
        · simp at hy
      · simp at hx
end Go.Proofs.YtamjllakfgphnaaGreatDoor
