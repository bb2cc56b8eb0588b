/- Walks and plain facts, packed: W107, W108, M22, W76, Q1, W81, W89, W109, GU, M16, M17. -/
import Derived.Test.YtamjllakfgphnaaGreatDoorRows
import Derived.ProofKit
import Derived.LaidMore
import Derived.OpenShut
import Derived.Stop.Joined
import Derived.WideShapes
import Derived.Test.YtamjllakfgphnaaGreatDoorZA6
namespace Go.Proofs.YtamjllakfgphnaaGreatDoor
open Go.RowKit Go.MapKept Go.ChangeMaps
set_option linter.unusedSimpArgs false
set_option linter.unusedVariables false
attribute [local go_sem ↓] Go.wp_at_zero Go.wp_at_succ
abbrev TRows (w : World) (w0 : World) (n tb : Nat) (T : Bs → List Int) : Prop := MapRowsS 3 1 inC w (fun i => w0.heap.size ≤ i ∧ i < n) tb T
theorem outer_below {tb : Nat} {w wr : World} (h : Outer (fun i => i = tb) w wr) {B : Nat} (h1 : B ≤ tb) (h2 : B ≤ w.heap.size) : Below B w wr := h.below h2 fun i e => by rw [e]; exact h1
theorem outer_more {tb : Nat} {w wr w2 : World} (h : Outer (fun i => i = tb) w wr) (hb : Below w.heap.size wr w2) : Outer (fun i => i = tb) w w2 :=
  ⟨hb.os.trans h.os, hb.tape.trans h.tape, hb.output.trans h.output, Nat.le_trans h.size hb.size, fun i hi hne => (hb.block i hi).trans (h.block i hi hne)⟩
def clRel (l : List Ac) (ks : List Ky) (o : Int) (w0 w : World) (tb mb : Nat) (gk : Nat) (v : Value) (wr : World) : Prop := ∃ (D Q : List Int) (T : Bs → List Int), SetAt wr mb D ∧ QOwn wr w.heap.size v Q ∧ TRows wr w0 w.heap.size tb T ∧ CI (lnkD l) ks o D Q T ∧ ks.length - D.length + Q.length = gk ∧ gk ≤ ks.length ∧ Outer (fun i => i = tb) w wr
def naRel (row : List Lk) (W : World) (v i : Value) (wr : World) : Prop := ∃ m : Nat, m ≤ row.length ∧ i = .int .i64 m ∧ wr.ownsRow W.heap.size 3 1 v ((row.take m).map Lk.frm).length (((row.take m).map Lk.frm).flatMap inC) ∧ Below W.heap.size W wr
def cmRel (nx : List Int) (T2 : Bs → List Int) (D Q : List Int) (w0 w : World) (tb mb : Nat) (n3 : Nat) (vq : Value) (v : Value) (wr : World) : Prop :=
  wr.ownsRow n3 3 1 v nx.length (nx.flatMap inC) ∧ TRows wr w0 w.heap.size tb T2 ∧ SetAt wr mb D ∧ QOwn wr w.heap.size vq Q ∧ Outer (fun i => i = tb) w wr
def cbRel (nx : List Int) (vn : Value) (n3 : Nat) (S : List Int × List Int) (T2 : Bs → List Int) (w0 w : World) (tb mb : Nat) (v i : Value) (wr : World) : Prop :=
  ∃ (m : Nat) (D Q : List Int), m ≤ nx.length ∧ i = .int .i64 m ∧ clIn (nx.drop m) (D, Q) = S ∧ Q ≠ [] ∧ Q.length ≤ 200 + m ∧ SetAt wr mb D ∧ QOwn wr w.heap.size v Q ∧ v.ownBlock ≠ vn.ownBlock ∧ wr.ownsRow n3 3 1 vn nx.length (nx.flatMap inC) ∧ TRows wr w0 w.heap.size tb T2 ∧ Outer (fun i => i = tb) w wr
set_option maxRecDepth 100000 in
set_option maxHeartbeats 8000000 in
theorem closed_is {w0 w : World} {B g : Nat} {l : List Ac} {ks : List Ky} {kv : Value} {tb : Nat} {o : Int} (hg : GAt w0 B g l) (hb0 : Below w0.heap.size w0 w) (hk : RdKy w kv ks) (ht : TRows w w0 w.heap.size tb (trn ks)) (hl : l.length ≤ 100) (hr : ∀ a ∈ l, a.reads.length ≤ 10) (hkl : ks.length ≤ l.length) (ho0 : 0 ≤ o) (ho1 : o < (ks.length : Int)) :
    Calls Tryz.prog 47 #[.pointer (some ⟨g, 0, none⟩), kv, .map (some tb), .int .i64 o] w fun e w' => ∃ v S, e = .returned (.tuple #[v, .int .i64 0]) ∧ Clo (lnkD l) ks o S ∧ RdIn w' v S ∧ Outer (fun i => i = tb) w w' := by
  obtain ⟨Ak, ck, rfl, hck⟩ := RdP.form hk
  obtain ⟨htb0, htb1⟩ := ht.1
  have HMP := Lib.hid ht.map
  have HG := Lib.hid hg
  have HB0 := Lib.hid hb0
  have HK := Lib.hid hk
  have HT := Lib.hid ht
  have HLR := Lib.hid hr
  have HO := Lib.hid (And.intro ho0 ho1)
  have hmm := @run_makeMap Tryz.prog
  obtain ⟨w2, hup, hm2, hg2⟩ := map_putI (MapAtI.new w) o (.bool true) Tryz.underlying153
  have HS2 := Lib.hid (show SetAt w2 w.heap.size [o] from SetAt.start hm2)
  have hb2 := ((Below.refl w.heap.size w).alloc (Nat.le_refl _) (.map #[] 0)).grown hg2 (by simp) (fun k hk => by injection hk with hk; omega)
  have HB2 := Lib.hid hb2
  clear hg hb0 hk ht hr ho0 ho1 hm2 hg2 hb2
  go_enter Tryz.func47, Tryz.ntmps47
  go_upto_region 3 with (fail)
  clear hup
  obtain ⟨mb, hmb⟩ : ∃ mb, w.heap.size = mb := ⟨_, rfl⟩
  have HMB := Lib.hid hmb
  rw [hmb] at HS2 ⊢
  clear hmb
  have hba := (Below.refl w2.heap.size w2).alloc (Nat.le_refl _) (.cells #[.int .i64 o] 3)
  have HBA := Lib.hid (HB2.out.trans (hba.mono HB2.out.size))
  have H0 : Hid (clRel l ks o w0 w tb mb ks.length (.slice (some ⟨w2.heap.size, 0, none⟩) 1 1) (w2.alloc (.cells #[.int .i64 o] 3))) := Lib.hid ⟨[o], [o], trn ks, HS2.out.next hba, ⟨w2.heap.size, 0, 1, _, rfl, HB2.out.size, Blk.new w2 3 _, Nat.le_refl _, by simp, by unfold maxLen; omega, fun j hj => by
      simp only [List.length_singleton] at hj
      obtain rfl : j = 0 := by omega
      simp⟩, HT.out.keepB (fun i h => h.2) HBA.out, CI.start HO.out.1 HO.out.2, by simp; have := HO.out; omega, Nat.le_refl _, Outer.of_below HBA.out⟩
  clear hba HBA HB2 HS2
  generalize w2.alloc (.cells #[.int .i64 o] 3) = W at *
  go_loopg [11] ks.length (fun gk v wr => clRel l ks o w0 w tb mb gk v wr)
  case atStart => exact H0.out
  case round =>
    clear H0
    obtain ⟨D, Q, T, hs, hq, htr, hci, hgk, hgk2, hou⟩ := hrel
    have HS := Lib.hid hs
    have HCI := Lib.hid hci
    have HTR := Lib.hid htr
    have HOU := Lib.hid hou
    cases Q with
    | nil =>
      obtain ⟨A, c, rfl, hc⟩ := hq.form
      clear hs hq htr hci hgk hgk2 hou hc
      go_wp2_with fail
      go_at_call 86
      refine (sorted_set_is HS.out HCI.out.nd (by have := HCI.out.le; omega)).mono ?_
      rintro e w5 ⟨v5, rfl, hrd5, hb5⟩
      have HR5 := Lib.hid hrd5
      have HB5 := Lib.hid hb5
      clear hrd5 hb5
      go_wp2_with fail
      go_ret2
      exact ⟨_, srtI D, rfl, HCI.out.clo, HR5.out, outer_more HOU.out (HB5.out.mono HOU.out.size)⟩
    | cons i Q1 =>
      obtain ⟨g0, o0, c, rfl, hc, x0⟩ := hq.at0
      obtain ⟨hi0, hi1⟩ := hci.rng i (hci.q i (by simp))
      obtain ⟨k, rfl⟩ : ∃ k : Nat, i = k := ⟨i.toNat, by omega⟩
      have hk : k < ks.length := by omega
      have j0 : (0 : Int) ≤ (k : Int) := by omega
      have j1 : (k : Int) < (ks.length : Int) := by omega
      have j2 : decide ((ks.length : Int) ≤ (k : Int)) = false := decide_eq_false (by omega)
      have j3 : decide (ks.length ≤ k) = false := decide_eq_false (by omega)
      have HSO := Lib.hid (sources_is (HG.out.next (HB0.out.trans (outer_below HOU.out htb0 HB0.out.size))) (show k < l.length by omega) hl HLR.out)
      obtain ⟨row, hrow⟩ : ∃ row, srcs ((lnkD l)[k]'(by rw [lnkD_len]; omega)) = row := ⟨_, rfl⟩
      rw [hrow] at HSO
      have HROW := Lib.hid (show row.map Lk.frm = nxt.srcsF ((lnkD l).getD (k : Int).toNat []) by
        rw [← hrow, Int.toNat_natCast, List.getD_eq_getElem?_getD, List.getElem?_eq_getElem (by rw [lnkD_len]; omega)]
        rfl)
      have hrl : row.length ≤ 10 := by
        rw [← hrow]
        exact Nat.le_trans (List.length_filter_le _ _) (lnkF_row_len [] l HLR.out _ (List.getElem_mem _))
      have HQL := Lib.hid (show Q1.length + 1 ≤ 200 by
        have := hci.le
        simp only [List.length_cons] at hgk
        omega)
      have HGK := Lib.hid (show ks.length - D.length + Q1.length = gk - 1 ∧ 0 < gk ∧ gk ≤ ks.length by
        simp only [List.length_cons] at hgk
        exact ⟨by omega, by omega, hgk2⟩)
      obtain ⟨n, hn⟩ : ∃ n, Q1.length + 1 = n := ⟨_, rfl⟩
      have e1 : (0 : Int) < (n : Int) := by omega
      have e2 : decide ((0 : Int) < (n : Int)) = true := decide_eq_true e1
      have e2b : decide (0 < n) = true := decide_eq_true (by omega)
      rw [hn] at hq hc ⊢
      have HQ := Lib.hid hq
      have HN1 := Lib.hid hn
      have HKW := Lib.hid (show RdKy wr (.slice Ak ks.length ck) ks from rd_outer HK.out hou HMP.out)
      clear hs hq htr hci hgk hgk2 hou hrow hn
      go_wp2_with fail
      clear x0
      go_at_call 84
      refine HSO.out.mono ?_
      rintro e w3 ⟨v3, rfl, hrd3, hb3⟩
      obtain ⟨A3, c3, rfl, hc3⟩ := RdP.form hrd3
      have HX := Lib.hid hrd3
      have HS3 := Lib.hid (HS.out.next hb3)
      have HQ3 := Lib.hid (HQ.out.next hb3)
      have HT3 := Lib.hid (HTR.out.keepB (fun i h => h.2) (hb3.mono HOU.out.size))
      have HOU3 := Lib.hid (outer_more HOU.out (hb3.mono HOU.out.size))
      have HK3 := Lib.hid (RdP.next HKW.out hb3)
      clear hrd3 hb3 HSO HS HQ HTR HOU HKW
      have H1 : Hid (naRel row w3 (.slice none 0 0) (.int .i64 (0 : Nat)) w3) := Lib.hid ⟨0, Nat.zero_le _, rfl, World.ownsRow_nil _ _ _ _, Below.refl _ _⟩
      go_wp2_with fail
      go_loopw [13, 49] (fun v iv wx => naRel row w3 v iv wx) (fun _ iv _ => row.length - (intOf iv).toNat)
      case atStart => exact H1.out
      case round =>
        clear H1
        obtain ⟨m, hml, rfl, hown, hbw⟩ := hrel
        obtain ⟨A5, c5, rfl, hc5⟩ := own_len hown
        have HOW := Lib.hid hown
        have HBW := Lib.hid hbw
        clear hown hbw
        obtain ⟨ls, hls⟩ : ∃ ls, (row.take m).map Lk.frm = ls := ⟨_, rfl⟩
        have hlsl : ls.length = m := by rw [← hls, List.length_map, List.length_take]; omega
        have HLL := Lib.hid hlsl
        have HLS := Lib.hid hls
        rw [hls] at HOW hc5 ⊢
        clear hls
        by_cases hm : m < row.length
        · have j4 : (0 : Int) ≤ (m : Int) := by omega
          have j5 : (m : Int) < (row.length : Int) := by omega
          have j6 : decide ((m : Int) < (row.length : Int)) = true := decide_eq_true j5
          obtain ⟨xb, xo, hbe, hxb, y0, y1, y2, y3, y4, y5, y6⟩ := RdLk.piece (RdP.next HX.out HBW.out) hm
          subst hbe
          have HTK := Lib.hid (show (row.take (m + 1)).map Lk.frm = ls ++ [row[m].frm] by rw [List.take_succ_eq_append_getElem hm, List.map_append, HLS.out]; rfl)
          obtain ⟨x, hx⟩ : ∃ x, row[m] = x := ⟨_, rfl⟩
          rw [hx] at y0 y1 y2 y3 y4 y5 y6 HTK
          have hl10 : ls.length ≤ 10 := by omega
          clear hx hlsl
          go_upto_region 15 with (fail)
          have HNE := Lib.hid (show (Value.slice A5 ls.length c5).ownBlock ≠ some wr.heap.size from fun e => by
            obtain ⟨cur, hc⟩ := own_cells_of HOW.out e
            have h1 := (Array.getElem?_eq_some_iff.1 hc).1
            omega)
          have hba := (Below.refl wr.heap.size wr).alloc (Nat.le_refl _) (.cells #[.int .i64 x.frm, .int .i64 x.to_, .int .i64 x.name.kind, .string (bs x.name.owner), .int .i64 x.name.num, .int .i64 x.name.idx, .string (bs x.name.text)] 61)
          have HOW6 := Lib.hid (own_next HOW.out hba)
          have HB6 := Lib.hid (HBW.out.trans (hba.mono HBW.out.size))
          have ZX := Lib.hid (Blk.new wr 61 #[.int .i64 x.frm, .int .i64 x.to_, .int .i64 x.name.kind, .string (bs x.name.owner), .int .i64 x.name.num, .int .i64 x.name.idx, .string (bs x.name.text)])
          clear y0 y1 y2 y3 y4 y5 y6 hba hxb
          generalize wr.alloc (.cells #[.int .i64 x.frm, .int .i64 x.to_, .int .i64 x.name.kind, .string (bs x.name.owner), .int .i64 x.name.num, .int .i64 x.name.idx, .string (bs x.name.text)] 61) = W6 at *
          obtain ⟨cb, hcb⟩ : ∃ cb, wr.heap.size = cb := ⟨_, rfl⟩
          rw [hcb] at ZX HNE ⊢
          clear hcb
          have x0 := ZX.out.cell 0
          simp only [qB, qC, qD] at x0
          have hbk := (Below.refl W6.heap.size W6).alloc (Nat.le_refl _) (.cells #[.int .i64 x.frm] 3)
          have HOW7 := Lib.hid (own_next HOW6.out hbk)
          have HB7 := Lib.hid (HB6.out.trans (hbk.mono HB6.out.size))
          obtain ⟨i0, hi, hz0, hz1, hz2⟩ := info_parts infoIn
          clear hbk
          go_wp2_with (at_builtin; refine wpList_append_own _ rfl _ _ 33 rfl w3.heap.size 3 i0 _ 1 8 Tryz.underlying33 hi hz0 hz1 hz2 rfl (by decide) _ _ _ rfl HOW7.out ⟨W6.heap.size, 0, none⟩ 1 1 [.int .i64 x.frm] rfl rfl ?c1 ?c2 ?c3 ?c4 ?c5 ?_)
          case c1 => exact fun j u h => newN W6 #[.int .i64 x.frm] 3 j u h
          case c2 => intro u hu; simp only [List.mem_cons, List.not_mem_nil, or_false] at hu; rcases hu with rfl; rfl
          case c3 => unfold maxLen; omega
          case c4 => omega
          case c5 => exact HB7.out.size
          intro v8 w8 hown8 hg8 _
          have HOW8 := Lib.hid (show w8.ownsRow w3.heap.size 3 1 v8 ((row.take (m + 1)).map Lk.frm).length (((row.take (m + 1)).map Lk.frm).flatMap inC) by
            rw [HTK.out, List.length_append, List.flatMap_append]
            simpa [inC] using hown8)
          have HB8 := Lib.hid (HB7.out.grown hg8 HB7.out.size (fun k hk => own_ge HOW7.out hk))
          clear hown8 hg8 x0 i0 hi hz0 hz1 hz2
          go_wp2_with fail
          go_roundw
          case rel => exact ⟨m + 1, by omega, by go_num, HOW8.out, HB8.out⟩
          case measure => simp [intOf]; omega
        · have j6 : decide ((m : Int) < (row.length : Int)) = false := decide_eq_false (by omega)
          have HLS2 := Lib.hid (show ls = nxt.srcsF ((lnkD l).getD (k : Int).toNat []) by rw [← HROW.out, ← HLS.out, List.take_of_length_le (by omega)])
          have hl10 : ls.length ≤ 10 := by omega
          obtain ⟨kb, ko, hbe, hkb, z0, z1, z2, z3⟩ := RdKy.piece (RdP.next HK3.out HBW.out) hk
          subst hbe
          have HPK := Lib.hid (show prK ks (k : Int) = if ks[k].cls = 0 then none else some ks[k].lin by
            unfold prK
            rw [Int.toNat_natCast, List.getElem?_eq_getElem hk])
          obtain ⟨ky, hky⟩ : ∃ ky, ks[k] = ky := ⟨_, rfl⟩
          rw [hky] at z0 z1 z2 z3 HPK
          clear hky hlsl
          go_upto_region 18 with (fail)
          have hba := (Below.refl wr.heap.size wr).alloc (Nat.le_refl _) (.cells #[.int .i64 ky.tick, .int .i64 ky.cls, .int .i64 ky.num, .string (bs ky.lin)] 74)
          have hb36 := HBW.out.trans (hba.mono HBW.out.size)
          have HOW6 := Lib.hid (own_next HOW.out hba)
          have HB6 := Lib.hid hb36
          have ZX := Lib.hid (Blk.new wr 74 #[.int .i64 ky.tick, .int .i64 ky.cls, .int .i64 ky.num, .string (bs ky.lin)])
          have HS6 := Lib.hid (HS3.out.next hb36)
          have HQ6 := Lib.hid (HQ3.out.next hb36)
          have HT6 := Lib.hid (HT3.out.keepB (fun i h => h.2) (hb36.mono HOU3.out.size))
          have HOU6 := Lib.hid (outer_more HOU3.out (hb36.mono HOU3.out.size))
          clear z0 z1 z2 z3 hba hkb hb36
          generalize wr.alloc (.cells #[.int .i64 ky.tick, .int .i64 ky.cls, .int .i64 ky.num, .string (bs ky.lin)] 74) = W6 at *
          obtain ⟨cb, hcb⟩ : ∃ cb, wr.heap.size = cb := ⟨_, rfl⟩
          rw [hcb] at ZX ⊢
          clear hcb
          obtain ⟨n3, hn3⟩ : ∃ n3, w3.heap.size = n3 := ⟨_, rfl⟩
          rw [hn3] at HOW6
          have HN3 := Lib.hid (show n3 ≤ W6.heap.size by rw [← hn3]; exact HB6.out.size)
          have HN4 := Lib.hid (show w.heap.size ≤ n3 by rw [← hn3]; exact HOU3.out.size)
          have HQN := Lib.hid (show ∀ b, (Value.slice (some ⟨g0, o0, none⟩) n c).ownBlock = some b → b < n3 by
            intro b hb
            rw [← hn3]
            exact HQ3.out.lt b hb)
          clear hn3 HOW HBW HS3 HQ3 HT3 HOU3 HX HK3 HB6
          have x1 := ZX.out.cell 1
          have x3 := ZX.out.cell 3
          simp only [qB, qC, qD] at x1 x3
          obtain ⟨nx, hnx⟩ : ∃ nx, nxt (lnkD l) ks T k = nx := ⟨_, rfl⟩
          obtain ⟨T2, hT2⟩ : ∃ T2, trnX ks T k = T2 := ⟨_, rfl⟩
          have HNX := Lib.hid (show nx = ls ++ (match prK ks k with | some m => T m | none => []) by rw [← hnx, HLS2.out]; rfl)
          have HNX2 := Lib.hid hnx
          have HT2 := Lib.hid hT2
          have HTL := Lib.hid (show ∀ m, (T m).length ≤ 100 by
            intro m
            rcases HCI.out.t m with e | ⟨e, _⟩
            · rw [e]; have := trn_len ks m; omega
            · rw [e]; simp)
          clear hnx hT2
          go_upto_if 65 with (fail)
          go_cut [13] (fun v wx => cmRel nx T2 D ((k : Int) :: Q1) w0 w tb mb n3 (.slice (some ⟨g0, o0, none⟩) n c) v wx)
          case first =>
            by_cases hcl : ky.cls = 0
            · have j7 : (ky.cls != 0) = false := by rw [hcl]; rfl
              have HP0 := Lib.hid (show prK ks (k : Int) = none by rw [HPK.out, if_pos hcl])
              have HNE := Lib.hid (show nx = ls by rw [HNX.out, HP0.out]; simp)
              have HTE := Lib.hid (show ∀ m, T m = T2 m by intro m; rw [← HT2.out]; unfold trnX; rw [HP0.out]; simp)
              clear hcl
              go_wp2_with fail
              go_meet
              case rel => exact ⟨by rw [HNE.out]; exact HOW6.out, HT6.out.data HTE.out, HS6.out, HQ6.out, HOU6.out⟩
            · have j7 : (ky.cls != 0) = true := by rw [bne_iff_ne]; exact hcl
              have HP0 := Lib.hid (show prK ks (k : Int) = some ky.lin by rw [HPK.out, if_neg hcl])
              have HNE := Lib.hid (show nx = ls ++ T ky.lin by rw [HNX.out, HP0.out])
              have HTE := Lib.hid (show ∀ m, (if m = ky.lin then [] else T m) = T2 m by
                intro m
                rw [← HT2.out]
                unfold trnX
                rw [HP0.out]
                by_cases e : m = ky.lin
                · rw [if_pos e, if_pos (by rw [e])]
                · rw [if_neg e, if_neg (fun h => e (by injection h with h; exact h.symm))])
              have hT6 := HT6.out
              obtain ⟨hF, ents, hmat, hpw, hen, hcov⟩ := id hT6
              have hfind : OwnF (fun i => w0.heap.size ≤ i ∧ i < w.heap.size) 3 1 W6 ((lookM ky.lin ents).getD (.slice none 0 0)) (T ky.lin).length ((T ky.lin).flatMap inC) := by
                cases hlk : lookM ky.lin ents with
                | some v => exact (hen _ (look_mem hlk)).1
                | none =>
                  have : T ky.lin = [] := Classical.byContradiction fun hd => by
                    have := hcov _ hd
                    rw [hlk] at this
                    cases this
                  rw [this]
                  exact ⟨World.ownsRow_nil _ _ _ _, fun g hg => by cases hg⟩
              obtain ⟨At, ct, hve, hct⟩ := own_len hfind.1
              have hlook := map_lookS hmat ky.lin Tryz.underlying123 (show (zeroValue 33).run Tryz.prog W6 = .ok (.slice none 0 0) W6 by kernel_rfl)
              rw [hve] at hlook hfind
              have HFD := Lib.hid hfind
              have HMT := Lib.hid (show (fun i => w0.heap.size ≤ i ∧ i < w.heap.size) tb ∧ MapAtS W6 tb ents ∧ _ ∧ _ ∧ _ from ⟨hF, hmat, hpw, hen, hcov⟩)
              have hTl := HTL.out ky.lin
              obtain ⟨tl, htl⟩ : ∃ tl, T ky.lin = tl := ⟨_, rfl⟩
              have HTLE := Lib.hid htl
              rw [htl] at HFD hTl hlook HNE
              obtain ⟨i0, hi, hz0, hz1, hz2⟩ := info_parts infoIn
              clear hT6 hF hmat hpw hen hcov hfind hve hct htl hcl
              go_wp2_with (at_builtin; refine wpList_append_rd _ rfl _ _ _ rfl n3 3 i0 _ 1 8 Tryz.underlying33 hi hz0 hz1 hz2 rfl (by decide) _ ls.length (ls.flatMap inC) (by rfl) HOW6.out _ tl.length (tl.flatMap inC) (by rfl) (Rd.of_own HFD.out.1) ?c2 ?c3 ?c4 ?c5 ?c6 ?_)
              case c2 => have := congrArg List.length (fm_in tl); rw [List.length_flatMap, List.length_map] at this; exact this
              case c3 => intro u y _ hu; simp only [inC, List.mem_singleton] at hu; subst hu; rfl
              case c4 => unfold maxLen; omega
              case c5 => omega
              case c6 => exact HN3.out
              intro ao cap w8 hown8 hg8
              have hnl : ls.length + tl.length = nx.length := by rw [HNE.out, List.length_append]
              rw [hnl] at hown8 ⊢
              have HOW8 := Lib.hid (show w8.ownsRow n3 3 1 (.slice ao nx.length cap) nx.length (nx.flatMap inC) by
                have := hown8
                rw [← List.flatMap_append, ← HNE.out] at this
                exact this)
              have hb68 : Below n3 W6 w8 := (Below.refl n3 W6).grown hg8 HN3.out (fun k hk => own_ge HOW6.out hk)
              have HT8 := Lib.hid (HT6.out.keepB (fun i h => h.2) (hb68.mono HN4.out))
              have HMB8 := Lib.hid HT8.out.map
              obtain ⟨hF8, ents8, hmat8, hpw8, hen8, hcov8⟩ := id HT8.out
              have HSP := Lib.hid HMB.out
              have HS8 := Lib.hid (HS6.out.same (hg8.block mb HS6.out.lt (fun e => by
                obtain ⟨cur, hc⟩ := own_cells_of HOW6.out e.symm
                exact HS6.out.noInt _ _ hc)))
              have HQ8 := Lib.hid (HQ6.out.sameB fun b hb => hb68.block b (HQN.out b hb))
              have HOU8 := Lib.hid (outer_more HOU6.out (hb68.mono HN4.out))
              have ZX8 := Lib.hid (ZX.out.grown hg8 (fun e => own_blk_ne HOW6.out ZX.out (by decide) e.symm))
              have HD8 := Lib.hid (show _ ∧ MapAtS w8 tb ents8 ∧ _ ∧ _ ∧ _ from ⟨hF8, hmat8, hpw8, hen8, hcov8⟩)
              clear hown8 hg8 hb68 hF8 hmat8 hpw8 hen8 hcov8 hlook i0 hi hz0 hz1 hz2 x1 x3
              have x3 := ZX8.out.cell 3
              simp only [qB, qC, qD] at x3
              go_upto_region 20 with (fail)
              go_wp2_with (refine wpList_delS _ rfl _ _ rfl rfl rfl HD8.out.2.1 Tryz.underlying123 ?_)
              intro w9 hm9 hg9
              have hmb : mb ≠ tb := by have := HMB.out; omega
              have HT9 := Lib.hid ((MapRowsS.del (F := fun i => w0.heap.size ≤ i ∧ i < w.heap.size) (f := inC) (s := 1) (e := 3) HD8.out ky.lin hm9 hg9).data HTE.out)
              have HS9 := Lib.hid (HS8.out.same (hg9.block mb HS8.out.lt (fun e => hmb (by injection e))))
              have HQ9 := Lib.hid (HQ8.out.sameB fun b hb => hg9.block b (HQ8.out.lt b hb) (fun e => by
                injection e with e
                have := HQ8.out.ge b hb
                omega))
              have HOW9 := Lib.hid (HOW8.out.kept hg9 (.inr (by
                obtain ⟨es, c, h⟩ := HMB8.out
                exact own_not_map HOW8.out h)))
              have HOU9 : Hid (Outer (fun i => i = tb) w w9) := Lib.hid ⟨hg9.os.trans HOU8.out.os, hg9.tape.trans HOU8.out.tape, hg9.output.trans HOU8.out.output, Nat.le_trans HOU8.out.size hg9.size, fun i hi hne => (hg9.block i (Nat.lt_of_lt_of_le hi HOU8.out.size) (fun e => hne (by injection e))).trans (HOU8.out.block i hi hne)⟩
              clear hm9 hg9 hmb x3
              go_wp2_with fail
              go_meet
              case rel => exact ⟨HOW9.out, HT9.out, HS9.out, HQ9.out, HOU9.out⟩
          case rest =>
            obtain ⟨hown, htr, hs, hq, hou⟩ := hcut
            obtain ⟨A7, c7, rfl, hc7⟩ := own_len hown
            have hnl : nx.length ≤ 200 := by
              rw [HNX.out, List.length_append]
              have h1 := HTL.out
              cases prK ks (k : Int) with
              | none => simp; omega
              | some m => have := h1 m; simp; omega
            obtain ⟨S, hS⟩ : ∃ S, clIn nx (D, (k : Int) :: Q1) = S := ⟨_, rfl⟩
            have HCS := Lib.hid (HCI.out.step (S := S) (fun x hx => by have := lnkD_lt j0 hx; omega) (by rw [HNX2.out]; exact hS))
            have H2 : Hid (cbRel nx (.slice A7 nx.length c7) n3 S T2 w0 w tb mb (.slice (some ⟨g0, o0, none⟩) n c) (.int .i64 (0 : Nat)) wc) := Lib.hid ⟨0, D, (k : Int) :: Q1, Nat.zero_le _, rfl, hS, by simp, by have := HQL.out; simpa using this, hs, hq, fun e => by
              have h1 := HQN.out g0 rfl
              have h2 := own_ge hown (g := g0) e.symm
              omega, hown, htr, hou⟩
            clear hown htr hs hq hou hS hc7 HS6 HQ6 HT6 HOU6 HOW6 x1 x3 hl10
            go_wp2_with fail
            go_loopw [11, 77] (fun v iv wr => cbRel nx (.slice A7 nx.length c7) n3 S T2 w0 w tb mb v iv wr) (fun _ iv _ => nx.length - (intOf iv).toNat)
            case atStart => exact H2.out
            case round =>
              clear H2
              obtain ⟨m, D2, Q2, hml, rfl, hcli, hq0, hql, hs2, hq2, hne2, hown2, htr2, hou2⟩ := hrel
              obtain ⟨A9, c9, rfl, hc9⟩ := hq2.form
              have HCL := Lib.hid hcli
              have HQ0 := Lib.hid hq0
              have HS2 := Lib.hid hs2
              have HQ2 := Lib.hid hq2
              have HNE2 := Lib.hid hne2
              have HOW2 := Lib.hid hown2
              have HT2b := Lib.hid htr2
              have HOU2 := Lib.hid hou2
              clear hcli hq0 hs2 hq2 hne2 hown2 htr2 hou2
              by_cases hm : m < nx.length
              · have j4 : (0 : Int) ≤ (m : Int) := by omega
                have j5 : (m : Int) < (nx.length : Int) := by omega
                have j6 : decide ((m : Int) < (nx.length : Int)) = true := decide_eq_true j5
                obtain ⟨b7, o7, hbe, hb7, y0⟩ := RdIn_piece (show RdIn wr (.slice A7 nx.length c7) nx from Rd.of_own HOW2.out) hm
                have HBE := Lib.hid hbe
                obtain ⟨j, hj⟩ : ∃ j, nx[m] = j := ⟨_, rfl⟩
                rw [hj] at y0
                have HDR := Lib.hid (show nx.drop m = j :: nx.drop (m + 1) by rw [← hj]; exact List.drop_eq_getElem_cons hm)
                rw [hbe]
                clear hj hbe
                obtain ⟨nq, hnq⟩ : ∃ nq, Q2.length = nq := ⟨_, rfl⟩
                have HNQ := Lib.hid hnq
                rw [hnq] at HQ2 HNE2 hc9 hql ⊢
                clear hnq
                go_wp2_with fail
                go_at_call 85
                refine (has_is HS2.out j).mono ?_
                rintro e w' ⟨rfl, rfl⟩
                by_cases hjd : j ∈ D2
                · rw [decide_eq_true hjd]
                  have HN := Lib.hid (show clIn (nx.drop (m + 1)) (D2, Q2) = S by
                    have := HCL.out
                    rw [HDR.out] at this
                    simp only [clIn] at this
                    rw [if_pos hjd] at this
                    exact this)
                  clear y0 hjd
                  go_wp2_with fail
                  go_roundw
                  case rel => exact ⟨m + 1, D2, Q2, by omega, by go_num, HN.out, HQ0.out, by rw [HNQ.out]; omega, HS2.out, HQ2.out, by rw [← HBE.out]; exact HNE2.out, by rw [← HBE.out]; exact HOW2.out, HT2b.out, HOU2.out⟩
                  case measure => simp [intOf]; omega
                · rw [decide_eq_false hjd]
                  have HN := Lib.hid (show clIn (nx.drop (m + 1)) (D2 ++ [j], Q2 ++ [j]) = S by
                    have := HCL.out
                    rw [HDR.out] at this
                    simp only [clIn] at this
                    rw [if_neg hjd] at this
                    exact this)
                  obtain ⟨w5, hup, hs5, hg5⟩ := HS2.out.put hjd
                  have hmbl : w.heap.size ≤ mb := by have := HMB.out; omega
                  have hb5 : Below mb wr w5 := (Below.refl mb wr).grown hg5 (Nat.le_of_lt HS2.out.lt) (fun k hk => by injection hk with hk; omega)
                  have HS5 := Lib.hid hs5
                  have HQ5 := Lib.hid (HQ2.out.sameB fun b hb => hg5.block b (HQ2.out.lt b hb) (fun e => by
                    obtain ⟨es, c, h, _⟩ := HS2.out
                    exact HQ2.out.noMap h (hb.trans e)))
                  have HOW5 := Lib.hid (HOW2.out.kept hg5 (.inr (by
                    obtain ⟨es, c, h, _⟩ := HS2.out
                    exact own_not_map HOW2.out h)))
                  have HT5 := Lib.hid (HT2b.out.keepB (fun i h => h.2) (hb5.mono hmbl))
                  have HOU5 := Lib.hid (outer_more HOU2.out (hb5.mono hmbl))
                  clear hs5 hg5 hb5 hmbl hjd y0
                  go_upto_region 26 with (fail)
                  clear hup
                  go_wp2_with (at_builtin; refine wpList_push2 w5 rfl _ _ rfl rfl HQ5.out j rfl HOU5.out.size (by rw [HNQ.out]; omega) ?_)
                  intro v6 w6 hq6 hk6 hl6 hb6 hs6
                  have HQ6 := Lib.hid hq6
                  have HS6 := Lib.hid (HS5.out.same (hk6 mb HS5.out.lt (fun e => by
                    obtain ⟨es, c, h, _⟩ := HS5.out
                    exact HQ5.out.noMap h e)))
                  have HOW6 := Lib.hid (own_same HOW5.out fun b hb => hk6 b (by
                    obtain ⟨cur, hc⟩ := own_cells_of HOW5.out hb
                    exact (Array.getElem?_eq_some_iff.1 hc).1) (fun e => HNE2.out (e.trans hb.symm)))
                  have HT6 := Lib.hid (HT5.out.keepB (fun i h => h.2) hb6)
                  have HOU6 := Lib.hid (outer_more HOU5.out hb6)
                  have HNE6 := Lib.hid (show v6.ownBlock ≠ (Value.slice A7 nx.length c7).ownBlock by
                    rcases hl6 with e | ⟨b, e, hge⟩
                    · rw [e]; exact HNE2.out
                    · rw [e]
                      intro e2
                      obtain ⟨cur, hc⟩ := own_cells_of HOW5.out e2.symm
                      have := (Array.getElem?_eq_some_iff.1 hc).1
                      omega)
                  clear hq6 hk6 hl6 hb6 hs6
                  go_wp2_with fail
                  go_roundw
                  case rel => exact ⟨m + 1, D2 ++ [j], Q2 ++ [j], by omega, by go_num, HN.out, by simp, by rw [List.length_append, HNQ.out, List.length_singleton]; omega, HS6.out, HQ6.out, by rw [← HBE.out]; exact HNE6.out, by rw [← HBE.out]; exact HOW6.out, HT6.out, HOU6.out⟩
                  case measure => simp [intOf]; omega
              · have j6 : decide ((m : Int) < (nx.length : Int)) = false := decide_eq_false (by omega)
                have HSE := Lib.hid (show (D2, Q2) = S by
                  have := HCL.out
                  rw [List.drop_eq_nil_of_le (by omega)] at this
                  exact this)
                obtain ⟨q, Q3, hq3⟩ : ∃ q Q3, Q2 = q :: Q3 := by
                  cases hQ : Q2 with
                  | nil => exact absurd hQ HQ0.out
                  | cons q Q3 => exact ⟨q, Q3, rfl⟩
                subst hq3
                have HR2 := Lib.hid (show CI (lnkD l) ks o D2 Q3 T2 ∧ ks.length - D2.length + Q3.length = gk - 1 by
                  have h1 := HCS.out
                  have h2 := HGK.out
                  rw [← HSE.out, HT2.out] at h1
                  simp only [List.tail_cons] at h1
                  exact ⟨h1.1, by omega⟩)
                obtain ⟨n2, hn2⟩ : ∃ n2, (q :: Q3).length = n2 := ⟨_, rfl⟩
                rw [hn2] at HQ2 hc9 HNE2 ⊢
                have n1 : 1 ≤ n2 := by rw [← hn2]; simp
                have n3b : (1 : Int) ≤ (n2 : Int) := by omega
                have n4 : (1 : Int) ≤ (c9 : Int) := by omega
                have n5 : 1 ≤ c9 := by omega
                have HT4 := Lib.hid HQ2.out.tail
                have HN2 := Lib.hid (show n2 = Q3.length + 1 by rw [← hn2]; rfl)
                have hgp : gk - 1 < gk := by have := HGK.out.2.1; omega
                clear hn2 hql
                by_cases hc1 : c9 = 1
                · subst hc1
                  have HT3 := Lib.hid (show QOwn wr w.heap.size (.slice A9 0 0) Q3 by have := HT4.out; rw [if_pos rfl, show n2 - 1 = 0 by omega] at this; exact this)
                  clear HT4 HQ2
                  go_wp2_with fail
                  go_roundg (gk - 1)
                  case rel => exact ⟨D2, Q3, T2, HS2.out, HT3.out, HT2b.out, HR2.out.1, HR2.out.2, by have := HGK.out; omega, HOU2.out⟩
                  case measure => exact hgp
                · have HT3 := Lib.hid (show QOwn wr w.heap.size (.slice (A9.map (·.add 1)) (n2 - 1) (c9 - 1)) Q3 by have := HT4.out; rw [if_neg hc1] at this; exact this)
                  clear HT4 HQ2
                  go_wp2_with fail
                  go_roundg (gk - 1)
                  case rel => exact ⟨D2, Q3, T2, HS2.out, HT3.out, HT2b.out, HR2.out.1, HR2.out.2, by have := HGK.out; omega, HOU2.out⟩
                  case measure => exact hgp
end Go.Proofs.YtamjllakfgphnaaGreatDoor
namespace Go.Proofs.YtamjllakfgphnaaGreatDoor
open Go.RowKit
set_option linter.unusedSimpArgs false
set_option linter.unusedVariables false
attribute [local go_sem ↓] Go.wp_at_zero Go.wp_at_succ
open Go.MapKept Go.ChangeMaps
theorem slc_push {w6 w5 : World} {sb B e1 e2 n m j : Nat} {cs : Array Value} {rv wv v' : Value} {xs ys xs' : List Value} (hz : Blk w6 sb 36 cs) (hr : w6.ownsRow B e1 1 rv n xs) (hw : w6.ownsRow B e2 1 wv m ys) (hne : e2 ≠ e1 ∨ Apart wv rv) (h1 : e1 ≠ 36) (h2 : e2 ≠ 36)
    (hn : w5.ownsRow B e1 1 v' (n + 1) xs') (hg : w6.grownBy w5 rv.ownBlock) (hB : sb < B) :
    Blk (w5.setCell ⟨sb, j, none⟩ v') sb 36 (cs.setIfInBounds j v') ∧ (w5.setCell ⟨sb, j, none⟩ v').ownsRow B e1 1 v' (n + 1) xs' ∧ (w5.setCell ⟨sb, j, none⟩ v').ownsRow B e2 1 wv m ys ∧ Below sb w6 (w5.setCell ⟨sb, j, none⟩ v') := by
  have hb1 : Blk w5 sb 36 cs := hz.grown hg (fun e => own_blk_ne hr hz h1 e.symm)
  have hw5 := own_grown hw hr hg hne
  have hg2 : w5.grownBy (w5.setCell ⟨sb, j, none⟩ v') (some sb) := only_setCell (World.grownBy.refl w5 _) (.inl rfl) _
  exact ⟨hb1.set_ j v', hn.kept hg2 (.inr (own_blk_ne hn hb1 h1)), hw5.kept hg2 (.inr (own_blk_ne hw5 hb1 h2)), (below_own (Below.refl sb w6) hr hg (Nat.le_of_lt hB) (Nat.le_of_lt hz.lt)).setCell (p := ⟨sb, j, none⟩) (Nat.le_refl _) _⟩
theorem inpK_snoc (ks : List Ky) (S : List Int) (i : Int) : inpK ks (S ++ [i]) = inpK ks S ++ (match ks[i.toNat]? with | some k => if k.cls = 0 then [k.num] else [] | none => []) := by
  unfold inpK
  rw [List.filterMap_append]
  congr 1
  cases h : ks[i.toNat]? with
  | none => simp [h]
  | some k => by_cases hc : k.cls = 0 <;> simp [h, hc]
theorem linK_snoc (ks : List Ky) (S : List Int) (i : Int) : linK ks (S ++ [i]) = linK ks S ++ (match ks[i.toNat]? with | some k => if k.cls = 0 then [] else [k.lin] | none => []) := by
  unfold linK prK
  rw [List.filterMap_append]
  congr 1
  cases h : ks[i.toNat]? with
  | none => simp [h]
  | some k => by_cases hc : k.cls = 0 <;> simp [h, hc]
theorem linK_mem {ks : List Ky} {S : List Int} (hl : ∀ k ∈ ks, k.cls ≠ 0 → k.lin ∈ lin5) : ∀ s ∈ linK ks S, s ∈ lin5 := by
  intro s hs
  unfold linK prK at hs
  obtain ⟨i, _, hi⟩ := List.mem_filterMap.1 hs
  cases h : ks[i.toNat]? with
  | none => rw [h] at hi; cases hi
  | some k =>
    rw [h] at hi
    simp only at hi
    split at hi
    · cases hi
    · rename_i hc
      injection hi with hi
      rw [← hi]
      exact hl k (List.mem_of_getElem? h) hc
theorem inpK_len (ks : List Ky) (S : List Int) : (inpK ks S).length ≤ S.length := List.length_filterMap_le _ _
theorem linK_len (ks : List Ky) (S : List Int) : (linK ks S).length ≤ S.length := List.length_filterMap_le _ _
theorem infoSt : (Tryz.prog.info? 22).map (fun i => (i.zero, i.size, i.bytes)) = some (some (.string ⟨#[]⟩), 1, 16) := by kernel_rfl
theorem set3 (w : World) (g : Nat) (a b c : Value) : w.grownBy (((w.setCell ⟨g, 0, none⟩ a).setCell ⟨g, 1, none⟩ b).setCell ⟨g, 2, none⟩ c) (some g) := by
  have h := fun (W : World) (j : Nat) (v : Value) => (show W.grownBy (W.setCell ⟨g, j, none⟩ v) (some g) from only_setCell (only_of_below (Below.refl _ _) _) (.inl rfl) v)
  exact grown_trans (h _ _ _) (grown_trans (h _ _ _) (h _ _ _))
def slcRel (ks : List Ky) (S : List Int) (lv : Value) (sb : Nat) (w : World) (i : Value) (wr : World) : Prop := ∃ (m : Nat) (vi vl : Value), m ≤ S.length ∧ i = .int .i64 m ∧ Blk wr sb 36 #[lv, vi, vl] ∧
  wr.ownsRow (sb + 1) 3 1 vi (inpK ks (S.take m)).length ((inpK ks (S.take m)).flatMap inC) ∧ wr.ownsRow (sb + 1) 22 1 vl (linK ks (S.take m)).length ((linK ks (S.take m)).flatMap fun s => [Value.string (bs s)]) ∧ Below sb w wr
set_option maxRecDepth 100000 in
set_option maxHeartbeats 8000000 in
theorem tslice_is {w : World} {kv lv : Value} {ks : List Ky} {S : List Int} (hk : RdKy w kv ks) (hs : RdIn w lv S) (hr : ∀ i ∈ S, 0 ≤ i ∧ i < (ks.length : Int)) (hl : S.length ≤ 100) (hkl : ks.length ≤ 100) (h5 : ∀ k ∈ ks, k.cls ≠ 0 → k.lin ∈ lin5) :
    Calls Tryz.prog 48 #[kv, lv] w fun e w' => ∃ vi vl, e = .returned (.agg #[lv, vi, vl]) ∧ RdIn w' vi (srtI (inpK ks S)) ∧ RdSt w' vl (lsrt (linK ks S)) ∧ Below w.heap.size w w' := by
  obtain ⟨Ak, ck, rfl, hck⟩ := RdP.form hk
  obtain ⟨As, cs, rfl, hcs⟩ := RdP.form hs
  have ha := (Below.refl w.heap.size w).alloc (Nat.le_refl _) (.cells #[.slice none 0 0, .slice none 0 0, .slice none 0 0] 36)
  have ha2 := ha.alloc (by simp) (.cells #[.slice As S.length cs, .slice none 0 0, .slice none 0 0] 36)
  have zr := (Blk.new w 36 #[.slice none 0 0, .slice none 0 0, .slice none 0 0]).alloc (.cells #[.slice As S.length cs, .slice none 0 0, .slice none 0 0] 36)
  have zs := Blk.new (w.alloc (.cells #[.slice none 0 0, .slice none 0 0, .slice none 0 0] 36)) 36 #[.slice As S.length cs, .slice none 0 0, .slice none 0 0]
  rw [World.size_alloc] at zs
  have HK := Lib.hid hk
  have HS := Lib.hid hs
  have HR := Lib.hid hr
  have H5 := Lib.hid h5
  have HA := Lib.hid ha2
  have ZR := Lib.hid zr
  have H0 := Lib.hid (show slcRel ks S (.slice As S.length cs) (w.heap.size + 1) ((w.alloc (.cells #[.slice none 0 0, .slice none 0 0, .slice none 0 0] 36)).alloc (.cells #[.slice As S.length cs, .slice none 0 0, .slice none 0 0] 36)) (.int .i64 (0 : Nat)) _ from ⟨0, _, _, Nat.zero_le _, rfl, zs, World.ownsRow_nil _ _ _ _, World.ownsRow_nil _ _ _ _, Below.refl _ _⟩)
  have hsz : ((w.alloc (.cells #[.slice none 0 0, .slice none 0 0, .slice none 0 0] 36)).alloc (.cells #[.slice As S.length cs, .slice none 0 0, .slice none 0 0] 36)).heap.size = w.heap.size + 1 + 1 := by simp
  have HSZ0 := Lib.hid hsz
  clear hk hs hr h5 ha ha2 zr zs hsz
  go_enter Tryz.func48, Tryz.ntmps48
  go_upto_region 2 with (fail)
  generalize ((w.alloc (.cells #[.slice none 0 0, .slice none 0 0, .slice none 0 0] 36)).alloc (.cells #[.slice As S.length cs, .slice none 0 0, .slice none 0 0] 36)) = W at *
  obtain ⟨sb, hsb⟩ : ∃ sb, w.heap.size + 1 = sb := ⟨_, rfl⟩
  obtain ⟨rb, hrb⟩ : ∃ rb, w.heap.size = rb := ⟨_, rfl⟩
  have HRB := Lib.hid (show w.heap.size = rb ∧ rb < sb from ⟨hrb, by omega⟩)
  rw [hsb] at H0 HSZ0 ⊢
  rw [hrb] at ZR ⊢
  clear hsb hrb
  have HSB := Lib.hid (show sb < W.heap.size by have := HSZ0.out; omega)
  go_wp2_with fail
  go_loopw [12] (fun iv wr => slcRel ks S (.slice As S.length cs) sb W iv wr) (fun iv _ => S.length - (intOf iv).toNat)
  case atStart => exact H0.out
  case round =>
    clear H0
    obtain ⟨m, vi, vl, hml, rfl, hz, hoi, hol, hbw⟩ := hrel
    obtain ⟨li, hli⟩ : ∃ li, inpK ks (S.take m) = li := ⟨_, rfl⟩
    obtain ⟨ll, hll⟩ : ∃ ll, linK ks (S.take m) = ll := ⟨_, rfl⟩
    have hlil : li.length ≤ 100 := by rw [← hli]; have := inpK_len ks (S.take m); rw [List.length_take] at this; omega
    have hlll : ll.length ≤ 100 := by rw [← hll]; have := linK_len ks (S.take m); rw [List.length_take] at this; omega
    have HLI := Lib.hid hli
    have HLL := Lib.hid hll
    rw [hli] at hoi
    rw [hll] at hol
    obtain ⟨Ai, ci, rfl, hci⟩ := own_len hoi
    obtain ⟨Al, cl, rfl, hcl⟩ := own_len hol
    have HZ := Lib.hid hz
    have HI := Lib.hid hoi
    have HL := Lib.hid hol
    have HBW := Lib.hid hbw
    have HSZ := Lib.hid (show sb + 1 ≤ wr.heap.size by have := hz.lt; omega)
    have HBT := Lib.hid (HA.out.trans (hbw.mono (by have := HRB.out; omega)))
    have HKW := Lib.hid (RdP.next HK.out HBT.out)
    clear hz hoi hol hbw hli hll
    by_cases hm : m < S.length
    · have j4 : (0 : Int) ≤ (m : Int) := by omega
      have j5 : (m : Int) < (S.length : Int) := by omega
      have j6 : decide ((m : Int) < (S.length : Int)) = true := decide_eq_true j5
      obtain ⟨ib, io, hbe, hib, y0⟩ := RdIn_piece (RdP.next HS.out HBT.out) hm
      subst hbe
      have hri := HR.out _ (List.getElem_mem hm)
      obtain ⟨i, hi⟩ : ∃ i, S[m] = i := ⟨_, rfl⟩
      have HTK := Lib.hid (show S.take (m + 1) = S.take m ++ [i] by rw [← hi]; exact List.take_succ_eq_append_getElem hm)
      rw [hi] at y0 hri
      clear hi
      obtain ⟨ix, rfl⟩ : ∃ ix : Nat, i = ix := ⟨i.toNat, by omega⟩
      have hi5 : ix < ks.length := by omega
      have j7 : (0 : Int) ≤ (ix : Int) := by omega
      have j8 : (ix : Int) < (ks.length : Int) := by omega
      obtain ⟨kb, ko, hbe, hkb, z0, z1, z2, z3⟩ := RdKy.piece HKW.out hi5
      subst hbe
      have HGT := Lib.hid (show ks[(ix : Int).toNat]? = some ks[ix] by rw [Int.toNat_natCast, List.getElem?_eq_getElem hi5])
      obtain ⟨lv, hlv⟩ : ∃ lv, Value.slice (some ⟨ib, io, none⟩) S.length cs = lv := ⟨_, rfl⟩
      have HLV := Lib.hid hlv
      rw [hlv] at HZ
      have x1 := HZ.out.cell 1
      have x2 := HZ.out.cell 2
      simp only [qB, qC, qD] at x1 x2
      clear hlv hri
      by_cases hcl : ks[ix].cls = 0
      · have j9 : (ks[ix].cls == 0) = true := by rw [beq_iff_eq]; exact hcl
        have HIK := Lib.hid (show inpK ks (S.take (m + 1)) = li ++ [ks[ix].num] by rw [HTK.out, inpK_snoc, HLI.out, HGT.out]; simp [hcl])
        have HLK := Lib.hid (show linK ks (S.take (m + 1)) = ll by rw [HTK.out, linK_snoc, HLL.out, HGT.out]; simp [hcl])
        clear hcl
        go_upto_region 6 with (fail)
        have hal := ((Below.refl wr.heap.size wr).alloc (Nat.le_refl _) (.cells #[.int .i64 ks[ix].num] 3)).drew
        have HI6 : Hid ((wr.alloc (.cells #[.int .i64 ks[ix].num] 3)).drew.ownsRow (sb + 1) 3 1 (.slice Ai li.length ci) li.length (li.flatMap inC)) := Lib.hid (own_next HI.out hal)
        have HL6 : Hid ((wr.alloc (.cells #[.int .i64 ks[ix].num] 3)).drew.ownsRow (sb + 1) 22 1 (.slice Al ll.length cl) ll.length (ll.flatMap fun s => [Value.string (bs s)])) := Lib.hid (own_next HL.out hal)
        have HZ6 : Hid (Blk (wr.alloc (.cells #[.int .i64 ks[ix].num] 3)).drew sb 36 #[lv, .slice Ai li.length ci, .slice Al ll.length cl]) := Lib.hid (HZ.out.next hal HZ.out.lt)
        have HK6 : Hid (RdKy (wr.alloc (.cells #[.int .i64 ks[ix].num] 3)).drew (.slice (some ⟨kb, ko, none⟩) ks.length ck) ks) := Lib.hid (RdP.next HKW.out hal)
        have HBA := Lib.hid (HBW.out.trans (hal.mono (by have := HSZ.out; omega)))
        obtain ⟨i0, hi, hz0, hz1, hz2⟩ := info_parts infoIn
        clear hal
        refine wp_region_noPanic ?_
        refine wp_region_last (S := (fun (w' : World) => w'.cell? ⟨sb, 1, none⟩ = some (.slice Ai li.length ci) ∧ w'.cell? ⟨kb, ko + ix * 4 + 2, none⟩ = some (.int .i64 ks[ix].num))) 10 10 rfl (by kernel_rfl) (by kernel_rfl) ?_ (fun hHeld => ?_)
        · exact ⟨x1, z2⟩
        refine tk (v := ?_) 0 rfl (by kernel_rfl) (fun _ _ _ h => h) ?_ hHeld ?_
        rotate_left
        · (intro w h; (try dsimp only at h); go_simp; try with_reducible rfl)
        try simp only [Act.put, pB, pC, pD]
        refine tk (v := ?_) 1 rfl (by kernel_rfl) (fun _ _ _ h => h) ?_ hHeld ?_
        rotate_left
        · (intro w h; (try dsimp only at h); go_simp; try with_reducible rfl)
        try simp only [Act.put, pB, pC, pD]
        refine tk (v := ?_) 2 rfl (by kernel_rfl) (fun _ _ _ h => h) ?_ hHeld ?_
        rotate_left
        · (intro w h; (try dsimp only at h); go_simp; try with_reducible rfl)
        try simp only [Act.put, pB, pC, pD]
        refine tk (v := ?_) 3 rfl (by kernel_rfl) (fun _ _ _ h => h) ?_ hHeld ?_
        rotate_left
        · (intro w h; (try dsimp only at h); go_simp; try with_reducible rfl)
        try simp only [Act.put, pB, pC, pD]
        refine tk (v := ?_) 4 rfl (by kernel_rfl) (fun _ _ _ h => h) ?_ hHeld ?_
        rotate_left
        · (intro w h; (try dsimp only at h); go_simp; try with_reducible rfl)
        try simp only [Act.put, pB, pC, pD]
        refine tk (v := ?_) 5 rfl (by kernel_rfl) (fun _ _ _ h => h) ?_ hHeld ?_
        rotate_left
        · (intro w h; (try dsimp only at h); go_simp; try with_reducible rfl)
        try simp only [Act.put, pB, pC, pD]
        refine tk (v := ?_) 6 rfl (by kernel_rfl) (fun _ _ _ h => h) ?_ hHeld ?_
        rotate_left
        · (intro w h; (try dsimp only at h); go_simp; try with_reducible rfl)
        try simp only [Act.put, pB, pC, pD]
        refine wpAnyH_ready (rs := [7]) (by kernel_rfl) (by simp) ?_
        refine AllReadyH.cons rfl (fun K hK => ?_) AllReadyH.nil
        go_simp
        refine hK.out _ _ ?_ (fun hNew => ?_)
        · exact ⟨(World.cell?_alloc_lt wr _ _ HZ.out.lt).trans x1, (World.cell?_alloc_lt wr _ _ hkb).trans z2⟩
        clear hK K hHeld
        have hHeld := hNew
        clear hNew
        try simp only [Act.put, pB, pC, pD]
        refine wpAnyH_ready (rs := [8]) (by kernel_rfl) (by simp) ?_
        refine AllReadyH.cons rfl (fun K hK => ?_) AllReadyH.nil
        refine step_append_w _ (by rfl) _ _ _ (by rfl) (sb + 1) 3 i0 _ 1 8 Tryz.underlying33 hi hz0 hz1 hz2 rfl (by omega) (.slice Ai li.length ci) li.length (li.flatMap inC) (by rfl) HI6.out (.slice (some ⟨wr.heap.size, 0, none⟩) 1 1) 1 [.int .i64 ks[ix].num] (by rfl) (show Rd 3 (wr.alloc (.cells #[.int .i64 ks[ix].num] 3)).drew _ 1 _ from Rd.of_own (own_new wr 0 3 1 [.int .i64 ks[ix].num] rfl (Nat.zero_le _))) (by omega) (by rfl) (by simp [Value.oneCell']) (by unfold maxLen; omega) (by omega) (by have := HSZ.out; simp; omega) ?_; intro v5 w5 hown5 hg5 hat5; obtain ⟨A5, c5, rfl, _⟩ := own_len hown5; have hz5 := HZ6.out.grown hg5 (fun e => own_blk_ne HI6.out HZ6.out (by decide) e.symm); have k0 := hz5.cell 1; have kf := hz5.frozen 1; have hk5 := RdP.keep HK6.out (Kept.of_own [3] HI6.out hg5 rfl) (by decide); obtain ⟨_, _, hbe5, _, _, _, q2, q3⟩ := RdKy.piece hk5 hi5; injection hbe5 with hbe5; injection hbe5 with hbe5 hoe5 _; subst hbe5 hoe5; have k1 := q2; (simp only [qB, qC, qD] at k0); have HOWN5 := Lib.hid hown5; have HG5 := Lib.hid hg5; have HAT5 := Lib.hid hat5; clear hown5 hg5 hat5
        refine hK.out _ _ ?_ (fun hNew => ?_)
        · exact ⟨k0, k1⟩
        clear hK K hHeld
        have hHeld := hNew
        clear hNew
        try simp only [Act.put, pB, pC, pD]
        refine tk (v := ?_) 9 rfl (by kernel_rfl) (fun _ _ _ h => h) ?_ hHeld ?_
        rotate_left
        · (intro w h; (try dsimp only at h); go_simp; try with_reducible rfl)
        try simp only [Act.put, pB, pC, pD]
        refine wpAnyH_done (by kernel_rfl) ?_ _
        refine lastQ_step rfl (fun K hK => ?_)
        clear hHeld
        go_simp
        refine hK _ _ ?_
        clear hK K
        refine NoPanic.normal ?_
        have hpu := slc_push (j := 1) HZ6.out HI6.out HL6.out (.inl (by decide)) (by decide) (by decide) HOWN5.out HG5.out (Nat.lt_succ_self sb)
        have HPU := Lib.hid hpu
        have HB9 := Lib.hid (HBA.out.trans (hpu.2.2.2.mono (Nat.le_refl _)))
        clear hpu HOWN5 HG5 HAT5 kf k0 k1 q2 q3 hz5 hk5
        go_wp2_with fail
        go_roundw
        case rel =>
          rw [HLV.out]
          exact ⟨m + 1, _, _, by omega, by go_num, HPU.out.1, by rw [HIK.out, List.length_append, List.flatMap_append]; exact HPU.out.2.1, by rw [HLK.out]; exact HPU.out.2.2.1, HB9.out⟩
        case measure => simp [intOf]; omega
      · have j9 : (ks[ix].cls == 0) = false := by rw [beq_eq_false_iff_ne]; exact hcl
        have HIK := Lib.hid (show inpK ks (S.take (m + 1)) = li by rw [HTK.out, inpK_snoc, HLI.out, HGT.out]; simp [hcl])
        have HLK := Lib.hid (show linK ks (S.take (m + 1)) = ll ++ [ks[ix].lin] by rw [HTK.out, linK_snoc, HLL.out, HGT.out]; simp [hcl])
        clear hcl
        go_upto_region 7 with (fail)
        have hal := ((Below.refl wr.heap.size wr).alloc (Nat.le_refl _) (.cells #[.string (bs ks[ix].lin)] 22)).drew
        have HI6 : Hid ((wr.alloc (.cells #[.string (bs ks[ix].lin)] 22)).drew.ownsRow (sb + 1) 3 1 (.slice Ai li.length ci) li.length (li.flatMap inC)) := Lib.hid (own_next HI.out hal)
        have HL6 : Hid ((wr.alloc (.cells #[.string (bs ks[ix].lin)] 22)).drew.ownsRow (sb + 1) 22 1 (.slice Al ll.length cl) ll.length (ll.flatMap fun s => [Value.string (bs s)])) := Lib.hid (own_next HL.out hal)
        have HZ6 : Hid (Blk (wr.alloc (.cells #[.string (bs ks[ix].lin)] 22)).drew sb 36 #[lv, .slice Ai li.length ci, .slice Al ll.length cl]) := Lib.hid (HZ.out.next hal HZ.out.lt)
        have HK6 : Hid (RdKy (wr.alloc (.cells #[.string (bs ks[ix].lin)] 22)).drew (.slice (some ⟨kb, ko, none⟩) ks.length ck) ks) := Lib.hid (RdP.next HKW.out hal)
        have HBA := Lib.hid (HBW.out.trans (hal.mono (by have := HSZ.out; omega)))
        obtain ⟨i0, hi, hz0, hz1, hz2⟩ := info_parts infoSt
        clear hal
        refine wp_region_noPanic ?_
        refine wp_region_last (S := (fun (w' : World) => w'.cell? ⟨sb, 2, none⟩ = some (.slice Al ll.length cl) ∧ w'.cell? ⟨kb, ko + ix * 4 + 3, none⟩ = some (.string (bs ks[ix].lin)))) 10 10 rfl (by kernel_rfl) (by kernel_rfl) ?_ (fun hHeld => ?_)
        · exact ⟨x2, z3⟩
        refine tk (v := ?_) 0 rfl (by kernel_rfl) (fun _ _ _ h => h) ?_ hHeld ?_
        rotate_left
        · (intro w h; (try dsimp only at h); go_simp; try with_reducible rfl)
        try simp only [Act.put, pB, pC, pD]
        refine tk (v := ?_) 1 rfl (by kernel_rfl) (fun _ _ _ h => h) ?_ hHeld ?_
        rotate_left
        · (intro w h; (try dsimp only at h); go_simp; try with_reducible rfl)
        try simp only [Act.put, pB, pC, pD]
        refine tk (v := ?_) 2 rfl (by kernel_rfl) (fun _ _ _ h => h) ?_ hHeld ?_
        rotate_left
        · (intro w h; (try dsimp only at h); go_simp; try with_reducible rfl)
        try simp only [Act.put, pB, pC, pD]
        refine tk (v := ?_) 3 rfl (by kernel_rfl) (fun _ _ _ h => h) ?_ hHeld ?_
        rotate_left
        · (intro w h; (try dsimp only at h); go_simp; try with_reducible rfl)
        try simp only [Act.put, pB, pC, pD]
        refine tk (v := ?_) 4 rfl (by kernel_rfl) (fun _ _ _ h => h) ?_ hHeld ?_
        rotate_left
        · (intro w h; (try dsimp only at h); go_simp; try with_reducible rfl)
        try simp only [Act.put, pB, pC, pD]
        refine tk (v := ?_) 5 rfl (by kernel_rfl) (fun _ _ _ h => h) ?_ hHeld ?_
        rotate_left
        · (intro w h; (try dsimp only at h); go_simp; try with_reducible rfl)
        try simp only [Act.put, pB, pC, pD]
        refine tk (v := ?_) 6 rfl (by kernel_rfl) (fun _ _ _ h => h) ?_ hHeld ?_
        rotate_left
        · (intro w h; (try dsimp only at h); go_simp; try with_reducible rfl)
        try simp only [Act.put, pB, pC, pD]
        refine wpAnyH_ready (rs := [7]) (by kernel_rfl) (by simp) ?_
        refine AllReadyH.cons rfl (fun K hK => ?_) AllReadyH.nil
        go_simp
        refine hK.out _ _ ?_ (fun hNew => ?_)
        · exact ⟨(World.cell?_alloc_lt wr _ _ HZ.out.lt).trans x2, (World.cell?_alloc_lt wr _ _ hkb).trans z3⟩
        clear hK K hHeld
        have hHeld := hNew
        clear hNew
        try simp only [Act.put, pB, pC, pD]
        refine wpAnyH_ready (rs := [8]) (by kernel_rfl) (by simp) ?_
        refine AllReadyH.cons rfl (fun K hK => ?_) AllReadyH.nil
        refine step_append_w _ (by rfl) _ _ _ (by rfl) (sb + 1) 22 i0 _ 1 16 Tryz.underlying34 hi hz0 hz1 hz2 rfl (by omega) (.slice Al ll.length cl) ll.length (ll.flatMap fun s => [Value.string (bs s)]) (by rfl) HL6.out (.slice (some ⟨wr.heap.size, 0, none⟩) 1 1) 1 [.string (bs ks[ix].lin)] (by rfl) (show Rd 22 (wr.alloc (.cells #[.string (bs ks[ix].lin)] 22)).drew _ 1 _ from Rd.of_own (own_new wr 0 22 1 [.string (bs ks[ix].lin)] rfl (Nat.zero_le _))) (by omega) (by rfl) (by simp [Value.oneCell']) (by unfold maxLen; omega) (by omega) (by have := HSZ.out; simp; omega) ?_; intro v5 w5 hown5 hg5 hat5; obtain ⟨A5, c5, rfl, _⟩ := own_len hown5; have hz5 := HZ6.out.grown hg5 (fun e => own_blk_ne HL6.out HZ6.out (by decide) e.symm); have k0 := hz5.cell 2; have kf := hz5.frozen 2; have hk5 := RdP.keep HK6.out (Kept.of_own [22] HL6.out hg5 rfl) (by decide); obtain ⟨_, _, hbe5, _, _, _, q2, q3⟩ := RdKy.piece hk5 hi5; injection hbe5 with hbe5; injection hbe5 with hbe5 hoe5 _; subst hbe5 hoe5; have k1 := q3; (simp only [qB, qC, qD] at k0); have HOWN5 := Lib.hid hown5; have HG5 := Lib.hid hg5; have HAT5 := Lib.hid hat5; clear hown5 hg5 hat5
        refine hK.out _ _ ?_ (fun hNew => ?_)
        · exact ⟨k0, k1⟩
        clear hK K hHeld
        have hHeld := hNew
        clear hNew
        try simp only [Act.put, pB, pC, pD]
        refine tk (v := ?_) 9 rfl (by kernel_rfl) (fun _ _ _ h => h) ?_ hHeld ?_
        rotate_left
        · (intro w h; (try dsimp only at h); go_simp; try with_reducible rfl)
        try simp only [Act.put, pB, pC, pD]
        refine wpAnyH_done (by kernel_rfl) ?_ _
        refine lastQ_step rfl (fun K hK => ?_)
        clear hHeld
        go_simp
        refine hK _ _ ?_
        clear hK K
        refine NoPanic.normal ?_
        have hpu := slc_push (j := 2) HZ6.out HL6.out HI6.out (.inl (by decide)) (by decide) (by decide) HOWN5.out HG5.out (Nat.lt_succ_self sb)
        have HPU := Lib.hid hpu
        have HB9 := Lib.hid (HBA.out.trans (hpu.2.2.2.mono (Nat.le_refl _)))
        clear hpu HOWN5 HG5 HAT5 kf k0 k1 q2 q3 hz5 hk5
        go_wp2_with fail
        go_roundw
        case rel =>
          rw [HLV.out]
          exact ⟨m + 1, _, _, by omega, by go_num, HPU.out.1, by rw [HIK.out]; exact HPU.out.2.2.1, by rw [HLK.out, List.length_append, List.flatMap_append]; exact HPU.out.2.1, HB9.out⟩
        case measure => simp [intOf]; omega
    · have j6 : decide ((m : Int) < (S.length : Int)) = false := decide_eq_false (by omega)
      have HTA := Lib.hid (show li = inpK ks S ∧ ll = linK ks S by rw [← HLI.out, ← HLL.out, List.take_of_length_le (by omega)]; exact ⟨rfl, rfl⟩)
      have x1 := HZ.out.cell 1
      simp only [qB, qC, qD] at x1
      go_wp2_with fail
      go_at_call 68
      refine (isort_is HI.out (by omega) HSZ.out).mono ?_
      rintro e w7 ⟨rfl, hown7, hg7, hb7⟩
      have HI7 := Lib.hid hown7
      have HZ7 := Lib.hid (HZ.out.grown hg7 (fun e => own_blk_ne HI.out HZ.out (by decide) e.symm))
      have HL7 := Lib.hid (own_grown HL.out HI.out hg7 (.inl (by decide)))
      have HB7 := Lib.hid (HBW.out.trans (hb7.mono (Nat.le_succ sb)))
      clear hown7 hg7 hb7 x1 HI HZ HL
      have x2 := HZ7.out.cell 2
      simp only [qB, qC, qD] at x2
      go_wp2_with fail
      go_at_call 50
      refine (lsort_is (show RdSt w7 _ ll from Rd.of_own HL7.out) (by rw [HTA.out.2]; exact linK_mem H5.out) (by omega)).mono ?_
      rintro e w8 ⟨v8, rfl, hrd8, hb8⟩
      obtain ⟨A8, c8, rfl, _⟩ := RdP.form hrd8
      have HR8 := Lib.hid hrd8
      have HI8 := Lib.hid (own_next HI7.out hb8)
      have HZ8 := Lib.hid (HZ7.out.next hb8 HZ7.out.lt)
      have HB8 := Lib.hid (HB7.out.trans (hb8.mono (by have := HZ7.out.lt; omega)))
      have HZR8 : Hid (Blk w8 rb 36 #[.slice none 0 0, .slice none 0 0, .slice none 0 0]) := Lib.hid ((HB8.out.block rb HRB.out.2).trans ZR.out)
      have hne : rb ≠ sb := by have := HRB.out.2; omega
      have hne2 : sb ≠ rb := fun e => hne e.symm
      clear hrd8 hb8 x2 HI7 HZ7 HL7
      have x0 := HZ8.out.cell 0
      have x1 := HZ8.out.cell 1
      have x2 := HZ8.out.cell 2
      have f2 := HZ8.out.frozen 2
      have r0 := HZR8.out.cell 0
      have r1 := HZR8.out.cell 1
      have r2 := HZR8.out.cell 2
      have g0 := HZR8.out.frozen 0
      have g1 := HZR8.out.frozen 1
      have g2 := HZR8.out.frozen 2
      simp only [qB, qC, qD] at x0 x1 x2 r0 r1 r2
      have hgs : w8.grownBy (w8.setCell ⟨sb, 2, none⟩ (.slice A8 (lsrt ll).length c8)) (some sb) := only_setCell (World.grownBy.refl w8 _) (.inl rfl) _
      have k1 : Kept [36] w8 (w8.setCell ⟨sb, 2, none⟩ (.slice A8 (lsrt ll).length c8)) := Kept.of_blk _ HZ8.out hgs rfl
      have hzr9 : Blk (w8.setCell ⟨sb, 2, none⟩ (.slice A8 (lsrt ll).length c8)) rb 36 #[.slice none 0 0, .slice none 0 0, .slice none 0 0] := (Below.heap_setCell w8 ⟨sb, 2, none⟩ (.slice A8 (lsrt ll).length c8) rb hne).trans HZR8.out
      have hg3 := set3 (w8.setCell ⟨sb, 2, none⟩ (.slice A8 (lsrt ll).length c8)) rb (.slice As S.length cs) (.slice Ai li.length ci) (.slice A8 (lsrt ll).length c8)
      have k2 := k1.trans (Kept.of_blk [36] hzr9 hg3 rfl)
      have HRI := Lib.hid (RdP.keep (show RdIn w8 (.slice Ai li.length ci) (srtI li) from by have := Rd.of_own HI8.out; rw [srtI_len] at this; exact (by show Rd _ _ _ _ _; rw [srtI_len]; exact this)) k2 (by decide))
      have HRS := Lib.hid (RdP.keep HR8.out k2 (by decide))
      have hbf : Below rb w8 (w8.setCell ⟨sb, 2, none⟩ (.slice A8 (lsrt ll).length c8)) := (Below.refl rb w8).setCell (p := ⟨sb, 2, none⟩) (Nat.le_of_lt HRB.out.2) _
      have HBF := Lib.hid (HA.out.trans (((HB8.out.mono (Nat.le_of_lt HRB.out.2)).trans (hbf.grown hg3 (by rw [World.size_setCell]; exact Nat.le_of_lt (Nat.lt_of_lt_of_le (Nat.lt_of_lt_of_le HRB.out.2 (Nat.le_of_lt HSB.out)) HB8.out.size)) (fun k hk => by injection hk with hk; omega))).mono (Nat.le_of_eq HRB.out.1)))
      clear hgs k1 hzr9 hg3 k2 hbf
      go_wp2_with fail
      exact bodyPost_ret (v := .agg #[.slice As S.length cs, .slice Ai li.length ci, .slice A8 (lsrt ll).length c8]) (by simp [results, Tryz.results48, go_sem, r0, r1, r2]) rfl ⟨_, _, rfl, by rw [← HTA.out.1]; exact HRI.out, by rw [← HTA.out.2]; exact HRS.out, HBF.out⟩
end Go.Proofs.YtamjllakfgphnaaGreatDoor
namespace Go.Proofs.YtamjllakfgphnaaGreatDoor
open Go.RowKit Go.MapKept Go.ChangeMaps
set_option linter.unusedSimpArgs false
set_option linter.unusedVariables false
theorem own_setKy {w : World} {base g n c i : Nat} {L : List Ky} (h : w.ownsRow base 74 4 (.slice (some ⟨g, 0, none⟩) n c) n (L.flatMap kyC)) (hi : i < L.length) (k : Ky) :
    ((((w.setCell ⟨g, i * 4, none⟩ (.int .i64 k.tick)).setCell ⟨g, i * 4 + 1, none⟩ (.int .i64 k.cls)).setCell ⟨g, i * 4 + 2, none⟩ (.int .i64 k.num)).setCell ⟨g, i * 4 + 3, none⟩ (.string (bs k.lin))).ownsRow base 74 4 (.slice (some ⟨g, 0, none⟩) n c) n ((L.set i k).flatMap kyC) := by
  obtain ⟨hl, ⟨_, h0⟩ | ⟨g', cap, cur, hv, hg, hh, h1, h2, h3, h4⟩⟩ := h
  · rw [fm_len kyC_len, h0] at hl
    omega
  injection hv with hA _ hcc
  injection hA with hA
  injection hA with hA _ _
  subst hA hcc
  have hLn : L.length = n := by rw [fm_len kyC_len] at hl; omega
  have hb := ((((show Blk w g 74 cur from hh).set_ (i * 4) (.int .i64 k.tick)).set_ (i * 4 + 1) (.int .i64 k.cls)).set_ (i * 4 + 2) (.int .i64 k.num)).set_ (i * 4 + 3) (.string (bs k.lin))
  have hcs : n * 4 ≤ cur.size := by
    have := congrArg List.length h4
    rw [List.length_take, fm_len kyC_len, Array.length_toList, hLn] at this
    omega
  refine ⟨by rw [fm_len kyC_len, List.length_set, hLn], .inr ⟨g, c, _, rfl, hg, hb, h1, h2, by simpa using h3, ?_⟩⟩
  apply List.ext_getElem?
  intro j
  by_cases hj : j < n * 4
  · rw [List.getElem?_take_of_lt hj, Array.getElem?_toList]
    have hq : j / 4 < (L.set i k).length := by rw [List.length_set]; omega
    have hr : j % 4 < 4 := Nat.mod_lt _ (by decide)
    have hfm := fm_get kyC_len (L.set i k) (j / 4) hq (j % 4) hr
    rw [show j / 4 * 4 + j % 4 = j by omega] at hfm
    rw [hfm]
    have hold := congrArg (fun x => x[j]?) h4
    (try simp only at hold)
    have hq2 : j / 4 < L.length := by omega
    have hfm2 := fm_get kyC_len L (j / 4) hq2 (j % 4) hr
    rw [show j / 4 * 4 + j % 4 = j by omega] at hfm2
    rw [List.getElem?_take_of_lt hj, hfm2, Array.getElem?_toList] at hold
    simp only [Array.getElem?_setIfInBounds, Array.size_setIfInBounds]
    by_cases hqi : j / 4 = i
    · have hset : (L.set i k)[j / 4] = k := by simp [hqi]
      rw [hset]
      have hr4 : j % 4 = 0 ∨ j % 4 = 1 ∨ j % 4 = 2 ∨ j % 4 = 3 := by omega
      rcases hr4 with e | e | e | e
      · rw [e, if_neg (by omega), if_neg (by omega), if_neg (by omega), if_pos (by omega), if_pos (by omega)]; rfl
      · rw [e, if_neg (by omega), if_neg (by omega), if_pos (by omega), if_pos (by omega)]; rfl
      · rw [e, if_neg (by omega), if_pos (by omega), if_pos (by omega)]; rfl
      · rw [e, if_pos (by omega), if_pos (by omega)]; rfl
    · have hset : (L.set i k)[j / 4] = L[j / 4] := by
        rw [List.getElem_set]
        rw [if_neg (fun e => hqi e.symm)]
      rw [hset, if_neg (by omega), if_neg (by omega), if_neg (by omega), if_neg (by omega), hold]
  · rw [List.getElem?_eq_none (by rw [List.length_take]; omega), List.getElem?_eq_none (by rw [fm_len kyC_len, List.length_set, hLn]; omega)]
theorem set4 (w : World) (g i : Nat) (a b c d : Value) : w.grownBy ((((w.setCell ⟨g, i, none⟩ a).setCell ⟨g, i + 1, none⟩ b).setCell ⟨g, i + 2, none⟩ c).setCell ⟨g, i + 3, none⟩ d) (some g) := by
  have h := fun (W : World) (j : Nat) (v : Value) => (show W.grownBy (W.setCell ⟨g, j, none⟩ v) (some g) from only_setCell (only_of_below (Below.refl _ _) _) (.inl rfl) v)
  exact grown_trans (h _ _ _) (grown_trans (h _ _ _) (grown_trans (h _ _ _) (h _ _ _)))
theorem MapRowsS.grown {α : Type} {f : α → List Value} {s : Nat} {e : TypeId} {w w' : World} {F : Nat → Prop} {b : Nat} {D : Bs → List α} {row : Option Nat} (h : MapRowsS e s f w F b D) (hg : w.grownBy w' row) (hne : ∀ r, row = some r → (∀ cs, w.heap[r]? ≠ some (.cells cs e (0, 0))) ∧ ∀ es c, w.heap[r]? ≠ some (.map es c)) : MapRowsS e s f w' F b D :=
  h.keep (fun es c _ hh => hg.block _ (Array.getElem?_eq_some_iff.1 hh).1 (fun e1 => (hne _ e1.symm).2 es c hh)) (fun g cs _ hh => hg.block _ (Array.getElem?_eq_some_iff.1 hh).1 (fun e1 => (hne _ e1.symm).1 cs hh)) fun _ _ h => h
def ky0 : Ky := ⟨0, 0, 0, []⟩
theorem make_keys (w : World) (n : Nat) (hn : n ≤ 100) : (Instr.makeSlice 114 (.int .i64 n) (.int .i64 n)).run Tryz.prog w = .ok (.slice (some ⟨w.heap.size, 0, none⟩) n n) (w.alloc (.cells (madeCells #[.int .i64 0, .int .i64 0, .int .i64 0, .string ⟨#[]⟩] (n * 4)) 74)) := by
  obtain ⟨i0, hi, hz0, hz1, hz2⟩ := info_parts infoKy
  have h := run_make (P := Tryz.prog) w 114 74 i0 _ Tryz.underlying114 hi hz0 .i64 .i64 n n (by omega) (Int.le_refl _) (by rw [hz2]; omega) (by omega)
  rw [hz1] at h
  simp only [Int.toNat_natCast] at h
  exact h
theorem own_made_ky (w : World) (n : Nat) (hn : n ≤ 100) : (w.alloc (.cells (madeCells #[.int .i64 0, .int .i64 0, .int .i64 0, .string ⟨#[]⟩] (n * 4)) 74)).ownsRow w.heap.size 74 4 (.slice (some ⟨w.heap.size, 0, none⟩) n n) n ((List.replicate n ky0).flatMap kyC) := by
  refine ⟨by rw [fm_len kyC_len, List.length_replicate], .inr ⟨w.heap.size, n, _, rfl, Nat.le_refl _, heap_alloc_new w _, Nat.le_refl _, by unfold maxLen; omega, by rw [size_madeCells], ?_⟩⟩
  apply List.ext_getElem?
  intro j
  by_cases hj : j < n * 4
  · rw [List.getElem?_take_of_lt hj]
    have hr : j % 4 < 4 := Nat.mod_lt _ (by decide)
    have hfm := fm_get kyC_len (List.replicate n ky0) (j / 4) (by rw [List.length_replicate]; omega) (j % 4) hr
    rw [show j / 4 * 4 + j % 4 = j by omega, List.getElem_replicate] at hfm
    rw [hfm, Array.getElem?_toList]
    unfold madeCells
    rw [Array.getElem?_map, Array.getElem?_range, if_pos hj]
    have hr4 : j % 4 = 0 ∨ j % 4 = 1 ∨ j % 4 = 2 ∨ j % 4 = 3 := by omega
    rcases hr4 with e | e | e | e
    all_goals (rw [e]; simp [e]; rfl)
  · rw [List.getElem?_eq_none (by rw [List.length_take]; omega), List.getElem?_eq_none (by rw [fm_len kyC_len, List.length_replicate]; omega)]
theorem set_mid2 {α : Type} (A : List α) (x y : α) (k n : Nat) (hA : A.length = k) (hk : k < n) : (A ++ List.replicate (n - k) x).set k y = (A ++ [y]) ++ List.replicate (n - (k + 1)) x := by
  rw [show n - k = (n - (k + 1)) + 1 by omega, List.replicate_succ, List.set_append_right _ _ (by omega)]
  simp [hA]
theorem orgR_ge {N : Nat} {s0 : St} {l : List Ac} {n : Nm} {a i : Int} (h : (orgR N (verL s0 l n) a i).2 = 0) : -1 ≤ (orgR N (verL s0 l n) a i).1 ∧ (orgR N (verL s0 l n) a i).1 < i ∧ 0 ≤ i ∧ i ≤ (N : Int) := by
  unfold orgR at h ⊢
  split at h
  · simp at h
  · rename_i h1
    rw [if_neg h1]
    cases ho : orgF a.toNat none (backL i (verL s0 l n)) with
    | none => rw [ho] at h; simp at h
    | some ob =>
      obtain ⟨o, b⟩ := ob
      rcases orgF_idx a.toNat _ _ o b ho with ⟨v, hv, e⟩ | e
      · have h2 := backL_mem hv
        have h3 := h2.2
        have h4 : -1 ≤ v.idx := by
          have h5 := h2.1
          unfold verL at h5
          rcases List.mem_cons.1 h5 with e5 | h5
          · rw [e5]; simp [ver0]
          · have := vers_idx n 0 l v h5; omega
        simp only
        omega
      · cases e
end Go.Proofs.YtamjllakfgphnaaGreatDoor
namespace Go.Proofs.YtamjllakfgphnaaGreatDoor
open Go.RowKit
set_option linter.unusedSimpArgs false
set_option linter.unusedVariables false
attribute [local go_sem ↓] Go.wp_at_zero Go.wp_at_succ
theorem set6 (w : World) (g : Nat) (a b c d e f : Value) : w.grownBy ((((((w.setCell ⟨g, 0, none⟩ a).setCell ⟨g, 1, none⟩ b).setCell ⟨g, 2, none⟩ c).setCell ⟨g, 3, none⟩ d).setCell ⟨g, 4, none⟩ e).setCell ⟨g, 5, none⟩ f) (some g) := by
  have h := fun (W : World) (j : Nat) (v : Value) => (show W.grownBy (W.setCell ⟨g, j, none⟩ v) (some g) from only_setCell (only_of_below (Below.refl _ _) _) (.inl rfl) v)
  exact grown_trans (h _ _ _) (grown_trans (h _ _ _) (grown_trans (h _ _ _) (grown_trans (h _ _ _) (grown_trans (h _ _ _) (h _ _ _)))))
def AcnP (l : List Ac) (t : Int) (w : World) (e : Ending) (w' : World) : Prop :=
  Below w.heap.size w w' ∧ ((∃ (n : Nat) (h : n < l.length) (P1 P2 : Option Addr) (k1 k2 : Nat), t = (n : Int) ∧ NAc w' (.slice P1 l[n].reads.length k1, .slice P2 l[n].writes.length k2) l[n] ∧ e = .returned (.tuple #[acV l[n] (.slice P1 l[n].reads.length k1, .slice P2 l[n].writes.length k2), .int .i64 0])) ∨
    (¬ (0 ≤ t ∧ t < (l.length : Int)) ∧ e = .returned (.tuple #[.agg #[.int .i64 0, .int .i64 0, .int .i64 0, .string ⟨#[]⟩, .slice none 0 0, .slice none 0 0], .int .i64 2])))
set_option maxRecDepth 100000 in
set_option maxHeartbeats 2000000 in
theorem action_is {w : World} {F : Nat → Prop} {g : Nat} {s0 : St} {l : List Ac} (t : Int) (hv : VAt w F g s0 l) (ho : VOk l) : Calls Tryz.prog 46 #[.pointer (some ⟨g, 0, none⟩), .int .i64 t] w (AcnP l t w) := by
  have hba := (Below.refl w.heap.size w).alloc (Nat.le_refl _) (.cells #[.int .i64 0, .int .i64 0, .int .i64 0, .string ⟨#[]⟩, .slice none 0 0, .slice none 0 0] 77)
  obtain ⟨pb, va, vk, pl, bw, br, iv⟩ := hv.next hba
  obtain ⟨B, rfl⟩ : ∃ B, pb = some ⟨B, 0, none⟩ := by obtain ⟨B, _, _, e, _⟩ := id iv.base; exact ⟨B, e⟩
  obtain ⟨_, _, hoa⟩ := id iv.act
  obtain ⟨Aa, ca, rfl, hca⟩ := own_len hoa
  have HRD := Lib.hid (show RdAc (w.alloc (.cells #[.int .i64 0, .int .i64 0, .int .i64 0, .string ⟨#[]⟩, .slice none 0 0, .slice none 0 0] 77)) (.slice Aa l.length ca) l from RowOwn.rd iv.act)
  have z0 := iv.blk.cell 0
  have z1 := iv.blk.cell 1
  have zb := Blk.new w 77 #[.int .i64 0, .int .i64 0, .int .i64 0, .string ⟨#[]⟩, .slice none 0 0, .slice none 0 0]
  have hcb := zb.lt
  have r0 := zb.cell 0
  have f0 := zb.frozen 0
  have r1 := zb.cell 1
  have f1 := zb.frozen 1
  have r2 := zb.cell 2
  have f2 := zb.frozen 2
  have r3 := zb.cell 3
  have f3 := zb.frozen 3
  have r4 := zb.cell 4
  have f4 := zb.frozen 4
  have r5 := zb.cell 5
  have f5 := zb.frozen 5
  simp only [qB, qC, qD] at z0 z1 r0 r1 r2 r3 r4 r5
  have HZB := Lib.hid zb
  have HBA := Lib.hid hba
  have HR := Lib.hid ho.r
  have hll := ho.len
  clear hv iv hoa zb hba ho
  by_cases h1 : t < 0
  · have e1 : decide (t < 0) = true := decide_eq_true h1
    have HN : Hid (¬ (0 ≤ t ∧ t < (l.length : Int))) := Lib.hid (by omega)
    clear h1
    go_enter Tryz.func46, Tryz.ntmps46
    go_wp2_with (go_at_call 51; refine (none_is z0).mono ?_; rintro e w' ⟨rfl, rfl⟩)
    exact bodyPost_ret (v := .tuple #[.agg #[.int .i64 0, .int .i64 0, .int .i64 0, .string ⟨#[]⟩, .slice none 0 0, .slice none 0 0], .int .i64 2]) (by simp [results, Tryz.results46, go_sem, r0, r1, r2, r3, r4, r5]) rfl ⟨by first | exact HBA.out | exact ((((((HBA.out.setCell (p := ⟨w.heap.size, 0, none⟩) (Nat.le_refl _) _).setCell (p := ⟨w.heap.size, 1, none⟩) (Nat.le_refl _) _).setCell (p := ⟨w.heap.size, 2, none⟩) (Nat.le_refl _) _).setCell (p := ⟨w.heap.size, 3, none⟩) (Nat.le_refl _) _).setCell (p := ⟨w.heap.size, 4, none⟩) (Nat.le_refl _) _).setCell (p := ⟨w.heap.size, 5, none⟩) (Nat.le_refl _) _), .inr ⟨HN.out, rfl⟩⟩
  · have e1 : decide (t < 0) = false := decide_eq_false h1
    obtain ⟨n, rfl⟩ := Int.eq_ofNat_of_zero_le (show 0 ≤ t by omega)
    by_cases h2 : n < l.length
    · have e2 : decide ((l.length : Int) ≤ (n : Int)) = false := decide_eq_false (by omega)
      have j1 : (0 : Int) ≤ (n : Int) := by omega
      have j2 : (n : Int) < (l.length : Int) := by omega
      obtain ⟨b, o, u1, u2, hbe, hbr, m1, m2, x0, x1, x2, x3, x4, x5⟩ := RdAc.piece HRD.out h2
      subst hbe
      obtain ⟨a, ha⟩ : ∃ a, l[n] = a := ⟨_, rfl⟩
      have har := HR.out _ (List.getElem_mem h2)
      rw [ha] at m1 m2 x0 x1 x2 x3 har
      have HA := Lib.hid ha
      have HNA := Lib.hid (show NAc (w.alloc (.cells #[.int .i64 0, .int .i64 0, .int .i64 0, .string ⟨#[]⟩, .slice none 0 0, .slice none 0 0] 77)) (u1, u2) a from ⟨m1, m2⟩)
      have HL := Lib.hid (show a.reads.length ≤ 100 ∧ a.writes.length ≤ 100 from ⟨Nat.le_trans har.2.2.2.1 (by omega), Nat.le_trans har.2.2.2.2 (by omega)⟩)
      clear h1 ha har m1 m2
      go_enter Tryz.func46, Tryz.ntmps46
      go_upto_region 5 with (go_at_call 51; refine (none_is z0).mono ?_; rintro e w' ⟨rfl, rfl⟩)
      generalize w.alloc (.cells #[.int .i64 0, .int .i64 0, .int .i64 0, .string ⟨#[]⟩, .slice none 0 0, .slice none 0 0] 77) = W at *
      obtain ⟨cb, hcbe⟩ : ∃ cb, w.heap.size = cb := ⟨_, rfl⟩
      have HCB := Lib.hid hcbe
      rw [hcbe] at r0 r1 r2 r3 r4 r5 HZB hcb ⊢
      clear hcbe f0 f1 f2 f3 f4 f5
      go_wp2_with (go_at_call 83; refine (copied_is (a := a) (u := (u1, u2)) HNA.out HL.out.1 HL.out.2).mono ?_; rintro e w6 ⟨⟨y1, y2⟩, rfl, hn6, hb6⟩; obtain ⟨P1, k1, rfl, _⟩ := RdP.form hn6.1; obtain ⟨P2, k2, rfl, _⟩ := RdP.form hn6.2; (try simp only [acV]); have HN6 := Lib.hid hn6; have HB6 := Lib.hid (HBA.out.trans (hb6.mono HBA.out.size)); have HZ6 := Lib.hid (HZB.out.next hb6 hcb); replace r0 := (hb6.cell (p := ⟨cb, 0, none⟩) hcb).trans r0; have f0 := HZ6.out.frozen 0; replace r1 := (hb6.cell (p := ⟨cb, 1, none⟩) hcb).trans r1; have f1 := HZ6.out.frozen 1; replace r2 := (hb6.cell (p := ⟨cb, 2, none⟩) hcb).trans r2; have f2 := HZ6.out.frozen 2; replace r3 := (hb6.cell (p := ⟨cb, 3, none⟩) hcb).trans r3; have f3 := HZ6.out.frozen 3; replace r4 := (hb6.cell (p := ⟨cb, 4, none⟩) hcb).trans r4; have f4 := HZ6.out.frozen 4; replace r5 := (hb6.cell (p := ⟨cb, 5, none⟩) hcb).trans r5; have f5 := HZ6.out.frozen 5;  clear hn6 hb6)
      have HNX := Lib.hid (NAc.keep (Kept.of_blk [77] HZ6.out (set6 w6 cb (.int .i64 a.key.tick) (.int .i64 a.key.cls) (.int .i64 a.key.num) (.string (bs a.key.lin)) (.slice P1 a.reads.length k1) (.slice P2 a.writes.length k2)) rfl) rfl HN6.out)
      exact bodyPost_ret (v := .tuple #[.agg #[.int .i64 a.key.tick, .int .i64 a.key.cls, .int .i64 a.key.num, .string (bs a.key.lin), .slice P1 a.reads.length k1, .slice P2 a.writes.length k2], .int .i64 0]) (by simp [results, Tryz.results46, go_sem, r0, r1, r2, r3, r4, r5]) rfl ⟨by rw [← HCB.out]; exact ((((((HB6.out.setCell (p := ⟨w.heap.size, 0, none⟩) (Nat.le_refl _) _).setCell (p := ⟨w.heap.size, 1, none⟩) (Nat.le_refl _) _).setCell (p := ⟨w.heap.size, 2, none⟩) (Nat.le_refl _) _).setCell (p := ⟨w.heap.size, 3, none⟩) (Nat.le_refl _) _).setCell (p := ⟨w.heap.size, 4, none⟩) (Nat.le_refl _) _).setCell (p := ⟨w.heap.size, 5, none⟩) (Nat.le_refl _) _), .inl ⟨n, h2, P1, P2, k1, k2, rfl, by rw [HA.out]; exact HNX.out, by rw [HA.out]; rfl⟩⟩
    · have e2 : decide ((l.length : Int) ≤ (n : Int)) = true := decide_eq_true (by omega)
      have HN : Hid (¬ (0 ≤ (n : Int) ∧ (n : Int) < (l.length : Int))) := Lib.hid (by omega)
      clear h1
      go_enter Tryz.func46, Tryz.ntmps46
      go_wp2_with (go_at_call 51; refine (none_is z0).mono ?_; rintro e w' ⟨rfl, rfl⟩)
      exact bodyPost_ret (v := .tuple #[.agg #[.int .i64 0, .int .i64 0, .int .i64 0, .string ⟨#[]⟩, .slice none 0 0, .slice none 0 0], .int .i64 2]) (by simp [results, Tryz.results46, go_sem, r0, r1, r2, r3, r4, r5]) rfl ⟨by first | exact HBA.out | exact ((((((HBA.out.setCell (p := ⟨w.heap.size, 0, none⟩) (Nat.le_refl _) _).setCell (p := ⟨w.heap.size, 1, none⟩) (Nat.le_refl _) _).setCell (p := ⟨w.heap.size, 2, none⟩) (Nat.le_refl _) _).setCell (p := ⟨w.heap.size, 3, none⟩) (Nat.le_refl _) _).setCell (p := ⟨w.heap.size, 4, none⟩) (Nat.le_refl _) _).setCell (p := ⟨w.heap.size, 5, none⟩) (Nat.le_refl _) _), .inr ⟨HN.out, rfl⟩⟩
end Go.Proofs.YtamjllakfgphnaaGreatDoor
namespace Go.Proofs.YtamjllakfgphnaaGreatDoor
set_option linter.unusedVariables false
structure A54 where
  wait : Int
  who : Int
  reads : Int
  writes : Int
  value : Bs
  absent : Bool
def obs : List (Nm × Nat) := [(obT, 2), (obC, 3), (obA, 0), (obB, 1)]
def hasB (x : Int) (b : Nat) : Bool := decide (IntKind.u8.wrap ((BitVec.ofInt 8 (x.fdiv (2 ^ b)) &&& BitVec.ofInt 8 1).toNat : Nat) = 1)
def lin4 (k : Int) : Bs := if k = 0 then [50] else if k = 1 then [50, 46, 49] else if k = 2 then [51] else [49]
def key54 (t i : Int) (a : A54) : Ky := if a.who % 5 = 4 then ⟨t, 0, i + 1, []⟩ else ⟨t, 2, 0, lin4 (a.who % 4)⟩
def inp54 (i : Int) (a : A54) : Int := if a.who % 5 = 4 then i + 1 else i
def rdC (s : St) (n : Nm) : Ch := ⟨n, (look cmpN n s).getD [], (look cmpN n s).isNone⟩
def wrC (a : A54) (n : Nm) : Ch := ⟨n, if a.absent then [] else a.value.take 6, a.absent⟩
def rdsU (s : St) (a : A54) (k : Nat) : List Ch := ((obs.take k).filter fun p => hasB a.reads p.2).map fun p => rdC s p.1
def wrsU (a : A54) (k : Nat) : List Ch := ((obs.take k).filter fun p => hasB a.writes p.2).map fun p => wrC a p.1
def ac54 (s : St) (t i : Int) (a : A54) : Ac := ⟨key54 t i a, rdsU s a 4, wrsU a 4⟩
structure B54 where
  now : St
  tick : Int
  inp : Int
  l : List Ac
def step54 (b : B54) (a : A54) : B54 := ⟨appS b.now (wrsU a 4), b.tick + 1 + a.wait % 2, inp54 b.inp a, b.l ++ [ac54 b.now (b.tick + 1 + a.wait % 2) b.inp a]⟩
def base54 : St := [(obB, [98, 97, 115, 101])]
def fold54 (l : List A54) : B54 := l.foldl step54 ⟨base54, 0, 0, []⟩
def W54 (l : List A54) : List Ac := (fold54 (l.take 20)).l
theorem fold54_take (l : List A54) (k : Nat) (hk : k < l.length) : fold54 (l.take (k + 1)) = step54 (fold54 (l.take k)) l[k] := by
  unfold fold54
  rw [List.take_succ_eq_append_getElem hk, List.foldl_append]; rfl
theorem obs_ob : ∀ p ∈ obs, IsOb p.1 := by unfold IsOb; decide +kernel
theorem obs_pair : obs.Pairwise fun p q => cmpN p.1 q.1 < 0 := by decide +kernel
theorem ord_of : ∀ {l : List Ch}, l.Pairwise (fun a b => cmpN a.name b.name < 0) → (∀ c ∈ l, okCh c = true) → ordCh l = true
  | [], _, _ => rfl
  | c :: l, h, ho => by
    obtain ⟨h1, h2⟩ := List.pairwise_cons.1 h
    simp only [ordCh, Bool.and_eq_true]
    refine ⟨⟨ho c (by simp), ?_⟩, ord_of h2 fun d hd => ho d (by simp [hd])⟩
    cases l with
    | nil => rfl
    | cons d r => simp only [decide_eq_true_eq]; exact h1 d (by simp)
theorem okCh_of {c : Ch} (h1 : IsOb c.name) (h2 : c.value.length ≤ 65536) (h3 : c.absent = true → c.value = []) : okCh c = true := by
  unfold okCh okN
  simp only [Bool.and_eq_true, decide_eq_true_eq]
  refine ⟨⟨h1, h2⟩, ?_⟩
  cases ha : c.absent with
  | false => rfl
  | true => rw [h3 ha]; rfl
theorem look_len {s : St} (h : StV s) (n : Nm) : ((look cmpN n s).getD []).length ≤ 65536 := by
  have h2 := h.2
  clear h
  induction s with
  | nil => simp [look]
  | cons p s ih =>
    unfold look
    have := h2 p (by simp)
    have ih := ih fun q hq => h2 q (by simp [hq])
    split
    · simpa using this
    · exact ih
theorem rds_mem {s : St} {a : A54} {c : Ch} (h : c ∈ rdsU s a 4) : ∃ p ∈ obs, c = rdC s p.1 := by
  unfold rdsU at h
  obtain ⟨p, hp, rfl⟩ := List.mem_map.1 h
  exact ⟨p, List.mem_of_mem_take (List.mem_filter.1 hp).1, rfl⟩
theorem wrs_mem {a : A54} {c : Ch} (h : c ∈ wrsU a 4) : ∃ p ∈ obs, c = wrC a p.1 := by
  unfold wrsU at h
  obtain ⟨p, hp, rfl⟩ := List.mem_map.1 h
  exact ⟨p, List.mem_of_mem_take (List.mem_filter.1 hp).1, rfl⟩
theorem wrC_v (a : A54) (n : Nm) (hn : IsOb n) : ChV (wrC a n) := ⟨hn, by unfold wrC; simp only; split <;> simp; omega⟩
theorem wrs_v (a : A54) : ∀ c ∈ wrsU a 4, ChV c := fun c hc => by
  obtain ⟨p, hp, rfl⟩ := wrs_mem hc
  exact wrC_v a _ (obs_ob p hp)
theorem rds_ord {s : St} (h : StV s) (a : A54) : ordCh (rdsU s a 4) = true := by
  refine ord_of ?_ fun c hc => ?_
  · unfold rdsU
    rw [List.pairwise_map]
    exact (obs_pair.sublist (List.take_sublist 4 obs)).filter _
  · obtain ⟨p, hp, rfl⟩ := rds_mem hc
    refine okCh_of (obs_ob p hp) (look_len h _) fun e => ?_
    simp only [rdC] at e ⊢
    rw [Option.isNone_iff_eq_none] at e
    rw [e]; rfl
theorem wrs_ord (a : A54) : ordCh (wrsU a 4) = true := by
  refine ord_of ?_ fun c hc => ?_
  · unfold wrsU
    rw [List.pairwise_map]
    exact (obs_pair.sublist (List.take_sublist 4 obs)).filter _
  · obtain ⟨p, hp, rfl⟩ := wrs_mem hc
    refine okCh_of (obs_ob p hp) (wrC_v a _ (obs_ob p hp)).2 fun e => ?_
    simp only [wrC] at e ⊢
    rw [if_pos e]
theorem u_len {α : Type} (f : Nm × Nat → Bool) (g : Nm × Nat → α) : (((obs.take 4).filter f).map g).length ≤ 10 := by
  rw [List.length_map]
  refine Nat.le_trans (List.length_filter_le _ _) ?_
  show 4 ≤ 10
  omega
theorem lin4_mem (k : Int) : lin4 k ∈ lin5 ∧ lin4 k ≠ [] := by
  unfold lin4 lin5
  split
  · simp
  · split
    · simp
    · split <;> simp
theorem key54_r {t i : Int} {a : A54} (h1 : 0 ≤ t) (h2 : t ≤ 100) (h3 : 0 ≤ i) (h4 : i ≤ 100) : KyR (key54 t i a) ∧ okKy (key54 t i a) = true := by
  unfold key54
  split
  · refine ⟨⟨⟨by simp only; omega, by simp only; omega⟩, by simp [lin5], .inl ⟨rfl, by simp only; omega, by simp only; omega, rfl⟩⟩, ?_⟩
    unfold okKy
    simp only [Bool.and_eq_true, Bool.or_eq_true, decide_eq_true_eq]
    exact ⟨h1, .inr (by omega)⟩
  · refine ⟨⟨⟨by simp only; omega, by simp only; omega⟩, (lin4_mem _).1, .inr ⟨rfl, rfl, (lin4_mem _).2⟩⟩, ?_⟩
    unfold okKy
    simp only [Bool.and_eq_true, Bool.or_eq_true, decide_eq_true_eq]
    exact ⟨h1, .inl trivial⟩
theorem key54_tick (t i : Int) (a : A54) : (key54 t i a).tick = t := by unfold key54; split <;> rfl
structure Good (b : B54) (k : Nat) : Prop where
  len : b.l.length = k
  v : StV b.now
  now : b.now = stS base54 b.l
  t0 : 0 ≤ b.tick
  t1 : b.tick ≤ 2 * k
  i0 : 0 ≤ b.inp
  i1 : b.inp ≤ k
  all : ∀ a ∈ b.l, AcR a ∧ okAc a = true ∧ a.key.tick ≤ b.tick
  app : ∀ j (hj : j < b.l.length), appR (b.l.take j) b.l[j] = 0
theorem base54_v : StV base54 := by
  refine ⟨⟨by simp [base54], fun p hp => ?_⟩, fun p hp => ?_⟩
  · simp only [base54, List.mem_singleton] at hp
    subst hp
    unfold IsOb; decide +kernel
  · simp only [base54, List.mem_singleton] at hp
    subst hp
    simp
theorem good_nil : Good ⟨base54, 0, 0, []⟩ 0 := ⟨rfl, base54_v, rfl, by simp, by simp, by simp, by simp, by simp, by simp⟩
theorem wait_mod {x : Int} : 0 ≤ x % 2 ∧ x % 2 ≤ 1 := ⟨Int.emod_nonneg _ (by omega), by omega⟩
theorem good_step {b : B54} {k : Nat} (h : Good b k) (hk : k < 20) (a : A54) : Good (step54 b a) (k + 1) := by
  have hw := wait_mod (x := a.wait)
  obtain ⟨ht, ht2⟩ : 0 ≤ b.tick + 1 + a.wait % 2 ∧ b.tick + 1 + a.wait % 2 ≤ 2 * (k + 1) := by have := h.t0; have := h.t1; omega
  have hkr := key54_r (t := b.tick + 1 + a.wait % 2) (i := b.inp) (a := a) ht (by omega) h.i0 (by have := h.i1; omega)
  have hc : AcR (ac54 b.now (b.tick + 1 + a.wait % 2) b.inp a) := ⟨hkr.1, fun c hc => by
      obtain ⟨p, hp, rfl⟩ := rds_mem hc
      exact ⟨.inl (obs_ob p hp), Nat.le_trans (look_len h.v _) (by omega)⟩, fun c hc => ⟨.inl (wrs_v a c hc).1, Nat.le_trans (wrs_v a c hc).2 (by omega)⟩, u_len _ _, u_len _ _⟩
  have ho : okAc (ac54 b.now (b.tick + 1 + a.wait % 2) b.inp a) = true := by
    unfold okAc
    simp only [Bool.and_eq_true]
    exact ⟨⟨hkr.2, rds_ord h.v a⟩, wrs_ord a⟩
  have htk : (ac54 b.now (b.tick + 1 + a.wait % 2) b.inp a).key.tick = b.tick + 1 + a.wait % 2 := key54_tick _ _ _
  refine ⟨by simp [step54, h.len], StV.appS h.v (wrs_v a), by show appS b.now _ = stS _ (b.l ++ [_]); rw [stS_snoc, ← h.now]; rfl, ht, ht2, ?_, ?_, ?_, ?_⟩
  · show 0 ≤ inp54 b.inp a
    have := h.i0
    unfold inp54; split <;> omega
  · show inp54 b.inp a ≤ _
    have := h.i1
    unfold inp54; split <;> omega
  · intro x hx
    rcases List.mem_append.1 hx with hx | hx
    · obtain ⟨h1, h2, h3⟩ := h.all x hx
      exact ⟨h1, h2, by show _ ≤ b.tick + 1 + a.wait % 2; omega⟩
    · rw [List.mem_singleton] at hx
      subst hx
      exact ⟨hc, ho, by rw [htk]; exact Int.le_refl _⟩
  · intro j hj
    simp only [step54] at hj ⊢
    by_cases hjl : j < b.l.length
    · rw [List.take_append_of_le_length (by omega), List.getElem_append_left hjl]
      exact h.app j hjl
    · obtain rfl : j = b.l.length := by simp at hj; omega
      rw [List.take_left, List.getElem_append_right (Nat.le_refl _)]
      simp only [Nat.sub_self, List.getElem_cons_zero]
      rcases List.eq_nil_or_concat b.l with hn | ⟨d, y, hd⟩
      · rw [hn]; exact appR_nil ho
      · rw [hd, List.concat_eq_append, appR_snoc ho, if_pos]
        have := (h.all y (by rw [hd]; simp)).2.2
        unfold cmpK or4 or3
        have e : cmpI y.key.tick (ac54 b.now (b.tick + 1 + a.wait % 2) b.inp a).key.tick = -1 := by
          unfold cmpI
          rw [if_pos (by rw [htk]; omega)]
        rw [e]
        simp
theorem good_fold (l : List A54) : ∀ k, k ≤ l.length → k ≤ 20 → Good (fold54 (l.take k)) k
  | 0, _, _ => by rw [List.take_zero]; exact good_nil
  | k + 1, h1, h2 => by
    rw [fold54_take l k (by omega)]
    exact good_step (good_fold l k (by omega) (by omega)) (by omega) _
theorem good_W (l : List A54) : Good (fold54 (l.take 20)) (min 20 l.length) := by
  have h := good_fold (l.take 20) (min 20 l.length) (by rw [List.length_take]; exact Nat.le_refl _) (Nat.min_le_left _ _)
  rwa [List.take_take, Nat.min_eq_left (by omega), ← List.take_eq_take_min] at h
theorem W54_bld (l : List A54) : bldR [] (W54 l) = 0 := bldR_all fun j hj => by rw [List.nil_append]; exact (good_W l).app j hj
end Go.Proofs.YtamjllakfgphnaaGreatDoor
namespace Go.Proofs.YtamjllakfgphnaaGreatDoor
open Go.RowKit
set_option linter.unusedSimpArgs false
set_option linter.unusedVariables false
attribute [local go_sem ↓] Go.wp_at_zero Go.wp_at_succ
def ob54 : List Nm := [obA, obB, obT, obC]
def so54 : List Nm := [obT, obC, obA, obB]
theorem ob54_sorted : sortU cmpN ob54 = so54 := by decide +kernel
theorem ob54_own : ∀ a ∈ ob54, OwnE a := by
  intro a ha
  simp only [ob54, List.mem_cons, List.not_mem_nil, or_false] at ha
  rcases ha with rfl | rfl | rfl | rfl <;> rfl
def RowP (l : List Nm) (w : World) (e : Ending) (w' : World) : Prop := ∃ g c, e = .returned (.slice (some ⟨g, 0, none⟩) l.length c) ∧ w'.ownsRow w.heap.size 26 5 (.slice (some ⟨g, 0, none⟩) l.length c) l.length (l.flatMap nmC) ∧ Below w.heap.size w w'
set_option maxRecDepth 100000 in
theorem objects_is (w : World) : Calls Tryz.prog 30 #[] w (RowP ob54 w) := by
  go_enter Tryz.func30, Tryz.ntmps30
  go_wp2_with fail
  refine (box_is [97] _).mono ?_
  rintro e w1 ⟨rfl, h1⟩
  go_wp2_with fail
  refine (box_is [98] _).mono ?_
  rintro e w2 ⟨rfl, h2⟩
  go_wp2_with fail
  refine (terminal_is 1 _).mono ?_
  rintro e w3 ⟨rfl, h3⟩
  go_wp2_with fail
  refine (clock_is _).mono ?_
  rintro e w4 ⟨rfl, h4⟩
  have HB := Lib.hid (((h1.trans (h2.mono h1.size)).trans (h3.mono (Nat.le_trans h1.size h2.size))).trans (h4.mono (Nat.le_trans (Nat.le_trans h1.size h2.size) h3.size)))
  clear h1 h2 h3 h4
  unfold nmV nmA
  go_wp2_with fail
  go_ret
  exact ⟨w4.heap.size, 4, rfl, ⟨rfl, .inr ⟨_, 4, _, rfl, HB.out.size, Blk.new w4 26 (ob54.flatMap nmC).toArray, Nat.le_refl _, by unfold maxLen; omega, rfl, rfl⟩⟩, HB.out.alloc HB.out.size _⟩
set_option maxRecDepth 100000 in
theorem sorted54_is (w : World) : Calls Tryz.prog 38 #[] w (RowP so54 w) := by
  go_enter Tryz.func38, Tryz.ntmps38
  go_wp2_with (go_at_call 30; refine (objects_is _).mono ?_)
  rintro e w2 ⟨g, c, rfl, hown, hb⟩
  have HB := Lib.hid hb
  have HR := Lib.hid (show RdNm w2 (.slice (some ⟨g, 0, none⟩) ob54.length c) ob54 from Rd.of_own hown)
  clear hown hb
  go_wp2_with fail
  refine (sort_is HR.out (by decide) (by decide) ob54_own).mono ?_
  rintro e w3 ⟨v, rfl, hown, hb⟩
  rw [ob54_sorted] at hown
  have HB7 := Lib.hid (HB.out.trans (hb.mono HB.out.size))
  have hown2 := own_base hown HB.out.size
  clear hb hown
  obtain ⟨hl, ⟨_, h0⟩ | ⟨g, cap, cur, rfl, r⟩⟩ := hown2
  · simp [so54] at h0
  have HO : Hid (w3.ownsRow w.heap.size 26 5 (.slice (some ⟨g, 0, none⟩) so54.length cap) so54.length (so54.flatMap nmC)) := Lib.hid ⟨hl, .inr ⟨g, cap, cur, rfl, r⟩⟩
  clear hl r
  go_wp2
  go_ret
  exact ⟨g, cap, rfl, HO.out, HB7.out⟩
def names54 : Value := .agg #[.string (bs [50]), .string (bs [50, 46, 49]), .string (bs [51]), .string (bs [49])]
theorem names54_is (w : World) : Calls Tryz.prog 37 #[] w fun e w' => e = .returned names54 ∧ Below w.heap.size w w' := by
  go_enter Tryz.func37, Tryz.ntmps37
  go_wp2
  exact bodyPost_ret (v := names54) (by simp [results, Tryz.results37, go_sem, names54, bs]) rfl ⟨rfl, (Below.refl _ _).alloc (Nat.le_refl _) _⟩
def spN (wh : Int) : Nm := ob54.getD (wh % 4).toNat obT
theorem spN_own (wh : Int) : OwnE (spN wh) := by
  unfold spN
  by_cases h : (wh % 4).toNat < ob54.length
  · rw [List.getD_eq_getElem?_getD, List.getElem?_eq_getElem h]
    exact ob54_own _ (List.getElem_mem h)
  · rw [List.getD_eq_getElem?_getD, List.getElem?_eq_none (by omega)]
    rfl
set_option maxRecDepth 100000 in
set_option maxHeartbeats 1000000 in
theorem place_is (w : World) (wh a : Int) (h0 : 0 ≤ wh) (h1 : wh < 256) : Calls Tryz.prog 15 #[.agg #[.int .u8 wh, .int .i64 a]] w fun e w' => e = .returned (plV (spN wh) a) ∧ Below w.heap.size w w' := by
  have ha := ((Below.refl w.heap.size w).alloc (Nat.le_refl _) (.cells #[.int .u8 wh, .int .i64 a] 43)).alloc (by simp) (.cells #[.int .i64 0, .string ⟨#[]⟩, .int .i64 0, .int .i64 0, .string ⟨#[]⟩, .int .i64 0] 28)
  have zs := (Blk.new w 43 #[.int .u8 wh, .int .i64 a]).alloc (.cells #[.int .i64 0, .string ⟨#[]⟩, .int .i64 0, .int .i64 0, .string ⟨#[]⟩, .int .i64 0] 28)
  have zp := Blk.new (w.alloc (.cells #[.int .u8 wh, .int .i64 a] 43)) 28 #[.int .i64 0, .string ⟨#[]⟩, .int .i64 0, .int .i64 0, .string ⟨#[]⟩, .int .i64 0]
  rw [World.size_alloc] at zp
  have x0 := zs.cell 0
  have x1 := zs.cell 1
  simp only [qB, qC, qD] at x0 x1
  have HA := Lib.hid ha
  have ZP := Lib.hid zp
  have hsb := zs.lt
  obtain ⟨d, hd⟩ : ∃ d : Nat, wh % 4 = (d : Int) := ⟨(wh % 4).toNat, by omega⟩
  have hd4 : d < ob54.length := by show d < 4; omega
  have e1 : (0 : Int) ≤ (d : Int) := by omega
  have e2 : (d : Int) < 4 := by show (d : Int) < 4; have : d < 4 := hd4; omega
  have e3 : (d : Int) < (ob54.length : Int) := by omega
  have em : Int.tmod wh 4 = (d : Int) := by rw [Int.tmod_eq_emod_of_nonneg h0]; exact hd
  have em2 : Int.tmod wh (ob54.length : Int) = (d : Int) := em
  have ew : IntKind.i64.wrap (d : Int) = (d : Int) := IntWalk.i64_in _ (by omega)
  have ew2 : IntKind.i64.wrap wh = wh := IntWalk.i64_in _ (by omega)
  have hne : ¬ ob54 = [] := by decide
  have HSP := Lib.hid (show spN wh = ob54[d]'hd4 by
    unfold spN
    rw [hd, List.getD_eq_getElem?_getD, Int.toNat_natCast, List.getElem?_eq_getElem hd4]
    rfl)
  obtain ⟨on, hon⟩ : ∃ on, ob54[d]'hd4 = on := ⟨_, rfl⟩
  have HON := Lib.hid hon
  clear ha zs zp hd hon
  go_enter Tryz.func15, Tryz.ntmps15
  go_upto_region 1 with (fail)
  generalize (w.alloc (.cells #[.int .u8 wh, .int .i64 a] 43)).alloc (.cells #[.int .i64 0, .string ⟨#[]⟩, .int .i64 0, .int .i64 0, .string ⟨#[]⟩, .int .i64 0] 28) = W at *
  obtain ⟨pb, hpb⟩ : ∃ x, w.heap.size + 1 = x := ⟨_, rfl⟩
  rw [hpb] at ZP ⊢
  have HPB := Lib.hid hpb
  clear hpb
  obtain ⟨sb, hsb2⟩ : ∃ x, w.heap.size = x := ⟨_, rfl⟩
  have HSB := Lib.hid hsb2
  rw [hsb2] at x0 x1 HA hsb ⊢
  clear hsb2
  refine wp_region_noPanic ?_
  refine wp_region_last (S := (fun (w' : World) => w'.cell? ⟨sb, 0, none⟩ = some (.int .u8 wh) ∧ w'.cell? ⟨sb, 1, none⟩ = some (.int .i64 a))) 12 12 rfl (by kernel_rfl) (by kernel_rfl) ?_ (fun hHeld => ?_)
  · exact ⟨x0, x1⟩
  refine tk (v := ?_) 1 rfl (by kernel_rfl) (fun _ _ _ h => h) ?_ hHeld ?_
  rotate_left
  · (intro w h; (try dsimp only at h); go_simp; try with_reducible rfl)
  try simp only [Act.put, pB, pC, pD]
  refine tk (v := ?_) 2 rfl (by kernel_rfl) (fun _ _ _ h => h) ?_ hHeld ?_
  rotate_left
  · (intro w h; (try dsimp only at h); go_simp; try with_reducible rfl)
  try simp only [Act.put, pB, pC, pD]
  refine tk (v := ?_) 3 rfl (by kernel_rfl) (fun _ _ _ h => h) ?_ hHeld ?_
  rotate_left
  · (intro w h; (try dsimp only at h); go_simp; try with_reducible rfl)
  try simp only [Act.put, pB, pC, pD]
  refine tk (v := ?_) 9 rfl (by kernel_rfl) (fun _ _ _ h => h) ?_ hHeld ?_
  rotate_left
  · (intro w h; (try dsimp only at h); go_simp; try with_reducible rfl)
  try simp only [Act.put, pB, pC, pD]
  refine tk (v := ?_) 10 rfl (by kernel_rfl) (fun _ _ _ h => h) ?_ hHeld ?_
  rotate_left
  · (intro w h; (try dsimp only at h); go_simp; try with_reducible rfl)
  try simp only [Act.put, pB, pC, pD]
  refine wpAnyH_ready (rs := [0]) (by kernel_rfl) (by simp) ?_
  refine AllReadyH.cons rfl (fun K hK => ?_) AllReadyH.nil
  go_simp
  refine (objects_is W.drew).mono ?_; rintro e w9 ⟨go, co, rfl, how9, hb9'⟩; have hb9 := (Below.refl W.heap.size W).drew.trans hb9'; have HB9 := Lib.hid hb9; clear hb9'
  try (go_wp2_with fail)
  refine hK.out _ _ ?_ (fun hNew => ?_)
  · exact ⟨(hb9.cell (p := ⟨sb, 0, none⟩) hsb).trans x0, (hb9.cell (p := ⟨sb, 1, none⟩) hsb).trans x1⟩
  clear hK K hHeld
  have hHeld := hNew
  clear hNew
  try simp only [Act.put, pB, pC, pD]
  have yy := RdNm.piece (show RdNm w9 (.slice (some ⟨go, 0, none⟩) ob54.length co) ob54 from Rd.of_own how9) (k := d) hd4
  obtain ⟨b9, o9, hbe9, hbr9, y0, y1, y2, y3, y4⟩ := yy
  injection hbe9 with hbe9
  injection hbe9 with e1 e2
  subst e1 e2
  simp only [Nat.zero_add] at y0 y1 y2 y3 y4
  rw [HON.out] at y0 y1 y2 y3 y4
  refine wpAnyH_more (S' := (fun (w' : World) => (w'.cell? ⟨sb, 0, none⟩ = some (.int .u8 wh) ∧ w'.cell? ⟨sb, 1, none⟩ = some (.int .i64 a)) ∧ w'.cell? ⟨go, d * 5, none⟩ = some (.int .i64 on.kind) ∧ w'.cell? ⟨go, d * 5 + 1, none⟩ = some (.string (bs on.owner)) ∧ w'.cell? ⟨go, d * 5 + 2, none⟩ = some (.int .i64 on.num) ∧ w'.cell? ⟨go, d * 5 + 3, none⟩ = some (.int .i64 on.idx) ∧ w'.cell? ⟨go, d * 5 + 4, none⟩ = some (.string (bs on.text)))) (fun _ h => h.1) ?_
  clear hHeld
  have hHeld : (fun (w' : World) => (w'.cell? ⟨sb, 0, none⟩ = some (.int .u8 wh) ∧ w'.cell? ⟨sb, 1, none⟩ = some (.int .i64 a)) ∧ w'.cell? ⟨go, d * 5, none⟩ = some (.int .i64 on.kind) ∧ w'.cell? ⟨go, d * 5 + 1, none⟩ = some (.string (bs on.owner)) ∧ w'.cell? ⟨go, d * 5 + 2, none⟩ = some (.int .i64 on.num) ∧ w'.cell? ⟨go, d * 5 + 3, none⟩ = some (.int .i64 on.idx) ∧ w'.cell? ⟨go, d * 5 + 4, none⟩ = some (.string (bs on.text))) _ := ⟨⟨(hb9.cell (p := ⟨sb, 0, none⟩) hsb).trans x0, (hb9.cell (p := ⟨sb, 1, none⟩) hsb).trans x1⟩, y0, y1, y2, y3, y4⟩
  refine wpAnyH_ready (rs := [4]) (by kernel_rfl) (by simp) ?_
  refine AllReadyH.cons rfl (fun K hK => ?_) AllReadyH.nil
  go_simp
  refine (objects_is w9).mono ?_; rintro e w10 ⟨go2, co2, rfl, how10, hb10⟩; have HB10 := Lib.hid hb10
  try (go_wp2_with fail)
  refine hK.out _ _ ?_ (fun hNew => ?_)
  · exact ⟨⟨(hb10.cell (p := ⟨sb, 0, none⟩) (Nat.lt_of_lt_of_le hsb HB9.out.size)).trans ((hb9.cell (p := ⟨sb, 0, none⟩) hsb).trans x0), (hb10.cell (p := ⟨sb, 1, none⟩) (Nat.lt_of_lt_of_le hsb HB9.out.size)).trans ((hb9.cell (p := ⟨sb, 1, none⟩) hsb).trans x1)⟩, (hb10.cell (p := ⟨go, d * 5, none⟩) hbr9).trans y0, (hb10.cell (p := ⟨go, d * 5 + 1, none⟩) hbr9).trans y1, (hb10.cell (p := ⟨go, d * 5 + 2, none⟩) hbr9).trans y2, (hb10.cell (p := ⟨go, d * 5 + 3, none⟩) hbr9).trans y3, (hb10.cell (p := ⟨go, d * 5 + 4, none⟩) hbr9).trans y4⟩
  clear hK K hHeld
  have hHeld := hNew
  clear hNew
  try simp only [Act.put, pB, pC, pD]
  refine tk (v := ?_) 5 rfl (by kernel_rfl) (fun _ _ _ h => h) ?_ hHeld ?_
  rotate_left
  · (intro w h; (try dsimp only at h); go_simp; try with_reducible rfl)
  try simp only [Act.put, pB, pC, pD]
  refine tk (v := ?_) 6 rfl (by kernel_rfl) (fun _ _ _ h => h) ?_ hHeld ?_
  rotate_left
  · (intro w h; (try dsimp only at h); go_simp; try with_reducible rfl)
  try simp only [Act.put, pB, pC, pD]
  refine tk (v := ?_) 7 rfl (by kernel_rfl) (fun _ _ _ h => h) ?_ hHeld ?_
  rotate_left
  · (intro w h; (try dsimp only at h); go_simp; try with_reducible rfl)
  try simp only [Act.put, pB, pC, pD]
  refine tk (v := ?_) 8 rfl (by kernel_rfl) (fun _ _ _ h => h) ?_ hHeld ?_
  rotate_left
  · (intro w h; (try dsimp only at h); go_simp; try with_reducible rfl)
  try simp only [Act.put, pB, pC, pD]
  refine tk (v := ?_) 11 rfl (by kernel_rfl) (fun _ _ _ h => h) ?_ hHeld ?_
  rotate_left
  · (intro w h; (try dsimp only at h); go_simp; try with_reducible rfl)
  try simp only [Act.put, pB, pC, pD]
  have ZP10 := ZP.out.next (HB9.out.trans (HB10.out.mono HB9.out.size)) ZP.out.lt
  have HP10 := Lib.hid ZP10
  have p0 := ZP10.cell 0
  have p1 := ZP10.cell 1
  have p2 := ZP10.cell 2
  have p3 := ZP10.cell 3
  have p4 := ZP10.cell 4
  have p5 := ZP10.cell 5
  have f0 := ZP10.frozen 0
  have f1 := ZP10.frozen 1
  have f2 := ZP10.frozen 2
  have f3 := ZP10.frozen 3
  have f4 := ZP10.frozen 4
  have f5 := ZP10.frozen 5
  simp only [qB, qC, qD] at p0 p1 p2 p3 p4 p5
  clear ZP10
  refine wpAnyH_done (by kernel_rfl) ?_ _
  refine lastQ_step rfl (fun K hK => ?_)
  clear hHeld
  go_simp
  refine hK _ _ ?_
  clear hK K
  refine NoPanic.normal ?_
  have P0 := (HP10.out).set_ 0 (.int .i64 on.kind)
  have P1 := (P0).set_ 1 (.string (bs on.owner))
  have P2 := (P1).set_ 2 (.int .i64 on.num)
  have P3 := (P2).set_ 3 (.int .i64 on.idx)
  have P4 := (P3).set_ 4 (.string (bs on.text))
  have P5 := (P4).set_ 5 (.int .i64 a)
  have q0 := P5.cell 0
  have q1 := P5.cell 1
  have q2 := P5.cell 2
  have q3 := P5.cell 3
  have q4 := P5.cell 4
  have q5 := P5.cell 5
  simp only [pB, pC, pD, qB, qC, qD] at q0 q1 q2 q3 q4 q5
  have hsw : sb ≤ W.heap.size := Nat.le_of_lt hsb
  have HBF := Lib.hid (HA.out.trans ((HB9.out.trans (HB10.out.mono HB9.out.size)).mono hsw))
  have hpb : sb ≤ pb := by have := HPB.out; have := HSB.out; omega
  have HBE := Lib.hid ((((((HBF.out.setCell (p := ⟨pb, 0, none⟩) hpb (.int .i64 on.kind)).setCell (p := ⟨pb, 1, none⟩) hpb (.string (bs on.owner))).setCell (p := ⟨pb, 2, none⟩) hpb (.int .i64 on.num)).setCell (p := ⟨pb, 3, none⟩) hpb (.int .i64 on.idx)).setCell (p := ⟨pb, 4, none⟩) hpb (.string (bs on.text))).setCell (p := ⟨pb, 5, none⟩) hpb (.int .i64 a))
  clear x0 x1 p0 p1 p2 p3 p4 p5 f0 f1 f2 f3 f4 f5 y0 y1 y2 y3 y4 hb9 hb10 how9 how10
  go_wp2_with fail
  exact bodyPost_ret (v := .agg #[.int .i64 on.kind, .string (bs on.owner), .int .i64 on.num, .int .i64 on.idx, .string (bs on.text), .int .i64 a]) (by simp [results, Tryz.results15, go_sem, q0, q1, q2, q3, q4, q5]) rfl ⟨by rw [HSP.out, HON.out]; rfl, by rw [HSB.out]; exact HBE.out⟩
end Go.Proofs.YtamjllakfgphnaaGreatDoor
namespace Go.Proofs.YtamjllakfgphnaaGreatDoor
open Go.RowKit
set_option linter.unusedSimpArgs false
set_option linter.unusedVariables false
attribute [local go_sem ↓] Go.wp_at_zero Go.wp_at_succ
open Go.MapKept Go.ChangeMaps
def OfSpec (l l2 : List Ac) (r : Int × Int) (i : Int) (er : Int) (S1 S2 : List Int) (S3 : List Bs) : Prop :=
  if r.2 ≠ 0 ∨ r.1 = -1 then er = r.2 ∧ S1 = [] ∧ S2 = [] ∧ S3 = [] else er = 0 ∧ Clo (lnkD l2) ((l.take i.toNat).map Ac.key) r.1 S1 ∧ S2 = srtI (inpK ((l.take i.toNat).map Ac.key) S1) ∧ S3 = lsrt (linK ((l.take i.toNat).map Ac.key) S1)
def TofP (l l2 : List Ac) (r : Int × Int) (i : Int) (w : World) (e : Ending) (w' : World) : Prop :=
  ∃ (v1 v2 v3 : Value) (er : Int) (S1 S2 : List Int) (S3 : List Bs), e = .returned (.tuple #[.agg #[v1, v2, v3], .int .i64 er]) ∧ RdIn w' v1 S1 ∧ RdIn w' v2 S2 ∧ RdSt w' v3 S3 ∧ Below w.heap.size w w' ∧ OfSpec l l2 r i er S1 S2 S3
abbrev TRo (w : World) (B tb : Nat) (T : Bs → List Int) : Prop := MapRowsS 3 1 inC w (fun i => B ≤ i) tb T
def tofRel (ks : List Ky) (kb tb rb : Nat) (w : World) (v : Value) (wr : World) : Prop := ∃ k : Nat, k ≤ ks.length ∧ v = .int .i64 k ∧ wr.ownsRow w.heap.size 74 4 (.slice (some ⟨kb, 0, none⟩) ks.length ks.length) ks.length ((ks.take k ++ List.replicate (ks.length - k) ky0).flatMap kyC) ∧
  TRo wr w.heap.size tb (trn (ks.take k)) ∧ Blk wr rb 36 #[.slice none 0 0, .slice none 0 0, .slice none 0 0] ∧ Below w.heap.size w wr
theorem trn_take {ks : List Ky} {k : Nat} (hk : k < ks.length) (m : Bs) : trn (ks.take (k + 1)) m = if ks[k].cls = 0 ∨ ks[k].lin ≠ m then trn (ks.take k) m else trn (ks.take k) m ++ [(k : Int)] := by
  rw [List.take_succ_eq_append_getElem hk, trn_snoc, List.length_take, Nat.min_eq_left (by omega)]
set_option maxRecDepth 100000 in
set_option maxHeartbeats 8000000 in
theorem tof_is {w : World} {F0 : Nat → Prop} {gx B gg : Nat} {s0 : St} {l l2 : List Ac} {n : Nm} (a i : Int) (hv : VAt w F0 gx s0 l) (hg : GAt w B gg l2) (hn : OwnE n) (ho : VOk l) (hl : l.length ≤ 100) (hl2 : l2.length = l.length) (hr : ∀ a ∈ l2, a.reads.length ≤ 10) (h5 : ∀ a ∈ l, a.key.lin ∈ lin5) :
    Calls Tryz.prog 18 #[.pointer (some ⟨gx, 0, none⟩), .pointer (some ⟨gg, 0, none⟩), plV n a, .int .i64 i] w (TofP l l2 (orgR l.length (verL s0 l n) a i) i w) := by
  have ha := (Below.refl w.heap.size w).alloc (Nat.le_refl _) (.cells #[.int .i64 n.kind, .string (bs n.owner), .int .i64 n.num, .int .i64 n.idx, .string (bs n.text), .int .i64 a] 28)
  have ha2 := ha.alloc (by simp) (.cells #[.slice none 0 0, .slice none 0 0, .slice none 0 0] 36)
  have zp := (Blk.new w 28 #[.int .i64 n.kind, .string (bs n.owner), .int .i64 n.num, .int .i64 n.idx, .string (bs n.text), .int .i64 a]).alloc (.cells #[.slice none 0 0, .slice none 0 0, .slice none 0 0] 36)
  have zr := Blk.new (w.alloc (.cells #[.int .i64 n.kind, .string (bs n.owner), .int .i64 n.num, .int .i64 n.idx, .string (bs n.text), .int .i64 a] 28)) 36 #[.slice none 0 0, .slice none 0 0, .slice none 0 0]
  rw [World.size_alloc] at zr
  have HA := Lib.hid ha2
  have ZP := Lib.hid zp
  have ZR := Lib.hid zr
  have HV0 := Lib.hid hv
  have HG0 := Lib.hid hg
  have HV := Lib.hid (hv.next ha2)
  have HG := Lib.hid (hg.next ha2)
  have HO := Lib.hid ho
  have HL2 := Lib.hid hl2
  have HLR := Lib.hid hr
  have H5 := Lib.hid h5
  have hgl : l2.length ≤ 1000000 := by omega
  have HCK := Lib.hid (tcheck_is HV.out HG.out (by omega) hgl)
  rw [if_pos hl2.symm] at HCK
  obtain ⟨ro, re, hro⟩ : ∃ o e, orgR l.length (verL s0 l n) a i = (o, e) := ⟨_, _, rfl⟩
  have HRO := Lib.hid hro
  have HGE := Lib.hid (show re = 0 → -1 ≤ ro ∧ ro < i ∧ 0 ≤ i ∧ i ≤ (l.length : Int) by
    intro h
    have := orgR_ge (N := l.length) (s0 := s0) (l := l) (n := n) (a := a) (i := i) (by rw [hro]; exact h)
    rw [hro] at this
    exact this)
  rw [hro]
  clear ha ha2 zp zr hv hg ho hl2 hr h5 hgl hro
  go_enter Tryz.func18, Tryz.ntmps18
  simp only [plV]
  go_upto_region 1 with (fail)
  generalize ((w.alloc (.cells #[.int .i64 n.kind, .string (bs n.owner), .int .i64 n.num, .int .i64 n.idx, .string (bs n.text), .int .i64 a] 28)).alloc (.cells #[.slice none 0 0, .slice none 0 0, .slice none 0 0] 36)) = W at *
  obtain ⟨rb, hrb⟩ : ∃ x, w.heap.size + 1 = x := ⟨_, rfl⟩
  obtain ⟨pb, hpb⟩ : ∃ x, w.heap.size = x := ⟨_, rfl⟩
  have HRB := Lib.hid (show w.heap.size < rb by omega)
  rw [hrb] at ZR ⊢
  rw [hpb] at ZP ⊢
  clear hrb hpb
  have p0 := ZP.out.cell 0
  have p1 := ZP.out.cell 1
  have p2 := ZP.out.cell 2
  have p3 := ZP.out.cell 3
  have p4 := ZP.out.cell 4
  have p5 := ZP.out.cell 5
  simp only [qB, qC, qD] at p0 p1 p2 p3 p4 p5
  go_wp2_with fail
  go_at_call 40
  refine HCK.out.mono ?_
  rintro e w2 ⟨rfl, rfl⟩
  go_wp2_with fail
  go_at_call 24
  refine (origin_is a i HV.out hn HO.out).mono ?_
  rintro e w3 ⟨rfl, hb3⟩
  rw [HRO.out]
  have HB3 := Lib.hid (HA.out.trans (hb3.mono HA.out.size))
  have HV3 := Lib.hid (HV.out.next hb3)
  have HG3 := Lib.hid (HG.out.next hb3)
  have ZR3 := Lib.hid (ZR.out.next hb3 ZR.out.lt)
  clear hb3 p0 p1 p2 p3 p4 p5 HV HG ZP ZR HA HCK
  by_cases h0 : re = 0
  · subst h0
    have d0 : ((0 : Int) != 0) = false := rfl
    by_cases h1 : ro = -1
    · have d1 : (ro == -1) = true := by rw [beq_iff_eq]; exact h1
      have HSP := Lib.hid (show OfSpec l l2 (ro, 0) i 0 [] [] [] by unfold OfSpec; rw [if_pos (.inr h1)]; exact ⟨rfl, rfl, rfl, rfl⟩)
      clear h1
      have r0 := ZR3.out.cell 0
      have r1 := ZR3.out.cell 1
      have r2 := ZR3.out.cell 2
      have g0 := ZR3.out.frozen 0
      have g1 := ZR3.out.frozen 1
      have g2 := ZR3.out.frozen 2
      simp only [qB, qC, qD] at r0 r1 r2
      go_wp2_with fail
      exact bodyPost_ret (v := .tuple #[.agg #[.slice none 0 0, .slice none 0 0, .slice none 0 0], .int .i64 0]) (by simp [results, Tryz.results18, go_sem, r0, r1, r2]) rfl ⟨_, _, _, 0, [], [], [], rfl, RdP.nil, RdP.nil, RdP.nil, (((HB3.out.setCell (p := ⟨rb, 0, none⟩) (Nat.le_of_lt HRB.out) _).setCell (p := ⟨rb, 1, none⟩) (Nat.le_of_lt HRB.out) _).setCell (p := ⟨rb, 2, none⟩) (Nat.le_of_lt HRB.out) _), HSP.out⟩
    · have d1 : (ro == -1) = false := by rw [beq_eq_false_iff_ne]; exact h1
      obtain ⟨hge1, hge2, hge3, hge4⟩ := HGE.out rfl
      obtain ⟨N, rfl⟩ : ∃ N : Nat, i = N := ⟨i.toNat, by omega⟩
      have hN : N ≤ l.length := by omega
      obtain ⟨ks, hks⟩ : ∃ ks, (l.take N).map Ac.key = ks := ⟨_, rfl⟩
      have HKS := Lib.hid hks
      have hkl : ks.length = N := by rw [← hks, List.length_map, List.length_take]; omega
      have HK55 := Lib.hid (show ∀ k ∈ ks, k.cls ≠ 0 → k.lin ∈ lin5 by
        intro k hk _
        rw [← hks] at hk
        obtain ⟨x, hx, rfl⟩ := List.mem_map.1 hk
        exact H5.out x (List.mem_of_mem_take hx))
      have HKG := Lib.hid (show ∀ (k : Nat) (h : k < ks.length), ∃ h2 : k < l.length, ks[k] = l[k].key by
        intro k h
        have h2 : k < l.length := by omega
        refine ⟨h2, ?_⟩
        have : ks[k]? = some l[k].key := by rw [← hks, List.getElem?_map, List.getElem?_take_of_lt (by omega), List.getElem?_eq_getElem h2]; rfl
        rw [List.getElem?_eq_getElem h] at this
        injection this)
      have HRR := Lib.hid (show 0 ≤ ro ∧ ro < (ks.length : Int) from ⟨by omega, by omega⟩)
      have HNL := Lib.hid (show ks.length ≤ l.length by omega)
      have HN := Lib.hid hkl
      have hN100 : N ≤ 100 := by omega
      rw [← hkl] at hN100 ⊢
      have hmk := make_keys w3 ks.length hN100
      have hmm := @run_makeMap Tryz.prog
      have hko := own_made_ky w3 ks.length hN100
      clear h1 hge1 hge2 hge3 hge4 hN hks hkl
      have hal := (Below.refl w3.heap.size w3).alloc (Nat.le_refl _) (.cells (madeCells #[.int .i64 0, .int .i64 0, .int .i64 0, .string ⟨#[]⟩] (ks.length * 4)) 74)
      have hal2 := hal.alloc (by simp) (.map #[] 0)
      have hmr : TRo ((w3.alloc (.cells (madeCells #[.int .i64 0, .int .i64 0, .int .i64 0, .string ⟨#[]⟩] (ks.length * 4)) 74)).alloc (.map #[] 0)) w.heap.size (w3.heap.size + 1) (trn (ks.take 0)) := by
        have h := MapRowsS.new (e := 3) (s := 1) (f := inC) (w3.alloc (.cells (madeCells #[.int .i64 0, .int .i64 0, .int .i64 0, .string ⟨#[]⟩] (ks.length * 4)) 74)) (fun i => w.heap.size ≤ i) (by rw [World.size_alloc]; have := HB3.out.size; omega)
        rw [World.size_alloc] at h
        exact h.data fun m => by simp [trn]
      have HV4 := Lib.hid (HV3.out.next hal2)
      have HG4 := Lib.hid (HG3.out.next hal2)
      have HB4 := Lib.hid (HB3.out.trans (hal2.mono HB3.out.size))
      have H0 : Hid (tofRel ks w3.heap.size (w3.heap.size + 1) rb w (.int .i64 (0 : Nat)) ((w3.alloc (.cells (madeCells #[.int .i64 0, .int .i64 0, .int .i64 0, .string ⟨#[]⟩] (ks.length * 4)) 74)).alloc (.map #[] 0))) := Lib.hid ⟨0, Nat.zero_le _, rfl, by
        rw [List.take_zero, List.nil_append, Nat.sub_zero]
        exact own_base (own_next hko ((Below.refl _ _).alloc (Nat.le_refl _) _)) HB3.out.size, hmr, (ZR3.out.next hal2 ZR3.out.lt), HB4.out⟩
      clear hko hal hal2 hmr HV3 HG3
      go_upto_region 9 with (fail)
      clear hmk
      generalize ((w3.alloc (.cells (madeCells #[.int .i64 0, .int .i64 0, .int .i64 0, .string ⟨#[]⟩] (ks.length * 4)) 74)).alloc (.map #[] 0)) = W4 at *
      obtain ⟨tb, htb⟩ : ∃ x, w3.heap.size + 1 = x := ⟨_, rfl⟩
      obtain ⟨kb, hkb⟩ : ∃ x, w3.heap.size = x := ⟨_, rfl⟩
      have HTB := Lib.hid (show w3.heap.size ≤ tb ∧ w3.heap.size ≤ kb by omega)
      rw [htb, hkb] at H0 ⊢
      clear htb hkb
      go_wp2_with fail
      go_loopw [45] (fun v wr => tofRel ks kb tb rb w v wr) (fun v _ => ks.length - (intOf v).toNat)
      case atStart => exact H0.out
      case round =>
        clear H0
        obtain ⟨k, hkn, rfl, hown, htr, hzr, hbw⟩ := hrel
        have HOW := Lib.hid hown
        have HTR := Lib.hid htr
        have HZR := Lib.hid hzr
        have HBW := Lib.hid hbw
        clear hown htr hzr hbw
        by_cases hk : k < ks.length
        · obtain ⟨hkl, hkey⟩ := HKG.out k hk
          have j1 : (0 : Int) ≤ (k : Int) := by omega
          have j2 : (k : Int) < (ks.length : Int) := by omega
          have j3 : decide ((k : Int) < (ks.length : Int)) = true := decide_eq_true j2
          have HAI := Lib.hid (action_is (k : Int) (HV0.out.next HBW.out) HO.out)
          have HT1 := Lib.hid (trn_take hk)
          have HTK := Lib.hid (show ks.take (k + 1) = ks.take k ++ [ks[k]] from List.take_succ_eq_append_getElem hk)
          rw [hkey] at HT1 HTK
          clear hkey
          go_wp2_with fail
          go_at_call 46
          refine HAI.out.mono ?_
          rintro e w5 ⟨hb5, hcase⟩
          rcases hcase with ⟨m, hm, P1, P2, c1, c2, hkm, hna, rfl⟩ | ⟨hno, rfl⟩
          rotate_left
          · exact absurd ⟨j1, by omega⟩ hno
          obtain rfl : k = m := by omega
          obtain ⟨ac, hac⟩ : ∃ ac, l[k] = ac := ⟨_, rfl⟩
          rw [hac] at HT1 HTK ⊢
          obtain ⟨ky, hky⟩ : ∃ ky, ac.key = ky := ⟨_, rfl⟩
          simp only [acV]
          rw [hky] at HT1 HTK ⊢
          have HOW5 := Lib.hid (own_next HOW.out hb5)
          have HTR5 := Lib.hid (MapRowsS.next HTR.out hb5)
          have HZR5 := Lib.hid (HZR.out.next hb5 HZR.out.lt)
          have HBW5 := Lib.hid (HBW.out.trans (hb5.mono HBW.out.size))
          clear hb5 hkm hna hac hky HOW HTR HZR HBW HAI hm
          go_upto_region 13 with (fail)
          have hba := (Below.refl w5.heap.size w5).alloc (Nat.le_refl _) (.cells #[.int .i64 ky.tick, .int .i64 ky.cls, .int .i64 ky.num, .string (bs ky.lin), .slice P1 ac.reads.length c1, .slice P2 ac.writes.length c2] 77)
          have ZA := Lib.hid (Blk.new w5 77 #[.int .i64 ky.tick, .int .i64 ky.cls, .int .i64 ky.num, .string (bs ky.lin), .slice P1 ac.reads.length c1, .slice P2 ac.writes.length c2])
          have HOW6 := Lib.hid (own_next HOW5.out hba)
          have HTR6 := Lib.hid (MapRowsS.next HTR5.out hba)
          have HZR6 := Lib.hid (HZR5.out.next hba HZR5.out.lt)
          have HBW6 := Lib.hid (HBW5.out.trans (hba.mono HBW5.out.size))
          clear hba HOW5 HTR5 HZR5 HBW5
          generalize w5.alloc (.cells #[.int .i64 ky.tick, .int .i64 ky.cls, .int .i64 ky.num, .string (bs ky.lin), .slice P1 ac.reads.length c1, .slice P2 ac.writes.length c2] 77) = W6 at *
          obtain ⟨ab, hab⟩ : ∃ ab, w5.heap.size = ab := ⟨_, rfl⟩
          rw [hab] at ZA ⊢
          clear hab
          have x0 := ZA.out.cell 0
          have x1 := ZA.out.cell 1
          have x2 := ZA.out.cell 2
          have x3 := ZA.out.cell 3
          simp only [qB, qC, qD] at x0 x1 x2 x3
          obtain ⟨K, hK⟩ : ∃ K, ks.take k ++ List.replicate (ks.length - k) ky0 = K := ⟨_, rfl⟩
          have hKl : k < K.length := by rw [← hK, List.length_append, List.length_take, List.length_replicate]; omega
          have HKS2 := Lib.hid (show K.set k ky = ks.take (k + 1) ++ List.replicate (ks.length - (k + 1)) ky0 by
            rw [← hK, set_mid2 _ _ _ _ _ (by rw [List.length_take]; omega) hk, HTK.out])
          rw [hK] at HOW6
          have HKL := Lib.hid hKl
          have q0 := own_cells kyC_len HOW6.out hKl rfl 0 _ rfl
          have q1 := own_cells kyC_len HOW6.out hKl rfl 1 _ rfl
          have q2 := own_cells kyC_len HOW6.out hKl rfl 2 _ rfl
          have q3 := own_cells kyC_len HOW6.out hKl rfl 3 _ rfl
          have g0 := own_frozen HOW6.out (k * 4)
          have g1 := own_frozen HOW6.out (k * 4 + 1)
          have g2 := own_frozen HOW6.out (k * 4 + 2)
          have g3 := own_frozen HOW6.out (k * 4 + 3)
          simp only [Nat.add_zero] at q0
          have hne : ab ≠ kb := by
            intro e
            obtain ⟨cur, hc⟩ := own_cells_of HOW6.out (g := kb) rfl
            have h1 := ZA.out
            unfold Blk at h1
            rw [e, hc] at h1
            injection h1 with h1
            injection h1 with _ h1 _
            exact absurd h1 (by decide)
          have hne2 : kb ≠ ab := fun e => hne e.symm
          clear hK
          go_upto_region 16 with (fail)
          have hgs := set4 W6 kb (k * 4) (.int .i64 ky.tick) (.int .i64 ky.cls) (.int .i64 ky.num) (.string (bs ky.lin))
          have HOW7 := Lib.hid (own_setKy HOW6.out HKL.out ky)
          rw [HKS2.out] at HOW7
          have HTR7 := Lib.hid (HTR6.out.grown hgs (fun r e => by
            injection e with e
            subst e
            obtain ⟨cur, hc⟩ := own_cells_of HOW6.out (g := kb) rfl
            exact ⟨fun cs e => (by rw [hc] at e; injection e with e; injection e with _ e _; exact absurd e (by decide)), fun es c e => (by rw [hc] at e; cases e)⟩))
          have HZA7 := Lib.hid (ZA.out.grown hgs (fun e => hne (by injection e)))
          have HZR7 := Lib.hid (HZR6.out.grown hgs (fun e => by
            injection e with e
            obtain ⟨cur, hc⟩ := own_cells_of HOW6.out (g := kb) rfl
            have h1 := HZR6.out
            unfold Blk at h1
            rw [e, hc] at h1
            injection h1 with h1
            injection h1 with _ h1 _
            exact absurd h1 (by decide)))
          have HBW7 := Lib.hid (HBW6.out.grown hgs HBW6.out.size (fun r e => by injection e with e; subst e; exact own_ge HOW6.out rfl))
          clear hgs q0 q1 q2 q3 g0 g1 g2 g3 x0 x1 x2 x3 HOW6 HTR6 HZR6 HBW6 ZA HKS2
          generalize ((((W6.setCell ⟨kb, k * 4, none⟩ (.int .i64 ky.tick)).setCell ⟨kb, k * 4 + 1, none⟩ (.int .i64 ky.cls)).setCell ⟨kb, k * 4 + 2, none⟩ (.int .i64 ky.num)).setCell ⟨kb, k * 4 + 3, none⟩ (.string (bs ky.lin))) = W17 at *
          have x1 := HZA7.out.cell 1
          have x3 := HZA7.out.cell 3
          simp only [qB, qC, qD] at x1 x3
          by_cases hcl : ky.cls = 0
          · have j7 : (ky.cls != 0) = false := by rw [hcl]; rfl
            have HT2 := Lib.hid (show ∀ m, trn (ks.take k) m = trn (ks.take (k + 1)) m by intro m; rw [HT1.out m, if_pos (.inl hcl)])
            clear hcl
            go_wp2_with fail
            go_roundw
            case rel => exact ⟨k + 1, by omega, by go_num, HOW7.out, HTR7.out.data HT2.out, HZR7.out, HBW7.out⟩
            case measure => simp [intOf]; omega
          · have j7 : (ky.cls != 0) = true := by rw [bne_iff_ne]; exact hcl
            have HT2 := Lib.hid (show ∀ m, (if m = ky.lin then trn (ks.take k) ky.lin ++ [(k : Int)] else trn (ks.take k) m) = trn (ks.take (k + 1)) m by
              intro m
              rw [HT1.out m]
              by_cases e : m = ky.lin
              · rw [if_pos e, if_neg (by rintro (h | h); exact hcl h; exact h e.symm), e]
              · rw [if_neg e, if_pos (.inr (fun h => e h.symm))])
            obtain ⟨ents, v, hma, hve, hof, hback⟩ := HTR7.out.at_ ky.lin
            obtain ⟨At, ct, hvs, hct⟩ := own_len hof.1
            subst hvs
            obtain ⟨tl, htl⟩ : ∃ tl, trn (ks.take k) ky.lin = tl := ⟨_, rfl⟩
            have htll : tl.length ≤ 100 := by rw [← htl]; have := trn_len (ks.take k) ky.lin; rw [List.length_take] at this; omega
            have HLOOK : Hid (∀ w' : World, w'.heap[tb]? = W17.heap[tb]? → (Instr.lookup 123 (.map (some tb)) (.string (bs ky.lin)) false).run Tryz.prog w' = .ok (.slice At (trn (ks.take k) ky.lin).length ct) w') := Lib.hid fun w' e => by
              have := map_lookS (hma.same e) ky.lin Tryz.underlying123 (show (zeroValue 33).run Tryz.prog w' = .ok (.slice none 0 0) w' by kernel_rfl)
              rw [← hve] at this
              exact this
            have hal := ((Below.refl W17.heap.size W17).alloc (Nat.le_refl _) (.cells #[.int .i64 k] 3)).drew
            have HAL : Hid (Below W17.heap.size W17 (W17.alloc (.cells #[.int .i64 k] 3)).drew) := Lib.hid hal
            have HTL6 : Hid ((W17.alloc (.cells #[.int .i64 k] 3)).drew.ownsRow 0 3 1 (.slice At (trn (ks.take k) ky.lin).length ct) (trn (ks.take k) ky.lin).length ((trn (ks.take k) ky.lin).flatMap inC)) := Lib.hid (own_next hof.1 hal)
            have HMA6 : Hid (MapAtS (W17.alloc (.cells #[.int .i64 k] 3)).drew tb ents) := Lib.hid (hma.next hal)
            obtain ⟨es, cc, hes, _⟩ := id HMA6.out
            have HMP6 := Lib.hid hes
            have ZA6 : Hid (Blk (W17.alloc (.cells #[.int .i64 k] 3)).drew ab 77 #[.int .i64 ky.tick, .int .i64 ky.cls, .int .i64 ky.num, .string (bs ky.lin), .slice P1 ac.reads.length c1, .slice P2 ac.writes.length c2]) := Lib.hid (HZA7.out.next hal HZA7.out.lt)
            have hab := HZA7.out.lt
            have htbl := hma.lt
            have HBK := Lib.hid hback
            have HOF := Lib.hid hof
            rw [htl] at HLOOK HTL6 HOF
            have HTLE := Lib.hid htl
            have htl := htbl
            obtain ⟨i0, hi, hz0, hz1, hz2⟩ := info_parts infoIn
            clear hma hve hof hback hal hes hcl hct htbl
            go_upto_region 17 with (fail)
            refine wp_region_noPanic ?_
            refine wp_region_last (S := (fun (w' : World) => w'.cell? ⟨ab, 3, none⟩ = some (.string (bs ky.lin)) ∧ w'.heap[tb]? = W17.heap[tb]?)) 12 12 rfl (by kernel_rfl) (by kernel_rfl) ?_ (fun hHeld => ?_)
            · exact ⟨x3, rfl⟩
            refine tk (v := ?_) 0 rfl (by kernel_rfl) (fun _ _ _ h => h) ?_ hHeld ?_
            rotate_left
            · (intro w h; (try dsimp only at h); go_simp; try with_reducible rfl)
            try simp only [Act.put, pB, pC, pD]
            refine tk (v := ?_) 1 rfl (by kernel_rfl) (fun _ _ _ h => h) ?_ hHeld ?_
            rotate_left
            · (intro w h; (try dsimp only at h); go_simp; try with_reducible rfl)
            try simp only [Act.put, pB, pC, pD]
            refine tk (v := ?_) 2 rfl (by kernel_rfl) (fun _ _ _ h => h) ?_ hHeld ?_
            rotate_left
            · (intro w h; (try dsimp only at h); go_simp; try with_reducible rfl)
            try simp only [Act.put, pB, pC, pD]
            refine tk (v := ?_) 3 rfl (by kernel_rfl) (fun _ _ _ h => h) ?_ hHeld ?_
            rotate_left
            · (intro w h; (try dsimp only at h); go_simp; try with_reducible rfl)
            try simp only [Act.put, pB, pC, pD]
            refine tk (v := ?_) 4 rfl (by kernel_rfl) (fun _ _ _ h => h) ?_ hHeld ?_
            rotate_left
            · (intro w h; (try dsimp only at h); go_simp; try with_reducible rfl)
            try simp only [Act.put, pB, pC, pD]
            refine tk (v := ?_) 5 rfl (by kernel_rfl) (fun _ _ _ h => h) ?_ hHeld ?_
            rotate_left
            · (intro w h; (try dsimp only at h); go_simp; try with_reducible rfl)
            try simp only [Act.put, pB, pC, pD]
            refine tk (v := ?_) 6 rfl (by kernel_rfl) (fun _ _ _ h => h) ?_ hHeld ?_
            rotate_left
            · (intro w h; (try dsimp only at h); go_simp; try with_reducible rfl)
            try simp only [Act.put, pB, pC, pD]
            refine tk (v := ?_) 7 rfl (by kernel_rfl) (fun _ _ _ h => h) ?_ hHeld ?_
            rotate_left
            · (intro w h; (try dsimp only at h); go_simp; try with_reducible rfl)
            try simp only [Act.put, pB, pC, pD]
            refine tk (v := ?_) 9 rfl (by kernel_rfl) (fun _ _ _ h => h) ?_ hHeld ?_
            rotate_left
            · (intro w h; (try dsimp only at h); go_simp; try with_reducible rfl)
            try simp only [Act.put, pB, pC, pD]
            refine wpAnyH_take (i := 8) (v := .slice At tl.length ct) rfl (by kernel_rfl) (by kernel_rfl) (by kernel_rfl) (fun _ _ _ h => h) (Or.inl ⟨by kernel_rfl, ?_⟩) hHeld ?_
            · (intro w hSw; (try dsimp only at hSw); have hlk := HLOOK.out w hSw.2; go_simp; try with_reducible rfl)
            try simp only [Act.put, pB, pC, pD]
            refine wpAnyH_ready (rs := [10]) (by kernel_rfl) (by simp) ?_
            refine AllReadyH.cons rfl (fun K hK => ?_) AllReadyH.nil
            go_simp
            refine hK.out _ _ ?_ (fun hNew => ?_)
            · exact ⟨(HAL.out.cell (p := ⟨ab, 3, none⟩) hab).trans x3, HAL.out.block tb htl⟩
            clear hK K hHeld
            have hHeld := hNew
            clear hNew
            try simp only [Act.put, pB, pC, pD]
            refine wpAnyH_ready (rs := [11]) (by kernel_rfl) (by simp) ?_
            refine AllReadyH.cons rfl (fun K hK => ?_) AllReadyH.nil
            refine step_append_w _ (by rfl) _ _ _ (by rfl) 0 3 i0 _ 1 8 Tryz.underlying33 hi hz0 hz1 hz2 rfl (by omega) (.slice At tl.length ct) tl.length (tl.flatMap inC) (by rfl) HTL6.out (.slice (some ⟨W17.heap.size, 0, none⟩) 1 1) 1 [.int .i64 k] (by rfl) (show Rd 3 (W17.alloc (.cells #[.int .i64 k] 3)).drew _ 1 _ from Rd.of_own (own_new W17 0 3 1 [.int .i64 k] rfl (Nat.zero_le _))) (by omega) (by rfl) (by simp [Value.oneCell']) (by unfold maxLen; omega) (by omega) (Nat.zero_le _) ?_; intro v5 w5 hown5 hg5 hat5; obtain ⟨A5, c5, rfl, _⟩ := own_len hown5; have hm5 := (HMA6.out.same (hg5.block tb HMA6.out.lt (fun e => own_not_map HTL6.out HMP6.out e.symm))); obtain ⟨w6, hup, hm6, hg6⟩ := map_putS hm5 ky.lin (.slice A5 (tl.length + 1) c5) Tryz.underlying123; have hz5 := ZA6.out.grown hg5 (fun e => own_blk_ne HTL6.out ZA6.out (by decide) e.symm); have k0 := hz5.cell 3; have k1 := (hg5.block tb HMA6.out.lt (fun e => own_not_map HTL6.out HMP6.out e.symm)).trans (HAL.out.block tb htl); have HOWN5 := Lib.hid hown5; have HG5 := Lib.hid hg5; have HAT5 := Lib.hid hat5; have HM5 := Lib.hid hm5; have HM6 := Lib.hid hm6; have HG6 := Lib.hid hg6; clear hown5 hg5 hat5 hm5 hm6 hg6; (simp only [qB, qC, qD] at k0)
            refine hK.out _ _ ?_ (fun hNew => ?_)
            · exact ⟨k0, k1⟩
            clear hK K hHeld
            have hHeld := hNew
            clear hNew
            try simp only [Act.put, pB, pC, pD]
            refine wpAnyH_done (by kernel_rfl) ?_ _
            refine lastQ_step rfl (fun K hK => ?_)
            clear hHeld
            go_simp
            refine hK _ _ ?_
            clear hK K
            refine NoPanic.normal ?_
            have HTR8 := Lib.hid (HBK.out w5 w6 (.slice A5 (tl.length + 1) c5) (k : Int) (fun i => w.heap.size ≤ i) (fun i h1 h2 h3 => (HG5.out.block i (Nat.lt_of_lt_of_le h1 HAL.out.size) (by rw [← HTLE.out] ; exact h3)).trans (HAL.out.block i h1)) (by
                obtain ⟨es5, c5', h5', _⟩ := HM5.out
                exact ⟨es5, c5', h5'⟩) (by rw [HTLE.out]; exact HOWN5.out) (by
                rcases HAT5.out with e | e
                · exact .inl (by rw [HTLE.out]; exact e)
                · exact .inr ⟨_, e, HAL.out.size⟩) HM6.out HG6.out (fun _ h => h) (fun i h1 h2 => Nat.le_trans HBW7.out.size h1))
            have HBE := Lib.hid (show Below w.heap.size w w6 by
              have h1 := HBW7.out.trans (HAL.out.mono HBW7.out.size)
              have h2 := h1.grown HG5.out h1.size (fun r e => HOF.out.2 r e)
              exact h2.grown HG6.out h2.size (fun r e => by injection e with e; subst e; exact HTR7.out.1))
            have HOW8 := Lib.hid (((own_grown (own_next HOW7.out HAL.out) HTL6.out HG5.out (.inl (by decide))).kept HG6.out (.inr (by
              obtain ⟨es5, c5', h5', _⟩ := HM5.out
              exact own_not_map (own_grown (own_next HOW7.out HAL.out) HTL6.out HG5.out (.inl (by decide))) h5'))))
            have hzr5 : Blk w5 rb 36 #[.slice none 0 0, .slice none 0 0, .slice none 0 0] := (HZR7.out.next HAL.out HZR7.out.lt).grown HG5.out (fun e => own_blk_ne HTL6.out (HZR7.out.next HAL.out HZR7.out.lt) (by decide) e.symm)
            have HZR8 := Lib.hid (hzr5.grown HG6.out (fun e => by
              obtain ⟨es5, c5', h5', _⟩ := HM5.out
              injection e with e
              unfold Blk at hzr5
              rw [e, h5'] at hzr5
              cases hzr5))
            clear hup HG5 HG6 HAT5 HOWN5 HM5 HM6 hz5 k0 k1 hzr5 HOW7 HTR7 HZR7 HBW7 HAL HLOOK x1 x3 i0 hi hz0 hz1 hz2
            go_wp2_with fail
            go_roundw
            case rel => exact ⟨k + 1, by omega, by go_num, HOW8.out, HTR8.out.data HT2.out, HZR8.out, HBE.out⟩
            case measure => simp [intOf]; omega
        · have j3 : decide ((k : Int) < (ks.length : Int)) = false := decide_eq_false (by omega)
          have hkn2 : k = ks.length := by omega
          have HKE := Lib.hid hkn2
          have HKK := Lib.hid (show RdKy wr (.slice (some ⟨kb, 0, none⟩) ks.length ks.length) ks by
            have := Rd.of_own HOW.out
            rw [hkn2, List.take_length, Nat.sub_self, List.replicate_zero, List.append_nil] at this
            exact this)
          have HTT := Lib.hid (show TRows wr w wr.heap.size tb (trn ks) by
            have := HTR.out
            rw [hkn2, List.take_length] at this
            exact this.keep (fun _ _ _ _ => rfl) (fun _ _ _ _ => rfl) (fun i h1 h2 => ⟨h2, h1⟩))
          have HMAP := Lib.hid HTR.out.map
          have HCL := Lib.hid (closed_is HG0.out HBW.out HKK.out HTT.out (by have := HL2.out; omega) HLR.out (by have := HL2.out; have := HNL.out; omega) HRR.out.1 HRR.out.2)
          have htb := HTR.out.1
          clear hkn2 HOW HTR
          go_wp2_with fail
          go_at_call 47
          refine HCL.out.mono ?_
          rintro e w5 ⟨v5, S, rfl, hclo, hrd5, hou5⟩
          obtain ⟨A5, c5, rfl, _⟩ := RdP.form hrd5
          have HCLO := Lib.hid hclo
          have hSl : S.length ≤ 100 := by
            have := nd_le (N := ks.length) (hclo.asc.imp fun h e => by subst e; omega) hclo.rng
            omega
          have HK5 := Lib.hid (rd_outer HKK.out hou5 HMAP.out)
          have HR5 := Lib.hid hrd5
          have HB5 := Lib.hid (HBW.out.trans (outer_below hou5 htb HBW.out.size))
          have HZ5 := Lib.hid (show Blk w5 rb 36 #[.slice none 0 0, .slice none 0 0, .slice none 0 0] from (hou5.block rb HZR.out.lt (fun e => by
            obtain ⟨es, c, h⟩ := HMAP.out
            have h1 := HZR.out
            unfold Blk at h1
            rw [e, h] at h1
            cases h1)).trans HZR.out)
          have HTS := Lib.hid (tslice_is HK5.out HR5.out HCLO.out.rng hSl (by omega) HK55.out)
          clear hclo hrd5 hou5 htb HCL
          go_wp2_with fail
          go_at_call 48
          refine HTS.out.mono ?_
          rintro e w6 ⟨vi, vl, rfl, hri, hrl, hb6⟩
          obtain ⟨Ai, ci, rfl, _⟩ := RdP.form hri
          obtain ⟨Al, cl, rfl, _⟩ := RdP.form hrl
          have hz6 := HZ5.out.next hb6 HZ5.out.lt
          have HZ6 := Lib.hid hz6
          have r0 := HZ6.out.cell 0
          have r1 := HZ6.out.cell 1
          have r2 := HZ6.out.cell 2
          have g0 := HZ6.out.frozen 0
          have g1 := HZ6.out.frozen 1
          have g2 := HZ6.out.frozen 2
          simp only [qB, qC, qD] at r0 r1 r2
          have hg3 := set3 w6 rb (.slice A5 S.length c5) (.slice Ai (srtI (inpK ks S)).length ci) (.slice Al (lsrt (linK ks S)).length cl)
          have kk := Kept.of_blk [36] hz6 hg3 rfl
          have HR9 := Lib.hid (RdP.keep (RdP.next HR5.out hb6) kk (by decide))
          have HI9 := Lib.hid (RdP.keep hri kk (by decide))
          have HS9 := Lib.hid (RdP.keep hrl kk (by decide))
          have HB9 := Lib.hid ((HB5.out.trans (hb6.mono HB5.out.size)).grown hg3 (HB5.out.trans (hb6.mono HB5.out.size)).size (fun r e => by injection e with e; subst e; exact Nat.le_of_lt HRB.out))
          have HSP := Lib.hid (show OfSpec l l2 (ro, 0) (N : Int) 0 S (srtI (inpK ks S)) (lsrt (linK ks S)) by
            unfold OfSpec
            rw [if_neg (by have := HRR.out.1; simp; omega), Int.toNat_natCast, HKS.out]
            exact ⟨rfl, HCLO.out, rfl, rfl⟩)
          clear hg3 kk hz6 hri hrl hb6
          go_wp2_with fail
          exact bodyPost_ret (v := .tuple #[.agg #[.slice A5 S.length c5, .slice Ai (srtI (inpK ks S)).length ci, .slice Al (lsrt (linK ks S)).length cl], .int .i64 0]) (by simp [results, Tryz.results18, go_sem, r0, r1, r2]) rfl ⟨_, _, _, 0, S, _, _, rfl, HR9.out, HI9.out, HS9.out, HB9.out, HSP.out⟩
  · have d0 : (re != 0) = true := by rw [bne_iff_ne]; exact h0
    have HSP := Lib.hid (show OfSpec l l2 (ro, re) i re [] [] [] by unfold OfSpec; rw [if_pos (.inl h0)]; exact ⟨rfl, rfl, rfl, rfl⟩)
    clear h0
    have r0 := ZR3.out.cell 0
    have r1 := ZR3.out.cell 1
    have r2 := ZR3.out.cell 2
    have g0 := ZR3.out.frozen 0
    have g1 := ZR3.out.frozen 1
    have g2 := ZR3.out.frozen 2
    simp only [qB, qC, qD] at r0 r1 r2
    go_wp2_with fail
    exact bodyPost_ret (v := .tuple #[.agg #[.slice none 0 0, .slice none 0 0, .slice none 0 0], .int .i64 re]) (by simp [results, Tryz.results18, go_sem, r0, r1, r2]) rfl ⟨_, _, _, re, [], [], [], rfl, RdP.nil, RdP.nil, RdP.nil, (((HB3.out.setCell (p := ⟨rb, 0, none⟩) (Nat.le_of_lt HRB.out) _).setCell (p := ⟨rb, 1, none⟩) (Nat.le_of_lt HRB.out) _).setCell (p := ⟨rb, 2, none⟩) (Nat.le_of_lt HRB.out) _), HSP.out⟩
end Go.Proofs.YtamjllakfgphnaaGreatDoor
namespace Go.Proofs.YtamjllakfgphnaaGreatDoor
open Go.ChangeShapes Go.WideShapes Go.ChangeAt Go.RowKit
set_option linter.unusedSimpArgs false
set_option linter.unusedVariables false
theorem own : ownKnob Tryz.prog.godebug = none := by kernel_rfl
theorem gTab : Tryz.prog.globalNamed "replevin/object.usages" = some 0 := by kernel_rfl
theorem tTab : (Tryz.prog.globals[0]?).map (·.type) = some 216 := by kernel_rfl
theorem cellsU : Tryz.prog.cellsOf 215 = 6 := by kernel_rfl
theorem cellsS : Tryz.prog.cellsOf 9 = 1 := by kernel_rfl
theorem cellsI : Tryz.prog.cellsOf 3 = 1 := by kernel_rfl
theorem cellsB : Tryz.prog.cellsOf 4 = 1 := by kernel_rfl
def useD {H : Type} (k : Nat) : DataW H := .agg [.lit (.string (useT k).word), .lit (.bool (useT k).owner), .lit (.bool (useT k).number), .lit (.bool (useT k).index), .lit (.bool (useT k).text), .lit (.int .i64 (useT k).most)]
def dataL {H : Type} : DataW H → List (DataW H)
  | .agg l => l
  | _ => []
theorem laid_at {H : Type} {k : Nat} (hk : k = 13 ∨ k = 15 ∨ k = 16 ∨ k = 17 ∨ k = 20) : (dataL (Rows.laid_replevin_object_usages : DataW H))[k]? = some (useD k) := by
  rcases hk with rfl | rfl | rfl | rfl | rfl <;> kernel_rfl
theorem at_of_take {α : Type} (l : List α) (a j : Nat) (v : α) (hj : j < 6) (h : (((l.drop a).take 6).drop j).take 1 = [v]) : l[a + j]? = some v := by
  have h0 : ((((l.drop a).take 6).drop j).take 1)[0]? = some v := by rw [h]; rfl
  rw [List.getElem?_take, if_pos (by omega), List.getElem?_drop, List.getElem?_take, if_pos (by omega), List.getElem?_drop] at h0
  simpa using h0
theorem use_of_laid {W : World} (h : laidMetH Tryz.prog [("replevin/object.usages", Rows.laid_replevin_object_usages)] W) : UseAt W := by
  rw [MakeChecks.laidMetH_plain _ _ _ (by kernel_rfl)] at h
  obtain ⟨ps, ⟨g0, t0, cs0, f0, p0, q0, hg0, ht0, hv0, hd0, _, _⟩, _, _⟩ := h
  obtain rfl := Option.some.inj (gTab.symm.trans hg0)
  obtain rfl := Option.some.inj (tTab.symm.trans ht0)
  have hcell : ∀ i, W.cell? ⟨0, i, none⟩ = cs0[i]? := fun i => World.var?_cell hg0 hv0 i
  obtain ⟨xs, m, _, hx, _, hlen, hel⟩ := DataW.trod_array Tryz.underlying216 hd0
  simp only [Prod.mk.injEq] at hx
  have hxs : ∀ k, (k = 13 ∨ k = 15 ∨ k = 16 ∨ k = 17 ∨ k = 20) → (xs.map (·.1))[k]? = some (useD k) := by
    intro k hk
    have h1 := laid_at (H := Unit) hk
    rw [hx.1] at h1
    exact h1
  have key : ∀ k, (k = 13 ∨ k = 15 ∨ k = 16 ∨ k = 17 ∨ k = 20) → cs0[k * 6]? = some (.string (bs (useT k).word)) ∧ cs0[k * 6 + 1]? = some (.bool (useT k).owner) ∧ cs0[k * 6 + 2]? = some (.bool (useT k).number) ∧ cs0[k * 6 + 3]? = some (.bool (useT k).index) ∧ cs0[k * 6 + 4]? = some (.bool (useT k).text) ∧ cs0[k * 6 + 5]? = some (.int .i64 (useT k).most) := by
    intro k hkk
    have hk : k < 21 := by omega
    have h1 := hel k hk
    have hxk : xs[k]? = some (xs[k]'(by omega)) := List.getElem?_eq_getElem (by omega)
    rw [hxk, cellsU] at h1
    have hd : (xs[k]'(by omega)).1 = useD k := by
      have := hxs k hkk
      simpa [hxk] using this
    obtain ⟨ys, n, _, hy, _, hyl, hf⟩ := DataW.trod_struct Tryz.underlying215 h1
    rw [hy] at hd
    simp only [useD, DataW.agg.injEq] at hd
    match ys, hyl, hd, hf with
    | [y0, y1, y2, y3, y4, y5], _, hd, hf =>
      simp only [List.map_cons, List.map_nil, List.cons.injEq, and_true] at hd
      obtain ⟨d0, d1, d2, d3, d4, d5⟩ := hd
      have g0 := hf 0 _ rfl
      have g1 := hf 1 _ rfl
      have g2 := hf 2 _ rfl
      have g3 := hf 3 _ rfl
      have g4 := hf 4 _ rfl
      have g5 := hf 5 _ rfl
      obtain ⟨s, e0, z0, _⟩ := DataW.trod_string Tryz.underlying9 g0
      obtain ⟨n1, e1, z1⟩ := DataW.trod_bool Tryz.underlying4 g1
      obtain ⟨n2, e2, z2⟩ := DataW.trod_bool Tryz.underlying4 g2
      obtain ⟨n3, e3, z3⟩ := DataW.trod_bool Tryz.underlying4 g3
      obtain ⟨n4, e4, z4⟩ := DataW.trod_bool Tryz.underlying4 g4
      obtain ⟨n5, e5, z5, _⟩ := DataW.trod_int Tryz.underlying3 g5
      rw [z0] at d0; rw [z1] at d1; rw [z2] at d2; rw [z3] at d3; rw [z4] at d4; rw [z5] at d5
      simp only [DataW.lit.injEq, Lit.string.injEq, Lit.int.injEq, Lit.bool.injEq, true_and] at d0 d1 d2 d3 d4 d5
      replace e0 : (((cs0.toList.drop (k * 6)).take 6).drop 0).take (Tryz.prog.cellsOf 9) = [.string s] := e0
      replace e1 : (((cs0.toList.drop (k * 6)).take 6).drop 1).take (Tryz.prog.cellsOf 4) = [.bool n1] := e1
      replace e2 : (((cs0.toList.drop (k * 6)).take 6).drop 2).take (Tryz.prog.cellsOf 4) = [.bool n2] := e2
      replace e3 : (((cs0.toList.drop (k * 6)).take 6).drop 3).take (Tryz.prog.cellsOf 4) = [.bool n3] := e3
      replace e4 : (((cs0.toList.drop (k * 6)).take 6).drop 4).take (Tryz.prog.cellsOf 4) = [.bool n4] := e4
      replace e5 : (((cs0.toList.drop (k * 6)).take 6).drop 5).take (Tryz.prog.cellsOf 3) = [.int .i64 n5] := e5
      rw [cellsS] at e0
      rw [cellsB] at e1 e2 e3 e4
      rw [cellsI] at e5
      have q0 := at_of_take _ _ 0 _ (by omega) e0
      have q1 := at_of_take _ _ 1 _ (by omega) e1
      have q2 := at_of_take _ _ 2 _ (by omega) e2
      have q3 := at_of_take _ _ 3 _ (by omega) e3
      have q4 := at_of_take _ _ 4 _ (by omega) e4
      have q5 := at_of_take _ _ 5 _ (by omega) e5
      have hs : s = bs (useT k).word := by
        rw [← d0]
        exact (bs_of s).symm
      rw [hs] at q0
      rw [d1] at q1; rw [d2] at q2; rw [d3] at q3; rw [d4] at q4; rw [d5] at q5
      simp only [Array.getElem?_toList, Nat.add_zero] at q0 q1 q2 q3 q4 q5
      exact ⟨q0, q1, q2, q3, q4, q5⟩
  refine ⟨?_, fun k hk => ?_⟩
  · have := (key 13 (.inl rfl)).1
    rw [← hcell] at this
    apply Nat.lt_of_not_le
    intro hle
    have h0 : W.heap[0]? = .none := by simp; exact Array.size_eq_zero_iff.1 (by omega)
    simp [World.cell?, h0] at this
  · simp only [hcell]
    exact key k hk
end Go.Proofs.YtamjllakfgphnaaGreatDoor
namespace Go.Proofs.YtamjllakfgphnaaGreatDoor
open Go.RowKit
set_option linter.unusedSimpArgs false
set_option linter.unusedVariables false
abbrev OwnCh (w : World) (B : Nat) (v : Value) (l : List Ch) : Prop := OwnP 105 7 chC w B v l
theorem apart_at {w : World} {B s e n : Nat} {rv wv v' : Value} {xs : List Value} (hw : w.ownsRow B e s wv n xs) (ha : Apart rv wv) (hat : AtOr w rv v') : Apart v' wv := by
  intro g hv hwv
  rcases hat with e1 | e1
  · rw [e1] at hv; exact ha g hv hwv
  · rw [e1] at hv
    injection hv with hv
    subst hv
    obtain ⟨cur, hc⟩ := own_cells_of hw hwv
    rw [Array.getElem?_eq_none (Nat.le_refl _)] at hc
    cases hc
theorem box_push {w0 w1 : World} {B xb : Nat} {cs : Array Value} {rv wv v' : Value} {rs ws : List Ch} {c : Ch} (hx : Blk w0 xb 77 cs) (hr : OwnCh w0 B rv rs) (hw : OwnCh w0 B wv ws) (ha : Apart rv wv)
    (hn : w1.ownsRow B 105 7 v' (rs.length + 1) (rs.flatMap chC ++ chC c)) (hg : w0.grownBy w1 rv.ownBlock) (hat : AtOr w0 rv v') (j : Nat) (hxB : xb < B) :
    Blk (w1.setCell ⟨xb, j, none⟩ v') xb 77 (cs.setIfInBounds j v') ∧ OwnCh (w1.setCell ⟨xb, j, none⟩ v') B v' (rs ++ [c]) ∧ OwnCh (w1.setCell ⟨xb, j, none⟩ v') B wv ws ∧ Apart v' wv ∧ Below xb w0 (w1.setCell ⟨xb, j, none⟩ v') ∧ Kept [105, 77] w0 (w1.setCell ⟨xb, j, none⟩ v') := by
  have hb1 : Blk w1 xb 77 cs := hx.grown hg (fun e => own_blk_ne hr hx (by decide) e.symm)
  have k : Kept [77] w1 (w1.setCell ⟨xb, j, none⟩ v') := Kept.of_blk _ hb1 (only_setCell (World.grownBy.refl w1 _) (.inl rfl) _) (by decide)
  exact ⟨hb1.set_ j v', own_keep (OwnP.snoc hn) k (by decide), own_keep (own_apart hw hg ha) k (by decide), apart_at hw ha hat, (below_own (Below.refl xb w0) hr hg (Nat.le_of_lt hxB) (Nat.le_of_lt hx.lt)).setCell (p := ⟨xb, j, none⟩) (Nat.le_refl _) _, (Kept.mono (Kept.of_own [105] hr hg (by decide)) (fun e he => by simp at he ⊢; exact he.1)).trans (Kept.mono k (fun e he => by simp at he ⊢; exact he.2))⟩
theorem rdsU_le (s : St) (a : A54) (m : Nat) : (rdsU s a m).length ≤ 4 := by
  unfold rdsU
  rw [List.length_map]
  refine Nat.le_trans (List.length_filter_le _ _) ?_
  rw [List.length_take]
  exact Nat.min_le_right _ _
theorem wrsU_le (a : A54) (m : Nat) : (wrsU a m).length ≤ 4 := by
  unfold wrsU
  rw [List.length_map]
  refine Nat.le_trans (List.length_filter_le _ _) ?_
  rw [List.length_take]
  exact Nat.min_le_right _ _
theorem bit_is (x : Int) (d : Nat) : (bits BinOp.and IntKind.u8 (x / 2 ^ d) 1 == 1) = hasB x d := by
  unfold hasB
  rw [Int.fdiv_eq_ediv_of_nonneg _ (Int.pow_nonneg (by decide))]
  rfl
abbrev LW : List TypeId := [49]
theorem VAt.keepB {w w' : World} {F : Nat → Prop} {g : Nat} {s0 : St} {l : List Ac} (h : VAt w F g s0 l) (k : Kept LW w w') (m : KpM w w') : VAt w' F g s0 l := by
  obtain ⟨pb, va, vk, pl, bw, br, h⟩ := h
  exact ⟨pb, va, vk, pl, bw, br, ⟨h.blk.keep k rfl, h.fg, h.base.keep k rfl rfl, h.last.keep k rfl rfl, OwnAc.keep h.act k rfl rfl, h.actF, OwnKp.keep h.kp k rfl rfl rfl, h.kpF, h.wr.kept k m rfl (fun _ h => h), h.rd.kept k m rfl (fun _ h => h), h.ne⟩⟩
theorem GAt.keepB {w w' : World} {B g : Nat} {l : List Ac} (h : GAt w B g l) (k : Kept LW w w') (m : KpM w w') : GAt w' B g l := by
  obtain ⟨vk, vl, vu, bw, vL, vU, h⟩ := h
  exact ⟨vk, vl, vu, bw, vL, vU, ⟨h.blk.keep k rfl, h.gB, own_keep h.ky k rfl, h.lu.keep k rfl rfl, h.wr.kept k m rfl (fun _ h => h)⟩⟩
theorem world_set {w : World} {b : Nat} {cs : Array Value} (h : Blk w b 49 cs) (i : Nat) (v : Value) : Kept LW w (w.setCell ⟨b, i, none⟩ v) ∧ KpM w (w.setCell ⟨b, i, none⟩ v) := by
  have hg : w.grownBy (w.setCell ⟨b, i, none⟩ v) (some b) := only_setCell (only_of_below (Below.refl _ _) _) (.inl rfl) v
  exact ⟨Kept.of_blk _ h hg rfl, KpM.of_blk h hg⟩
end Go.Proofs.YtamjllakfgphnaaGreatDoor
