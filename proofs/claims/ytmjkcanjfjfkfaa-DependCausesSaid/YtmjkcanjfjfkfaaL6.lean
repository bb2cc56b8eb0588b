/- The walk of the law DependCauses. -/
import Derived.Test.YtmjkcanjfjfkfaaL2
import Derived.Test.YtmjkcanjfjfkfaaT21
import Derived.Test.YtmjkcanjfjfkfaaP11
import Derived.Test.YtmjkcanjfjfkfaaT5
namespace Go.Proofs.Ytmjkcanjfjfkfaa
open Go.RowKit
set_option linter.unusedSimpArgs false
set_option linter.unusedVariables false
attribute [local go_sem ↓] Go.wp_at_zero Go.wp_at_succ
open Go.MapKept Go.ChangeMaps
def acA (a : Ac) (u : Value × Value) : Array Value := #[.int .i64 a.key.tick, .int .i64 a.key.cls, .int .i64 a.key.num, .string (bs a.key.lin), u.1, u.2]
/-- Performing the causes, under way: the world's box, the state, the last action. -/
structure CS (w w5 : World) (u : Value) (wr : World) (sb ab : Nat) (st : S47 × Ac) : Prop where
  fr : Below w5.heap.size w5 wr
  bx : Blk wr w.heap.size 24 #[u]
  sm : SMap wr sb st.1
  ac : ∃ us, Blk wr ab 59 (acA st.2 us) ∧ NAc wr us st.2
  sB : w5.heap.size ≤ sb
  aB : w5.heap.size ≤ ab
theorem CS.next {w w5 wr w' : World} {u : Value} {sb ab : Nat} {st : S47 × Ac} (h : CS w w5 u wr sb ab st) (hb : Below wr.heap.size wr w') : CS w w5 u w' sb ab st := by
  obtain ⟨us, h1, h2⟩ := h.ac
  exact ⟨h.fr.trans (hb.mono h.fr.size), h.bx.next hb h.bx.lt, h.sm.next hb, ⟨us, h1.next hb h1.lt, NAc.next hb h2⟩, h.sB, h.aB⟩
theorem low6_ {B : Nat} {w0 w : World} {g : Nat} (v0 v1 v2 v3 v4 v5 : Value) (h : Below B w0 w) (hg : B ≤ g) : Below B w0 ((((((w.setCell ⟨g, 0, none⟩ v0).setCell ⟨g, 1, none⟩ v1).setCell ⟨g, 2, none⟩ v2).setCell ⟨g, 3, none⟩ v3).setCell ⟨g, 4, none⟩ v4).setCell ⟨g, 5, none⟩ v5) :=
  (((((h.setCell (p := ⟨g, 0, none⟩) hg v0).setCell (p := ⟨g, 1, none⟩) hg v1).setCell (p := ⟨g, 2, none⟩) hg v2).setCell (p := ⟨g, 3, none⟩) hg v3).setCell (p := ⟨g, 4, none⟩) hg v4).setCell (p := ⟨g, 5, none⟩) hg v5
theorem only_six (g : Nat) (w : World) (v0 v1 v2 v3 v4 v5 : Value) : w.grownBy ((((((w.setCell ⟨g, 0, none⟩ v0).setCell ⟨g, 1, none⟩ v1).setCell ⟨g, 2, none⟩ v2).setCell ⟨g, 3, none⟩ v3).setCell ⟨g, 4, none⟩ v4).setCell ⟨g, 5, none⟩ v5) (some g) :=
  only_setCell (only_setCell (only_setCell (only_setCell (only_setCell (only_setCell (only_of_below (Below.refl w.heap.size w) (some g)) (.inl rfl) v0) (.inl rfl) v1) (.inl rfl) v2) (.inl rfl) v3) (.inl rfl) v4) (.inl rfl) v5
def lcRel (w w5 : World) (u : Value) (sb ab : Nat) (ds : List De) (l : List Ac) (C : List Int) (v12 : Value) (wr : World) : Prop := ∃ j : Nat, j ≤ C.length ∧ v12 = .int .i64 (j : Int) ∧ CS w w5 u wr sb ab (cauTo ds l C j)
set_option maxRecDepth 100000 in
set_option maxHeartbeats 8000000 in
theorem law_causes {w : World} {u : Value} {ds : List De} (hd : DeAt w.heap.size w u ds) (ix : Int) (hw : (Lit.int .i64 ix).wf = true) : Calls Try.prog 5 #[.agg #[u], .int .i64 ix] w fun e w' => e = .returned (.bool true) ∧ Below w.heap.size w w' := by
  obtain ⟨A, c, rfl, hc, hcm⟩ := Ra.form hd.1
  have ha0 := (Below.refl w.heap.size w).alloc (Nat.le_refl _) (.cells #[.slice A ds.length c] 24)
  have zb0 := Blk.new w 24 #[.slice A ds.length c]
  have x0 := zb0.cell 0
  simp only [List.getElem?_toArray, List.getElem?_cons_zero] at x0
  have ZB0 := Lib.hid zb0
  have HDV := Lib.hid hd
  have HD0 := Lib.hid (hd.next ha0 ha0.size)
  have HA0 := Lib.hid ha0
  have HDD : Hid (DeOk ds) := Lib.hid hd.2
  have hrun := run_is 0 0 HD0.out (by decide) (by decide)
  rw [show ((0 : Nat) : Int) = 0 from rfl] at hrun
  have HRUN := Lib.hid hrun
  have HW := Lib.hid hw
  clear hd ha0 hrun HD0 hw zb0
  go_enter Try.func5, Try.ntmps5
  go_wp2_with fail
  go_at_call 9
  refine HRUN.out.mono ?_
  rintro e w1 ⟨v, rfl, hrd, hb⟩
  have HF1 := Lib.hid (HA0.out.trans (hb.mono HA0.out.size))
  have ZB1 := Lib.hid (ZB0.out.next hb ZB0.out.lt)
  have HT2 := Lib.hid (runS_tr2 HDD.out 0 0)
  obtain ⟨l, hll⟩ : ∃ l, runS ds 0 0 = l := ⟨_, rfl⟩
  obtain ⟨g1, g2, g3, g4⟩ := runS_good HDD.out 0 0
  rw [hll] at hrd g1 g2 g3 g4 HT2
  have HR := Lib.hid g2
  have HO := Lib.hid g3
  have HL := Lib.hid g4
  have HB := Lib.hid (dbuild_is hrd g1 g2 g3 (by omega))
  have HL0 := Lib.hid hrd
  obtain ⟨A1, c1, rfl, hc1⟩ := RowRd.form hrd
  clear hrd hb g1 g2 g3 hll x0 HRUN ZB0
  go_wp2_with fail
  go_at_call 10
  refine HB.out.mono ?_
  rintro e w2 ⟨g, rfl, hg, hb⟩
  have HF := Lib.hid (HF1.out.trans (hb.mono HF1.out.size))
  have ZB2 := Lib.hid (ZB1.out.next hb ZB1.out.lt)
  have HG := Lib.hid hg
  have HL1 := Lib.hid (HL0.out.next hb)
  clear hg hb HB HL0 HF1 ZB1
  have HR10 := Lib.hid (fun a (ha : a ∈ l) => (HR.out a ha).2.2.2.1)
  go_wp2_with fail
  go_at_call 12
  refine (known47_is _).mono ?_
  rintro e w4 ⟨rfl, hb⟩
  have HF4 := Lib.hid (HF.out.trans (hb.mono HF.out.size))
  have ZB4 := Lib.hid (ZB2.out.next hb ZB2.out.lt)
  have HL4 := Lib.hid (HL1.out.next hb)
  have HG4 := Lib.hid (HG.out.next hb)
  clear hb HG HL1 HF ZB2
  by_cases hin : 0 ≤ ix ∧ ix < (l.length : Int)
  · obtain ⟨t, rfl⟩ : ∃ t : Nat, ix = (t : Int) := ⟨ix.toNat, by omega⟩
    have ht : t < l.length := by omega
    have i1 : decide ((l.length : Int) ≤ (t : Int)) = false := decide_eq_false (by omega)
    have i2 : decide (l.length ≤ t) = false := decide_eq_false (by omega)
    have i3 : (0 : Int) ≤ (t : Int) := by omega
    have i4 : (t : Int) < (l.length : Int) := by omega
    have hl100 : l.length ≤ 100 := by omega
    have ha := (Below.refl w4.heap.size w4).alloc (Nat.le_refl _) (.cells #[.int .i64 t] 3)
    have hca := causes_is (HG4.out.next ha) (RdA.of (rd_new1 w4 t)) hl100 HR10.out (by simp)
    rw [show chk2 l.length [(t : Int)] = 0 by unfold chk2; rw [if_pos]; simp [inR]; omega, if_pos rfl] at hca
    obtain ⟨C, hC⟩ : ∃ C, seaS (stpC l) (fun _ => none) l.length (fun _ => []) [(t : Int)] = C := ⟨_, rfl⟩
    rw [hC] at hca
    obtain ⟨q1, q2, q3, m, hm, hcl, hce⟩ := cau_set ht hC
    have HCA := Lib.hid hca
    have HAS := Lib.hid q1
    have HRG := Lib.hid q2
    have HCL := Lib.hid hcl
    have HM := Lib.hid hm
    have HCE := Lib.hid (show C[m]'HM.out = (t : Int) from hce)
    have HCU := Lib.hid (cau_is HT2.out (fun a ha => okAc_w (HO.out a ha)) q1 q2 q3)
    have HB4 := Lib.hid (HF4.out.trans (ha.mono HF4.out.size))
    have HAL := Lib.hid ha
    have hm100 : m ≤ 100 := by
      have h1 : (C.map Int.toNat).Nodup := by
        unfold List.Nodup
        rw [List.pairwise_map]
        refine q1.imp_of_mem ?_
        intro a b ha hb hab e
        have := q2 a ha
        have := q2 b hb
        omega
      have h2 : (C.map Int.toNat) ⊆ List.range l.length := by
        intro x hx
        obtain ⟨y, hy, rfl⟩ := List.mem_map.1 hx
        have := q2 y hy
        rw [List.mem_range]
        omega
      have h3 := h1.length_le_of_subset h2
      rw [List.length_map, List.length_range] at h3
      omega
    clear hin ha hca hC q1 q2 q3 hce hcl HW
    clear hm
    go_wp2_with fail
    go_at_call 21
    refine HCA.out.mono ?_
    rintro e w5 ⟨v8, rfl, hrc, hb⟩
    have P5 := Lib.hid (HAL.out.trans (hb.mono HAL.out.size))
    have HF5 := Lib.hid (HF4.out.trans (P5.out.mono HF4.out.size))
    have ZB5 := Lib.hid (ZB4.out.next P5.out ZB4.out.lt)
    have HL5 := Lib.hid (HL4.out.next P5.out)
    obtain ⟨A8, c8, rfl, hc8⟩ := RdP.form hrc
    have HRC := Lib.hid hrc
    obtain ⟨xb8, xo8, hbe8, _, y8⟩ := RdIn_piece hrc (show m < C.length by rw [HCL.out]; omega)
    rw [HCE.out] at y8
    subst hbe8
    rw [HCL.out]
    have m1 : (0 : Int) ≤ (m : Int) := by omega
    have m2 : (m : Int) < (m : Int) + 1 := by omega
    have m3 : m < m + 1 := by omega
    have m4 : IntKind.i64.wrap ((m : Int) + 1 - 1) = (m : Int) := by rw [Int.add_sub_cancel]; exact IntWalk.i64_in _ (by omega)
    have hmm := @run_makeMap Try.prog
    have b1 := (Below.refl w5.heap.size w5).alloc (Nat.le_refl _) (.map #[] 0)
    have b2 := b1.alloc b1.size (.cells #[.int .i64 0, .int .i64 0, .int .i64 0, .string ⟨#[]⟩, .slice none 0 0, .slice none 0 0] 59)
    have H0 : Hid (lcRel w w5 (.slice A ds.length c) w5.heap.size (w5.heap.size + 1) ds l C (.int .i64 (0 : Nat)) ((w5.alloc (.map #[] 0)).alloc (.cells #[.int .i64 0, .int .i64 0, .int .i64 0, .string ⟨#[]⟩, .slice none 0 0, .slice none 0 0] 59))) := Lib.hid ⟨0, Nat.zero_le _, rfl, b2, ZB5.out.next b2 ZB5.out.lt, ⟨[], (show SMapL (w5.alloc (.map #[] 0)) w5.heap.size [] from MapAt.new w5).next ((Below.refl _ _).alloc (Nat.le_refl _) _), fun n => rfl⟩, ⟨(.slice none 0 0, .slice none 0 0), Blk.newE _ _ _ _ (by simp), RdP.nil, RdP.nil⟩, Nat.le_refl _, by omega⟩
    clear b1 b2 hrc hb
    go_upto_region 10 with (fail)
    clear m2 m3 m4 y8 hmm
    generalize (w5.alloc (.map #[] 0)).alloc (.cells #[.int .i64 0, .int .i64 0, .int .i64 0, .string ⟨#[]⟩, .slice none 0 0, .slice none 0 0] 59) = w6 at *
    obtain ⟨ab, hab⟩ : ∃ ab, w5.heap.size + 1 = ab := ⟨_, rfl⟩
    obtain ⟨sb, hsb⟩ : ∃ sb, w5.heap.size = sb := ⟨_, rfl⟩
    have HNE := Lib.hid (show sb ≠ ab ∧ w.heap.size ≠ ab by have := ZB5.out.lt; omega)
    rw [show lcRel w w5 (.slice A ds.length c) w5.heap.size (w5.heap.size + 1) ds l C (.int .i64 (0 : Nat)) w6 = lcRel w w5 (.slice A ds.length c) sb ab ds l C (.int .i64 (0 : Nat)) w6 by rw [hab, hsb]] at H0
    rw [hab, hsb]
    clear hab hsb
    go_wp2_with fail
    go_loopw [12] (fun v12 wr => lcRel w w5 (.slice A ds.length c) sb ab ds l C v12 wr) (fun v12 _ => C.length - (intOf v12).toNat)
    case atStart => exact H0.out
    case round =>
      clear H0
      obtain ⟨j, hj, rfl, hcs⟩ := hrel
      have S := Lib.hid hcs
      have HJ := Lib.hid hj
      clear hcs
      by_cases hjm : j < m + 1
      · have j1 : decide ((j : Int) < (m : Int) + 1) = true := decide_eq_true (by omega)
        have j1b : decide (j < m + 1) = true := decide_eq_true hjm
        have j2 : (0 : Int) ≤ (j : Int) := by omega
        have j3 : (j : Int) < (m : Int) + 1 := by omega
        have hjc : j < C.length := by rw [HCL.out]; exact hjm
        obtain ⟨b9, o9, hbe9, _, y0⟩ := RdIn_piece (RdP.next HRC.out S.out.fr) hjc
        injection hbe9 with hbe9
        injection hbe9 with hbe9 hbe10
        subst hbe9 hbe10
        have HCS := Lib.hid (cauTo_succ ds l C j hjc)
        have hxr := HRG.out C[j] (List.getElem_mem hjc)
        obtain ⟨x, hx⟩ : ∃ x, C[j] = x := ⟨_, rfl⟩
        rw [hx] at y0 HCS hxr
        obtain ⟨q, hq⟩ : ∃ q : Nat, x = (q : Int) := ⟨x.toNat, by omega⟩
        subst hq
        have hql : q < l.length := by omega
        have q1 : (0 : Int) ≤ (q : Int) := by omega
        have q2 : (q : Int) < (l.length : Int) := by omega
        have HJM := Lib.hid hjc
        obtain ⟨e1, e2, e3⟩ := HT2.out.at_ q hql
        have HAG := Lib.hid (show acG l (q : Int) = l[q] from by rw [acG_at (by omega) (by omega)]; rfl)
        obtain ⟨xb, xo, u1, u2, rfl, hxb, _, _, v0, v1, v2, v3, _, _⟩ := RdAc.piece (HL5.out.next S.out.fr) hql
        obtain ⟨ax, hax⟩ : ∃ ax, l[q] = ax := ⟨_, rfl⟩
        rw [hax] at e2 e3 HAG v0 v1 v2 v3
        obtain ⟨kx, hkx⟩ : ∃ kx, ax.key = kx := ⟨_, rfl⟩
        rw [hkx] at e2 e3 v0 v1 v2 v3
        obtain ⟨st, hst⟩ : ∃ st, cauTo ds l C j = st := ⟨_, rfl⟩
        have HVL := Lib.hid (show VL st.1 by rw [← hst]; exact (HCU.out j (by have := HJ.out; omega)).2)
        rw [hst] at HCS S
        have HC1 := Lib.hid (show cauTo ds l C (j + 1) = (nxtS st.1 kx (deedS ds kx), prf st.1 kx (deedS ds kx)) by rw [HCS.out]; unfold cau1; rw [HAG.out, hkx])
        have HPI := Lib.hid (show PIn st.1 kx (deedS ds kx) from ⟨HVL.out, e2.de, e2.ky⟩)
        have HKD := Lib.hid e3
        obtain ⟨dd, hdd⟩ : ∃ dd, deedS ds kx = dd := ⟨_, rfl⟩
        have HDE := Lib.hid hdd
        rw [hdd] at HC1 HPI
        clear hx hxr e1 e2 e3 hax hkx hst hdd hjc
        go_upto_region 14 with (fail)
        have hba := (Below.refl wr.heap.size wr).alloc (Nat.le_refl _) (.cells #[.int .i64 kx.tick, .int .i64 kx.cls, .int .i64 kx.num, .string (bs kx.lin)] 56)
        have S6 := Lib.hid (S.out.next hba)
        have ZK := Lib.hid (Blk.new wr 56 #[.int .i64 kx.tick, .int .i64 kx.cls, .int .i64 kx.num, .string (bs kx.lin)])
        clear y0 v0 v1 v2 v3 hba hxb S
        generalize wr.alloc (.cells #[.int .i64 kx.tick, .int .i64 kx.cls, .int .i64 kx.num, .string (bs kx.lin)] 56) = W1 at *
        obtain ⟨kb, hkb⟩ : ∃ kb, wr.heap.size = kb := ⟨_, rfl⟩
        rw [hkb] at ZK ⊢
        clear hkb
        have z0 := S6.out.bx.cell 0
        have t0 := ZK.out.cell 0
        have t1 := ZK.out.cell 1
        have t2 := ZK.out.cell 2
        have t3 := ZK.out.cell 3
        simp only [List.getElem?_toArray, List.getElem?_cons_zero, List.getElem?_cons_succ] at z0 t0 t1 t2 t3
        have S7 := Lib.hid (S6.out.next (Below.refl W1.heap.size W1).drew)
        have ZK7 := Lib.hid (ZK.out.next (Below.refl W1.heap.size W1).drew ZK.out.lt)
        have F7 := Lib.hid (show Below w.heap.size w W1.drew from HF5.out.trans (S7.out.fr.mono HF5.out.size))
        refine wp_region_noPanic ?_
        refine wp_region_last (S := (fun (w' : World) => w'.cell? ⟨w.heap.size, 0, none⟩ = some (.slice A ds.length c) ∧ w'.cell? ⟨kb, 0, none⟩ = some (.int .i64 kx.tick) ∧ w'.cell? ⟨kb, 1, none⟩ = some (.int .i64 kx.cls) ∧ w'.cell? ⟨kb, 2, none⟩ = some (.int .i64 kx.num) ∧ w'.cell? ⟨kb, 3, none⟩ = some (.string (bs kx.lin)))) 6 6 rfl (by kernel_rfl) (by kernel_rfl) ?_ (fun hHeld => ?_)
        · exact ⟨z0, t0, t1, t2, t3⟩
        refine wpAnyH_take (i := 0) (v := ?_) rfl (by kernel_rfl) (by kernel_rfl) (by kernel_rfl) (fun _ _ _ h => h) (Or.inl ⟨by kernel_rfl, ?_⟩) hHeld ?_
        rotate_left
        · (intro w hSw; (try dsimp only at hSw); go_simp; try with_reducible rfl)
        try simp only [Act.put, List.setIfInBounds_toArray, List.set_cons_zero, List.set_cons_succ]
        refine wpAnyH_take (i := 1) (v := ?_) rfl (by kernel_rfl) (by kernel_rfl) (by kernel_rfl) (fun _ _ _ h => h) (Or.inl ⟨by kernel_rfl, ?_⟩) hHeld ?_
        rotate_left
        · (intro w hSw; (try dsimp only at hSw); go_simp; try with_reducible rfl)
        try simp only [Act.put, List.setIfInBounds_toArray, List.set_cons_zero, List.set_cons_succ]
        refine wpAnyH_take (i := 2) (v := ?_) rfl (by kernel_rfl) (by kernel_rfl) (by kernel_rfl) (fun _ _ _ h => h) (Or.inl ⟨by kernel_rfl, ?_⟩) hHeld ?_
        rotate_left
        · (intro w hSw; (try dsimp only at hSw); go_simp; try with_reducible rfl)
        try simp only [Act.put, List.setIfInBounds_toArray, List.set_cons_zero, List.set_cons_succ]
        refine wpAnyH_take (i := 3) (v := ?_) rfl (by kernel_rfl) (by kernel_rfl) (by kernel_rfl) (fun _ _ _ h => h) (Or.inl ⟨by kernel_rfl, ?_⟩) hHeld ?_
        rotate_left
        · (intro w hSw; (try dsimp only at hSw); go_simp; try with_reducible rfl)
        try simp only [Act.put, List.setIfInBounds_toArray, List.set_cons_zero, List.set_cons_succ]
        refine wpAnyH_ready (rs := [4]) (by kernel_rfl) (by simp) ?_
        refine AllReadyH.cons rfl (fun K hK => ?_) AllReadyH.nil
        go_simp
        have hde := deed_is (HDV.out.next F7.out F7.out.size) HKD.out.1 HKD.out.2; rw [HDE.out] at hde; unfold kyV at hde; refine hde.mono ?_; rintro e w8 ⟨rfl, hb⟩; have S8 := Lib.hid (S7.out.next hb); have ZK8 := Lib.hid (ZK7.out.next hb ZK7.out.lt); have az := S8.out.bx.cell 0; have a0 := ZK8.out.cell 0; have a1 := ZK8.out.cell 1; have a2 := ZK8.out.cell 2; have a3 := ZK8.out.cell 3; (simp only [List.getElem?_toArray, List.getElem?_cons_zero, List.getElem?_cons_succ] at az a0 a1 a2 a3); clear hb hde
        try (go_wp2_with fail)
        refine hK.out _ _ ?_ (fun hNew => ?_)
        · exact ⟨az, a0, a1, a2, a3⟩
        clear hK K hHeld
        have hHeld := hNew
        clear hNew
        try simp only [Act.put, List.setIfInBounds_toArray, List.set_cons_zero, List.set_cons_succ]
        refine wpAnyH_ready (rs := [5]) (by kernel_rfl) (by simp) ?_
        refine AllReadyH.cons rfl (fun K hK => ?_) AllReadyH.nil
        go_simp
        have hpf := perform_is S8.out.sm HPI.out; unfold kyV at hpf; refine hpf.mono ?_; rintro e w9 ⟨u1, u2, rfl, hna, hsm, hou⟩; obtain ⟨B1, d1, rfl, _⟩ := RdP.form hna.1; obtain ⟨B2, d2, rfl, _⟩ := RdP.form hna.2; obtain ⟨us8, zac8, _⟩ := S8.out.ac; have hsb := S8.out.sB; have FR9 := Lib.hid (show Below w5.heap.size w5 w9 from hou.below S8.out.fr.size (fun i hi => by rw [hi]; exact hsb) |> S8.out.fr.trans); have k9 := kept_out hou S8.out.sm; have BX9 := Lib.hid (S8.out.bx.keep k9 rfl); have ZA9 := Lib.hid (zac8.keep k9 rfl); have ZK9 := Lib.hid (ZK8.out.keep k9 rfl); have SM9 := Lib.hid hsm; have NA9 := Lib.hid hna; have bz := BX9.out.cell 0; have b0 := ZK9.out.cell 0; have b1 := ZK9.out.cell 1; have b2 := ZK9.out.cell 2; have b3 := ZK9.out.cell 3; (simp only [List.getElem?_toArray, List.getElem?_cons_zero, List.getElem?_cons_succ] at bz b0 b1 b2 b3); clear hna hsm hou zac8 k9 hpf hsb
        try (go_wp2_with fail)
        refine hK.out _ _ ?_ (fun hNew => ?_)
        · exact ⟨bz, b0, b1, b2, b3⟩
        clear hK K hHeld
        have hHeld := hNew
        clear hNew
        try simp only [Act.put, List.setIfInBounds_toArray, List.set_cons_zero, List.set_cons_succ]
        refine wpAnyH_done (by kernel_rfl) ?_ _
        refine lastQ_step rfl (fun K hK => ?_)
        clear hHeld
        have ZA9b := ZA9.out
        simp only [acA] at ZA9b
        have c0 := ZA9b.cell 0
        have c1 := ZA9b.cell 1
        have c2 := ZA9b.cell 2
        have c3 := ZA9b.cell 3
        have c4 := ZA9b.cell 4
        have c5 := ZA9b.cell 5
        simp only [List.getElem?_toArray, List.getElem?_cons_zero, List.getElem?_cons_succ] at c0 c1 c2 c3 c4 c5
        have f0 := ZA9b.frozen 0
        have f1 := ZA9b.frozen 1
        have f2 := ZA9b.frozen 2
        have f3 := ZA9b.frozen 3
        have f4 := ZA9b.frozen 4
        have f5 := ZA9b.frozen 5
        go_simp
        refine hK _ _ ?_
        clear hK K
        refine NoPanic.normal ?_
        have ZN := Lib.hid (set6_ (.int .i64 (prf st.1 kx dd).key.tick) (.int .i64 (prf st.1 kx dd).key.cls) (.int .i64 (prf st.1 kx dd).key.num) (.string (bs (prf st.1 kx dd).key.lin)) (.slice B1 (prf st.1 kx dd).reads.length d1) (.slice B2 (prf st.1 kx dd).writes.length d2) ZA9b)
        have hgr : w9.grownBy ((((((w9.setCell ⟨ab, 0, none⟩ (.int .i64 (prf st.1 kx dd).key.tick)).setCell ⟨ab, 1, none⟩ (.int .i64 (prf st.1 kx dd).key.cls)).setCell ⟨ab, 2, none⟩ (.int .i64 (prf st.1 kx dd).key.num)).setCell ⟨ab, 3, none⟩ (.string (bs (prf st.1 kx dd).key.lin))).setCell ⟨ab, 4, none⟩ (.slice B1 (prf st.1 kx dd).reads.length d1)).setCell ⟨ab, 5, none⟩ (.slice B2 (prf st.1 kx dd).writes.length d2)) (some ab) := only_six ab w9 (.int .i64 (prf st.1 kx dd).key.tick) (.int .i64 (prf st.1 kx dd).key.cls) (.int .i64 (prf st.1 kx dd).key.num) (.string (bs (prf st.1 kx dd).key.lin)) (.slice B1 (prf st.1 kx dd).reads.length d1) (.slice B2 (prf st.1 kx dd).writes.length d2)
        have k10 : Kept [59] w9 ((((((w9.setCell ⟨ab, 0, none⟩ (.int .i64 (prf st.1 kx dd).key.tick)).setCell ⟨ab, 1, none⟩ (.int .i64 (prf st.1 kx dd).key.cls)).setCell ⟨ab, 2, none⟩ (.int .i64 (prf st.1 kx dd).key.num)).setCell ⟨ab, 3, none⟩ (.string (bs (prf st.1 kx dd).key.lin))).setCell ⟨ab, 4, none⟩ (.slice B1 (prf st.1 kx dd).reads.length d1)).setCell ⟨ab, 5, none⟩ (.slice B2 (prf st.1 kx dd).writes.length d2)) := Kept.of_blk _ ZA9b hgr rfl
        have S10 := Lib.hid (show CS w w5 (.slice A ds.length c) ((((((w9.setCell ⟨ab, 0, none⟩ (.int .i64 (prf st.1 kx dd).key.tick)).setCell ⟨ab, 1, none⟩ (.int .i64 (prf st.1 kx dd).key.cls)).setCell ⟨ab, 2, none⟩ (.int .i64 (prf st.1 kx dd).key.num)).setCell ⟨ab, 3, none⟩ (.string (bs (prf st.1 kx dd).key.lin))).setCell ⟨ab, 4, none⟩ (.slice B1 (prf st.1 kx dd).reads.length d1)).setCell ⟨ab, 5, none⟩ (.slice B2 (prf st.1 kx dd).writes.length d2)) sb ab (nxtS st.1 kx dd, prf st.1 kx dd) from ⟨low6_ (.int .i64 (prf st.1 kx dd).key.tick) (.int .i64 (prf st.1 kx dd).key.cls) (.int .i64 (prf st.1 kx dd).key.num) (.string (bs (prf st.1 kx dd).key.lin)) (.slice B1 (prf st.1 kx dd).reads.length d1) (.slice B2 (prf st.1 kx dd).writes.length d2) FR9.out S8.out.aB, BX9.out.keep k10 rfl, SMap.same SM9.out (hgr.block sb SM9.out.lt (fun e => HNE.out.1 (by injection e))), ⟨(.slice B1 (prf st.1 kx dd).reads.length d1, .slice B2 (prf st.1 kx dd).writes.length d2), ZN.out.1, NAc.keep k10 rfl NA9.out⟩, S8.out.sB, S8.out.aB⟩)
        clear hgr k10 ZA9b
        clear c0 f0 c1 f1 c2 f2 c3 f3 c4 f4 c5 f5 a0 a1 a2 a3 az b0 b1 b2 b3 bz t0 t1 t2 t3 z0
        generalize ((((((w9.setCell ⟨ab, 0, none⟩ (.int .i64 (prf st.1 kx dd).key.tick)).setCell ⟨ab, 1, none⟩ (.int .i64 (prf st.1 kx dd).key.cls)).setCell ⟨ab, 2, none⟩ (.int .i64 (prf st.1 kx dd).key.num)).setCell ⟨ab, 3, none⟩ (.string (bs (prf st.1 kx dd).key.lin))).setCell ⟨ab, 4, none⟩ (.slice B1 (prf st.1 kx dd).reads.length d1)).setCell ⟨ab, 5, none⟩ (.slice B2 (prf st.1 kx dd).writes.length d2)) = w10 at *
        go_wp2_with fail
        go_roundw
        case rel => first | exact ⟨j + 1, HJM.out, by go_num, by rw [HC1.out]; exact S10.out⟩ | ((repeat apply Exists.intro); exact ⟨⟨j + 1, HJM.out, by go_num, by rw [HC1.out]; exact S10.out⟩, rfl⟩)
        case measure => have := HJM.out; simp [intOf]; omega
      · have j1 : decide ((j : Int) < (m : Int) + 1) = false := decide_eq_false (by omega)
        have j1b : decide (j < m + 1) = false := decide_eq_false hjm
        have hcl := HCL.out
        have hjle := HJ.out
        have hjc : j = C.length := by omega
        have HCX := Lib.hid (show (cauTo ds l C j).2 = l[t] by
          rw [hjc, (HCU.out C.length (Nat.le_refl _)).1]
          simp only
          rw [dif_pos ⟨by omega, Nat.le_refl _⟩]
          have h1 : C[C.length - 1]'(by omega) = (t : Int) := by
            have := HCE.out
            rw [← this]
            congr 1
            omega
          rw [h1, acG_at (by omega) (by omega)]
          rfl)
        obtain ⟨us, zac, hna⟩ := S.out.ac
        rw [HCX.out] at zac hna
        obtain ⟨xb, xo, v1, v2, rfl, hxb, hr1, hr2, _, _, _, _, y4, y5⟩ := RdAc.piece (HL5.out.next S.out.fr) ht
        obtain ⟨B1, d1, hus1, _⟩ := RdP.form hna.1
        obtain ⟨B2, d2, hus2, _⟩ := RdP.form hna.2
        have z4 := zac.cell 4
        have z5 := zac.cell 5
        simp only [acA, List.getElem?_toArray, List.getElem?_cons_zero, List.getElem?_cons_succ] at z4 z5
        have hlen1 : l[t].reads.length ≤ 1000 := Nat.le_trans (HR10.out _ (List.getElem_mem ht)) (by decide)
        have hlen2 : l[t].writes.length ≤ 1000 := Nat.le_trans (HR.out _ (List.getElem_mem ht)).2.2.2.2 (by decide)
        obtain ⟨at_, hat⟩ : ∃ a, l[t] = a := ⟨_, rfl⟩
        rw [hat] at hna hr1 hr2 hlen1 hlen2
        obtain ⟨u1, u2⟩ := us
        simp only at z4 z5 hna
        have NA := Lib.hid hna
        have R1 := Lib.hid hr1
        have R2 := Lib.hid hr2
        have ZAC := Lib.hid zac
        have HLN := Lib.hid (And.intro hlen1 hlen2)
        have HYY := Lib.hid (fun (W : World) (hW : Below wr.heap.size wr W) => And.intro ((hW.cell (p := ⟨ab, 4, none⟩) zac.lt).trans z4) (And.intro ((hW.cell (p := ⟨ab, 5, none⟩) zac.lt).trans z5) (And.intro ((hW.cell (p := ⟨xb, xo + t * 6 + 4, none⟩) hxb).trans y4) ((hW.cell (p := ⟨xb, xo + t * 6 + 5, none⟩) hxb).trans y5))))
        have HF6 := Lib.hid (HF5.out.trans (S.out.fr.mono HF5.out.size))
        clear hna hr1 hr2 zac hat hcl hjle hjc hus1 hus2 HCX
        go_upto_region 15 with (fail)
        refine wp_region_noPanic ?_
        refine wp_region_held_drew (S := (fun (w' : World) => w'.cell? ⟨ab, 4, none⟩ = some u1 ∧ w'.cell? ⟨ab, 5, none⟩ = some u2 ∧ w'.cell? ⟨xb, xo + t * 6 + 4, none⟩ = some v1 ∧ w'.cell? ⟨xb, xo + t * 6 + 5, none⟩ = some v2)) (by kernel_rfl) ?_ (fun hHeld => ?_)
        · exact HYY.out wr (Below.refl _ _)
        refine wpAnyH_take (i := 0) (v := ?_) rfl (by kernel_rfl) (by kernel_rfl) (by kernel_rfl) (fun _ _ _ h => h) (Or.inl ⟨by kernel_rfl, ?_⟩) hHeld ?_
        rotate_left
        · (intro w hSw; (try dsimp only at hSw); go_simp; try with_reducible rfl)
        try simp only [Act.put, List.setIfInBounds_toArray, List.set_cons_zero, List.set_cons_succ]
        refine wpAnyH_take (i := 1) (v := ?_) rfl (by kernel_rfl) (by kernel_rfl) (by kernel_rfl) (fun _ _ _ h => h) (Or.inl ⟨by kernel_rfl, ?_⟩) hHeld ?_
        rotate_left
        · (intro w hSw; (try dsimp only at hSw); go_simp; try with_reducible rfl)
        try simp only [Act.put, List.setIfInBounds_toArray, List.set_cons_zero, List.set_cons_succ]
        refine wpAnyH_take (i := 2) (v := ?_) rfl (by kernel_rfl) (by kernel_rfl) (by kernel_rfl) (fun _ _ _ h => h) (Or.inl ⟨by kernel_rfl, ?_⟩) hHeld ?_
        rotate_left
        · (intro w hSw; (try dsimp only at hSw); go_simp; try with_reducible rfl)
        try simp only [Act.put, List.setIfInBounds_toArray, List.set_cons_zero, List.set_cons_succ]
        refine wpAnyH_take (i := 3) (v := ?_) rfl (by kernel_rfl) (by kernel_rfl) (by kernel_rfl) (fun _ _ _ h => h) (Or.inl ⟨by kernel_rfl, ?_⟩) hHeld ?_
        rotate_left
        · (intro w hSw; (try dsimp only at hSw); go_simp; try with_reducible rfl)
        try simp only [Act.put, List.setIfInBounds_toArray, List.set_cons_zero, List.set_cons_succ]
        refine wpAnyH_take (i := 4) (v := ?_) rfl (by kernel_rfl) (by kernel_rfl) (by kernel_rfl) (fun _ _ _ h => h) (Or.inl ⟨by kernel_rfl, ?_⟩) hHeld ?_
        rotate_left
        · (intro w hSw; (try dsimp only at hSw); go_simp; try with_reducible rfl)
        try simp only [Act.put, List.setIfInBounds_toArray, List.set_cons_zero, List.set_cons_succ]
        refine wpAnyH_take (i := 5) (v := ?_) rfl (by kernel_rfl) (by kernel_rfl) (by kernel_rfl) (fun _ _ _ h => h) (Or.inl ⟨by kernel_rfl, ?_⟩) hHeld ?_
        rotate_left
        · (intro w hSw; (try dsimp only at hSw); go_simp; try with_reducible rfl)
        try simp only [Act.put, List.setIfInBounds_toArray, List.set_cons_zero, List.set_cons_succ]
        refine wpAnyH_take (i := 6) (v := ?_) rfl (by kernel_rfl) (by kernel_rfl) (by kernel_rfl) (fun _ _ _ h => h) (Or.inl ⟨by kernel_rfl, ?_⟩) hHeld ?_
        rotate_left
        · (intro w hSw; (try dsimp only at hSw); go_simp; try with_reducible rfl)
        try simp only [Act.put, List.setIfInBounds_toArray, List.set_cons_zero, List.set_cons_succ]
        refine wpAnyH_ready (rs := [7]) (by kernel_rfl) (by simp) ?_
        refine AllReadyH.cons rfl (fun K hK => ?_) AllReadyH.nil
        go_simp
        have hs := same_is (RdP.next NA.out.1 (Below.refl wr.heap.size wr).drew) (RdP.next R1.out (Below.refl wr.heap.size wr).drew) HLN.out.1 HLN.out.1; rw [show decide (at_.reads = at_.reads) = true from decide_eq_true rfl] at hs; refine hs.mono ?_; rintro e w8 ⟨rfl, hb⟩; have B8 := Lib.hid ((Below.refl wr.heap.size wr).drew.trans hb); obtain ⟨s4, s5, r4, r5⟩ := HYY.out w8 B8.out; clear hb hs
        try (go_wp2_with fail)
        refine hK.out _ _ ?_ (fun hNew => ?_)
        · exact ⟨s4, s5, r4, r5⟩
        clear hK K hHeld
        have hHeld := hNew
        clear hNew
        try simp only [Act.put, List.setIfInBounds_toArray, List.set_cons_zero, List.set_cons_succ]
        refine wpAnyH_take (i := 8) (v := ?_) rfl (by kernel_rfl) (by kernel_rfl) (by kernel_rfl) (fun _ _ _ h => h) (Or.inl ⟨by kernel_rfl, ?_⟩) hHeld ?_
        rotate_left
        · (intro w hSw; (try dsimp only at hSw); go_simp; try with_reducible rfl)
        try simp only [Act.put, List.setIfInBounds_toArray, List.set_cons_zero, List.set_cons_succ]
        refine wpAnyH_take (i := 9) (v := ?_) rfl (by kernel_rfl) (by kernel_rfl) (by kernel_rfl) (fun _ _ _ h => h) (Or.inl ⟨by kernel_rfl, ?_⟩) hHeld ?_
        rotate_left
        · (intro w hSw; (try dsimp only at hSw); go_simp; try with_reducible rfl)
        try simp only [Act.put, List.setIfInBounds_toArray, List.set_cons_zero, List.set_cons_succ]
        refine wpAnyH_take (i := 10) (v := ?_) rfl (by kernel_rfl) (by kernel_rfl) (by kernel_rfl) (fun _ _ _ h => h) (Or.inl ⟨by kernel_rfl, ?_⟩) hHeld ?_
        rotate_left
        · (intro w hSw; (try dsimp only at hSw); go_simp; try with_reducible rfl)
        try simp only [Act.put, List.setIfInBounds_toArray, List.set_cons_zero, List.set_cons_succ]
        refine wpAnyH_take (i := 11) (v := ?_) rfl (by kernel_rfl) (by kernel_rfl) (by kernel_rfl) (fun _ _ _ h => h) (Or.inl ⟨by kernel_rfl, ?_⟩) hHeld ?_
        rotate_left
        · (intro w hSw; (try dsimp only at hSw); go_simp; try with_reducible rfl)
        try simp only [Act.put, List.setIfInBounds_toArray, List.set_cons_zero, List.set_cons_succ]
        refine wpAnyH_take (i := 12) (v := ?_) rfl (by kernel_rfl) (by kernel_rfl) (by kernel_rfl) (fun _ _ _ h => h) (Or.inl ⟨by kernel_rfl, ?_⟩) hHeld ?_
        rotate_left
        · (intro w hSw; (try dsimp only at hSw); go_simp; try with_reducible rfl)
        try simp only [Act.put, List.setIfInBounds_toArray, List.set_cons_zero, List.set_cons_succ]
        refine wpAnyH_take (i := 13) (v := ?_) rfl (by kernel_rfl) (by kernel_rfl) (by kernel_rfl) (fun _ _ _ h => h) (Or.inl ⟨by kernel_rfl, ?_⟩) hHeld ?_
        rotate_left
        · (intro w hSw; (try dsimp only at hSw); go_simp; try with_reducible rfl)
        try simp only [Act.put, List.setIfInBounds_toArray, List.set_cons_zero, List.set_cons_succ]
        refine wpAnyH_take (i := 14) (v := ?_) rfl (by kernel_rfl) (by kernel_rfl) (by kernel_rfl) (fun _ _ _ h => h) (Or.inl ⟨by kernel_rfl, ?_⟩) hHeld ?_
        rotate_left
        · (intro w hSw; (try dsimp only at hSw); go_simp; try with_reducible rfl)
        try simp only [Act.put, List.setIfInBounds_toArray, List.set_cons_zero, List.set_cons_succ]
        refine wpAnyH_take (i := 15) (v := ?_) rfl (by kernel_rfl) (by kernel_rfl) (by kernel_rfl) (fun _ _ _ h => h) (Or.inl ⟨by kernel_rfl, ?_⟩) hHeld ?_
        rotate_left
        · (intro w hSw; (try dsimp only at hSw); go_simp; try with_reducible rfl)
        try simp only [Act.put, List.setIfInBounds_toArray, List.set_cons_zero, List.set_cons_succ]
        refine wpAnyH_ready (rs := [16]) (by kernel_rfl) (by simp) ?_
        refine AllReadyH.cons rfl (fun K hK => ?_) AllReadyH.nil
        go_simp
        have hs := same_is (RdP.next NA.out.2 B8.out) (RdP.next R2.out B8.out) HLN.out.2 HLN.out.2; rw [show decide (at_.writes = at_.writes) = true from decide_eq_true rfl] at hs; refine hs.mono ?_; rintro e w9 ⟨rfl, hb⟩; have B9 := Lib.hid (B8.out.trans (hb.mono B8.out.size)); obtain ⟨s6, s7, r6, r7⟩ := HYY.out w9 B9.out; clear hb hs
        try (go_wp2_with fail)
        refine hK.out _ _ ?_ (fun hNew => ?_)
        · exact ⟨s6, s7, r6, r7⟩
        clear hK K hHeld
        have hHeld := hNew
        clear hNew
        try simp only [Act.put, List.setIfInBounds_toArray, List.set_cons_zero, List.set_cons_succ]
        refine wpAnyH_take (i := 17) (v := ?_) rfl (by kernel_rfl) (by kernel_rfl) (by kernel_rfl) (fun _ _ _ h => h) (Or.inl ⟨by kernel_rfl, ?_⟩) hHeld ?_
        rotate_left
        · (intro w hSw; (try dsimp only at hSw); go_simp; try with_reducible rfl)
        try simp only [Act.put, List.setIfInBounds_toArray, List.set_cons_zero, List.set_cons_succ]
        refine wpAnyH_take (i := 18) (v := ?_) rfl (by kernel_rfl) (by kernel_rfl) (by kernel_rfl) (fun _ _ _ h => h) (Or.inl ⟨by kernel_rfl, ?_⟩) hHeld ?_
        rotate_left
        · (intro w hSw; (try dsimp only at hSw); go_simp; try with_reducible rfl)
        try simp only [Act.put, List.setIfInBounds_toArray, List.set_cons_zero, List.set_cons_succ]
        refine wpAnyH_done (by kernel_rfl) ?_ _
        clear hHeld
        try simp only [List.getElem_toArray, List.getElem_cons_zero, List.getElem_cons_succ, Act.put, List.setIfInBounds_toArray, List.set_cons_zero, List.set_cons_succ]
        refine NoPanic.normal ?_
        go_wp2_with fail
        go_ret
        exact ⟨rfl, HF6.out.trans (B9.out.mono HF6.out.size)⟩
  · by_cases h1 : ix < 0
    · have k1 : decide (ix < 0) = true := decide_eq_true h1
      go_wp2_with fail
      go_at_call 12
      refine (known47_is _).mono ?_
      rintro e w5 ⟨rfl, hb⟩
      have HF5 := Lib.hid (HF4.out.trans (hb.mono HF4.out.size))
      clear hb
      go_wp2_with fail
      go_ret
      exact ⟨rfl, HF5.out⟩
    · have k1 : decide (ix < 0) = false := decide_eq_false h1
      have k2 : decide ((l.length : Int) ≤ ix) = true := decide_eq_true (by omega)
      go_wp2_with fail
      go_at_call 12
      refine (known47_is _).mono ?_
      rintro e w5 ⟨rfl, hb⟩
      have HF5 := Lib.hid (HF4.out.trans (hb.mono HF4.out.size))
      clear hb
      go_wp2_with fail
      go_ret
      exact ⟨rfl, HF5.out⟩
theorem law_causes_at (w : World) {u : Value} {ds : List De} (hd : DeAt w.heap.size w u ds) (a : Int) (ha : (Lit.int .i64 a).wf = true) : Calls Try.prog 5 #[.agg #[u], .int .i64 a] w fun e w' => e = .returned (.bool true) ∧ Below w.heap.size w w' := law_causes hd a ha
end Go.Proofs.Ytmjkcanjfjfkfaa
