/- Walks of layer 46: the reference: before. -/
import Derived.Test.YtobkmkplhbaepaaDoorGQ
import Derived.Test.YtobkmkplhbaepaaDoorGB
namespace Go.Proofs.YtobkmkplhbaepaaDoor
open Go.RowKit
set_option linter.unusedSimpArgs false
set_option linter.unusedVariables false
attribute [local go_sem ↓] Go.wp_at_zero Go.wp_at_succ
def veA (v : Ver) : Array Value := #[.int .i64 v.idx, .string (bs v.value), .bool v.absent]
def RBef (v0 : Ver) (vs : List Ver) (t : Int) (w : World) (i : Value) (wr : World) : Prop :=
  ∃ k : Nat, k ≤ vs.length ∧ i = .int .i64 ((k + 1 : Nat) : Int) ∧ Below w.heap.size w wr ∧
    Blk wr w.heap.size 54 (veA ⟨0, [], false⟩) ∧ Blk wr (w.heap.size + 1) 54 (veA (befr t v0 (vs.take k)))
set_option maxRecDepth 100000 in
theorem rbefore_is {w : World} {v : Value} {v0 : Ver} {vs : List Ver} (t : Int) (h : RdVe w v (v0 :: vs)) (hl : vs.length ≤ 100000) : Calls Tryd.prog 15 #[v, .int .i64 t] w (VerP (befr t v0 vs) w) := by
  obtain ⟨A, c, rfl, hc⟩ := RdP.form h
  obtain ⟨b, o, hbe, hbw, y0, y1, y2⟩ := RdVe.piece h (k := 0) (by simp)
  subst hbe
  simp only [List.getElem_cons_zero, Nat.zero_mul, Nat.add_zero] at y0 y1 y2
  have hl1 : (v0 :: vs).length = vs.length + 1 := by simp
  have ha := ((Below.refl w.heap.size w).alloc (Nat.le_refl _) (.cells (veA ⟨0, [], false⟩) 54)).alloc (by simp) (.cells (veA v0) 54)
  have b4 := (Blk.new w 54 (veA ⟨0, [], false⟩)).alloc (.cells (veA v0) 54)
  have b5 := Blk.new (w.alloc (.cells (veA ⟨0, [], false⟩) 54)) 54 (veA v0)
  rw [World.size_alloc] at b5
  have HH := Lib.hid (RdP.next h ha)
  have H0 : Hid (RBef v0 vs t w (.int .i64 (1 : Nat)) ((w.alloc (.cells (veA ⟨0, [], false⟩) 54)).alloc (.cells (veA v0) 54))) := Lib.hid ⟨0, Nat.zero_le _, rfl, ha, b4, by simpa [befr] using b5⟩
  have HSZ : Hid (((w.alloc (.cells (veA ⟨0, [], false⟩) 54)).alloc (.cells (veA v0) 54)).heap.size = w.heap.size + 2) := Lib.hid (by simp)
  have HBW : Hid (b < w.heap.size) := Lib.hid hbw
  have HRD := Lib.hid h
  clear h ha b4 b5
  simp only [veA] at H0 HH HSZ
  go_enter Tryd.func15, Tryd.ntmps15
  go_wp2
  go_loopw [6] (fun i wr => RBef v0 vs t w i wr) (fun i _ => vs.length + 1 - (intOf i).toNat)
  case atStart => exact H0.out
  case round =>
    clear H0 y0 y1 y2
    obtain ⟨k, hkl, rfl, hbw2, hb4, hb5⟩ := hrel
    have HB := Lib.hid hbw2
    have H4 := Lib.hid hb4
    have H5 := Lib.hid hb5
    clear hbw2 hb4
    by_cases hk : k < vs.length
    · obtain ⟨b', o', hbe, hbr, y0, y1, y2⟩ := RdVe.piece (RdP.next HRD.out HB.out) (k := k + 1) (by simp; omega)
      injection hbe with hbe
      injection hbe with e1 e2
      subst e1 e2
      simp only [List.getElem_cons_succ] at y0 y1 y2
      have j1 : (((k + 1 : Nat) : Int)) < (((v0 :: vs).length : Nat) : Int) := by simp; omega
      have j2 : (0 : Int) ≤ ((k + 1 : Nat) : Int) := by omega
      have j3 : decide (((k + 1 : Nat) : Int) < (((v0 :: vs).length : Nat) : Int)) = true := decide_eq_true j1
      have HT := Lib.hid (befr_take t v0 vs k hk)
      obtain ⟨x, hx⟩ : ∃ x, vs[k] = x := ⟨_, rfl⟩
      rw [hx] at y0 y1 y2 HT
      obtain ⟨z, hz⟩ : ∃ z, befr t v0 (vs.take k) = z := ⟨_, rfl⟩
      rw [hz] at hb5 HT H5
      simp only [veA] at hb5
      have q0 := hb5.cell 0
      have q1 := hb5.cell 1
      have q2 := hb5.cell 2
      have f0 := hb5.frozen 0
      have f1 := hb5.frozen 1
      have f2 := hb5.frozen 2
      simp only [List.getElem?_toArray, List.getElem?_cons_zero, List.getElem?_cons_succ] at q0 q1 q2
      clear hx hz hb5
      by_cases ht : x.idx < t
      · have g1 : decide (x.idx < t) = true := decide_eq_true ht
        have HE := Lib.hid ht
        clear ht
        go_wp2_with fail
        go_roundw
        case rel =>
          refine ⟨k + 1, by omega, by go_num, ((HB.out.setCell (p := ⟨w.heap.size + 1, 0, none⟩) (by simp) _).setCell (p := ⟨w.heap.size + 1, 1, none⟩) (by simp) _).setCell (p := ⟨w.heap.size + 1, 2, none⟩) (by simp) _, ?_, ?_⟩
          · exact ((H4.out.far (by simp) _).far (by simp) _).far (by simp) _
          · rw [HT.out, if_pos HE.out]
            have := ((H5.out.set_ 0 (.int .i64 x.idx)).set_ 1 (.string (bs x.value))).set_ 2 (.bool x.absent)
            simpa [veA] using this
        case measure => simp [intOf]; omega
      · have g1 : decide (x.idx < t) = false := decide_eq_false ht
        have HE := Lib.hid ht
        clear ht
        go_wp2_with fail
        go_roundw
        case rel =>
          refine ⟨k + 1, by omega, by go_num, HB.out, H4.out, ?_⟩
          rw [HT.out, if_neg HE.out]
          exact H5.out
        case measure => simp [intOf]; omega
    · have j3 : decide (((k + 1 : Nat) : Int) < (((v0 :: vs).length : Nat) : Int)) = false := decide_eq_false (by simp; omega)
      have HK := Lib.hid (show vs.take k = vs by rw [List.take_of_length_le (by omega)])
      rw [HK.out] at hb5
      simp only [veA] at hb5
      have q0 := hb5.cell 0
      have q1 := hb5.cell 1
      have q2 := hb5.cell 2
      simp only [List.getElem?_toArray, List.getElem?_cons_zero, List.getElem?_cons_succ] at q0 q1 q2
      have b4 := H4.out
      simp only [veA] at b4
      have r0 := b4.cell 0
      have r1 := b4.cell 1
      have r2 := b4.cell 2
      have f0 := b4.frozen 0
      have f1 := b4.frozen 1
      have f2 := b4.frozen 2
      simp only [List.getElem?_toArray, List.getElem?_cons_zero, List.getElem?_cons_succ] at r0 r1 r2
      obtain ⟨z, hz⟩ : ∃ z, befr t v0 vs = z := ⟨_, rfl⟩
      rw [hz] at q0 q1 q2
      have HZ := Lib.hid hz
      clear hz hb5 b4
      go_wp2_with fail
      exact bodyPost_ret (v := veV z) (by simp [results, Tryd.results15, go_sem, r0, r1, r2, veV]) rfl ⟨by rw [HZ.out], ((HB.out.setCell (p := ⟨w.heap.size, 0, none⟩) (Nat.le_refl _) _).setCell (p := ⟨w.heap.size, 1, none⟩) (Nat.le_refl _) _).setCell (p := ⟨w.heap.size, 2, none⟩) (Nat.le_refl _) _⟩
end Go.Proofs.YtobkmkplhbaepaaDoor
/- Walks of layer 46: the reference: of. -/
namespace Go.Proofs.YtobkmkplhbaepaaDoor
open Go.RowKit
set_option linter.unusedSimpArgs false
set_option linter.unusedVariables false
attribute [local go_sem ↓] Go.wp_at_zero Go.wp_at_succ
def ROf (s0 : St) (l : List Ac) (n : Nm) (W : World) (v i : Value) (wr : World) : Prop := ∃ k : Nat, k ≤ l.length ∧ i = .int .i64 k ∧ OwnP 54 3 veC wr W.heap.size v (ver0 s0 n :: vers n 0 (l.take k)) ∧ Below W.heap.size W wr
def ROfIn (s0 : St) (l : List Ac) (n : Nm) (k : Nat) (ws : List Ch) (W : World) (v i : Value) (wr : World) : Prop := ∃ m : Nat, m ≤ ws.length ∧ i = .int .i64 m ∧ OwnP 54 3 veC wr W.heap.size v (ver0 s0 n :: versT (l.take k) (ws.take m) n) ∧ Below W.heap.size W wr
/-- What the reference wants of the actions. -/
structure LOk (l : List Ac) : Prop where
  r : ∀ a ∈ l, AcR a
  len : l.length ≤ 100
theorem veC_one (l : List Ver) : ∀ u ∈ l.flatMap veC, u.oneCell' = true := by
  intro u hu
  obtain ⟨x, _, hx⟩ := List.mem_flatMap.1 hu
  simp [veC] at hx
  rcases hx with rfl | rfl | rfl <;> rfl
set_option maxRecDepth 100000 in
set_option maxHeartbeats 2000000 in
theorem rof_is {w : World} {p : Option Addr} {s0 : St} {v : Value} {l : List Ac} {n : Nm} (hb : StAt w p s0) (hv : RdAc w v l) (hn : OwnE n) (ho : LOk l) : Calls Tryd.prog 16 #[.pointer p, v, nmV n] w (OfP (verL s0 l n) w) := by
  obtain ⟨A, c, rfl, hc⟩ := RowRd.form hv
  have ha := (Below.refl w.heap.size w).alloc (Nat.le_refl _) (.cells #[.int .i64 n.kind, .string (bs n.owner), .int .i64 n.num, .int .i64 n.idx, .string (bs n.text)] 40)
  have hz : w.heap.size < (w.alloc (.cells #[.int .i64 n.kind, .string (bs n.owner), .int .i64 n.num, .int .i64 n.idx, .string (bs n.text)] 40)).heap.size := by simp
  have zb := Blk.new w 40 #[.int .i64 n.kind, .string (bs n.owner), .int .i64 n.num, .int .i64 n.idx, .string (bs n.text)]
  have HNB := Lib.hid zb
  have z0 := zb.cell 0
  have z1 := zb.cell 1
  have z2 := zb.cell 2
  have z3 := zb.cell 3
  have z4 := zb.cell 4
  simp only [List.getElem?_toArray, List.getElem?_cons_zero, List.getElem?_cons_succ] at z0 z1 z2 z3 z4
  have HB := Lib.hid (hb.next ha)
  have HV := Lib.hid (RdAc.next hv ha)
  have HA := Lib.hid ha
  have HVV := Lib.hid (show verL s0 l n = ver0 s0 n :: vers n 0 l from rfl)
  have hlen := ho.len
  have HO := Lib.hid ho
  obtain ⟨i0, hi, hz0, hz1, hz2⟩ := info_parts infoVe
  clear hb hv ha zb
  go_enter Tryd.func16, Tryd.ntmps16
  simp only [nmV, nmA]
  go_upto_region 1 with (fail)
  generalize w.alloc (.cells #[.int .i64 n.kind, .string (bs n.owner), .int .i64 n.num, .int .i64 n.idx, .string (bs n.text)] 40) = W at *
  generalize hcb : w.heap.size = cb at *
  have HCB := Lib.hid hcb
  clear hcb
  obtain ⟨zz, hzz⟩ : ∃ z, look cmpN n s0 = z := ⟨_, rfl⟩
  have HZ := Lib.hid hzz
  have HV0 := Lib.hid (show ver0 s0 n = ⟨-1, zz.getD [], zz.isNone⟩ by unfold ver0; rw [hzz])
  clear hzz
  go_upto_region 2 with (go_at_call 42; refine (get_is (n := n) HB.out hn).mono ?_)
  rintro e w2 ⟨rfl, hb2⟩
  rw [HZ.out]
  have HB2 := Lib.hid hb2
  have hsz2 : W.heap.size ≤ w2.heap.size := hb2.size
  have HOW0 := Lib.hid (own_new w2 W.heap.size 54 3 [.int .i64 (-1), .string (bs (zz.getD [])), .bool zz.isNone] rfl hsz2)
  have H0 : Hid (ROf s0 l n W (.slice (some ⟨w2.heap.size, 0, none⟩) 1 1) (.int .i64 (0 : Nat)) (w2.alloc (.cells #[.int .i64 (-1), .string (bs (zz.getD [])), .bool zz.isNone] 54))) :=
    Lib.hid ⟨0, Nat.zero_le _, rfl, by rw [HV0.out]; exact HOW0.out, hb2.alloc hsz2 _⟩
  clear hb2 HOW0
  go_wp2_with fail
  go_loopw [9, 10] (fun v i wr => ROf s0 l n W v i wr) (fun _ i _ => l.length - (intOf i).toNat)
  case atStart => exact H0.out
  case round =>
    clear H0 hsz2
    obtain ⟨k, hkl, rfl, how, hbw⟩ := hrel
    have HOW := Lib.hid how
    have HBW := Lib.hid hbw
    obtain ⟨A9, c9, rfl, hc9⟩ := own_len how
    clear how hbw
    by_cases hk : k < l.length
    · have j1 : (0 : Int) ≤ (k : Int) := by omega
      have j2 : (k : Int) < (l.length : Int) := by omega
      have j3 : decide ((k : Int) < (l.length : Int)) = true := decide_eq_true j2
      obtain ⟨b, o, u1, u2, hbe, hbW, n1, n2, y0, y1, y2, y3, y4, y5⟩ := RdAc.piece HV.out hk
      subst hbe
      obtain ⟨a, hae⟩ : ∃ a, l[k] = a := ⟨_, rfl⟩
      rw [hae] at n1 n2
      have HAE := Lib.hid hae
      obtain ⟨A2, c2, rfl, hc2⟩ := RdP.form n2
      have N2 := Lib.hid n2
      have hwl : a.writes.length ≤ 10 := by rw [← hae]; exact (HO.out.r _ (List.getElem_mem hk)).2.2.2.2
      have HTK := Lib.hid (show l.take (k + 1) = l.take k ++ [a] by rw [List.take_succ_eq_append_getElem hk, hae])
      have HTL := Lib.hid (show (l.take k).length = k by rw [List.length_take]; omega)
      have hvl : (vers n 0 (l.take k)).length ≤ k * 10 := by
        have h1 := vers_len n 0 (l.take k) fun a ha => (HO.out.r a (List.mem_of_mem_take ha)).2.2.2.2
        rw [HTL.out] at h1
        exact h1
      have H0 : Hid (ROfIn s0 l n k a.writes W (.slice A9 (ver0 s0 n :: vers n 0 (l.take k)).length c9) (.int .i64 (0 : Nat)) wr) := Lib.hid ⟨0, Nat.zero_le _, rfl, by simpa [versT_nil] using HOW.out, HBW.out⟩
      clear hae n1 n2 y0 y1 y2 y3 y4
      go_wp2_with fail
      go_loopw [9, 11] (fun v i wr => ROfIn s0 l n k a.writes W v i wr) (fun _ i _ => a.writes.length - (intOf i).toNat)
      case atStart => exact H0.out
      case round =>
        clear H0
        obtain ⟨m, hml, rfl, how2, hbw2⟩ := hrel
        have HOW2 := Lib.hid how2
        have HBI := Lib.hid hbw2
        obtain ⟨A3, c3, rfl, hc3⟩ := own_len how2
        have x5 := (hbw2.cell (p := ⟨b, o + k * 6 + 5, none⟩) hbW).trans y5
        have q0 := (hbw2.cell (p := ⟨cb, 0, none⟩) hz).trans z0
        have q1 := (hbw2.cell (p := ⟨cb, 1, none⟩) hz).trans z1
        have q2 := (hbw2.cell (p := ⟨cb, 2, none⟩) hz).trans z2
        have q3 := (hbw2.cell (p := ⟨cb, 3, none⟩) hz).trans z3
        have q4 := (hbw2.cell (p := ⟨cb, 4, none⟩) hz).trans z4
        have hcr : cb < wr.heap.size := Nat.lt_of_lt_of_le hz hbw2.size
        have hvt : (ver0 s0 n :: versT (l.take k) (a.writes.take m) n).length ≤ 2000 := by
          have := filt_len (a.writes.take m) n
          rw [List.length_take] at this
          simp only [versT, List.length_cons, List.length_append, List.length_map]
          omega
        clear how2 hbw2
        by_cases hm : m < a.writes.length
        · have j4 : (0 : Int) ≤ (m : Int) := by omega
          have j5 : (m : Int) < (a.writes.length : Int) := by omega
          have j6 : decide ((m : Int) < (a.writes.length : Int)) = true := decide_eq_true j5
          obtain ⟨b2, o2, hbe, hbr2, t0, t1, t2, t3, t4, t5, t6⟩ := RdCh.piece (RdP.next N2.out HBI.out) hm
          subst hbe
          have HTT := Lib.hid (versT_take (l.take k) a.writes m hm n)
          rw [HTL.out] at HTT
          obtain ⟨ch, hch⟩ : ∃ ch, a.writes[m] = ch := ⟨_, rfl⟩
          rw [hch] at t0 t1 t2 t3 t4 t5 t6 HTT
          clear hch
          obtain ⟨bq, hbq⟩ : ∃ bq, decide (ch.name = n) = bq := ⟨_, rfl⟩
          go_upto_region 10 with (fail)
          have hbd := (Below.refl wr.heap.size wr).alloc (Nat.le_refl _) (.cells #[.int .i64 ch.name.kind, .string (bs ch.name.owner), .int .i64 ch.name.num, .int .i64 ch.name.idx, .string (bs ch.name.text), .string (bs ch.value), .bool ch.absent] 52)
          have zb := Blk.new wr 52 #[.int .i64 ch.name.kind, .string (bs ch.name.owner), .int .i64 ch.name.num, .int .i64 ch.name.idx, .string (bs ch.name.text), .string (bs ch.value), .bool ch.absent]
          have HBD := Lib.hid hbd
          have hzz : wr.heap.size < (wr.alloc (.cells #[.int .i64 ch.name.kind, .string (bs ch.name.owner), .int .i64 ch.name.num, .int .i64 ch.name.idx, .string (bs ch.name.text), .string (bs ch.value), .bool ch.absent] 52)).heap.size := by simp
          have v0 := zb.cell 0
          have v1 := zb.cell 1
          have v2 := zb.cell 2
          have v3 := zb.cell 3
          have v4 := zb.cell 4
          have v5 := zb.cell 5
          have v6 := zb.cell 6
          simp only [List.getElem?_toArray, List.getElem?_cons_zero, List.getElem?_cons_succ] at v0 v1 v2 v3 v4 v5 v6
          have r0 := (hbd.cell (p := ⟨cb, 0, none⟩) hcr).trans q0
          have r1 := (hbd.cell (p := ⟨cb, 1, none⟩) hcr).trans q1
          have r2 := (hbd.cell (p := ⟨cb, 2, none⟩) hcr).trans q2
          have r3 := (hbd.cell (p := ⟨cb, 3, none⟩) hcr).trans q3
          have r4 := (hbd.cell (p := ⟨cb, 4, none⟩) hcr).trans q4
          have HOW3 := Lib.hid (OwnP.next HOW2.out hbd)
          have HBB := Lib.hid (HBI.out.trans (hbd.mono HBI.out.size))
          clear t0 t1 t2 t3 t4 t5 t6 hbd zb q0 q1 q2 q3 q4 x5 HOW2
          generalize wr.alloc (.cells #[.int .i64 ch.name.kind, .string (bs ch.name.owner), .int .i64 ch.name.num, .int .i64 ch.name.idx, .string (bs ch.name.text), .string (bs ch.value), .bool ch.absent] 52) = wd at *
          generalize wr.heap.size = cd at *
          have he := fun W => eqlNm ch.name n bq hbq W
          have hg := guardNm
          unfold nmV nmA at he
          obtain ⟨dl, hdl⟩ : ∃ dl, ver0 s0 n :: versT (l.take k) (a.writes.take m) n = dl := ⟨_, rfl⟩
          have HDL := Lib.hid hdl
          rw [hdl] at HOW3 hvt hc3 ⊢
          clear hdl
          cases bq with
          | true =>
            have HNE := Lib.hid (of_decide_eq_true hbq)
            clear hbq
            go_wp2_with (at_builtin; refine wpList_append_w _ rfl _ _ _ rfl W.heap.size 54 i0 _ 3 32 Tryd.underlying56 hi hz0 hz1 hz2 rfl (by omega) (.slice A3 dl.length c3) dl.length (dl.flatMap veC) rfl (own_next HOW3.out ((Below.refl _ _).alloc (Nat.le_refl _) _)) (.slice (some ⟨wd.heap.size, 0, none⟩) 1 1) 1 [.int .i64 k, .string (bs ch.value), .bool ch.absent] rfl (Rd.of_own (own_new wd 0 54 3 [.int .i64 k, .string (bs ch.value), .bool ch.absent] rfl (Nat.zero_le _))) (by omega) rfl (by simp [Value.oneCell']) (by unfold maxLen; omega) (by omega) (by have := HBB.out.size; simp at this ⊢; omega) ?_; intro v5 w5 hown5 hg5 hat5; have HOW5 := Lib.hid hown5; have HG5 := Lib.hid hg5; clear hown5 hg5 hat5)
            go_roundw
            case rel =>
              have hbe : Below W.heap.size W w5 := below_own (HBB.out.alloc HBB.out.size (.cells #[.int .i64 k, .string (bs ch.value), .bool ch.absent] 54)) (own_next HOW3.out ((Below.refl _ _).alloc (Nat.le_refl _) _)) HG5.out (Nat.le_refl _) (by have := HBB.out.size; simp at this ⊢; omega)
              refine ⟨m + 1, by omega, by go_num, ?_, hbe⟩
              rw [HTT.out, if_pos HNE.out.symm, HNE.out, ← List.cons_append, HDL.out]
              exact OwnP.snoc HOW5.out
            case measure => simp [intOf]; omega
          | false =>
            have HNE := Lib.hid (of_decide_eq_false hbq)
            clear hbq
            go_wp2_with fail
            go_roundw
            case rel =>
              refine ⟨m + 1, by omega, by go_num, ?_, HBB.out⟩
              rw [HTT.out, if_neg (fun e => HNE.out e.symm), HDL.out]
              exact HOW3.out
            case measure => simp [intOf]; omega
        · have j6 : decide ((m : Int) < (a.writes.length : Int)) = false := decide_eq_false (by omega)
          have HI2 := Lib.hid (show m = a.writes.length by omega)
          go_wp2
          go_roundw
          case rel =>
            refine ⟨k + 1, by omega, by go_num, ?_, HBI.out⟩
            have e : vers n 0 (l.take (k + 1)) = versT (l.take k) (a.writes.take m) n := by rw [HTK.out, ← versT_all, HI2.out, List.take_length]
            rw [e]
            exact HOW2.out
          case measure => simp [intOf]; omega
    · have j3 : decide ((k : Int) < (l.length : Int)) = false := decide_eq_false (by omega)
      have HK := Lib.hid (show l.take k = l from List.take_of_length_le (by omega))
      go_wp2
      go_ret
      exact ⟨_, rfl, by rw [HCB.out]; have h := own_base HOW.out (Nat.le_of_lt hz); rw [HK.out] at h ⊢; exact h, by rw [HCB.out]; exact HA.out.trans (HBW.out.mono (Nat.le_of_lt hz))⟩
end Go.Proofs.YtobkmkplhbaepaaDoor
/- Walks of layer 46: the reference: readers. -/
namespace Go.Proofs.YtobkmkplhbaepaaDoor
open Go.RowKit
set_option linter.unusedSimpArgs false
set_option linter.unusedVariables false
attribute [local go_sem ↓] Go.wp_at_zero Go.wp_at_succ
/-- What the reference's readers answers. -/
def RRdP (s0 : St) (l : List Ac) (n : Nm) (t : Int) (w : World) (e : Ending) (w' : World) : Prop := ∃ v, e = .returned (.tuple #[v, .int .i64 (refR s0 l n t).1]) ∧ OwnP 3 1 inC w' w.heap.size v (refR s0 l n t).2 ∧ Below w.heap.size w w'
def RHas (vl : List Ver) (t : Int) (wc : World) (v i : Value) (wr : World) : Prop := ∃ k : Nat, k ≤ vl.length ∧ i = .int .i64 k ∧ v = .bool (hasI (vl.take k) t) ∧ wr = wc
def RRdO (l : List Ac) (n : Nm) (F : Int → Bool) (wc : World) (v i : Value) (wr : World) : Prop := ∃ k : Nat, k ≤ l.length ∧ i = .int .i64 k ∧ OwnP 3 1 inC wr wc.heap.size v ((rdrs n 0 (l.take k)).filter F) ∧ Below wc.heap.size wc wr
def RRdI (l : List Ac) (n : Nm) (F : Int → Bool) (k : Nat) (rs : List Ch) (wc : World) (v i : Value) (wr : World) : Prop := ∃ m : Nat, m ≤ rs.length ∧ i = .int .i64 m ∧ OwnP 3 1 inC wr wc.heap.size v ((rdrsT (l.take k) (rs.take m) n).filter F) ∧ Below wc.heap.size wc wr
theorem verL_len (s0 : St) (l : List Ac) (n : Nm) (h : LOk l) : (vers n 0 l).length ≤ 1000 := by
  have := vers_len n 0 l fun a ha => (h.r a ha).2.2.2.2
  have := h.len
  omega
set_option maxRecDepth 100000 in
set_option maxHeartbeats 4000000 in
theorem rreaders_is {w : World} {p : Option Addr} {s0 : St} {v : Value} {l : List Ac} {n : Nm} (t : Int) (hb : StAt w p s0) (hv : RdAc w v l) (hn : OwnE n) (ho : LOk l) : Calls Tryd.prog 14 #[.pointer p, v, nmV n, .int .i64 t] w (RRdP s0 l n t w) := by
  obtain ⟨A, c, rfl, hc⟩ := RowRd.form hv
  have ha := (Below.refl w.heap.size w).alloc (Nat.le_refl _) (.cells #[.int .i64 n.kind, .string (bs n.owner), .int .i64 n.num, .int .i64 n.idx, .string (bs n.text)] 40)
  have hz : w.heap.size < (w.alloc (.cells #[.int .i64 n.kind, .string (bs n.owner), .int .i64 n.num, .int .i64 n.idx, .string (bs n.text)] 40)).heap.size := by simp
  have zb := Blk.new w 40 #[.int .i64 n.kind, .string (bs n.owner), .int .i64 n.num, .int .i64 n.idx, .string (bs n.text)]
  have z0 := zb.cell 0
  have z1 := zb.cell 1
  have z2 := zb.cell 2
  have z3 := zb.cell 3
  have z4 := zb.cell 4
  simp only [List.getElem?_toArray, List.getElem?_cons_zero, List.getElem?_cons_succ] at z0 z1 z2 z3 z4
  have HB := Lib.hid (hb.next ha)
  have HV := Lib.hid (RdAc.next hv ha)
  have HA := Lib.hid ha
  have hlen := ho.len
  have HO := Lib.hid ho
  obtain ⟨i0, hi, hz0, hz1, hz2⟩ := info_parts infoIn
  have hvl := verL_len s0 l n ho
  clear hb hv ha zb
  go_enter Tryd.func14, Tryd.ntmps14
  simp only [nmV, nmA]
  go_upto_region 1 with (fail)
  generalize w.alloc (.cells #[.int .i64 n.kind, .string (bs n.owner), .int .i64 n.num, .int .i64 n.idx, .string (bs n.text)] 40) = W at *
  generalize hcb : w.heap.size = cb at *
  have HCB := Lib.hid hcb
  clear hcb
  by_cases hr1 : t < -1
  · have k1 : decide (t < -1) = true := decide_eq_true hr1
    have HE := Lib.hid (show refR s0 l n t = (2, []) by unfold refR; rw [if_pos (.inl hr1)])
    clear hr1
    go_wp2_with fail
    go_ret2
    exact ⟨_, by rw [HE.out]; rfl, by rw [HE.out]; exact OwnP.nil, by rw [HCB.out]; exact HA.out⟩
  · have k1 : decide (t < -1) = false := decide_eq_false hr1
    by_cases hr2 : (l.length : Int) ≤ t
    · have k2 : decide ((l.length : Int) ≤ t) = true := decide_eq_true hr2
      have HE := Lib.hid (show refR s0 l n t = (2, []) by unfold refR; rw [if_pos (.inr hr2)])
      have HR1 := Lib.hid hr1
      clear hr1 hr2
      go_wp2_with fail
      go_ret2
      exact ⟨_, by rw [HE.out]; rfl, by rw [HE.out]; exact OwnP.nil, by rw [HCB.out]; exact HA.out⟩
    · have k2 : decide ((l.length : Int) ≤ t) = false := decide_eq_false hr2
      have HRR := Lib.hid (show ¬ (t < -1 ∨ (l.length : Int) ≤ t) from fun h => h.elim hr1 hr2)
      clear hr1 hr2
      go_wp2_with (go_at_call 16; refine (rof_is (n := n) HB.out HV.out hn HO.out).mono ?_)
      rintro e w2 ⟨vv, rfl, hov, hb2⟩
      clear k1 k2
      have HB2 := Lib.hid hb2
      have HOV := Lib.hid (OwnP.rd hov)
      have HV2 := Lib.hid (RdAc.next HV.out hb2)
      obtain ⟨Av, cv, hve, hcv⟩ := own_len hov
      subst hve
      have q0 := (hb2.cell (p := ⟨cb, 0, none⟩) hz).trans z0
      have q1 := (hb2.cell (p := ⟨cb, 1, none⟩) hz).trans z1
      have q2 := (hb2.cell (p := ⟨cb, 2, none⟩) hz).trans z2
      have q3 := (hb2.cell (p := ⟨cb, 3, none⟩) hz).trans z3
      have q4 := (hb2.cell (p := ⟨cb, 4, none⟩) hz).trans z4
      have hcb2 : cb < w2.heap.size := Nat.lt_of_lt_of_le hz hb2.size
      clear hov hb2 z0 z1 z2 z3 z4
      obtain ⟨v0, hv0⟩ : ∃ x, ver0 s0 n = x := ⟨_, rfl⟩
      obtain ⟨vs, hvs⟩ : ∃ x, vers n 0 l = x := ⟨_, rfl⟩
      have HVL := Lib.hid (show verL s0 l n = v0 :: vs by unfold verL; rw [hv0, hvs])
      have HRE := Lib.hid (show refR s0 l n t = if hasI (v0 :: vs) t then (0, (rdrs n 0 l).filter (refF v0 vs t)) else (8, []) by
        unfold refR
        rw [if_neg HRR.out, HVL.out, hv0, hvs])
      rw [HVL.out] at HOV hcv ⊢
      rw [hvs] at hvl
      have hl1 : (v0 :: vs).length = vs.length + 1 := by simp
      have H0 : Hid (RHas (v0 :: vs) t w2 (.bool false) (.int .i64 (0 : Nat)) w2) := Lib.hid ⟨0, Nat.zero_le _, rfl, rfl, rfl⟩
      clear hv0 hvs
      go_wp2_with fail
      go_loopw [11, 12] (fun v i wr => RHas (v0 :: vs) t w2 v i wr) (fun _ i _ => (v0 :: vs).length - (intOf i).toNat)
      case atStart => exact H0.out
      case round =>
        clear H0
        obtain ⟨k, hkl, rfl, rfl, hw⟩ := hrel
        subst hw
        obtain ⟨hs, hhs⟩ : ∃ x, hasI ((v0 :: vs).take k) t = x := ⟨_, rfl⟩
        by_cases hk : k < (v0 :: vs).length
        · have j1 : (0 : Int) ≤ (k : Int) := by omega
          have j2 : (k : Int) < ((v0 :: vs).length : Int) := by omega
          have j3 : decide ((k : Int) < ((v0 :: vs).length : Int)) = true := decide_eq_true j2
          obtain ⟨b, o, hbe, hbr, y0, y1, y2⟩ := RdVe.piece HOV.out hk
          subst hbe
          have HTK := Lib.hid (hasI_take (v0 :: vs) t k hk)
          obtain ⟨xi, hxi⟩ : ∃ x, ((v0 :: vs)[k]).idx = x := ⟨_, rfl⟩
          rw [hxi] at y0 HTK
          have HHS := Lib.hid hhs
          rw [hhs] at HTK ⊢
          clear hxi hhs y1 y2
          cases hs with
          | true =>
            go_wp2_with fail
            go_roundw
            case rel => exact ⟨k + 1, by omega, by go_num, by rw [HTK.out]; rfl, rfl⟩
            case measure => simp [intOf]; omega
          | false =>
            by_cases hx : xi = t
            · have m1 : (xi == t) = true := by rw [beq_iff_eq]; exact hx
              have m2 : decide (xi = t) = true := decide_eq_true hx
              have HX := Lib.hid m2
              go_wp2_with fail
              go_roundw
              case rel => exact ⟨k + 1, by omega, by go_num, by rw [HTK.out, HX.out]; rfl, rfl⟩
              case measure => simp [intOf]; omega
            · have m1 : (xi == t) = false := by rw [beq_eq_false_iff_ne]; exact hx
              have m2 : decide (xi = t) = false := decide_eq_false hx
              have HX := Lib.hid m2
              go_wp2_with fail
              go_roundw
              case rel => exact ⟨k + 1, by omega, by go_num, by rw [HTK.out, HX.out]; rfl, rfl⟩
              case measure => simp [intOf]; omega
        · have j3 : decide ((k : Int) < ((v0 :: vs).length : Int)) = false := decide_eq_false (by omega)
          have hkf : (v0 :: vs).take k = v0 :: vs := List.take_of_length_le (by omega)
          rw [hkf] at hhs ⊢
          rw [hhs] at HRE ⊢
          clear hhs
          cases hs with
          | false =>
            go_wp2_with fail
            go_ret2
            exact ⟨_, by rw [HRE.out]; rfl, by rw [HRE.out]; exact OwnP.nil, by rw [HCB.out]; exact HA.out.trans (HB2.out.mono (Nat.le_of_lt hz))⟩
          | true =>
            have HRE2 := Lib.hid (HRE.out.trans (if_pos rfl))
            clear HRE
            have H0 : Hid (RRdO l n (refF v0 vs t) wr (.slice none 0 0) (.int .i64 (0 : Nat)) wr) := Lib.hid ⟨0, Nat.zero_le _, rfl, OwnP.nil, Below.refl _ _⟩
            go_wp2
            clear j3 hkf hkl hk
            obtain ⟨wc, hwc⟩ : ∃ wc : World, wc = wr := ⟨_, rfl⟩
            rw [← hwc] at HB2 HOV HV2 q0 q1 q2 q3 q4 hcb2 H0 ⊢
            clear hwc
            go_loopw [13, 14] (fun v i wr => RRdO l n (refF v0 vs t) wc v i wr) (fun _ i _ => l.length - (intOf i).toNat)
            case atStart => exact H0.out
            case round =>
              clear H0
              obtain ⟨k, hkl, rfl, how, hbw⟩ := hrel
              have HOW := Lib.hid how
              have HB3 := Lib.hid hbw
              obtain ⟨A3, c3, rfl, hc3⟩ := own_len how
              clear how hbw
              by_cases hk : k < l.length
              · have j1 : (0 : Int) ≤ (k : Int) := by omega
                have j2 : (k : Int) < (l.length : Int) := by omega
                have j3 : decide ((k : Int) < (l.length : Int)) = true := decide_eq_true j2
                obtain ⟨b, o, u1, u2, hbe, hbW, n1, n2, y0, y1, y2, y3, y4, y5⟩ := RdAc.piece HV2.out hk
                subst hbe
                obtain ⟨a, hae⟩ : ∃ a, l[k] = a := ⟨_, rfl⟩
                rw [hae] at n1 n2
                have HAE := Lib.hid hae
                obtain ⟨A1, c1, rfl, hc1⟩ := RdP.form n1
                have N1 := Lib.hid n1
                have hrl : a.reads.length ≤ 10 := by rw [← hae]; exact (HO.out.r _ (List.getElem_mem hk)).2.2.2.1
                have HTK := Lib.hid (show l.take (k + 1) = l.take k ++ [a] by rw [List.take_succ_eq_append_getElem hk, hae])
                have HTL := Lib.hid (show (l.take k).length = k by rw [List.length_take]; omega)
                have hrr : (rdrs n 0 (l.take k)).length ≤ k * 10 := by
                  have h1 := rdrs_len n 0 (l.take k) fun a ha => (HO.out.r a (List.mem_of_mem_take ha)).2.2.2.1
                  rw [HTL.out] at h1
                  exact h1
                have H0 : Hid (RRdI l n (refF v0 vs t) k a.reads wc (.slice A3 ((rdrs n 0 (l.take k)).filter (refF v0 vs t)).length c3) (.int .i64 (0 : Nat)) wr) := Lib.hid ⟨0, Nat.zero_le _, rfl, by simpa [rdrsT_nil] using HOW.out, HB3.out⟩
                clear hae n1 n2 y0 y1 y2 y3 y5
                go_wp2_with fail
                clear HOW HB3
                go_loopw [13, 15] (fun v i wr => RRdI l n (refF v0 vs t) k a.reads wc v i wr) (fun _ i _ => a.reads.length - (intOf i).toNat)
                case atStart => exact H0.out
                case round =>
                  clear H0
                  obtain ⟨m, hml, rfl, how, hbw⟩ := hrel
                  have HOW := Lib.hid how
                  have HB3 := Lib.hid hbw
                  obtain ⟨A3, c3, rfl, hc3⟩ := own_len how
                  have x4 := (hbw.cell (p := ⟨b, o + k * 6 + 4, none⟩) hbW).trans y4
                  have z0 := (hbw.cell (p := ⟨cb, 0, none⟩) hcb2).trans q0
                  have z1 := (hbw.cell (p := ⟨cb, 1, none⟩) hcb2).trans q1
                  have z2 := (hbw.cell (p := ⟨cb, 2, none⟩) hcb2).trans q2
                  have z3 := (hbw.cell (p := ⟨cb, 3, none⟩) hcb2).trans q3
                  have z4 := (hbw.cell (p := ⟨cb, 4, none⟩) hcb2).trans q4
                  have hcr : cb < wr.heap.size := Nat.lt_of_lt_of_le hcb2 hbw.size
                  have hbr : b < wr.heap.size := Nat.lt_of_lt_of_le hbW hbw.size
                  have hvt : ((rdrsT (l.take k) (a.reads.take m) n).filter (refF v0 vs t)).length ≤ 2000 := by
                    have h1 := filt_len (a.reads.take m) n
                    rw [List.length_take] at h1
                    have h2 : (rdrsT (l.take k) (a.reads.take m) n).length ≤ 2000 := by
                      simp only [rdrsT, List.length_append, List.length_map]
                      omega
                    exact Nat.le_trans (List.length_filter_le _ _) h2
                  clear how hbw
                  by_cases hm : m < a.reads.length
                  · have j4 : (0 : Int) ≤ (m : Int) := by omega
                    have j5 : (m : Int) < (a.reads.length : Int) := by omega
                    have j6 : decide ((m : Int) < (a.reads.length : Int)) = true := decide_eq_true j5
                    obtain ⟨b2, o2, hbe, hbr2, t0, t1, t2, t3, t4, _, _⟩ := RdCh.piece (RdP.next N1.out HB3.out) hm
                    subst hbe
                    have HTK2 := Lib.hid (rdrsT_take (l.take k) a.reads m hm n)
                    rw [HTL.out] at HTK2
                    obtain ⟨cn, hcn⟩ : ∃ x, (a.reads[m]).name = x := ⟨_, rfl⟩
                    rw [hcn] at t0 t1 t2 t3 t4 HTK2
                    have HVR := Lib.hid (show RdVe wr (.slice Av (v0 :: vs).length cv) (v0 :: vs) from RdP.next HOV.out HB3.out)
                    obtain ⟨bq, hbq⟩ : ∃ bq, decide (cn = n) = bq := ⟨_, rfl⟩
                    have he := fun W => eqlNm cn n bq hbq W
                    have hg := guardNm
                    unfold nmV nmA at he
                    obtain ⟨dl, hdl⟩ : ∃ dl, rdrsT (l.take k) (a.reads.take m) n = dl := ⟨_, rfl⟩
                    have HDL := Lib.hid hdl
                    rw [hdl] at HOW hvt hc3 ⊢
                    rw [hdl] at HTK2
                    clear hdl hcn
                    obtain ⟨FL, hFL⟩ : ∃ x, dl.filter (refF v0 vs t) = x := ⟨_, rfl⟩
                    have HFL := Lib.hid hFL
                    rw [hFL] at HOW hvt hc3 ⊢
                    clear hFL
                    obtain ⟨wo, hwo⟩ : ∃ wo : World, wo = wr := ⟨_, rfl⟩
                    have HWO := Lib.hid hwo
                    clear hwo
                    obtain ⟨xb, hxb⟩ : ∃ x, befr (k : Int) v0 vs = x := ⟨_, rfl⟩
                    have HBX := Lib.hid hxb
                    have HTK3 := Lib.hid (show (rdrsT (l.take k) (a.reads.take (m + 1)) n).filter (refF v0 vs t) = if n = cn then FL ++ (if decide (xb.idx = t) then [(k : Int)] else []) else FL by
                      rw [HTK2.out]
                      by_cases h : n = cn
                      · rw [if_pos h, if_pos h, ← h, HDL.out, List.filter_append, HFL.out, List.filter_cons, List.filter_nil]
                        unfold refF
                        rw [HBX.out]
                      · rw [if_neg h, if_neg h, HFL.out])
                    clear hxb
                    go_upto_region 18 with (fail)
                    cases bq with
                    | true =>
                      have HNE := Lib.hid (of_decide_eq_true hbq)
                      clear hbq
                      obtain ⟨xi, xv, xa⟩ := xb
                      have hfd : ∀ w : World, (Instr.field 54 (.agg #[.int .i64 xi, .string (bs xv), .bool xa]) 0).run Tryd.prog w = .ok (.int .i64 xi) w := fun _ => by kernel_rfl
                      by_cases hx : xi = t
                      · have m1 : (xi == t) = true := by rw [beq_iff_eq]; exact hx
                        have m2 : decide (xi = t) = true := decide_eq_true hx
                        have HX := Lib.hid m2
                        clear hx m2
                        refine wp_region_noPanic ?_
                        refine wp_region_held_drew (S := (fun (w' : World) => w'.cell? ⟨b, o + k * 6 + 4, none⟩ = some (.slice (some ⟨b2, o2, none⟩) a.reads.length c1) ∧ w'.cell? ⟨b2, o2 + m * 7, none⟩ = some (.int .i64 cn.kind) ∧ w'.cell? ⟨b2, o2 + m * 7 + 1, none⟩ = some (.string (bs cn.owner)) ∧ w'.cell? ⟨b2, o2 + m * 7 + 2, none⟩ = some (.int .i64 cn.num) ∧ w'.cell? ⟨b2, o2 + m * 7 + 3, none⟩ = some (.int .i64 cn.idx) ∧ w'.cell? ⟨b2, o2 + m * 7 + 4, none⟩ = some (.string (bs cn.text)) ∧ w'.cell? ⟨cb, 0, none⟩ = some (.int .i64 n.kind) ∧ w'.cell? ⟨cb, 1, none⟩ = some (.string (bs n.owner)) ∧ w'.cell? ⟨cb, 2, none⟩ = some (.int .i64 n.num) ∧ w'.cell? ⟨cb, 3, none⟩ = some (.int .i64 n.idx) ∧ w'.cell? ⟨cb, 4, none⟩ = some (.string (bs n.text)))) (by kernel_rfl) ?_ (fun hHeld => ?_)
                        · exact ⟨x4, t0, t1, t2, t3, t4, z0, z1, z2, z3, z4⟩
                        refine wpAnyH_take (i := 0) (v := ?_) rfl (by kernel_rfl) (by kernel_rfl) (by kernel_rfl) (fun _ _ _ h => h) (Or.inl ⟨by kernel_rfl, ?_⟩) hHeld ?_
                        rotate_left
                        · (intro w hSw; (try dsimp only at hSw); go_simp; try with_reducible rfl)
                        try simp only [Act.put, List.setIfInBounds_toArray, List.set_cons_zero, List.set_cons_succ]
                        refine wpAnyH_take (i := 1) (v := ?_) rfl (by kernel_rfl) (by kernel_rfl) (by kernel_rfl) (fun _ _ _ h => h) (Or.inl ⟨by kernel_rfl, ?_⟩) hHeld ?_
                        rotate_left
                        · (intro w hSw; (try dsimp only at hSw); go_simp; try with_reducible rfl)
                        try simp only [Act.put, List.setIfInBounds_toArray, List.set_cons_zero, List.set_cons_succ]
                        refine wpAnyH_take (i := 2) (v := ?_) rfl (by kernel_rfl) (by kernel_rfl) (by kernel_rfl) (fun _ _ _ h => h) (Or.inl ⟨by kernel_rfl, ?_⟩) hHeld ?_
                        rotate_left
                        · (intro w hSw; (try dsimp only at hSw); go_simp; try with_reducible rfl)
                        try simp only [Act.put, List.setIfInBounds_toArray, List.set_cons_zero, List.set_cons_succ]
                        refine wpAnyH_take (i := 3) (v := ?_) rfl (by kernel_rfl) (by kernel_rfl) (by kernel_rfl) (fun _ _ _ h => h) (Or.inl ⟨by kernel_rfl, ?_⟩) hHeld ?_
                        rotate_left
                        · (intro w hSw; (try dsimp only at hSw); go_simp; try with_reducible rfl)
                        try simp only [Act.put, List.setIfInBounds_toArray, List.set_cons_zero, List.set_cons_succ]
                        refine wpAnyH_take (i := 4) (v := ?_) rfl (by kernel_rfl) (by kernel_rfl) (by kernel_rfl) (fun _ _ _ h => h) (Or.inl ⟨by kernel_rfl, ?_⟩) hHeld ?_
                        rotate_left
                        · (intro w hSw; (try dsimp only at hSw); go_simp; try with_reducible rfl)
                        try simp only [Act.put, List.setIfInBounds_toArray, List.set_cons_zero, List.set_cons_succ]
                        refine wpAnyH_take (i := 5) (v := ?_) rfl (by kernel_rfl) (by kernel_rfl) (by kernel_rfl) (fun _ _ _ h => h) (Or.inl ⟨by kernel_rfl, ?_⟩) hHeld ?_
                        rotate_left
                        · (intro w hSw; (try dsimp only at hSw); go_simp; try with_reducible rfl)
                        try simp only [Act.put, List.setIfInBounds_toArray, List.set_cons_zero, List.set_cons_succ]
                        refine wpAnyH_take (i := 6) (v := ?_) rfl (by kernel_rfl) (by kernel_rfl) (by kernel_rfl) (fun _ _ _ h => h) (Or.inl ⟨by kernel_rfl, ?_⟩) hHeld ?_
                        rotate_left
                        · (intro w hSw; (try dsimp only at hSw); go_simp; try with_reducible rfl)
                        try simp only [Act.put, List.setIfInBounds_toArray, List.set_cons_zero, List.set_cons_succ]
                        refine wpAnyH_take (i := 7) (v := ?_) rfl (by kernel_rfl) (by kernel_rfl) (by kernel_rfl) (fun _ _ _ h => h) (Or.inl ⟨by kernel_rfl, ?_⟩) hHeld ?_
                        rotate_left
                        · (intro w hSw; (try dsimp only at hSw); go_simp; try with_reducible rfl)
                        try simp only [Act.put, List.setIfInBounds_toArray, List.set_cons_zero, List.set_cons_succ]
                        refine wpAnyH_take (i := 8) (v := ?_) rfl (by kernel_rfl) (by kernel_rfl) (by kernel_rfl) (fun _ _ _ h => h) (Or.inl ⟨by kernel_rfl, ?_⟩) hHeld ?_
                        rotate_left
                        · (intro w hSw; (try dsimp only at hSw); go_simp; try with_reducible rfl)
                        try simp only [Act.put, List.setIfInBounds_toArray, List.set_cons_zero, List.set_cons_succ]
                        refine wpAnyH_take (i := 9) (v := ?_) rfl (by kernel_rfl) (by kernel_rfl) (by kernel_rfl) (fun _ _ _ h => h) (Or.inl ⟨by kernel_rfl, ?_⟩) hHeld ?_
                        rotate_left
                        · (intro w hSw; (try dsimp only at hSw); go_simp; try with_reducible rfl)
                        try simp only [Act.put, List.setIfInBounds_toArray, List.set_cons_zero, List.set_cons_succ]
                        refine wpAnyH_take (i := 10) (v := ?_) rfl (by kernel_rfl) (by kernel_rfl) (by kernel_rfl) (fun _ _ _ h => h) (Or.inl ⟨by kernel_rfl, ?_⟩) hHeld ?_
                        rotate_left
                        · (intro w hSw; (try dsimp only at hSw); go_simp; try with_reducible rfl)
                        try simp only [Act.put, List.setIfInBounds_toArray, List.set_cons_zero, List.set_cons_succ]
                        refine wpAnyH_take (i := 11) (v := ?_) rfl (by kernel_rfl) (by kernel_rfl) (by kernel_rfl) (fun _ _ _ h => h) (Or.inl ⟨by kernel_rfl, ?_⟩) hHeld ?_
                        rotate_left
                        · (intro w hSw; (try dsimp only at hSw); go_simp; try with_reducible rfl)
                        try simp only [Act.put, List.setIfInBounds_toArray, List.set_cons_zero, List.set_cons_succ]
                        refine wpAnyH_take (i := 12) (v := ?_) rfl (by kernel_rfl) (by kernel_rfl) (by kernel_rfl) (fun _ _ _ h => h) (Or.inl ⟨by kernel_rfl, ?_⟩) hHeld ?_
                        rotate_left
                        · (intro w hSw; (try dsimp only at hSw); go_simp; try with_reducible rfl)
                        try simp only [Act.put, List.setIfInBounds_toArray, List.set_cons_zero, List.set_cons_succ]
                        refine wpAnyH_take (i := 13) (v := ?_) rfl (by kernel_rfl) (by kernel_rfl) (by kernel_rfl) (fun _ _ _ h => h) (Or.inl ⟨by kernel_rfl, ?_⟩) hHeld ?_
                        rotate_left
                        · (intro w hSw; (try dsimp only at hSw); go_simp; try with_reducible rfl)
                        try simp only [Act.put, List.setIfInBounds_toArray, List.set_cons_zero, List.set_cons_succ]
                        refine wpAnyH_take (i := 16) (v := ?_) rfl (by kernel_rfl) (by kernel_rfl) (by kernel_rfl) (fun _ _ _ h => h) (Or.inl ⟨by kernel_rfl, ?_⟩) hHeld ?_
                        rotate_left
                        · (intro w hSw; (try dsimp only at hSw); go_simp; try with_reducible rfl)
                        try simp only [Act.put, List.setIfInBounds_toArray, List.set_cons_zero, List.set_cons_succ]
                        refine wpAnyH_ready (rs := [14]) (by kernel_rfl) (by simp) ?_
                        refine AllReadyH.cons rfl (fun K hK => ?_) AllReadyH.nil
                        go_simp
                        refine (rbefore_is (v0 := v0) (vs := vs) (k : Int) (RdP.drew HVR.out) (by omega)).mono ?_; rintro e w5 ⟨rfl, hb5⟩; rw [HBX.out]; simp only [veV]; have HB5 := Lib.hid ((Below.refl wr.heap.size wr).drew.trans hb5); clear hb5
                        try (go_wp2_with fail)
                        refine hK.out _ _ ?_ (fun hNew => ?_)
                        · exact ⟨(HB5.out.cell (p := ⟨b, o + k * 6 + 4, none⟩) hbr).trans x4, (HB5.out.cell (p := ⟨b2, o2 + m * 7, none⟩) hbr2).trans t0, (HB5.out.cell (p := ⟨b2, o2 + m * 7 + 1, none⟩) hbr2).trans t1, (HB5.out.cell (p := ⟨b2, o2 + m * 7 + 2, none⟩) hbr2).trans t2, (HB5.out.cell (p := ⟨b2, o2 + m * 7 + 3, none⟩) hbr2).trans t3, (HB5.out.cell (p := ⟨b2, o2 + m * 7 + 4, none⟩) hbr2).trans t4, (HB5.out.cell (p := ⟨cb, 0, none⟩) hcr).trans z0, (HB5.out.cell (p := ⟨cb, 1, none⟩) hcr).trans z1, (HB5.out.cell (p := ⟨cb, 2, none⟩) hcr).trans z2, (HB5.out.cell (p := ⟨cb, 3, none⟩) hcr).trans z3, (HB5.out.cell (p := ⟨cb, 4, none⟩) hcr).trans z4⟩
                        clear hK K hHeld
                        have hHeld := hNew
                        clear hNew
                        try simp only [Act.put, List.setIfInBounds_toArray, List.set_cons_zero, List.set_cons_succ]
                        refine wpAnyH_take (i := 15) (v := ?_) rfl (by kernel_rfl) (by kernel_rfl) (by kernel_rfl) (fun _ _ _ h => h) (Or.inl ⟨by kernel_rfl, ?_⟩) hHeld ?_
                        rotate_left
                        · (intro w hSw; (try dsimp only at hSw); go_simp; try with_reducible rfl)
                        try simp only [Act.put, List.setIfInBounds_toArray, List.set_cons_zero, List.set_cons_succ]
                        refine wpAnyH_take (i := 17) (v := ?_) rfl (by kernel_rfl) (by kernel_rfl) (by kernel_rfl) (fun _ _ _ h => h) (Or.inl ⟨by kernel_rfl, ?_⟩) hHeld ?_
                        rotate_left
                        · (intro w hSw; (try dsimp only at hSw); go_simp; try with_reducible rfl)
                        try simp only [Act.put, List.setIfInBounds_toArray, List.set_cons_zero, List.set_cons_succ]
                        refine wpAnyH_take (i := 18) (v := ?_) rfl (by kernel_rfl) (by kernel_rfl) (by kernel_rfl) (fun _ _ _ h => h) (Or.inl ⟨by kernel_rfl, ?_⟩) hHeld ?_
                        rotate_left
                        · (intro w hSw; (try dsimp only at hSw); go_simp; try with_reducible rfl)
                        try simp only [Act.put, List.setIfInBounds_toArray, List.set_cons_zero, List.set_cons_succ]
                        refine wpAnyH_done (by kernel_rfl) ?_ _
                        clear hHeld
                        try simp only [List.getElem_toArray, List.getElem_cons_zero, List.getElem_cons_succ, Act.put, List.setIfInBounds_toArray, List.set_cons_zero, List.set_cons_succ]
                        refine NoPanic.normal ?_
                        have how5 := Lib.hid (own_next HOW.out HB5.out)
                        go_wp2_with (at_builtin; refine wpList_append_w _ rfl _ _ _ rfl wc.heap.size 3 i0 _ 1 8 Tryd.underlying41 hi hz0 hz1 hz2 rfl (by omega) (.slice A3 FL.length c3) FL.length (FL.flatMap inC) rfl (own_next how5.out ((Below.refl _ _).alloc (Nat.le_refl _) _)) (.slice (some ⟨w5.heap.size, 0, none⟩) 1 1) 1 [.int .i64 k] rfl (Rd.of_own (own_new w5 0 3 1 [.int .i64 k] rfl (Nat.zero_le _))) (by omega) rfl (by simp [Value.oneCell']) (by unfold maxLen; omega) (by omega) (by have := HB3.out.size; have := HB5.out.size; simp at this ⊢; omega) ?_; intro v6 w6 hown6 hg6 hat6; have HOW6 := Lib.hid hown6; have HG6 := Lib.hid hg6; clear hown6 hg6 hat6)
                        go_roundw
                        case rel =>
                          have h5 := HB3.out.trans (HB5.out.mono HB3.out.size)
                          have hbe : Below wc.heap.size wc w6 := below_own (h5.alloc h5.size (.cells #[.int .i64 k] 3)) (own_next how5.out ((Below.refl _ _).alloc (Nat.le_refl _) _)) HG6.out (Nat.le_refl _) (by have := h5.size; simp at this ⊢; omega)
                          refine ⟨m + 1, by omega, by go_num, ?_, hbe⟩
                          rw [HTK3.out, if_pos HNE.out.symm, HX.out, if_pos rfl]
                          exact OwnP.snoc HOW6.out
                        case measure => simp [intOf]; omega
                      · have m1 : (xi == t) = false := by rw [beq_eq_false_iff_ne]; exact hx
                        have m2 : decide (xi = t) = false := decide_eq_false hx
                        have HX := Lib.hid m2
                        clear hx m2
                        refine wp_region_noPanic ?_
                        refine wp_region_held_drew (S := (fun (w' : World) => w'.cell? ⟨b, o + k * 6 + 4, none⟩ = some (.slice (some ⟨b2, o2, none⟩) a.reads.length c1) ∧ w'.cell? ⟨b2, o2 + m * 7, none⟩ = some (.int .i64 cn.kind) ∧ w'.cell? ⟨b2, o2 + m * 7 + 1, none⟩ = some (.string (bs cn.owner)) ∧ w'.cell? ⟨b2, o2 + m * 7 + 2, none⟩ = some (.int .i64 cn.num) ∧ w'.cell? ⟨b2, o2 + m * 7 + 3, none⟩ = some (.int .i64 cn.idx) ∧ w'.cell? ⟨b2, o2 + m * 7 + 4, none⟩ = some (.string (bs cn.text)) ∧ w'.cell? ⟨cb, 0, none⟩ = some (.int .i64 n.kind) ∧ w'.cell? ⟨cb, 1, none⟩ = some (.string (bs n.owner)) ∧ w'.cell? ⟨cb, 2, none⟩ = some (.int .i64 n.num) ∧ w'.cell? ⟨cb, 3, none⟩ = some (.int .i64 n.idx) ∧ w'.cell? ⟨cb, 4, none⟩ = some (.string (bs n.text)))) (by kernel_rfl) ?_ (fun hHeld => ?_)
                        · exact ⟨x4, t0, t1, t2, t3, t4, z0, z1, z2, z3, z4⟩
                        refine wpAnyH_take (i := 0) (v := ?_) rfl (by kernel_rfl) (by kernel_rfl) (by kernel_rfl) (fun _ _ _ h => h) (Or.inl ⟨by kernel_rfl, ?_⟩) hHeld ?_
                        rotate_left
                        · (intro w hSw; (try dsimp only at hSw); go_simp; try with_reducible rfl)
                        try simp only [Act.put, List.setIfInBounds_toArray, List.set_cons_zero, List.set_cons_succ]
                        refine wpAnyH_take (i := 1) (v := ?_) rfl (by kernel_rfl) (by kernel_rfl) (by kernel_rfl) (fun _ _ _ h => h) (Or.inl ⟨by kernel_rfl, ?_⟩) hHeld ?_
                        rotate_left
                        · (intro w hSw; (try dsimp only at hSw); go_simp; try with_reducible rfl)
                        try simp only [Act.put, List.setIfInBounds_toArray, List.set_cons_zero, List.set_cons_succ]
                        refine wpAnyH_take (i := 2) (v := ?_) rfl (by kernel_rfl) (by kernel_rfl) (by kernel_rfl) (fun _ _ _ h => h) (Or.inl ⟨by kernel_rfl, ?_⟩) hHeld ?_
                        rotate_left
                        · (intro w hSw; (try dsimp only at hSw); go_simp; try with_reducible rfl)
                        try simp only [Act.put, List.setIfInBounds_toArray, List.set_cons_zero, List.set_cons_succ]
                        refine wpAnyH_take (i := 3) (v := ?_) rfl (by kernel_rfl) (by kernel_rfl) (by kernel_rfl) (fun _ _ _ h => h) (Or.inl ⟨by kernel_rfl, ?_⟩) hHeld ?_
                        rotate_left
                        · (intro w hSw; (try dsimp only at hSw); go_simp; try with_reducible rfl)
                        try simp only [Act.put, List.setIfInBounds_toArray, List.set_cons_zero, List.set_cons_succ]
                        refine wpAnyH_take (i := 4) (v := ?_) rfl (by kernel_rfl) (by kernel_rfl) (by kernel_rfl) (fun _ _ _ h => h) (Or.inl ⟨by kernel_rfl, ?_⟩) hHeld ?_
                        rotate_left
                        · (intro w hSw; (try dsimp only at hSw); go_simp; try with_reducible rfl)
                        try simp only [Act.put, List.setIfInBounds_toArray, List.set_cons_zero, List.set_cons_succ]
                        refine wpAnyH_take (i := 5) (v := ?_) rfl (by kernel_rfl) (by kernel_rfl) (by kernel_rfl) (fun _ _ _ h => h) (Or.inl ⟨by kernel_rfl, ?_⟩) hHeld ?_
                        rotate_left
                        · (intro w hSw; (try dsimp only at hSw); go_simp; try with_reducible rfl)
                        try simp only [Act.put, List.setIfInBounds_toArray, List.set_cons_zero, List.set_cons_succ]
                        refine wpAnyH_take (i := 6) (v := ?_) rfl (by kernel_rfl) (by kernel_rfl) (by kernel_rfl) (fun _ _ _ h => h) (Or.inl ⟨by kernel_rfl, ?_⟩) hHeld ?_
                        rotate_left
                        · (intro w hSw; (try dsimp only at hSw); go_simp; try with_reducible rfl)
                        try simp only [Act.put, List.setIfInBounds_toArray, List.set_cons_zero, List.set_cons_succ]
                        refine wpAnyH_take (i := 7) (v := ?_) rfl (by kernel_rfl) (by kernel_rfl) (by kernel_rfl) (fun _ _ _ h => h) (Or.inl ⟨by kernel_rfl, ?_⟩) hHeld ?_
                        rotate_left
                        · (intro w hSw; (try dsimp only at hSw); go_simp; try with_reducible rfl)
                        try simp only [Act.put, List.setIfInBounds_toArray, List.set_cons_zero, List.set_cons_succ]
                        refine wpAnyH_take (i := 8) (v := ?_) rfl (by kernel_rfl) (by kernel_rfl) (by kernel_rfl) (fun _ _ _ h => h) (Or.inl ⟨by kernel_rfl, ?_⟩) hHeld ?_
                        rotate_left
                        · (intro w hSw; (try dsimp only at hSw); go_simp; try with_reducible rfl)
                        try simp only [Act.put, List.setIfInBounds_toArray, List.set_cons_zero, List.set_cons_succ]
                        refine wpAnyH_take (i := 9) (v := ?_) rfl (by kernel_rfl) (by kernel_rfl) (by kernel_rfl) (fun _ _ _ h => h) (Or.inl ⟨by kernel_rfl, ?_⟩) hHeld ?_
                        rotate_left
                        · (intro w hSw; (try dsimp only at hSw); go_simp; try with_reducible rfl)
                        try simp only [Act.put, List.setIfInBounds_toArray, List.set_cons_zero, List.set_cons_succ]
                        refine wpAnyH_take (i := 10) (v := ?_) rfl (by kernel_rfl) (by kernel_rfl) (by kernel_rfl) (fun _ _ _ h => h) (Or.inl ⟨by kernel_rfl, ?_⟩) hHeld ?_
                        rotate_left
                        · (intro w hSw; (try dsimp only at hSw); go_simp; try with_reducible rfl)
                        try simp only [Act.put, List.setIfInBounds_toArray, List.set_cons_zero, List.set_cons_succ]
                        refine wpAnyH_take (i := 11) (v := ?_) rfl (by kernel_rfl) (by kernel_rfl) (by kernel_rfl) (fun _ _ _ h => h) (Or.inl ⟨by kernel_rfl, ?_⟩) hHeld ?_
                        rotate_left
                        · (intro w hSw; (try dsimp only at hSw); go_simp; try with_reducible rfl)
                        try simp only [Act.put, List.setIfInBounds_toArray, List.set_cons_zero, List.set_cons_succ]
                        refine wpAnyH_take (i := 12) (v := ?_) rfl (by kernel_rfl) (by kernel_rfl) (by kernel_rfl) (fun _ _ _ h => h) (Or.inl ⟨by kernel_rfl, ?_⟩) hHeld ?_
                        rotate_left
                        · (intro w hSw; (try dsimp only at hSw); go_simp; try with_reducible rfl)
                        try simp only [Act.put, List.setIfInBounds_toArray, List.set_cons_zero, List.set_cons_succ]
                        refine wpAnyH_take (i := 13) (v := ?_) rfl (by kernel_rfl) (by kernel_rfl) (by kernel_rfl) (fun _ _ _ h => h) (Or.inl ⟨by kernel_rfl, ?_⟩) hHeld ?_
                        rotate_left
                        · (intro w hSw; (try dsimp only at hSw); go_simp; try with_reducible rfl)
                        try simp only [Act.put, List.setIfInBounds_toArray, List.set_cons_zero, List.set_cons_succ]
                        refine wpAnyH_take (i := 16) (v := ?_) rfl (by kernel_rfl) (by kernel_rfl) (by kernel_rfl) (fun _ _ _ h => h) (Or.inl ⟨by kernel_rfl, ?_⟩) hHeld ?_
                        rotate_left
                        · (intro w hSw; (try dsimp only at hSw); go_simp; try with_reducible rfl)
                        try simp only [Act.put, List.setIfInBounds_toArray, List.set_cons_zero, List.set_cons_succ]
                        refine wpAnyH_ready (rs := [14]) (by kernel_rfl) (by simp) ?_
                        refine AllReadyH.cons rfl (fun K hK => ?_) AllReadyH.nil
                        go_simp
                        refine (rbefore_is (v0 := v0) (vs := vs) (k : Int) (RdP.drew HVR.out) (by omega)).mono ?_; rintro e w5 ⟨rfl, hb5⟩; rw [HBX.out]; simp only [veV]; have HB5 := Lib.hid ((Below.refl wr.heap.size wr).drew.trans hb5); clear hb5
                        try (go_wp2_with fail)
                        refine hK.out _ _ ?_ (fun hNew => ?_)
                        · exact ⟨(HB5.out.cell (p := ⟨b, o + k * 6 + 4, none⟩) hbr).trans x4, (HB5.out.cell (p := ⟨b2, o2 + m * 7, none⟩) hbr2).trans t0, (HB5.out.cell (p := ⟨b2, o2 + m * 7 + 1, none⟩) hbr2).trans t1, (HB5.out.cell (p := ⟨b2, o2 + m * 7 + 2, none⟩) hbr2).trans t2, (HB5.out.cell (p := ⟨b2, o2 + m * 7 + 3, none⟩) hbr2).trans t3, (HB5.out.cell (p := ⟨b2, o2 + m * 7 + 4, none⟩) hbr2).trans t4, (HB5.out.cell (p := ⟨cb, 0, none⟩) hcr).trans z0, (HB5.out.cell (p := ⟨cb, 1, none⟩) hcr).trans z1, (HB5.out.cell (p := ⟨cb, 2, none⟩) hcr).trans z2, (HB5.out.cell (p := ⟨cb, 3, none⟩) hcr).trans z3, (HB5.out.cell (p := ⟨cb, 4, none⟩) hcr).trans z4⟩
                        clear hK K hHeld
                        have hHeld := hNew
                        clear hNew
                        try simp only [Act.put, List.setIfInBounds_toArray, List.set_cons_zero, List.set_cons_succ]
                        refine wpAnyH_take (i := 15) (v := ?_) rfl (by kernel_rfl) (by kernel_rfl) (by kernel_rfl) (fun _ _ _ h => h) (Or.inl ⟨by kernel_rfl, ?_⟩) hHeld ?_
                        rotate_left
                        · (intro w hSw; (try dsimp only at hSw); go_simp; try with_reducible rfl)
                        try simp only [Act.put, List.setIfInBounds_toArray, List.set_cons_zero, List.set_cons_succ]
                        refine wpAnyH_take (i := 17) (v := ?_) rfl (by kernel_rfl) (by kernel_rfl) (by kernel_rfl) (fun _ _ _ h => h) (Or.inl ⟨by kernel_rfl, ?_⟩) hHeld ?_
                        rotate_left
                        · (intro w hSw; (try dsimp only at hSw); go_simp; try with_reducible rfl)
                        try simp only [Act.put, List.setIfInBounds_toArray, List.set_cons_zero, List.set_cons_succ]
                        refine wpAnyH_take (i := 18) (v := ?_) rfl (by kernel_rfl) (by kernel_rfl) (by kernel_rfl) (fun _ _ _ h => h) (Or.inl ⟨by kernel_rfl, ?_⟩) hHeld ?_
                        rotate_left
                        · (intro w hSw; (try dsimp only at hSw); go_simp; try with_reducible rfl)
                        try simp only [Act.put, List.setIfInBounds_toArray, List.set_cons_zero, List.set_cons_succ]
                        refine wpAnyH_done (by kernel_rfl) ?_ _
                        clear hHeld
                        try simp only [List.getElem_toArray, List.getElem_cons_zero, List.getElem_cons_succ, Act.put, List.setIfInBounds_toArray, List.set_cons_zero, List.set_cons_succ]
                        refine NoPanic.normal ?_
                        go_wp2_with fail
                        go_roundw
                        case rel =>
                          refine ⟨m + 1, by omega, by go_num, ?_, HB3.out.trans (HB5.out.mono HB3.out.size)⟩
                          rw [HTK3.out, if_pos HNE.out.symm, HX.out, if_neg (by simp), List.append_nil]
                          exact own_next HOW.out HB5.out
                        case measure => simp [intOf]; omega
                    | false =>
                      have HNE := Lib.hid (of_decide_eq_false hbq)
                      clear hbq
                      refine wp_region_noPanic ?_
                      refine wp_region_held_drew (S := (fun (w' : World) => w'.cell? ⟨b, o + k * 6 + 4, none⟩ = some (.slice (some ⟨b2, o2, none⟩) a.reads.length c1) ∧ w'.cell? ⟨b2, o2 + m * 7, none⟩ = some (.int .i64 cn.kind) ∧ w'.cell? ⟨b2, o2 + m * 7 + 1, none⟩ = some (.string (bs cn.owner)) ∧ w'.cell? ⟨b2, o2 + m * 7 + 2, none⟩ = some (.int .i64 cn.num) ∧ w'.cell? ⟨b2, o2 + m * 7 + 3, none⟩ = some (.int .i64 cn.idx) ∧ w'.cell? ⟨b2, o2 + m * 7 + 4, none⟩ = some (.string (bs cn.text)) ∧ w'.cell? ⟨cb, 0, none⟩ = some (.int .i64 n.kind) ∧ w'.cell? ⟨cb, 1, none⟩ = some (.string (bs n.owner)) ∧ w'.cell? ⟨cb, 2, none⟩ = some (.int .i64 n.num) ∧ w'.cell? ⟨cb, 3, none⟩ = some (.int .i64 n.idx) ∧ w'.cell? ⟨cb, 4, none⟩ = some (.string (bs n.text)))) (by kernel_rfl) ?_ (fun hHeld => ?_)
                      · exact ⟨x4, t0, t1, t2, t3, t4, z0, z1, z2, z3, z4⟩
                      refine wpAnyH_take (i := 0) (v := ?_) rfl (by kernel_rfl) (by kernel_rfl) (by kernel_rfl) (fun _ _ _ h => h) (Or.inl ⟨by kernel_rfl, ?_⟩) hHeld ?_
                      rotate_left
                      · (intro w hSw; (try dsimp only at hSw); go_simp; try with_reducible rfl)
                      try simp only [Act.put, List.setIfInBounds_toArray, List.set_cons_zero, List.set_cons_succ]
                      refine wpAnyH_take (i := 1) (v := ?_) rfl (by kernel_rfl) (by kernel_rfl) (by kernel_rfl) (fun _ _ _ h => h) (Or.inl ⟨by kernel_rfl, ?_⟩) hHeld ?_
                      rotate_left
                      · (intro w hSw; (try dsimp only at hSw); go_simp; try with_reducible rfl)
                      try simp only [Act.put, List.setIfInBounds_toArray, List.set_cons_zero, List.set_cons_succ]
                      refine wpAnyH_take (i := 2) (v := ?_) rfl (by kernel_rfl) (by kernel_rfl) (by kernel_rfl) (fun _ _ _ h => h) (Or.inl ⟨by kernel_rfl, ?_⟩) hHeld ?_
                      rotate_left
                      · (intro w hSw; (try dsimp only at hSw); go_simp; try with_reducible rfl)
                      try simp only [Act.put, List.setIfInBounds_toArray, List.set_cons_zero, List.set_cons_succ]
                      refine wpAnyH_take (i := 3) (v := ?_) rfl (by kernel_rfl) (by kernel_rfl) (by kernel_rfl) (fun _ _ _ h => h) (Or.inl ⟨by kernel_rfl, ?_⟩) hHeld ?_
                      rotate_left
                      · (intro w hSw; (try dsimp only at hSw); go_simp; try with_reducible rfl)
                      try simp only [Act.put, List.setIfInBounds_toArray, List.set_cons_zero, List.set_cons_succ]
                      refine wpAnyH_take (i := 4) (v := ?_) rfl (by kernel_rfl) (by kernel_rfl) (by kernel_rfl) (fun _ _ _ h => h) (Or.inl ⟨by kernel_rfl, ?_⟩) hHeld ?_
                      rotate_left
                      · (intro w hSw; (try dsimp only at hSw); go_simp; try with_reducible rfl)
                      try simp only [Act.put, List.setIfInBounds_toArray, List.set_cons_zero, List.set_cons_succ]
                      refine wpAnyH_take (i := 5) (v := ?_) rfl (by kernel_rfl) (by kernel_rfl) (by kernel_rfl) (fun _ _ _ h => h) (Or.inl ⟨by kernel_rfl, ?_⟩) hHeld ?_
                      rotate_left
                      · (intro w hSw; (try dsimp only at hSw); go_simp; try with_reducible rfl)
                      try simp only [Act.put, List.setIfInBounds_toArray, List.set_cons_zero, List.set_cons_succ]
                      refine wpAnyH_take (i := 6) (v := ?_) rfl (by kernel_rfl) (by kernel_rfl) (by kernel_rfl) (fun _ _ _ h => h) (Or.inl ⟨by kernel_rfl, ?_⟩) hHeld ?_
                      rotate_left
                      · (intro w hSw; (try dsimp only at hSw); go_simp; try with_reducible rfl)
                      try simp only [Act.put, List.setIfInBounds_toArray, List.set_cons_zero, List.set_cons_succ]
                      refine wpAnyH_take (i := 7) (v := ?_) rfl (by kernel_rfl) (by kernel_rfl) (by kernel_rfl) (fun _ _ _ h => h) (Or.inl ⟨by kernel_rfl, ?_⟩) hHeld ?_
                      rotate_left
                      · (intro w hSw; (try dsimp only at hSw); go_simp; try with_reducible rfl)
                      try simp only [Act.put, List.setIfInBounds_toArray, List.set_cons_zero, List.set_cons_succ]
                      refine wpAnyH_take (i := 8) (v := ?_) rfl (by kernel_rfl) (by kernel_rfl) (by kernel_rfl) (fun _ _ _ h => h) (Or.inl ⟨by kernel_rfl, ?_⟩) hHeld ?_
                      rotate_left
                      · (intro w hSw; (try dsimp only at hSw); go_simp; try with_reducible rfl)
                      try simp only [Act.put, List.setIfInBounds_toArray, List.set_cons_zero, List.set_cons_succ]
                      refine wpAnyH_take (i := 9) (v := ?_) rfl (by kernel_rfl) (by kernel_rfl) (by kernel_rfl) (fun _ _ _ h => h) (Or.inl ⟨by kernel_rfl, ?_⟩) hHeld ?_
                      rotate_left
                      · (intro w hSw; (try dsimp only at hSw); go_simp; try with_reducible rfl)
                      try simp only [Act.put, List.setIfInBounds_toArray, List.set_cons_zero, List.set_cons_succ]
                      refine wpAnyH_take (i := 10) (v := ?_) rfl (by kernel_rfl) (by kernel_rfl) (by kernel_rfl) (fun _ _ _ h => h) (Or.inl ⟨by kernel_rfl, ?_⟩) hHeld ?_
                      rotate_left
                      · (intro w hSw; (try dsimp only at hSw); go_simp; try with_reducible rfl)
                      try simp only [Act.put, List.setIfInBounds_toArray, List.set_cons_zero, List.set_cons_succ]
                      refine wpAnyH_take (i := 11) (v := ?_) rfl (by kernel_rfl) (by kernel_rfl) (by kernel_rfl) (fun _ _ _ h => h) (Or.inl ⟨by kernel_rfl, ?_⟩) hHeld ?_
                      rotate_left
                      · (intro w hSw; (try dsimp only at hSw); go_simp; try with_reducible rfl)
                      try simp only [Act.put, List.setIfInBounds_toArray, List.set_cons_zero, List.set_cons_succ]
                      refine wpAnyH_take (i := 12) (v := undef) rfl (by kernel_rfl) (by kernel_rfl) (by kernel_rfl) (fun _ _ _ h => h) (Or.inr ⟨by kernel_rfl, rfl⟩) hHeld ?_
                      try simp only [Act.put, List.setIfInBounds_toArray, List.set_cons_zero, List.set_cons_succ]
                      refine wpAnyH_take (i := 13) (v := undef) rfl (by kernel_rfl) (by kernel_rfl) (by kernel_rfl) (fun _ _ _ h => h) (Or.inr ⟨by kernel_rfl, rfl⟩) hHeld ?_
                      try simp only [Act.put, List.setIfInBounds_toArray, List.set_cons_zero, List.set_cons_succ]
                      refine wpAnyH_take (i := 14) (v := undef) rfl (by kernel_rfl) (by kernel_rfl) (by kernel_rfl) (fun _ _ _ h => h) (Or.inr ⟨by kernel_rfl, rfl⟩) hHeld ?_
                      try simp only [Act.put, List.setIfInBounds_toArray, List.set_cons_zero, List.set_cons_succ]
                      refine wpAnyH_take (i := 15) (v := undef) rfl (by kernel_rfl) (by kernel_rfl) (by kernel_rfl) (fun _ _ _ h => h) (Or.inr ⟨by kernel_rfl, rfl⟩) hHeld ?_
                      try simp only [Act.put, List.setIfInBounds_toArray, List.set_cons_zero, List.set_cons_succ]
                      refine wpAnyH_take (i := 16) (v := undef) rfl (by kernel_rfl) (by kernel_rfl) (by kernel_rfl) (fun _ _ _ h => h) (Or.inr ⟨by kernel_rfl, rfl⟩) hHeld ?_
                      try simp only [Act.put, List.setIfInBounds_toArray, List.set_cons_zero, List.set_cons_succ]
                      refine wpAnyH_take (i := 17) (v := undef) rfl (by kernel_rfl) (by kernel_rfl) (by kernel_rfl) (fun _ _ _ h => h) (Or.inr ⟨by kernel_rfl, rfl⟩) hHeld ?_
                      try simp only [Act.put, List.setIfInBounds_toArray, List.set_cons_zero, List.set_cons_succ]
                      refine wpAnyH_take (i := 18) (v := ?_) rfl (by kernel_rfl) (by kernel_rfl) (by kernel_rfl) (fun _ _ _ h => h) (Or.inl ⟨by kernel_rfl, ?_⟩) hHeld ?_
                      rotate_left
                      · (intro w hSw; (try dsimp only at hSw); go_simp; try with_reducible rfl)
                      try simp only [Act.put, List.setIfInBounds_toArray, List.set_cons_zero, List.set_cons_succ]
                      refine wpAnyH_done (by kernel_rfl) ?_ _
                      clear hHeld
                      try simp only [List.getElem_toArray, List.getElem_cons_zero, List.getElem_cons_succ, Act.put, List.setIfInBounds_toArray, List.set_cons_zero, List.set_cons_succ]
                      refine NoPanic.normal ?_
                      go_wp2_with fail
                      go_roundw
                      case rel =>
                        refine ⟨m + 1, by omega, by go_num, ?_, HB3.out.drew⟩
                        rw [HTK3.out, if_neg fun e => HNE.out e.symm]
                        exact HOW.out
                      case measure => simp [intOf]; omega
                  · have j6 : decide ((m : Int) < (a.reads.length : Int)) = false := decide_eq_false (by omega)
                    have HI2 := Lib.hid (show m = a.reads.length by omega)
                    go_wp2
                    go_roundw
                    case rel =>
                      refine ⟨k + 1, by omega, by go_num, ?_, HB3.out⟩
                      have e : rdrs n 0 (l.take (k + 1)) = rdrsT (l.take k) (a.reads.take m) n := by rw [HTK.out, ← rdrsT_all, HI2.out, List.take_length]
                      rw [e]
                      exact HOW.out
                    case measure => simp [intOf]; omega
              · have j3 : decide ((k : Int) < (l.length : Int)) = false := decide_eq_false (by omega)
                have HK := Lib.hid (show l.take k = l from List.take_of_length_le (by omega))
                go_wp2
                go_ret2
                exact ⟨_, by rw [HRE2.out]; rfl, by rw [HRE2.out, HCB.out]; have h := own_base HOW.out (Nat.le_of_lt hcb2); rw [HK.out] at h ⊢; exact h, by rw [HCB.out]; exact HA.out.trans ((HB2.out.trans (HB3.out.mono HB2.out.size)).mono (Nat.le_of_lt hz))⟩
end Go.Proofs.YtobkmkplhbaepaaDoor
