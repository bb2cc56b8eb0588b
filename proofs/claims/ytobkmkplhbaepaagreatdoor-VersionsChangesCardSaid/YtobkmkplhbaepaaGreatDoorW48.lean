/- Walks of layer 46: Versions.Changed. -/
import Derived.Test.YtobkmkplhbaepaaGreatDoorW44
import Derived.Test.YtobkmkplhbaepaaGreatDoorW45
import Derived.Test.YtobkmkplhbaepaaGreatDoorGO
namespace Go.Proofs.YtobkmkplhbaepaaGreatDoor
open Go.RowKit
set_option linter.unusedSimpArgs false
set_option linter.unusedVariables false
attribute [local go_sem ↓] Go.wp_at_zero Go.wp_at_succ
def InR (l : List Ac) (t : Int) : Prop := 0 ≤ t ∧ t ≤ l.length
/-- What Changed answers. -/
def ChaP (s0 : St) (l : List Ac) (a b : Int) (w : World) (e : Ending) (w' : World) : Prop :=
  Below w.heap.size w w' ∧ ((InR l a ∧ InR l b ∧ ∃ v, e = .returned (.tuple #[v, .int .i64 0]) ∧ OwnP 40 5 nmC w' w.heap.size v ((diffL (stS s0 (l.take a.toNat)) (stS s0 (l.take b.toNat))).map Ch.name)) ∨ (¬ (InR l a ∧ InR l b) ∧ e = .returned (.tuple #[.slice none 0 0, .int .i64 2])))
def ChaRel (D : List Ch) (w : World) (v i : Value) (wr : World) : Prop := ∃ k : Nat, k ≤ D.length ∧ i = .int .i64 k ∧ OwnP 40 5 nmC wr w.heap.size v ((D.take k).map Ch.name) ∧ Below w.heap.size w wr
theorem diff_len {a b : St} (ha : StOk a) (hb : StOk b) : (diffL a b).length ≤ 6 := by
  have h := congrArg List.length (diff_objs ha hb)
  rw [List.length_map] at h
  rw [h]
  have := List.length_filter_le (fun n => decide (look cmpN n a ≠ look cmpN n b)) objs
  simpa [objs] using this
set_option maxRecDepth 100000 in
set_option maxHeartbeats 2000000 in
theorem changed_is {w : World} {F : Nat → Prop} {g : Nat} {s0 : St} {l : List Ac} (a b : Int) (hv : VAt w F g s0 l) (ho : VOk l) (hs : StV s0) (hu : UseAt w) : Calls Tryz.prog 22 #[.pointer (some ⟨g, 0, none⟩), .int .i64 a, .int .i64 b] w (ChaP s0 l a b w) := by
  have HV := Lib.hid hv
  have HO := Lib.hid ho
  have HS := Lib.hid hs
  have HU := Lib.hid hu
  clear hv ho hs hu
  go_enter Tryz.func22, Tryz.ntmps22
  have ONE : True := trivial
  go_wp2_with (clear ONE; go_at_call 33; refine (state_is a HV.out HO.out HS.out HU.out).mono ?_)
  rintro e w2 ⟨hb2, ⟨h1, h2, q2, rfl, hs2⟩ | ⟨hbad, rfl⟩⟩
  · have IA := Lib.hid (show InR l a from ⟨h1, h2⟩)
    have HB2 := Lib.hid hb2
    have HS2 := Lib.hid hs2
    have HV2 := Lib.hid (HV.out.next hb2)
    have HU2 := Lib.hid (HU.out.next hb2 HU.out.1)
    clear hb2 hs2 h1 h2
    have ONE : True := trivial
    go_wp2_with (clear ONE; go_at_call 33; refine (state_is b HV2.out HO.out HS.out HU2.out).mono ?_)
    rintro e w3 ⟨hb3, ⟨h1, h2, q3, rfl, hs3⟩ | ⟨hbad, rfl⟩⟩
    · have IB := Lib.hid (show InR l b from ⟨h1, h2⟩)
      have HS23 := Lib.hid (HS2.out.next hb3)
      have HS3 := Lib.hid hs3
      have HB3 := Lib.hid (HB2.out.trans (hb3.mono HB2.out.size))
      have OA := Lib.hid (stS_ok HS.out (l := l.take a.toNat) fun c hc => HO.out.ok c (List.mem_of_mem_take hc))
      have OB := Lib.hid (stS_ok HS.out (l := l.take b.toNat) fun c hc => HO.out.ok c (List.mem_of_mem_take hc))
      clear hb3 hs3 h1 h2
      go_wp2_with (go_at_call 56; refine (diff_is HS23.out HS3.out OA.out.1 OB.out.1).mono ?_)
      rintro e w4 ⟨v4, rfl, how4, hb4⟩
      have hdl := diff_len OA.out.1 OB.out.1
      obtain ⟨D, hD⟩ : ∃ D, diffL (stS s0 (l.take a.toNat)) (stS s0 (l.take b.toNat)) = D := ⟨_, rfl⟩
      have HD := Lib.hid hD
      rw [hD] at how4 hdl
      obtain ⟨A4, c4, rfl, hc4⟩ := own_len how4
      have HR4 := Lib.hid (show RdCh w4 (.slice A4 D.length c4) D from OwnP.rd how4)
      have HB4 := Lib.hid (HB3.out.trans (hb4.mono HB3.out.size))
      have H0 : Hid (ChaRel D w4 (.slice none 0 0) (.int .i64 (0 : Nat)) w4) := Lib.hid ⟨0, Nat.zero_le _, rfl, OwnP.nil, Below.refl _ _⟩
      obtain ⟨i0, hi, hz0, hz1, hz2⟩ := info_parts infoNm
      clear how4 hb4 hD
      go_wp2_with fail
      go_loopw [11, 36] (fun v i wr => ChaRel D w4 v i wr) (fun _ i _ => D.length - (intOf i).toNat)
      case atStart => exact H0.out
      case round =>
        clear H0
        obtain ⟨k, hkl, rfl, how, hbw⟩ := hrel
        have HBW := Lib.hid hbw
        obtain ⟨A5, c5, rfl, hc5⟩ := own_len how
        by_cases hk : k < D.length
        · have j1 : (0 : Int) ≤ (k : Int) := by omega
          have j2 : (k : Int) < (D.length : Int) := by omega
          have j3 : decide ((k : Int) < (D.length : Int)) = true := decide_eq_true j2
          obtain ⟨bb, o, hbe, hbr, t0, t1, t2, t3, t4, t5, t6⟩ := RdCh.piece (RdP.next HR4.out HBW.out) hk
          subst hbe
          have HTK := Lib.hid (show (D.take (k + 1)).map Ch.name = (D.take k).map Ch.name ++ [D[k].name] by rw [List.take_succ_eq_append_getElem hk, List.map_append]; rfl)
          obtain ⟨ch, hch⟩ : ∃ ch, D[k] = ch := ⟨_, rfl⟩
          rw [hch] at t0 t1 t2 t3 t4 t5 t6 HTK
          obtain ⟨nl, hnl⟩ : ∃ nl, (D.take k).map Ch.name = nl := ⟨_, rfl⟩
          have hnle : nl.length ≤ 6 := by rw [← hnl, List.length_map, List.length_take]; omega
          rw [hnl] at how HTK hc5 ⊢
          clear hch hnl
          go_upto_region 11 with (fail)
          have hbd := (Below.refl wr.heap.size wr).alloc (Nat.le_refl _) (.cells #[.int .i64 ch.name.kind, .string (bs ch.name.owner), .int .i64 ch.name.num, .int .i64 ch.name.idx, .string (bs ch.name.text), .string (bs ch.value), .bool ch.absent] 83)
          have zb := Blk.new wr 83 #[.int .i64 ch.name.kind, .string (bs ch.name.owner), .int .i64 ch.name.num, .int .i64 ch.name.idx, .string (bs ch.name.text), .string (bs ch.value), .bool ch.absent]
          have HBD := Lib.hid (HBW.out.trans (hbd.mono HBW.out.size))
          have HOD := Lib.hid (OwnP.next how hbd)
          have v0 := zb.cell 0
          have v1 := zb.cell 1
          have v2 := zb.cell 2
          have v3 := zb.cell 3
          have v4 := zb.cell 4
          simp only [List.getElem?_toArray, List.getElem?_cons_zero, List.getElem?_cons_succ] at v0 v1 v2 v3 v4
          clear t0 t1 t2 t3 t4 t5 t6 hbd zb how
          generalize wr.alloc (.cells #[.int .i64 ch.name.kind, .string (bs ch.name.owner), .int .i64 ch.name.num, .int .i64 ch.name.idx, .string (bs ch.name.text), .string (bs ch.value), .bool ch.absent] 83) = wd at *
          go_wp2_with (at_builtin; refine wpList_append_w _ rfl _ _ _ rfl w4.heap.size 40 i0 _ 5 56 Tryz.underlying36 hi hz0 hz1 hz2 rfl (by omega) (.slice A5 nl.length c5) nl.length (nl.flatMap nmC) rfl (own_next HOD.out ((Below.refl _ _).alloc (Nat.le_refl _) _)) (.slice (some ⟨wd.heap.size, 0, none⟩) 1 1) 1 [.int .i64 ch.name.kind, .string (bs ch.name.owner), .int .i64 ch.name.num, .int .i64 ch.name.idx, .string (bs ch.name.text)] rfl (Rd.of_own (own_new wd 0 40 5 [.int .i64 ch.name.kind, .string (bs ch.name.owner), .int .i64 ch.name.num, .int .i64 ch.name.idx, .string (bs ch.name.text)] rfl (Nat.zero_le _))) (by omega) rfl (by simp [Value.oneCell']) (by unfold maxLen; omega) (by omega) (by have := HBD.out.size; simp at this ⊢; omega) ?_; intro v5 w5 hown5 hg5 hat5; have HOW5 := Lib.hid hown5; have HG5 := Lib.hid hg5; clear hown5 hg5 hat5)
          go_roundw
          case rel =>
            have hbe : Below w4.heap.size w4 w5 := below_own (HBD.out.alloc HBD.out.size (.cells #[.int .i64 ch.name.kind, .string (bs ch.name.owner), .int .i64 ch.name.num, .int .i64 ch.name.idx, .string (bs ch.name.text)] 40)) (own_next HOD.out ((Below.refl _ _).alloc (Nat.le_refl _) _)) HG5.out (Nat.le_refl _) (by have := HBD.out.size; simp at this ⊢; omega)
            refine ⟨k + 1, by omega, by go_num, ?_, hbe⟩
            rw [HTK.out]
            exact OwnP.snoc HOW5.out
          case measure => simp [intOf]; omega
        · have j3 : decide ((k : Int) < (D.length : Int)) = false := decide_eq_false (by omega)
          have HK := Lib.hid (show (D.take k).map Ch.name = D.map Ch.name by rw [List.take_of_length_le (by omega)])
          have HOW := Lib.hid how
          clear how
          go_wp2_with fail
          go_ret2
          exact ⟨HB4.out.trans (HBW.out.mono HB4.out.size), .inl ⟨IA.out, IB.out, _, rfl, by rw [HD.out]; have h := own_base HOW.out HB4.out.size; rw [HK.out] at h ⊢; exact h⟩⟩
    · have HB3 := Lib.hid (HB2.out.trans (hb3.mono HB2.out.size))
      have NB := Lib.hid (show ¬ (InR l a ∧ InR l b) from fun h => hbad h.2)
      clear hb3 hbad
      go_wp2_with fail
      go_ret2
      exact ⟨HB3.out, .inr ⟨NB.out, rfl⟩⟩
  · have NB := Lib.hid (show ¬ (InR l a ∧ InR l b) from fun h => hbad h.1)
    have HB2 := Lib.hid hb2
    clear hb2 hbad
    go_wp2_with fail
    go_ret2
    exact ⟨HB2.out, .inr ⟨NB.out, rfl⟩⟩
end Go.Proofs.YtobkmkplhbaepaaGreatDoor
