/- Walks of layer 46: the actions of a run. -/
import Derived.Test.YtobkmkplhbaepaaDoorGV
import Derived.Test.YtobkmkplhbaepaaDoorGC
import Derived.Deep.CutBlock
namespace Go.Proofs.YtobkmkplhbaepaaDoor
open Go.RowKit
set_option linter.unusedSimpArgs false
set_option linter.unusedVariables false
attribute [local go_sem ↓] Go.wp_at_zero Go.wp_at_succ
def ActOut (l : List Act) (W : World) (i : Nat) (v3 : Value) (wr : World) : Prop := OwnAc wr W.heap.size v3 (actsT 1 (l.take i)) ∧ Below W.heap.size W wr
def ActRel (l : List Act) (W : World) (gk : Nat) (v3 v4 v5 : Value) (wr : World) : Prop := ∃ i : Nat, i ≤ l.length ∧ i ≤ 20 ∧ 21 ≤ gk + i ∧ v5 = .int .i64 i ∧ v4 = .int .i64 (tickT 1 (l.take i)) ∧ ActOut l W i v3 wr
theorem ActOut.next {l : List Act} {W w1 w2 : World} {i : Nat} {v3 : Value} (h : ActOut l W i v3 w1) (hb : Below w1.heap.size w1 w2) : ActOut l W i v3 w2 :=
  ⟨OwnAc.next h.1 hb, h.2.trans (hb.mono h.2.size)⟩
theorem only_set6 (w : World) (g : Nat) (u0 u1 u2 u3 u4 u5 : Value) : w.grownBy ((((((w.setCell ⟨g, 0, none⟩ u0).setCell ⟨g, 1, none⟩ u1).setCell ⟨g, 2, none⟩ u2).setCell ⟨g, 3, none⟩ u3).setCell ⟨g, 4, none⟩ u4).setCell ⟨g, 5, none⟩ u5) (some g) := only_setCell (p := ⟨g, 5, none⟩) (only_setCell (p := ⟨g, 4, none⟩) (only_setCell (p := ⟨g, 3, none⟩) (only_setCell (p := ⟨g, 2, none⟩) (only_setCell (p := ⟨g, 1, none⟩) (only_setCell (p := ⟨g, 0, none⟩) (World.grownBy.refl w (some g)) (.inl rfl) u0) (.inl rfl) u1) (.inl rfl) u2) (.inl rfl) u3) (.inl rfl) u4) (.inl rfl) u5
theorem blk_set6 {w : World} {g t : Nat} {z0 z1 z2 z3 z4 z5 : Value} (h : Blk w g t #[z0, z1, z2, z3, z4, z5]) (u0 u1 u2 u3 u4 u5 : Value) : Blk ((((((w.setCell ⟨g, 0, none⟩ u0).setCell ⟨g, 1, none⟩ u1).setCell ⟨g, 2, none⟩ u2).setCell ⟨g, 3, none⟩ u3).setCell ⟨g, 4, none⟩ u4).setCell ⟨g, 5, none⟩ u5) g t #[u0, u1, u2, u3, u4, u5] := blk_cast ((((((h.set_ 0 u0).set_ 1 u1).set_ 2 u2).set_ 3 u3).set_ 4 u4).set_ 5 u5) rfl
theorem below_set6 {B : Nat} {a w : World} (h : Below B a w) {g : Nat} (hg : B ≤ g) (u0 u1 u2 u3 u4 u5 : Value) : Below B a ((((((w.setCell ⟨g, 0, none⟩ u0).setCell ⟨g, 1, none⟩ u1).setCell ⟨g, 2, none⟩ u2).setCell ⟨g, 3, none⟩ u3).setCell ⟨g, 4, none⟩ u4).setCell ⟨g, 5, none⟩ u5) := ((((((h.setCell (p := ⟨g, 0, none⟩) hg u0).setCell (p := ⟨g, 1, none⟩) hg u1).setCell (p := ⟨g, 2, none⟩) hg u2).setCell (p := ⟨g, 3, none⟩) hg u3).setCell (p := ⟨g, 4, none⟩) hg u4).setCell (p := ⟨g, 5, none⟩) hg u5)
theorem own_apart {w w' : World} {base e size n : Nat} {v v0 : Value} {xs : List Value} (h : w.ownsRow base e size v n xs) (hg : w.grownBy w' v0.ownBlock) (ha : ∀ g, v0.ownBlock = some g → v.ownBlock ≠ some g) : w'.ownsRow base e size v n xs := by
  obtain ⟨h1, h2 | ⟨g, cap, cur, hv, hb, hh, r⟩⟩ := h
  · exact ⟨h1, .inl h2⟩
  · refine ⟨h1, .inr ⟨g, cap, cur, hv, hb, ?_, r⟩⟩
    rw [hg.block g (Array.getElem?_eq_some_iff.1 hh).1 (fun e => ha g e.symm (by rw [hv]; simp [Value.ownBlock]))]
    exact hh
def ActP (r : Rn) (w : World) (e : Ending) (w' : World) : Prop := ∃ v, e = .returned v ∧ OwnAc w' w.heap.size v (actsS r) ∧ Below w.heap.size w w'
theorem OwnAc.base {w : World} {b b' : Nat} {v : Value} {l : List Ac} (h : OwnAc w b v l) (hb : b' ≤ b) : OwnAc w b' v l := by
  obtain ⟨vs, h1, h2⟩ := h
  exact ⟨vs, h1, own_base h2 hb⟩
def ActBox (wa : World) (a : Act) (T : Int) (v7 : Value) (wx : World) : Prop := ∃ yb v38 v41, v7 = .pointer (some ⟨yb, 0, none⟩) ∧ wa.heap.size ≤ yb ∧ Blk wx yb 50 #[.int .i64 T, .int .i64 0, .int .i64 (1 + a.num), .string ⟨#[]⟩, v38, v41] ∧ OwnP 52 7 chC wx wa.heap.size v38 (changesS a.reads) ∧ OwnP 52 7 chC wx wa.heap.size v41 (changesS a.writes) ∧ (∀ g, v38.ownBlock = some g → v41.ownBlock ≠ some g) ∧ Below wa.heap.size wa wx
def ActAc (wa : World) (a : Act) (T : Int) (v7 : Value) (wx : World) : Prop := ∃ yb v1 v2, v7 = .pointer (some ⟨yb, 0, none⟩) ∧ wa.heap.size ≤ yb ∧ Blk wx yb 50 #[.int .i64 (oneA T a).key.tick, .int .i64 (oneA T a).key.cls, .int .i64 (oneA T a).key.num, .string (bs (oneA T a).key.lin), v1, v2] ∧ RdCh wx v1 (oneA T a).reads ∧ RdCh wx v2 (oneA T a).writes ∧ Below wa.heap.size wa wx
theorem infoAc : (Tryd.prog.info? 50).map (fun i => (i.zero, i.size, i.bytes)) = some (some (.agg #[.int .i64 0, .int .i64 0, .int .i64 0, .string ⟨#[]⟩, .slice none 0 0, .slice none 0 0]), 6, 88) := by kernel_rfl
set_option maxRecDepth 100000 in
set_option maxHeartbeats 16000000 in
theorem actions_is {w : World} {v1 v2 : Value} {r : Rn} (h : RaAct w.heap.size w v2 r.acts) : Calls Tryd.prog 9 #[.agg #[v1, v2]] w (ActP r w) := by
  have hb1 : Below w.heap.size w (w.alloc (.cells #[v1, v2] 25)) := (Below.refl _ _).alloc (Nat.le_refl _) _
  have HK := Lib.hid (Blk.new w 25 #[v1, v2])
  have HA := Lib.hid (h.below hb1)
  have HB := Lib.hid hb1
  obtain ⟨A, c, rfl, hc, hmx⟩ := RowRa.form h
  clear h hb1
  go_enter Tryd.func9, Tryd.ntmps9
  go_upto_region 1 with (fail)
  generalize (w.alloc (.cells #[v1, .slice A r.acts.length c] 25)) = W at *
  generalize hB : w.heap.size = B0 at *
  have HBB := Lib.hid hB
  clear hB
  have hbW : B0 < W.heap.size := HK.out.lt
  obtain ⟨l, hl⟩ : ∃ l, r.acts = l := ⟨_, rfl⟩
  have HL := Lib.hid hl
  rw [hl] at HK HA hc
  rw [hl]
  clear hl
  have c0 : W.cell? ⟨B0, 1, none⟩ = some (.slice A l.length c) := HK.out.cell 1
  have H0 : Hid (ActRel l W 21 (.slice none 0 0) (.int .i64 (1 : Int)) (.int .i64 (0 : Nat)) W) := Lib.hid ⟨0, Nat.zero_le _, by omega, by omega, rfl, rfl, RowOwn.nil, Below.refl _ _⟩
  go_wp2
  go_loopg [3, 4, 5] 21 (fun gk v3 v4 v5 wr => ActRel l W gk v3 v4 v5 wr)
  case atStart => exact H0.out
  case round =>
    clear H0
    obtain ⟨i, hil, hi20, hgk, rfl, rfl, hout⟩ := hrel
    obtain ⟨vs0, hw0, ho2⟩ := hout.1
    obtain ⟨A3, c3, rfl, _⟩ := own_len ho2
    clear ho2 hw0 vs0
    have HO := Lib.hid hout
    clear hout
    have d0 : wr.cell? ⟨B0, 1, none⟩ = some (.slice A l.length c) := (HO.out.2.cell (p := ⟨B0, 1, none⟩) hbW).trans c0
    have hsz : W.heap.size ≤ wr.heap.size := HO.out.2.size
    have hlm : l.length ≤ 9223372036854775807 := by unfold maxLen at hmx; omega
    by_cases hi1 : i < l.length
    · by_cases hi2 : i < 20
      · have HAr := Lib.hid (HA.out.below (HO.out.2.mono (Nat.le_of_lt hbW)))
        obtain ⟨b, o, u1, u2, rfl, hb, hN, x0, x1, x2, x3, x4⟩ := RaAct.piece HAr.out hi1
        obtain ⟨a, ha⟩ : ∃ a, l[i] = a := ⟨_, rfl⟩
        rw [ha] at hN x0 x1 x4
        have HAE := Lib.hid ha
        clear ha
        obtain ⟨n0, n1, n2, n3, n4, n5, n6, n7⟩ := hN
        have HR1 := Lib.hid n0
        have HR2 := Lib.hid n1
        obtain ⟨A1, k1, hu1, hk1, hm1⟩ := n0.form
        obtain ⟨A2, k2, hu2, hk2, hm2⟩ := n1.form
        simp only at hu1 hu2
        subst hu1 hu2
        have hl1 : a.reads.length ≤ 9223372036854775807 := by unfold maxLen at hm1; omega
        have hl2 : a.writes.length ≤ 9223372036854775807 := by unfold maxLen at hm2; omega
        clear n0 n1
        have htk := tickT_le 1 (l.take i)
        have htl : (l.take i).length = i := by rw [List.length_take]; omega
        rw [htl] at htk
        obtain ⟨tk, htk0⟩ : ∃ tk, tickT 1 (l.take i) = tk := ⟨_, rfl⟩
        rw [htk0] at htk ⊢
        have HTK := Lib.hid htk0
        clear htk0 htl
        have i1 : (0 : Int) ≤ (i : Int) := by omega
        have i2 : (i : Int) < (l.length : Int) := by omega
        have em : Int.tmod a.wait 3 = a.wait % 3 := Int.tmod_eq_emod_of_nonneg n2
        have em1 : 0 ≤ a.wait % 3 := Int.emod_nonneg _ (by decide)
        have em2 : a.wait % 3 < 3 := Int.emod_lt_of_pos _ (by decide)
        have hbr : b < wr.heap.size := by omega
        go_upto_region 8 with (fail)
        have HBK := Lib.hid (Blk.new wr 77 #[.int .u8 a.wait, .int .u8 a.num, .slice A1 a.reads.length k1, .slice A2 a.writes.length k2, .int .u8 a.spoil])
        have HOa := Lib.hid (HO.out.next ((Below.refl wr.heap.size wr).alloc (Nat.le_refl _) (.cells #[.int .u8 a.wait, .int .u8 a.num, .slice A1 a.reads.length k1, .slice A2 a.writes.length k2, .int .u8 a.spoil] 77)))
        have HRa1 := Lib.hid (HR1.out.below ((Below.refl B0 wr).alloc (by omega) (.cells #[.int .u8 a.wait, .int .u8 a.num, .slice A1 a.reads.length k1, .slice A2 a.writes.length k2, .int .u8 a.spoil] 77)))
        have HRa2 := Lib.hid (HR2.out.below ((Below.refl B0 wr).alloc (by omega) (.cells #[.int .u8 a.wait, .int .u8 a.num, .slice A1 a.reads.length k1, .slice A2 a.writes.length k2, .int .u8 a.spoil] 77)))
        clear x0 x1 x2 x3 x4 hbr d0 em HAr HR1 HR2 HO
        generalize (wr.alloc (.cells #[.int .u8 a.wait, .int .u8 a.num, .slice A1 a.reads.length k1, .slice A2 a.writes.length k2, .int .u8 a.spoil] 77)) = wa at *
        obtain ⟨ab, hab⟩ : ∃ ab, wr.heap.size = ab := ⟨_, rfl⟩
        rw [hab] at HBK hsz ⊢
        clear hab
        obtain ⟨T, hT⟩ : ∃ T, tk + a.wait % 3 = T := ⟨_, rfl⟩
        rw [hT]
        have HT := Lib.hid hT
        have hT1 : 1 ≤ T := by omega
        have hT2 : T ≤ 100 := by omega
        clear hT em1 em2 htk n2 n3
        have habw : ab < wa.heap.size := HBK.out.lt
        have hB0a : B0 ≤ wa.heap.size := by omega
        have e1 : wa.cell? ⟨ab, 1, none⟩ = some (.int .u8 a.num) := HBK.out.cell 1
        have e2 : wa.cell? ⟨ab, 2, none⟩ = some (.slice A1 a.reads.length k1) := HBK.out.cell 2
        have e3 : wa.cell? ⟨ab, 3, none⟩ = some (.slice A2 a.writes.length k2) := HBK.out.cell 3
        go_cut [7] (fun v7 wx => ActBox wa a T v7 wx)
        case first =>
          have ew : IntKind.i64.wrap a.num = a.num := IntWalk.i64_in _ (by omega)
          have ew2 : IntKind.i64.wrap (1 + a.num) = 1 + a.num := IntWalk.i64_in _ (by omega)
          refine wp_region_noPanic ?_
          refine wp_region_held_drew (S := (fun (w' : World) => w'.cell? ⟨ab, 1, none⟩ = some (.int .u8 a.num) ∧ w'.cell? ⟨ab, 2, none⟩ = some (.slice A1 a.reads.length k1) ∧ w'.cell? ⟨ab, 3, none⟩ = some (.slice A2 a.writes.length k2))) (by kernel_rfl) ?_ (fun hHeld => ?_)
          · exact ⟨e1, e2, e3⟩
          refine wpAnyH_take (i := 0) (v := ?_) rfl (by kernel_rfl) (by kernel_rfl) (by kernel_rfl) (fun _ _ _ h => h) (Or.inl ⟨by kernel_rfl, ?_⟩) hHeld ?_
          rotate_left
          · (intro w hSw; (try dsimp only at hSw); go_simp; try with_reducible rfl)
          try simp only [Act.put, List.setIfInBounds_toArray, List.set_cons_zero, List.set_cons_succ]
          refine wpAnyH_take (i := 1) (v := ?_) rfl (by kernel_rfl) (by kernel_rfl) (by kernel_rfl) (fun _ _ _ h => h) (Or.inl ⟨by kernel_rfl, ?_⟩) hHeld ?_
          rotate_left
          · (intro w hSw; (try dsimp only at hSw); go_simp; try with_reducible rfl)
          try simp only [Act.put, List.setIfInBounds_toArray, List.set_cons_zero, List.set_cons_succ]
          refine wpAnyH_take (i := 2) (v := ?_) rfl (by kernel_rfl) (by kernel_rfl) (by kernel_rfl) (fun _ _ _ h => h) (Or.inl ⟨by kernel_rfl, ?_⟩) hHeld ?_
          rotate_left
          · (intro w hSw; (try dsimp only at hSw); go_simp; try with_reducible rfl)
          try simp only [Act.put, List.setIfInBounds_toArray, List.set_cons_zero, List.set_cons_succ]
          refine wpAnyH_take (i := 3) (v := ?_) rfl (by kernel_rfl) (by kernel_rfl) (by kernel_rfl) (fun _ _ _ h => h) (Or.inl ⟨by kernel_rfl, ?_⟩) hHeld ?_
          rotate_left
          · (intro w hSw; (try dsimp only at hSw); go_simp; try with_reducible rfl)
          try simp only [Act.put, List.setIfInBounds_toArray, List.set_cons_zero, List.set_cons_succ]
          refine wpAnyH_take (i := 4) (v := ?_) rfl (by kernel_rfl) (by kernel_rfl) (by kernel_rfl) (fun _ _ _ h => h) (Or.inl ⟨by kernel_rfl, ?_⟩) hHeld ?_
          rotate_left
          · (intro w hSw; (try dsimp only at hSw); go_simp; try with_reducible rfl)
          try simp only [Act.put, List.setIfInBounds_toArray, List.set_cons_zero, List.set_cons_succ]
          refine wpAnyH_take (i := 5) (v := ?_) rfl (by kernel_rfl) (by kernel_rfl) (by kernel_rfl) (fun _ _ _ h => h) (Or.inl ⟨by kernel_rfl, ?_⟩) hHeld ?_
          rotate_left
          · (intro w hSw; (try dsimp only at hSw); go_simp; try with_reducible rfl)
          try simp only [Act.put, List.setIfInBounds_toArray, List.set_cons_zero, List.set_cons_succ]
          refine wpAnyH_take (i := 6) (v := ?_) rfl (by kernel_rfl) (by kernel_rfl) (by kernel_rfl) (fun _ _ _ h => h) (Or.inl ⟨by kernel_rfl, ?_⟩) hHeld ?_
          rotate_left
          · (intro w hSw; (try dsimp only at hSw); go_simp; try with_reducible rfl)
          try simp only [Act.put, List.setIfInBounds_toArray, List.set_cons_zero, List.set_cons_succ]
          refine wpAnyH_take (i := 7) (v := ?_) rfl (by kernel_rfl) (by kernel_rfl) (by kernel_rfl) (fun _ _ _ h => h) (Or.inl ⟨by kernel_rfl, ?_⟩) hHeld ?_
          rotate_left
          · (intro w hSw; (try dsimp only at hSw); go_simp; try with_reducible rfl)
          try simp only [Act.put, List.setIfInBounds_toArray, List.set_cons_zero, List.set_cons_succ]
          refine wpAnyH_take (i := 9) (v := ?_) rfl (by kernel_rfl) (by kernel_rfl) (by kernel_rfl) (fun _ _ _ h => h) (Or.inl ⟨by kernel_rfl, ?_⟩) hHeld ?_
          rotate_left
          · (intro w hSw; (try dsimp only at hSw); go_simp; try with_reducible rfl)
          try simp only [Act.put, List.setIfInBounds_toArray, List.set_cons_zero, List.set_cons_succ]
          refine wpAnyH_take (i := 10) (v := ?_) rfl (by kernel_rfl) (by kernel_rfl) (by kernel_rfl) (fun _ _ _ h => h) (Or.inl ⟨by kernel_rfl, ?_⟩) hHeld ?_
          rotate_left
          · (intro w hSw; (try dsimp only at hSw); go_simp; try with_reducible rfl)
          try simp only [Act.put, List.setIfInBounds_toArray, List.set_cons_zero, List.set_cons_succ]
          refine wpAnyH_ready (rs := [8, 13]) (by kernel_rfl) (by simp) ?_
          refine AllReadyH.cons rfl (fun K hK => ?_) (AllReadyH.cons rfl (fun K hK => ?_) AllReadyH.nil)
          · go_simp
            have hbx := ((Below.refl wa.heap.size wa).drew)
            refine (changes_is (l := a.reads) ((HRa1.out.below (hbx.mono hB0a)).next_ (Nat.le_trans hB0a hbx.size)) hl1).mono ?_
            rintro e w1 ⟨v38, rfl, ho1, hb1⟩
            obtain ⟨a38, c38, rfl, _⟩ := own_len ho1
            have HB1 := Lib.hid (hbx.trans (hb1.mono hbx.size))
            have HO1 := Lib.hid (show OwnP 52 7 chC w1 wa.heap.size (.slice a38 (changesS a.reads).length c38) (changesS a.reads) from own_base ho1 hbx.size)
            have HLT : Hid (∀ g, (Value.slice a38 (changesS a.reads).length c38).ownBlock = some g → g < w1.heap.size) := Lib.hid (fun g hg => own_lt ho1 hg)
            clear ho1
            try (go_wp2_with fail)
            refine hK.out _ _ ?_ (fun hNew => ?_)
            · exact ⟨((HB1.out).cell (p := ⟨ab, 1, none⟩) habw).trans e1, ((HB1.out).cell (p := ⟨ab, 2, none⟩) habw).trans e2, ((HB1.out).cell (p := ⟨ab, 3, none⟩) habw).trans e3⟩
            clear hK K hHeld
            have hHeld := hNew
            clear hNew
            try simp only [Act.put, List.setIfInBounds_toArray, List.set_cons_zero, List.set_cons_succ]
            refine wpAnyH_ready (rs := [11, 13]) (by kernel_rfl) (by simp) ?_
            refine AllReadyH.cons rfl (fun K hK => ?_) (AllReadyH.cons rfl (fun K hK => ?_) AllReadyH.nil)
            · go_simp
              have hbx := HB1.out
              have hox := HO1.out
              have hle : w1.heap.size ≤ w1.heap.size := Nat.le_refl _
              refine (changes_is (l := a.writes) ((HRa2.out.below (hbx.mono hB0a)).next_ (Nat.le_trans hB0a hbx.size)) hl2).mono ?_
              rintro e w2 ⟨v41, rfl, ho2, hb2⟩
              obtain ⟨a41, c41, rfl, _⟩ := own_len ho2
              have HB2 := Lib.hid (hbx.trans (hb2.mono hbx.size))
              have HO2 := Lib.hid (show OwnP 52 7 chC w2 wa.heap.size (.slice a41 (changesS a.writes).length c41) (changesS a.writes) from own_base ho2 hbx.size)
              have HO1b := Lib.hid (OwnP.next hox hb2)
              have HAP : Hid (∀ g, (Value.slice a38 (changesS a.reads).length c38).ownBlock = some g → (Value.slice a41 (changesS a.writes).length c41).ownBlock ≠ some g) := Lib.hid (fun g hg hg2 => by have h1 := HLT.out g hg; have h2 := own_ge ho2 hg2; omega)
              clear ho2 hox
              try (go_wp2_with fail)
              refine hK.out _ _ ?_ (fun hNew => ?_)
              · exact ⟨((HB2.out).cell (p := ⟨ab, 1, none⟩) habw).trans e1, ((HB2.out).cell (p := ⟨ab, 2, none⟩) habw).trans e2, ((HB2.out).cell (p := ⟨ab, 3, none⟩) habw).trans e3⟩
              clear hK K hHeld
              have hHeld := hNew
              clear hNew
              try simp only [Act.put, List.setIfInBounds_toArray, List.set_cons_zero, List.set_cons_succ]
              refine wpAnyH_take (i := 12) (v := ?_) rfl (by kernel_rfl) (by kernel_rfl) (by kernel_rfl) (fun _ _ _ h => h) (Or.inl ⟨by kernel_rfl, ?_⟩) hHeld ?_
              rotate_left
              · (intro w hSw; (try dsimp only at hSw); go_simp; try with_reducible rfl)
              try simp only [Act.put, List.setIfInBounds_toArray, List.set_cons_zero, List.set_cons_succ]
              refine wpAnyH_ready (rs := [13]) (by kernel_rfl) (by simp) ?_
              refine AllReadyH.cons rfl (fun K hK => ?_) AllReadyH.nil
              go_simp
              refine hK.out _ _ ?_ (fun hNew => ?_)
              · exact ⟨((HB2.out.alloc HB2.out.size _).cell (p := ⟨ab, 1, none⟩) habw).trans e1, ((HB2.out.alloc HB2.out.size _).cell (p := ⟨ab, 2, none⟩) habw).trans e2, ((HB2.out.alloc HB2.out.size _).cell (p := ⟨ab, 3, none⟩) habw).trans e3⟩
              clear hK K hHeld
              have hHeld := hNew
              clear hNew
              try simp only [Act.put, List.setIfInBounds_toArray, List.set_cons_zero, List.set_cons_succ]
              refine wpAnyH_ready (rs := [14]) (by kernel_rfl) (by simp) ?_
              refine AllReadyH.cons rfl (fun K hK => ?_) AllReadyH.nil
              go_simp
              refine hK.out _ _ ?_ (fun hNew => ?_)
              · exact ⟨((HB2.out.alloc HB2.out.size _).cell (p := ⟨ab, 1, none⟩) habw).trans e1, ((HB2.out.alloc HB2.out.size _).cell (p := ⟨ab, 2, none⟩) habw).trans e2, ((HB2.out.alloc HB2.out.size _).cell (p := ⟨ab, 3, none⟩) habw).trans e3⟩
              clear hK K hHeld
              have hHeld := hNew
              clear hNew
              try simp only [Act.put, List.setIfInBounds_toArray, List.set_cons_zero, List.set_cons_succ]
              refine wpAnyH_done (by kernel_rfl) ?_ _
              clear hHeld
              try simp only [List.getElem_toArray, List.getElem_cons_zero, List.getElem_cons_succ, Act.put, List.setIfInBounds_toArray, List.set_cons_zero, List.set_cons_succ]
              refine NoPanic.normal ?_
              have hcb : Blk (w2.alloc (.cells #[.int .i64 T, .int .i64 0, .int .i64 (1 + a.num), .string ⟨#[]⟩, (.slice a38 (changesS a.reads).length c38), (.slice a41 (changesS a.writes).length c41)] 50)) w2.heap.size 50 #[.int .i64 T, .int .i64 0, .int .i64 (1 + a.num), .string ⟨#[]⟩, (.slice a38 (changesS a.reads).length c38), (.slice a41 (changesS a.writes).length c41)] := Blk.new w2 _ _
              have hbe := (Below.refl w2.heap.size w2).alloc (Nat.le_refl _) (.cells #[.int .i64 T, .int .i64 0, .int .i64 (1 + a.num), .string ⟨#[]⟩, (.slice a38 (changesS a.reads).length c38), (.slice a41 (changesS a.writes).length c41)] 50)
              go_wp2_with fail
              go_meet
              case rel => exact ⟨w2.heap.size, (.slice a38 (changesS a.reads).length c38), (.slice a41 (changesS a.writes).length c41), rfl, HB2.out.size, hcb, OwnP.next HO1b.out hbe, OwnP.next HO2.out hbe, HAP.out, HB2.out.trans (hbe.mono HB2.out.size)⟩
            · go_simp
              refine hK.out _ _ ?_ (fun hNew => ?_)
              · exact ⟨((HB1.out.alloc HB1.out.size (.cells #[.int .i64 0, .int .i64 0, .int .i64 0, .string ⟨#[]⟩, .slice none 0 0, .slice none 0 0] 50)).cell (p := ⟨ab, 1, none⟩) habw).trans e1, ((HB1.out.alloc HB1.out.size (.cells #[.int .i64 0, .int .i64 0, .int .i64 0, .string ⟨#[]⟩, .slice none 0 0, .slice none 0 0] 50)).cell (p := ⟨ab, 2, none⟩) habw).trans e2, ((HB1.out.alloc HB1.out.size (.cells #[.int .i64 0, .int .i64 0, .int .i64 0, .string ⟨#[]⟩, .slice none 0 0, .slice none 0 0] 50)).cell (p := ⟨ab, 3, none⟩) habw).trans e3⟩
              clear hK K hHeld
              have hHeld := hNew
              clear hNew
              try simp only [Act.put, List.setIfInBounds_toArray, List.set_cons_zero, List.set_cons_succ]
              refine wpAnyH_ready (rs := [11]) (by kernel_rfl) (by simp) ?_
              refine AllReadyH.cons rfl (fun K hK => ?_) AllReadyH.nil
              go_simp
              have hbx := (HB1.out.alloc HB1.out.size (.cells #[.int .i64 0, .int .i64 0, .int .i64 0, .string ⟨#[]⟩, .slice none 0 0, .slice none 0 0] 50))
              have hox := (OwnP.next HO1.out ((Below.refl w1.heap.size w1).alloc (Nat.le_refl _) (.cells #[.int .i64 0, .int .i64 0, .int .i64 0, .string ⟨#[]⟩, .slice none 0 0, .slice none 0 0] 50)))
              have hle : w1.heap.size ≤ (w1.alloc (.cells #[.int .i64 0, .int .i64 0, .int .i64 0, .string ⟨#[]⟩, .slice none 0 0, .slice none 0 0] 50)).heap.size := (by simp)
              refine (changes_is (l := a.writes) ((HRa2.out.below (hbx.mono hB0a)).next_ (Nat.le_trans hB0a hbx.size)) hl2).mono ?_
              rintro e w2 ⟨v41, rfl, ho2, hb2⟩
              obtain ⟨a41, c41, rfl, _⟩ := own_len ho2
              have HB2 := Lib.hid (hbx.trans (hb2.mono hbx.size))
              have HO2 := Lib.hid (show OwnP 52 7 chC w2 wa.heap.size (.slice a41 (changesS a.writes).length c41) (changesS a.writes) from own_base ho2 hbx.size)
              have HO1b := Lib.hid (OwnP.next hox hb2)
              have HAP : Hid (∀ g, (Value.slice a38 (changesS a.reads).length c38).ownBlock = some g → (Value.slice a41 (changesS a.writes).length c41).ownBlock ≠ some g) := Lib.hid (fun g hg hg2 => by have h1 := HLT.out g hg; have h2 := own_ge ho2 hg2; omega)
              clear ho2 hox
              have HCB : Hid (Blk w2 w1.heap.size 50 #[.int .i64 0, .int .i64 0, .int .i64 0, .string ⟨#[]⟩, .slice none 0 0, .slice none 0 0]) := Lib.hid ((Blk.new w1 50 #[.int .i64 0, .int .i64 0, .int .i64 0, .string ⟨#[]⟩, .slice none 0 0, .slice none 0 0]).next hb2 (by simp))
              obtain ⟨yb, hyb0⟩ : ∃ yb, w1.heap.size = yb := ⟨_, rfl⟩
              have hyb : wa.heap.size ≤ yb := by have := HB1.out.size; omega
              rw [hyb0] at HCB ⊢
              have z0 := HCB.out.cell 0
              have z1 := HCB.out.cell 1
              have z2 := HCB.out.cell 2
              have z3 := HCB.out.cell 3
              have z4 := HCB.out.cell 4
              have z5 := HCB.out.cell 5
              have zf0 := HCB.out.frozen 0
              have zf1 := HCB.out.frozen 1
              have zf2 := HCB.out.frozen 2
              have zf3 := HCB.out.frozen 3
              have zf4 := HCB.out.frozen 4
              have zf5 := HCB.out.frozen 5
              simp only [List.getElem?_toArray, List.getElem?_cons_zero, List.getElem?_cons_succ] at z0 z1 z2 z3 z4 z5
              clear hyb0 hb2 hbx
              try (go_wp2_with fail)
              refine hK.out _ _ ?_ (fun hNew => ?_)
              · exact ⟨((HB2.out).cell (p := ⟨ab, 1, none⟩) habw).trans e1, ((HB2.out).cell (p := ⟨ab, 2, none⟩) habw).trans e2, ((HB2.out).cell (p := ⟨ab, 3, none⟩) habw).trans e3⟩
              clear hK K hHeld
              have hHeld := hNew
              clear hNew
              try simp only [Act.put, List.setIfInBounds_toArray, List.set_cons_zero, List.set_cons_succ]
              refine wpAnyH_take (i := 12) (v := ?_) rfl (by kernel_rfl) (by kernel_rfl) (by kernel_rfl) (fun _ _ _ h => h) (Or.inl ⟨by kernel_rfl, ?_⟩) hHeld ?_
              rotate_left
              · (intro w hSw; (try dsimp only at hSw); go_simp; try with_reducible rfl)
              try simp only [Act.put, List.setIfInBounds_toArray, List.set_cons_zero, List.set_cons_succ]
              refine wpAnyH_ready (rs := [14]) (by kernel_rfl) (by simp) ?_
              refine AllReadyH.cons rfl (fun K hK => ?_) AllReadyH.nil
              go_simp
              refine hK.out _ _ ?_ (fun hNew => ?_)
              · exact ⟨(((below_set6 HB2.out hyb (.int .i64 T) (.int .i64 0) (.int .i64 (1 + a.num)) (.string ⟨#[]⟩) (.slice a38 (changesS a.reads).length c38) (.slice a41 (changesS a.writes).length c41))).cell (p := ⟨ab, 1, none⟩) habw).trans e1, (((below_set6 HB2.out hyb (.int .i64 T) (.int .i64 0) (.int .i64 (1 + a.num)) (.string ⟨#[]⟩) (.slice a38 (changesS a.reads).length c38) (.slice a41 (changesS a.writes).length c41))).cell (p := ⟨ab, 2, none⟩) habw).trans e2, (((below_set6 HB2.out hyb (.int .i64 T) (.int .i64 0) (.int .i64 (1 + a.num)) (.string ⟨#[]⟩) (.slice a38 (changesS a.reads).length c38) (.slice a41 (changesS a.writes).length c41))).cell (p := ⟨ab, 3, none⟩) habw).trans e3⟩
              clear hK K hHeld
              have hHeld := hNew
              clear hNew
              try simp only [Act.put, List.setIfInBounds_toArray, List.set_cons_zero, List.set_cons_succ]
              refine wpAnyH_done (by kernel_rfl) ?_ _
              clear hHeld
              try simp only [List.getElem_toArray, List.getElem_cons_zero, List.getElem_cons_succ, Act.put, List.setIfInBounds_toArray, List.set_cons_zero, List.set_cons_succ]
              refine NoPanic.normal ?_
              have hcb := blk_set6 HCB.out (.int .i64 T) (.int .i64 0) (.int .i64 (1 + a.num)) (.string ⟨#[]⟩) (.slice a38 (changesS a.reads).length c38) (.slice a41 (changesS a.writes).length c41)
              have hbe := only_set6 w2 yb (.int .i64 T) (.int .i64 0) (.int .i64 (1 + a.num)) (.string ⟨#[]⟩) (.slice a38 (changesS a.reads).length c38) (.slice a41 (changesS a.writes).length c41)
              have hbb := (below_set6 HB2.out hyb (.int .i64 T) (.int .i64 0) (.int .i64 (1 + a.num)) (.string ⟨#[]⟩) (.slice a38 (changesS a.reads).length c38) (.slice a41 (changesS a.writes).length c41))
              have hn1 : OwnP 52 7 chC ((((((w2.setCell ⟨yb, 0, none⟩ (.int .i64 T)).setCell ⟨yb, 1, none⟩ (.int .i64 0)).setCell ⟨yb, 2, none⟩ (.int .i64 (1 + a.num))).setCell ⟨yb, 3, none⟩ (.string ⟨#[]⟩)).setCell ⟨yb, 4, none⟩ ((.slice a38 (changesS a.reads).length c38))).setCell ⟨yb, 5, none⟩ ((.slice a41 (changesS a.writes).length c41))) wa.heap.size (.slice a38 (changesS a.reads).length c38) (changesS a.reads) := own_keep HO1b.out (Kept.of_blk [50] HCB.out hbe (by decide)) (by decide)
              have hn2 : OwnP 52 7 chC ((((((w2.setCell ⟨yb, 0, none⟩ (.int .i64 T)).setCell ⟨yb, 1, none⟩ (.int .i64 0)).setCell ⟨yb, 2, none⟩ (.int .i64 (1 + a.num))).setCell ⟨yb, 3, none⟩ (.string ⟨#[]⟩)).setCell ⟨yb, 4, none⟩ ((.slice a38 (changesS a.reads).length c38))).setCell ⟨yb, 5, none⟩ ((.slice a41 (changesS a.writes).length c41))) wa.heap.size (.slice a41 (changesS a.writes).length c41) (changesS a.writes) := own_keep HO2.out (Kept.of_blk [50] HCB.out hbe (by decide)) (by decide)
              clear hbe
              go_wp2_with fail
              go_meet
              case rel => exact ⟨yb, (.slice a38 (changesS a.reads).length c38), (.slice a41 (changesS a.writes).length c41), rfl, hyb, hcb, hn1, hn2, HAP.out, hbb⟩
          · go_simp
            refine hK.out _ _ ?_ (fun hNew => ?_)
            · exact ⟨((((Below.refl wa.heap.size wa).drew).alloc (Nat.le_refl _) (.cells #[.int .i64 0, .int .i64 0, .int .i64 0, .string ⟨#[]⟩, .slice none 0 0, .slice none 0 0] 50)).cell (p := ⟨ab, 1, none⟩) habw).trans e1, ((((Below.refl wa.heap.size wa).drew).alloc (Nat.le_refl _) (.cells #[.int .i64 0, .int .i64 0, .int .i64 0, .string ⟨#[]⟩, .slice none 0 0, .slice none 0 0] 50)).cell (p := ⟨ab, 2, none⟩) habw).trans e2, ((((Below.refl wa.heap.size wa).drew).alloc (Nat.le_refl _) (.cells #[.int .i64 0, .int .i64 0, .int .i64 0, .string ⟨#[]⟩, .slice none 0 0, .slice none 0 0] 50)).cell (p := ⟨ab, 3, none⟩) habw).trans e3⟩
            clear hK K hHeld
            have hHeld := hNew
            clear hNew
            try simp only [Act.put, List.setIfInBounds_toArray, List.set_cons_zero, List.set_cons_succ]
            refine wpAnyH_ready (rs := [8]) (by kernel_rfl) (by simp) ?_
            refine AllReadyH.cons rfl (fun K hK => ?_) AllReadyH.nil
            go_simp
            have hbx := (((Below.refl wa.heap.size wa).drew).alloc (Nat.le_refl _) (.cells #[.int .i64 0, .int .i64 0, .int .i64 0, .string ⟨#[]⟩, .slice none 0 0, .slice none 0 0] 50))
            refine (changes_is (l := a.reads) ((HRa1.out.below (hbx.mono hB0a)).next_ (Nat.le_trans hB0a hbx.size)) hl1).mono ?_
            rintro e w1 ⟨v38, rfl, ho1, hb1⟩
            obtain ⟨a38, c38, rfl, _⟩ := own_len ho1
            have HB1 := Lib.hid (hbx.trans (hb1.mono hbx.size))
            have HO1 := Lib.hid (show OwnP 52 7 chC w1 wa.heap.size (.slice a38 (changesS a.reads).length c38) (changesS a.reads) from own_base ho1 hbx.size)
            have HLT : Hid (∀ g, (Value.slice a38 (changesS a.reads).length c38).ownBlock = some g → g < w1.heap.size) := Lib.hid (fun g hg => own_lt ho1 hg)
            clear ho1
            have HCB1 : Hid (Blk w1 wa.heap.size 50 #[.int .i64 0, .int .i64 0, .int .i64 0, .string ⟨#[]⟩, .slice none 0 0, .slice none 0 0]) := Lib.hid ((Blk.new wa.drew 50 #[.int .i64 0, .int .i64 0, .int .i64 0, .string ⟨#[]⟩, .slice none 0 0, .slice none 0 0]).next hb1 (by simp))
            try (go_wp2_with fail)
            refine hK.out _ _ ?_ (fun hNew => ?_)
            · exact ⟨((HB1.out).cell (p := ⟨ab, 1, none⟩) habw).trans e1, ((HB1.out).cell (p := ⟨ab, 2, none⟩) habw).trans e2, ((HB1.out).cell (p := ⟨ab, 3, none⟩) habw).trans e3⟩
            clear hK K hHeld
            have hHeld := hNew
            clear hNew
            try simp only [Act.put, List.setIfInBounds_toArray, List.set_cons_zero, List.set_cons_succ]
            refine wpAnyH_ready (rs := [11]) (by kernel_rfl) (by simp) ?_
            refine AllReadyH.cons rfl (fun K hK => ?_) AllReadyH.nil
            go_simp
            have hbx := HB1.out
            have hox := HO1.out
            have hle : w1.heap.size ≤ w1.heap.size := Nat.le_refl _
            refine (changes_is (l := a.writes) ((HRa2.out.below (hbx.mono hB0a)).next_ (Nat.le_trans hB0a hbx.size)) hl2).mono ?_
            rintro e w2 ⟨v41, rfl, ho2, hb2⟩
            obtain ⟨a41, c41, rfl, _⟩ := own_len ho2
            have HB2 := Lib.hid (hbx.trans (hb2.mono hbx.size))
            have HO2 := Lib.hid (show OwnP 52 7 chC w2 wa.heap.size (.slice a41 (changesS a.writes).length c41) (changesS a.writes) from own_base ho2 hbx.size)
            have HO1b := Lib.hid (OwnP.next hox hb2)
            have HAP : Hid (∀ g, (Value.slice a38 (changesS a.reads).length c38).ownBlock = some g → (Value.slice a41 (changesS a.writes).length c41).ownBlock ≠ some g) := Lib.hid (fun g hg hg2 => by have h1 := HLT.out g hg; have h2 := own_ge ho2 hg2; omega)
            clear ho2 hox
            have HCB : Hid (Blk w2 wa.heap.size 50 #[.int .i64 0, .int .i64 0, .int .i64 0, .string ⟨#[]⟩, .slice none 0 0, .slice none 0 0]) := Lib.hid (HCB1.out.next hb2 HCB1.out.lt)
            clear HCB1
            obtain ⟨yb, hyb0⟩ : ∃ yb, wa.heap.size = yb := ⟨_, rfl⟩
            have hyb : wa.heap.size ≤ yb := by omega
            have HY := Lib.hid hyb0
            try rw [hyb0]
            rw [hyb0] at HCB
            have z0 := HCB.out.cell 0
            have z1 := HCB.out.cell 1
            have z2 := HCB.out.cell 2
            have z3 := HCB.out.cell 3
            have z4 := HCB.out.cell 4
            have z5 := HCB.out.cell 5
            have zf0 := HCB.out.frozen 0
            have zf1 := HCB.out.frozen 1
            have zf2 := HCB.out.frozen 2
            have zf3 := HCB.out.frozen 3
            have zf4 := HCB.out.frozen 4
            have zf5 := HCB.out.frozen 5
            simp only [List.getElem?_toArray, List.getElem?_cons_zero, List.getElem?_cons_succ] at z0 z1 z2 z3 z4 z5
            clear hyb0
            try (go_wp2_with fail)
            refine hK.out _ _ ?_ (fun hNew => ?_)
            · exact ⟨((HB2.out).cell (p := ⟨ab, 1, none⟩) habw).trans e1, ((HB2.out).cell (p := ⟨ab, 2, none⟩) habw).trans e2, ((HB2.out).cell (p := ⟨ab, 3, none⟩) habw).trans e3⟩
            clear hK K hHeld
            have hHeld := hNew
            clear hNew
            try simp only [Act.put, List.setIfInBounds_toArray, List.set_cons_zero, List.set_cons_succ]
            refine wpAnyH_take (i := 12) (v := ?_) rfl (by kernel_rfl) (by kernel_rfl) (by kernel_rfl) (fun _ _ _ h => h) (Or.inl ⟨by kernel_rfl, ?_⟩) hHeld ?_
            rotate_left
            · (intro w hSw; (try dsimp only at hSw); go_simp; try with_reducible rfl)
            try simp only [Act.put, List.setIfInBounds_toArray, List.set_cons_zero, List.set_cons_succ]
            refine wpAnyH_ready (rs := [14]) (by kernel_rfl) (by simp) ?_
            refine AllReadyH.cons rfl (fun K hK => ?_) AllReadyH.nil
            go_simp
            refine hK.out _ _ ?_ (fun hNew => ?_)
            · exact ⟨(((below_set6 HB2.out hyb (.int .i64 T) (.int .i64 0) (.int .i64 (1 + a.num)) (.string ⟨#[]⟩) (.slice a38 (changesS a.reads).length c38) (.slice a41 (changesS a.writes).length c41))).cell (p := ⟨ab, 1, none⟩) habw).trans e1, (((below_set6 HB2.out hyb (.int .i64 T) (.int .i64 0) (.int .i64 (1 + a.num)) (.string ⟨#[]⟩) (.slice a38 (changesS a.reads).length c38) (.slice a41 (changesS a.writes).length c41))).cell (p := ⟨ab, 2, none⟩) habw).trans e2, (((below_set6 HB2.out hyb (.int .i64 T) (.int .i64 0) (.int .i64 (1 + a.num)) (.string ⟨#[]⟩) (.slice a38 (changesS a.reads).length c38) (.slice a41 (changesS a.writes).length c41))).cell (p := ⟨ab, 3, none⟩) habw).trans e3⟩
            clear hK K hHeld
            have hHeld := hNew
            clear hNew
            try simp only [Act.put, List.setIfInBounds_toArray, List.set_cons_zero, List.set_cons_succ]
            refine wpAnyH_done (by kernel_rfl) ?_ _
            clear hHeld
            try simp only [List.getElem_toArray, List.getElem_cons_zero, List.getElem_cons_succ, Act.put, List.setIfInBounds_toArray, List.set_cons_zero, List.set_cons_succ]
            refine NoPanic.normal ?_
            have hcb := blk_set6 HCB.out (.int .i64 T) (.int .i64 0) (.int .i64 (1 + a.num)) (.string ⟨#[]⟩) (.slice a38 (changesS a.reads).length c38) (.slice a41 (changesS a.writes).length c41)
            have hbe := only_set6 w2 yb (.int .i64 T) (.int .i64 0) (.int .i64 (1 + a.num)) (.string ⟨#[]⟩) (.slice a38 (changesS a.reads).length c38) (.slice a41 (changesS a.writes).length c41)
            have hbb := (below_set6 HB2.out hyb (.int .i64 T) (.int .i64 0) (.int .i64 (1 + a.num)) (.string ⟨#[]⟩) (.slice a38 (changesS a.reads).length c38) (.slice a41 (changesS a.writes).length c41))
            have hn1 : OwnP 52 7 chC ((((((w2.setCell ⟨yb, 0, none⟩ (.int .i64 T)).setCell ⟨yb, 1, none⟩ (.int .i64 0)).setCell ⟨yb, 2, none⟩ (.int .i64 (1 + a.num))).setCell ⟨yb, 3, none⟩ (.string ⟨#[]⟩)).setCell ⟨yb, 4, none⟩ ((.slice a38 (changesS a.reads).length c38))).setCell ⟨yb, 5, none⟩ ((.slice a41 (changesS a.writes).length c41))) wa.heap.size (.slice a38 (changesS a.reads).length c38) (changesS a.reads) := own_keep HO1b.out (Kept.of_blk [50] HCB.out hbe (by decide)) (by decide)
            have hn2 : OwnP 52 7 chC ((((((w2.setCell ⟨yb, 0, none⟩ (.int .i64 T)).setCell ⟨yb, 1, none⟩ (.int .i64 0)).setCell ⟨yb, 2, none⟩ (.int .i64 (1 + a.num))).setCell ⟨yb, 3, none⟩ (.string ⟨#[]⟩)).setCell ⟨yb, 4, none⟩ ((.slice a38 (changesS a.reads).length c38))).setCell ⟨yb, 5, none⟩ ((.slice a41 (changesS a.writes).length c41))) wa.heap.size (.slice a41 (changesS a.writes).length c41) (changesS a.writes) := own_keep HO2.out (Kept.of_blk [50] HCB.out hbe (by decide)) (by decide)
            clear hbe
            go_wp2_with fail
            go_meet
            case rel => exact ⟨yb, (.slice a38 (changesS a.reads).length c38), (.slice a41 (changesS a.writes).length c41), rfl, hyb, hcb, hn1, hn2, HAP.out, hbb⟩
        case rest =>
          have e4 : wa.cell? ⟨ab, 4, none⟩ = some (.int .u8 a.spoil) := HBK.out.cell 4
          clear e1 e2 e3
          obtain ⟨yb, v38, v41, rfl, hyb, hcb, ho1, ho2, hap, hbx⟩ := hcut
          have HCB := Lib.hid hcb
          have HO1 := Lib.hid ho1
          have HO2 := Lib.hid ho2
          have HAP := Lib.hid hap
          have HBX := Lib.hid hbx
          have f4 : wc.cell? ⟨ab, 4, none⟩ = some (.int .u8 a.spoil) := (hbx.cell (p := ⟨ab, 4, none⟩) habw).trans e4
          obtain ⟨a38, c38, rfl, _⟩ := own_len ho1
          obtain ⟨a41, c41, rfl, _⟩ := own_len ho2
          clear e4 hcb ho1 ho2 hap hbx HRa1 HRa2 hl1 hl2 hk1 hk2 hm1 hm2
          go_upto_block 2 with (fail)
          go_cut [7, 44] (fun v7 v44 wx => ActAc wa a T v7 wx)
          case first =>
            clear f4 HK HA HB
            by_cases hs0 : a.spoil = 0
            · have hs := hs0
              clear hs0
              rw [hs]
              have HON := Lib.hid (show oneA T a = { plainA T a with key := { (plainA T a).key with tick := -1 } } by unfold oneA spoilC; rw [if_pos hs])
              clear hs
              have z0 := HCB.out.cell 0
              simp only [List.getElem?_toArray, List.getElem?_cons_zero] at z0
              have zf := HCB.out.frozen 0
              go_wp2_with fail
              have hbl := HCB.out.set_ 0 (.int .i64 (-1))
              have hgr := only_setCell (p := ⟨yb, 0, none⟩) (World.grownBy.refl wc (some yb)) (.inl rfl) (.int .i64 (-1))
              have hk := Kept.of_blk [50] HCB.out hgr (by decide)
              go_meet
              case rel =>
                unfold ActAc
                rw [HON.out]
                exact ⟨yb, _, _, rfl, hyb, blk_cast hbl rfl, RdP.keep HO1.out.rd hk (by decide), RdP.keep HO2.out.rd hk (by decide), HBX.out.setCell (p := ⟨yb, 0, none⟩) hyb _⟩
            by_cases hs1 : a.spoil = 1
            · have hs := hs1
              clear hs1
              rw [hs]
              have HON := Lib.hid (show oneA T a = { plainA T a with writes := (plainA T a).writes ++ [⟨obI 0, [], false⟩, ⟨obI 0, [], false⟩] } by unfold oneA spoilC; rw [if_neg hs0, if_pos hs])
              clear hs hs0
              have z5 := HCB.out.cell 5
              simp only [List.getElem?_toArray, List.getElem?_cons_zero, List.getElem?_cons_succ] at z5
              have hcl := changes_len a.writes
              have hwx : wa.heap.size ≤ wc.heap.size := HBX.out.size
              have hybl : yb < wc.heap.size := HCB.out.lt
              have HLT : Hid (∀ g, (Value.slice a41 (changesS a.writes).length c41).ownBlock = some g → g < wc.heap.size) := Lib.hid (fun g hg => own_lt HO2.out hg)
              obtain ⟨i0, hi, hz0, hz1, hz2⟩ := info_parts infoCh
              go_upto_region 13 with (fail)
              refine wp_region_noPanic ?_
              refine wp_region_last (S := (fun (w' : World) => w'.cell? ⟨yb, 5, none⟩ = some (.slice a41 (changesS a.writes).length c41))) 13 13 rfl (by kernel_rfl) (by kernel_rfl) ?_ (fun hHeld => ?_)
              · exact z5
              refine wpAnyH_take (i := 0) (v := ?_) rfl (by kernel_rfl) (by kernel_rfl) (by kernel_rfl) (fun _ _ _ h => h) (Or.inl ⟨by kernel_rfl, ?_⟩) hHeld ?_
              rotate_left
              · (intro w hSw; (try dsimp only at hSw); go_simp; try with_reducible rfl)
              try simp only [Act.put, List.setIfInBounds_toArray, List.set_cons_zero, List.set_cons_succ]
              refine wpAnyH_take (i := 1) (v := ?_) rfl (by kernel_rfl) (by kernel_rfl) (by kernel_rfl) (fun _ _ _ h => h) (Or.inl ⟨by kernel_rfl, ?_⟩) hHeld ?_
              rotate_left
              · (intro w hSw; (try dsimp only at hSw); go_simp; try with_reducible rfl)
              try simp only [Act.put, List.setIfInBounds_toArray, List.set_cons_zero, List.set_cons_succ]
              refine wpAnyH_ready (rs := [2]) (by kernel_rfl) (by simp) ?_
              refine AllReadyH.cons rfl (fun K hK => ?_) AllReadyH.nil
              go_simp
              refine (objects_is _).mono ?_
              rintro e w3 ⟨g3, c3', rfl, hown3, hb3⟩
              obtain ⟨q0, q1, q2, q3, q4⟩ := ob_row hown3 (i := 0) (by omega)
              have n0 : w3.cell? ⟨g3, 0, none⟩ = some (.int .i64 13) := q0
              have n1 : w3.cell? ⟨g3, 1, none⟩ = some (.string ⟨#[]⟩) := q1
              have n2 : w3.cell? ⟨g3, 2, none⟩ = some (.int .i64 1) := q2
              have n3 : w3.cell? ⟨g3, 3, none⟩ = some (.int .i64 0) := q3
              have n4 : w3.cell? ⟨g3, 4, none⟩ = some (.string ⟨#[]⟩) := q4
              clear q0 q1 q2 q3 q4
              have hg3 : g3 < w3.heap.size := own_lt hown3 rfl
              have hg3b : wc.heap.size ≤ g3 := own_ge hown3 rfl
              have HB3 := Lib.hid ((Below.refl wc.heap.size wc).drew.trans hb3)
              have y3 : w3.cell? ⟨yb, 5, none⟩ = some (.slice a41 (changesS a.writes).length c41) := (HB3.out.cell (p := ⟨yb, 5, none⟩) hybl).trans z5
              clear hown3 hb3
              try (go_wp2_with fail)
              refine hK.out _ _ ?_ (fun hNew => ?_)
              · exact y3
              clear hK K hHeld
              have hHeld := hNew
              clear hNew
              try simp only [Act.put, List.setIfInBounds_toArray, List.set_cons_zero, List.set_cons_succ]
              refine wpAnyH_more (S' := (fun (w' : World) => w'.cell? ⟨yb, 5, none⟩ = some (.slice a41 (changesS a.writes).length c41) ∧ w'.cell? ⟨g3, 0, none⟩ = some (.int .i64 13) ∧ w'.cell? ⟨g3, 1, none⟩ = some (.string ⟨#[]⟩) ∧ w'.cell? ⟨g3, 2, none⟩ = some (.int .i64 1) ∧ w'.cell? ⟨g3, 3, none⟩ = some (.int .i64 0) ∧ w'.cell? ⟨g3, 4, none⟩ = some (.string ⟨#[]⟩))) (fun _ h => h.1) ?_
              clear hHeld
              have hHeld : (fun (w' : World) => w'.cell? ⟨yb, 5, none⟩ = some (.slice a41 (changesS a.writes).length c41) ∧ w'.cell? ⟨g3, 0, none⟩ = some (.int .i64 13) ∧ w'.cell? ⟨g3, 1, none⟩ = some (.string ⟨#[]⟩) ∧ w'.cell? ⟨g3, 2, none⟩ = some (.int .i64 1) ∧ w'.cell? ⟨g3, 3, none⟩ = some (.int .i64 0) ∧ w'.cell? ⟨g3, 4, none⟩ = some (.string ⟨#[]⟩)) _ := ⟨y3, n0, n1, n2, n3, n4⟩
              refine wpAnyH_take (i := 3) (v := ?_) rfl (by kernel_rfl) (by kernel_rfl) (by kernel_rfl) (fun _ _ _ h => h) (Or.inl ⟨by kernel_rfl, ?_⟩) hHeld ?_
              rotate_left
              · (intro w hSw; (try dsimp only at hSw); go_simp; try with_reducible rfl)
              try simp only [Act.put, List.setIfInBounds_toArray, List.set_cons_zero, List.set_cons_succ]
              refine wpAnyH_take (i := 4) (v := ?_) rfl (by kernel_rfl) (by kernel_rfl) (by kernel_rfl) (fun _ _ _ h => h) (Or.inl ⟨by kernel_rfl, ?_⟩) hHeld ?_
              rotate_left
              · (intro w hSw; (try dsimp only at hSw); go_simp; try with_reducible rfl)
              try simp only [Act.put, List.setIfInBounds_toArray, List.set_cons_zero, List.set_cons_succ]
              refine wpAnyH_take (i := 5) (v := ?_) rfl (by kernel_rfl) (by kernel_rfl) (by kernel_rfl) (fun _ _ _ h => h) (Or.inl ⟨by kernel_rfl, ?_⟩) hHeld ?_
              rotate_left
              · (intro w hSw; (try dsimp only at hSw); go_simp; try with_reducible rfl)
              try simp only [Act.put, List.setIfInBounds_toArray, List.set_cons_zero, List.set_cons_succ]
              refine wpAnyH_ready (rs := [6]) (by kernel_rfl) (by simp) ?_
              refine AllReadyH.cons rfl (fun K hK => ?_) AllReadyH.nil
              go_simp
              refine (objects_is _).mono ?_
              rintro e w4 ⟨g4, c4', rfl, hown4, hb4⟩
              obtain ⟨q0, q1, q2, q3, q4⟩ := ob_row hown4 (i := 0) (by omega)
              have m0 : w4.cell? ⟨g4, 0, none⟩ = some (.int .i64 13) := q0
              have m1 : w4.cell? ⟨g4, 1, none⟩ = some (.string ⟨#[]⟩) := q1
              have m2 : w4.cell? ⟨g4, 2, none⟩ = some (.int .i64 1) := q2
              have m3 : w4.cell? ⟨g4, 3, none⟩ = some (.int .i64 0) := q3
              have m4 : w4.cell? ⟨g4, 4, none⟩ = some (.string ⟨#[]⟩) := q4
              clear q0 q1 q2 q3 q4
              have hg4 : g4 < w4.heap.size := own_lt hown4 rfl
              have hg4b : w3.heap.size ≤ g4 := own_ge hown4 rfl
              have HB4 := Lib.hid (HB3.out.trans (hb4.mono HB3.out.size))
              have y4 : w4.cell? ⟨yb, 5, none⟩ = some (.slice a41 (changesS a.writes).length c41) := (HB4.out.cell (p := ⟨yb, 5, none⟩) hybl).trans z5
              have k0 : w4.cell? ⟨g3, 0, none⟩ = some (.int .i64 13) := (hb4.cell (p := ⟨g3, 0, none⟩) hg3).trans n0
              have k1 : w4.cell? ⟨g3, 1, none⟩ = some (.string ⟨#[]⟩) := (hb4.cell (p := ⟨g3, 1, none⟩) hg3).trans n1
              have k2 : w4.cell? ⟨g3, 2, none⟩ = some (.int .i64 1) := (hb4.cell (p := ⟨g3, 2, none⟩) hg3).trans n2
              have k3 : w4.cell? ⟨g3, 3, none⟩ = some (.int .i64 0) := (hb4.cell (p := ⟨g3, 3, none⟩) hg3).trans n3
              have k4 : w4.cell? ⟨g3, 4, none⟩ = some (.string ⟨#[]⟩) := (hb4.cell (p := ⟨g3, 4, none⟩) hg3).trans n4
              clear hown4 hb4
              try (go_wp2_with fail)
              refine hK.out _ _ ?_ (fun hNew => ?_)
              · exact ⟨y4, k0, k1, k2, k3, k4⟩
              clear hK K hHeld
              have hHeld := hNew
              clear hNew
              try simp only [Act.put, List.setIfInBounds_toArray, List.set_cons_zero, List.set_cons_succ]
              refine wpAnyH_more (S' := (fun (w' : World) => (w'.cell? ⟨yb, 5, none⟩ = some (.slice a41 (changesS a.writes).length c41) ∧ w'.cell? ⟨g3, 0, none⟩ = some (.int .i64 13) ∧ w'.cell? ⟨g3, 1, none⟩ = some (.string ⟨#[]⟩) ∧ w'.cell? ⟨g3, 2, none⟩ = some (.int .i64 1) ∧ w'.cell? ⟨g3, 3, none⟩ = some (.int .i64 0) ∧ w'.cell? ⟨g3, 4, none⟩ = some (.string ⟨#[]⟩)) ∧ w'.cell? ⟨g4, 0, none⟩ = some (.int .i64 13) ∧ w'.cell? ⟨g4, 1, none⟩ = some (.string ⟨#[]⟩) ∧ w'.cell? ⟨g4, 2, none⟩ = some (.int .i64 1) ∧ w'.cell? ⟨g4, 3, none⟩ = some (.int .i64 0) ∧ w'.cell? ⟨g4, 4, none⟩ = some (.string ⟨#[]⟩))) (fun _ h => h.1) ?_
              clear hHeld
              have hHeld : (fun (w' : World) => (w'.cell? ⟨yb, 5, none⟩ = some (.slice a41 (changesS a.writes).length c41) ∧ w'.cell? ⟨g3, 0, none⟩ = some (.int .i64 13) ∧ w'.cell? ⟨g3, 1, none⟩ = some (.string ⟨#[]⟩) ∧ w'.cell? ⟨g3, 2, none⟩ = some (.int .i64 1) ∧ w'.cell? ⟨g3, 3, none⟩ = some (.int .i64 0) ∧ w'.cell? ⟨g3, 4, none⟩ = some (.string ⟨#[]⟩)) ∧ w'.cell? ⟨g4, 0, none⟩ = some (.int .i64 13) ∧ w'.cell? ⟨g4, 1, none⟩ = some (.string ⟨#[]⟩) ∧ w'.cell? ⟨g4, 2, none⟩ = some (.int .i64 1) ∧ w'.cell? ⟨g4, 3, none⟩ = some (.int .i64 0) ∧ w'.cell? ⟨g4, 4, none⟩ = some (.string ⟨#[]⟩)) _ := ⟨⟨y4, k0, k1, k2, k3, k4⟩, m0, m1, m2, m3, m4⟩
              refine wpAnyH_take (i := 7) (v := ?_) rfl (by kernel_rfl) (by kernel_rfl) (by kernel_rfl) (fun _ _ _ h => h) (Or.inl ⟨by kernel_rfl, ?_⟩) hHeld ?_
              rotate_left
              · (intro w hSw; (try dsimp only at hSw); go_simp; try with_reducible rfl)
              try simp only [Act.put, List.setIfInBounds_toArray, List.set_cons_zero, List.set_cons_succ]
              refine wpAnyH_take (i := 8) (v := ?_) rfl (by kernel_rfl) (by kernel_rfl) (by kernel_rfl) (fun _ _ _ h => h) (Or.inl ⟨by kernel_rfl, ?_⟩) hHeld ?_
              rotate_left
              · (intro w hSw; (try dsimp only at hSw); go_simp; try with_reducible rfl)
              try simp only [Act.put, List.setIfInBounds_toArray, List.set_cons_zero, List.set_cons_succ]
              refine wpAnyH_take (i := 9) (v := ?_) rfl (by kernel_rfl) (by kernel_rfl) (by kernel_rfl) (fun _ _ _ h => h) (Or.inl ⟨by kernel_rfl, ?_⟩) hHeld ?_
              rotate_left
              · (intro w hSw; (try dsimp only at hSw); go_simp; try with_reducible rfl)
              try simp only [Act.put, List.setIfInBounds_toArray, List.set_cons_zero, List.set_cons_succ]
              refine wpAnyH_ready (rs := [10]) (by kernel_rfl) (by simp) ?_
              refine AllReadyH.cons rfl (fun K hK => ?_) AllReadyH.nil
              go_simp
              refine hK.out _ _ ?_ (fun hNew => ?_)
              · exact ⟨⟨(World.cell?_alloc_lt w4 _ _ (by dsimp only; omega)).trans y4, (World.cell?_alloc_lt w4 _ _ (by dsimp only; omega)).trans k0, (World.cell?_alloc_lt w4 _ _ (by dsimp only; omega)).trans k1, (World.cell?_alloc_lt w4 _ _ (by dsimp only; omega)).trans k2, (World.cell?_alloc_lt w4 _ _ (by dsimp only; omega)).trans k3, (World.cell?_alloc_lt w4 _ _ (by dsimp only; omega)).trans k4⟩, (World.cell?_alloc_lt w4 _ _ (by dsimp only; omega)).trans m0, (World.cell?_alloc_lt w4 _ _ (by dsimp only; omega)).trans m1, (World.cell?_alloc_lt w4 _ _ (by dsimp only; omega)).trans m2, (World.cell?_alloc_lt w4 _ _ (by dsimp only; omega)).trans m3, (World.cell?_alloc_lt w4 _ _ (by dsimp only; omega)).trans m4⟩
              clear hK K hHeld
              have hHeld := hNew
              clear hNew
              try simp only [Act.put, List.setIfInBounds_toArray, List.set_cons_zero, List.set_cons_succ]
              refine wpAnyH_ready (rs := [11]) (by kernel_rfl) (by simp) ?_
              refine AllReadyH.cons rfl (fun K hK => ?_) AllReadyH.nil
              refine step_append_lies _ (by rfl) _ _ _ (by rfl) wa.heap.size 52 i0 _ 7 80 Tryd.underlying48 hi hz0 hz1 hz2 rfl (by omega) (.slice a41 (changesS a.writes).length c41) (changesS a.writes).length ((changesS a.writes).flatMap chC) (by rfl) (own_next HO2.out (HB4.out.alloc HB4.out.size (.cells #[.int .i64 13, .string ⟨#[]⟩, .int .i64 1, .int .i64 0, .string ⟨#[]⟩, .string ⟨#[]⟩, .bool false, .int .i64 13, .string ⟨#[]⟩, .int .i64 1, .int .i64 0, .string ⟨#[]⟩, .string ⟨#[]⟩, .bool false] 52))) ⟨w4.heap.size, 0, none⟩ 2 2 [.int .i64 13, .string ⟨#[]⟩, .int .i64 1, .int .i64 0, .string ⟨#[]⟩, .string ⟨#[]⟩, .bool false, .int .i64 13, .string ⟨#[]⟩, .int .i64 1, .int .i64 0, .string ⟨#[]⟩, .string ⟨#[]⟩, .bool false] (by rfl) (by rfl) (World.news_of_block (cs := #[.int .i64 13, .string ⟨#[]⟩, .int .i64 1, .int .i64 0, .string ⟨#[]⟩, .string ⟨#[]⟩, .bool false, .int .i64 13, .string ⟨#[]⟩, .int .i64 1, .int .i64 0, .string ⟨#[]⟩, .string ⟨#[]⟩, .bool false]) (t := 52) (fr := (0, 0)) (heap_alloc_new w4 _)) (by simp [Value.oneCell']) (by omega) (by unfold maxLen; omega) (by omega) (by have := HB4.out.size; simp; omega) (w4.heap.size + 1) (by simp) ?_; intro gg cap w5 hown5 hgrow5 hat5 hlt5; have HN5 := Lib.hid hown5; have HG5 := Lib.hid hgrow5; have hne := own_blk_ne (own_next HO2.out (HB4.out.alloc HB4.out.size (.cells #[.int .i64 13, .string ⟨#[]⟩, .int .i64 1, .int .i64 0, .string ⟨#[]⟩, .string ⟨#[]⟩, .bool false, .int .i64 13, .string ⟨#[]⟩, .int .i64 1, .int .i64 0, .string ⟨#[]⟩, .string ⟨#[]⟩, .bool false] 52))) (HCB.out.next (HB4.out.alloc HB4.out.size (.cells #[.int .i64 13, .string ⟨#[]⟩, .int .i64 1, .int .i64 0, .string ⟨#[]⟩, .string ⟨#[]⟩, .bool false, .int .i64 13, .string ⟨#[]⟩, .int .i64 1, .int .i64 0, .string ⟨#[]⟩, .string ⟨#[]⟩, .bool false] 52)) HCB.out.lt) (by decide); have hcb5 := (HCB.out.next (HB4.out.alloc HB4.out.size (.cells #[.int .i64 13, .string ⟨#[]⟩, .int .i64 1, .int .i64 0, .string ⟨#[]⟩, .string ⟨#[]⟩, .bool false, .int .i64 13, .string ⟨#[]⟩, .int .i64 1, .int .i64 0, .string ⟨#[]⟩, .string ⟨#[]⟩, .bool false] 52)) HCB.out.lt).grown hgrow5 hne.symm; have HCB5 := Lib.hid hcb5; have z5' := hcb5.cell 5; have zf5 := hcb5.frozen 5; (simp only [List.getElem?_toArray, List.getElem?_cons_zero, List.getElem?_cons_succ] at z5')
              refine hK.out _ _ ?_ (fun hNew => ?_)
              · exact ⟨⟨z5', (World.cell?_of_block (hgrow5.block g3 (by simp; omega) (fun e => by have := HLT.out g3 e.symm; omega))).trans ((World.cell?_alloc_lt w4 _ _ (by dsimp only; omega)).trans k0), (World.cell?_of_block (hgrow5.block g3 (by simp; omega) (fun e => by have := HLT.out g3 e.symm; omega))).trans ((World.cell?_alloc_lt w4 _ _ (by dsimp only; omega)).trans k1), (World.cell?_of_block (hgrow5.block g3 (by simp; omega) (fun e => by have := HLT.out g3 e.symm; omega))).trans ((World.cell?_alloc_lt w4 _ _ (by dsimp only; omega)).trans k2), (World.cell?_of_block (hgrow5.block g3 (by simp; omega) (fun e => by have := HLT.out g3 e.symm; omega))).trans ((World.cell?_alloc_lt w4 _ _ (by dsimp only; omega)).trans k3), (World.cell?_of_block (hgrow5.block g3 (by simp; omega) (fun e => by have := HLT.out g3 e.symm; omega))).trans ((World.cell?_alloc_lt w4 _ _ (by dsimp only; omega)).trans k4)⟩, (World.cell?_of_block (hgrow5.block g4 (by simp; omega) (fun e => by have := HLT.out g4 e.symm; omega))).trans ((World.cell?_alloc_lt w4 _ _ (by dsimp only; omega)).trans m0), (World.cell?_of_block (hgrow5.block g4 (by simp; omega) (fun e => by have := HLT.out g4 e.symm; omega))).trans ((World.cell?_alloc_lt w4 _ _ (by dsimp only; omega)).trans m1), (World.cell?_of_block (hgrow5.block g4 (by simp; omega) (fun e => by have := HLT.out g4 e.symm; omega))).trans ((World.cell?_alloc_lt w4 _ _ (by dsimp only; omega)).trans m2), (World.cell?_of_block (hgrow5.block g4 (by simp; omega) (fun e => by have := HLT.out g4 e.symm; omega))).trans ((World.cell?_alloc_lt w4 _ _ (by dsimp only; omega)).trans m3), (World.cell?_of_block (hgrow5.block g4 (by simp; omega) (fun e => by have := HLT.out g4 e.symm; omega))).trans ((World.cell?_alloc_lt w4 _ _ (by dsimp only; omega)).trans m4)⟩
              clear hK K hHeld
              have hHeld := hNew
              clear hNew
              try simp only [Act.put, List.setIfInBounds_toArray, List.set_cons_zero, List.set_cons_succ]
              refine wpAnyH_take (i := 12) (v := ?_) rfl (by kernel_rfl) (by kernel_rfl) (by kernel_rfl) (fun _ _ _ h => h) (Or.inl ⟨by kernel_rfl, ?_⟩) hHeld ?_
              rotate_left
              · (intro w hSw; (try dsimp only at hSw); go_simp; try with_reducible rfl)
              try simp only [Act.put, List.setIfInBounds_toArray, List.set_cons_zero, List.set_cons_succ]
              refine wpAnyH_done (by kernel_rfl) ?_ _
              refine lastQ_step rfl (fun K hK => ?_)
              clear hHeld
              go_simp
              refine hK _ _ ?_
              clear hK K
              refine NoPanic.normal ?_
              have hWal := HB4.out.alloc HB4.out.size (.cells #[.int .i64 13, .string ⟨#[]⟩, .int .i64 1, .int .i64 0, .string ⟨#[]⟩, .string ⟨#[]⟩, .bool false, .int .i64 13, .string ⟨#[]⟩, .int .i64 1, .int .i64 0, .string ⟨#[]⟩, .string ⟨#[]⟩, .bool false] 52)
              have ho1 := own_apart (own_next HO1.out hWal) HG5.out (fun g h1 h2 => HAP.out g h2 h1)
              have hbe := below_own (HBX.out.trans (hWal.mono hwx)) (own_next HO2.out hWal) HG5.out (Nat.le_refl _) (by have := HB4.out.size; simp; omega)
              have hgr := only_setCell (p := ⟨yb, 5, none⟩) (World.grownBy.refl w5 (some yb)) (.inl rfl) (.slice (some ⟨gg, 0, none⟩) ((changesS a.writes).length + 2) cap)
              have hk := Kept.of_blk [50] HCB5.out hgr (by decide)
              have hbl := HCB5.out.set_ 5 (.slice (some ⟨gg, 0, none⟩) ((changesS a.writes).length + 2) cap)
              have hown : OwnP 52 7 chC w5 wa.heap.size (.slice (some ⟨gg, 0, none⟩) ((changesS a.writes).length + 2) cap) (changesS a.writes ++ [⟨obI 0, [], false⟩, ⟨obI 0, [], false⟩]) := by
                unfold OwnP
                rw [List.length_append, List.flatMap_append]
                exact HN5.out
              go_wp2_with fail
              go_meet
              case rel =>
                unfold ActAc
                rw [HON.out]
                exact ⟨yb, _, _, rfl, hyb, blk_cast hbl rfl, RdP.keep (OwnP.rd ho1) hk (by decide), RdP.keep (OwnP.rd hown) hk (by decide), hbe.setCell (p := ⟨yb, 5, none⟩) hyb _⟩
            by_cases hs2 : a.spoil = 2
            · have hs := hs2
              clear hs2
              rw [hs]
              have HON := Lib.hid (show oneA T a = { plainA T a with reads := (plainA T a).reads ++ [⟨⟨99, [], 0, 0, []⟩, [], false⟩] } by unfold oneA spoilC; rw [if_neg hs0, if_neg hs1, if_pos hs])
              clear hs hs0 hs1
              have z4 := HCB.out.cell 4
              simp only [List.getElem?_toArray, List.getElem?_cons_zero, List.getElem?_cons_succ] at z4
              have hcl := changes_len a.reads
              have hwx : wa.heap.size ≤ wc.heap.size := HBX.out.size
              obtain ⟨i0, hi, hz0, hz1, hz2⟩ := info_parts infoCh
              go_wp2_with (at_builtin; refine wpList_append_lies _ rfl _ _ _ rfl wa.heap.size 52 i0 _ 7 80 Tryd.underlying48 hi hz0 hz1 hz2 rfl (by omega) (.slice a38 (changesS a.reads).length c38) (changesS a.reads).length ((changesS a.reads).flatMap chC) (by rfl) (own_next HO1.out ((Below.refl _ _).alloc (Nat.le_refl _) (.cells #[.int .i64 99, .string ⟨#[]⟩, .int .i64 0, .int .i64 0, .string ⟨#[]⟩, .string ⟨#[]⟩, .bool false] 52))) ⟨wc.heap.size, 0, none⟩ 1 1 [.int .i64 99, .string ⟨#[]⟩, .int .i64 0, .int .i64 0, .string ⟨#[]⟩, .string ⟨#[]⟩, .bool false] rfl rfl (World.news_of_block (cs := #[.int .i64 99, .string ⟨#[]⟩, .int .i64 0, .int .i64 0, .string ⟨#[]⟩, .string ⟨#[]⟩, .bool false]) (t := 52) (fr := (0, 0)) (heap_alloc_new wc _)) (by simp [Value.oneCell']) (by omega) (by unfold maxLen; omega) (by omega) (by simp; omega) (wc.heap.size + 1) (by simp) ?_; intro gg cap w5 hown5 hgrow5 hat5 hlt5; have HN5 := Lib.hid hown5; have HG5 := Lib.hid hgrow5; have hcb5 := (HCB.out.alloc (.cells #[.int .i64 99, .string ⟨#[]⟩, .int .i64 0, .int .i64 0, .string ⟨#[]⟩, .string ⟨#[]⟩, .bool false] 52)).grown hgrow5 (own_blk_ne (own_next HO1.out ((Below.refl _ _).alloc (Nat.le_refl _) (.cells #[.int .i64 99, .string ⟨#[]⟩, .int .i64 0, .int .i64 0, .string ⟨#[]⟩, .string ⟨#[]⟩, .bool false] 52))) (HCB.out.alloc (.cells #[.int .i64 99, .string ⟨#[]⟩, .int .i64 0, .int .i64 0, .string ⟨#[]⟩, .string ⟨#[]⟩, .bool false] 52)) (by decide)).symm; have HCB5 := Lib.hid hcb5; have z4' := hcb5.cell 4; have zf4 := hcb5.frozen 4; (simp only [List.getElem?_toArray, List.getElem?_cons_zero, List.getElem?_cons_succ] at z4'); clear hown5 hgrow5 hat5 hlt5 hcb5 z4)
              have hWal := (Below.refl wc.heap.size wc).alloc (Nat.le_refl _) (.cells #[.int .i64 99, .string ⟨#[]⟩, .int .i64 0, .int .i64 0, .string ⟨#[]⟩, .string ⟨#[]⟩, .bool false] 52)
              have ho2 := own_apart (own_next HO2.out hWal) HG5.out HAP.out
              have hbe := below_own (HBX.out.alloc hwx (.cells #[.int .i64 99, .string ⟨#[]⟩, .int .i64 0, .int .i64 0, .string ⟨#[]⟩, .string ⟨#[]⟩, .bool false] 52)) (own_next HO1.out hWal) HG5.out (Nat.le_refl _) (by simp; omega)
              have hgr := only_setCell (p := ⟨yb, 4, none⟩) (World.grownBy.refl w5 (some yb)) (.inl rfl) (.slice (some ⟨gg, 0, none⟩) ((changesS a.reads).length + 1) cap)
              have hk := Kept.of_blk [50] HCB5.out hgr (by decide)
              have hbl := HCB5.out.set_ 4 (.slice (some ⟨gg, 0, none⟩) ((changesS a.reads).length + 1) cap)
              go_meet
              case rel =>
                unfold ActAc
                rw [HON.out]
                exact ⟨yb, _, _, rfl, hyb, blk_cast hbl rfl, RdP.keep (OwnP.rd (OwnP.snoc (x := (⟨⟨99, [], 0, 0, []⟩, [], false⟩ : Ch)) HN5.out)) hk (by decide), RdP.keep (OwnP.rd ho2) hk (by decide), hbe.setCell (p := ⟨yb, 4, none⟩) hyb _⟩
            by_cases hs3 : a.spoil = 3
            · have hs := hs3
              clear hs3
              rw [hs]
              have HON := Lib.hid (show oneA T a = { plainA T a with writes := [⟨obI 1, [120], true⟩] } by unfold oneA spoilC; rw [if_neg hs0, if_neg hs1, if_neg hs2, if_pos hs])
              clear hs hs0 hs1 hs2
              have hwx : wa.heap.size ≤ wc.heap.size := HBX.out.size
              go_wp2_with fail
              refine (objects_is _).mono ?_
              rintro e w3 ⟨g3, c3', rfl, hown3, hb3⟩
              obtain ⟨q0, q1, q2, q3, q4⟩ := ob_row hown3 (i := 1) (by omega)
              have n0 : w3.cell? ⟨g3, 5, none⟩ = some (.int .i64 15) := q0
              have n1 : w3.cell? ⟨g3, 6, none⟩ = some (.string ⟨#[]⟩) := q1
              have n2 : w3.cell? ⟨g3, 7, none⟩ = some (.int .i64 0) := q2
              have n3 : w3.cell? ⟨g3, 8, none⟩ = some (.int .i64 0) := q3
              have n4 : w3.cell? ⟨g3, 9, none⟩ = some (.string ⟨#[]⟩) := q4
              have HB3 := Lib.hid hb3
              have HCB3 := Lib.hid (HCB.out.next hb3 HCB.out.lt)
              clear q0 q1 q2 q3 q4 hown3
              have hcb5 := HCB3.out.alloc (.cells #[.int .i64 15, .string ⟨#[]⟩, .int .i64 0, .int .i64 0, .string ⟨#[]⟩, .string ⟨#[120]⟩, .bool true] 52)
              have z5 := hcb5.cell 5
              have zf5 := hcb5.frozen 5
              (simp only [List.getElem?_toArray, List.getElem?_cons_zero, List.getElem?_cons_succ] at z5)
              have HCB5 := Lib.hid hcb5
              clear hcb5 hb3
              go_wp2_with fail
              have hnew := own_new w3 wa.heap.size 52 7 [.int .i64 15, .string ⟨#[]⟩, .int .i64 0, .int .i64 0, .string ⟨#[]⟩, .string ⟨#[120]⟩, .bool true] rfl (Nat.le_trans hwx HB3.out.size)
              have hb5 := (HB3.out.alloc HB3.out.size (.cells #[.int .i64 15, .string ⟨#[]⟩, .int .i64 0, .int .i64 0, .string ⟨#[]⟩, .string ⟨#[120]⟩, .bool true] 52))
              have hgr := only_setCell (p := ⟨yb, 5, none⟩) (World.grownBy.refl (w3.alloc (.cells #[.int .i64 15, .string ⟨#[]⟩, .int .i64 0, .int .i64 0, .string ⟨#[]⟩, .string ⟨#[120]⟩, .bool true] 52)) (some yb)) (.inl rfl) (.slice (some ⟨w3.heap.size, 0, none⟩) 1 1)
              have hk := Kept.of_blk [50] HCB5.out hgr (by decide)
              have hbl := HCB5.out.set_ 5 (.slice (some ⟨w3.heap.size, 0, none⟩) 1 1)
              go_meet
              case rel =>
                unfold ActAc
                rw [HON.out]
                exact ⟨yb, _, _, rfl, hyb, blk_cast hbl rfl, RdP.keep (RdP.next HO1.out.rd hb5) hk (by decide), RdP.keep (show RdCh _ _ [⟨obI 1, [120], true⟩] from Rd.of_own hnew) hk (by decide), (HBX.out.trans (hb5.mono hwx)).setCell (p := ⟨yb, 5, none⟩) hyb _⟩
            by_cases hs4 : a.spoil = 4
            · have hs := hs4
              clear hs4
              rw [hs]
              have HON := Lib.hid (show oneA T a = { plainA T a with writes := [⟨obI 1, longS, false⟩] } by unfold oneA spoilC longS; rw [if_neg hs0, if_neg hs1, if_neg hs2, if_neg hs3, if_pos hs])
              clear hs hs0 hs1 hs2 hs3
              have z5 := HCB.out.cell 5
              simp only [List.getElem?_toArray, List.getElem?_cons_zero, List.getElem?_cons_succ] at z5
              have hwx : wa.heap.size ≤ wc.heap.size := HBX.out.size
              have hybl : yb < wc.heap.size := HCB.out.lt
              go_upto_region 19 with (fail)
              refine wp_region_noPanic ?_
              refine wp_region_last (S := (fun (w' : World) => w'.cell? ⟨yb, 5, none⟩ = some (.slice a41 (changesS a.writes).length c41))) 8 8 rfl (by kernel_rfl) (by kernel_rfl) ?_ (fun hHeld => ?_)
              · exact z5
              refine wpAnyH_ready (rs := [0, 3]) (by kernel_rfl) (by simp) ?_
              refine AllReadyH.cons rfl (fun K hK => ?_) (AllReadyH.cons rfl (fun K hK => ?_) AllReadyH.nil)
              · go_simp
                have hbx := ((Below.refl wc.heap.size wc).drew)
                refine (objects_is _).mono ?_
                rintro e w3 ⟨g3, c3', rfl, hown3, hb3⟩
                obtain ⟨q0, q1, q2, q3, q4⟩ := ob_row hown3 (i := 1) (by omega)
                have n0 : w3.cell? ⟨g3, 5, none⟩ = some (.int .i64 15) := q0
                have n1 : w3.cell? ⟨g3, 6, none⟩ = some (.string ⟨#[]⟩) := q1
                have n2 : w3.cell? ⟨g3, 7, none⟩ = some (.int .i64 0) := q2
                have n3 : w3.cell? ⟨g3, 8, none⟩ = some (.int .i64 0) := q3
                have n4 : w3.cell? ⟨g3, 9, none⟩ = some (.string ⟨#[]⟩) := q4
                clear q0 q1 q2 q3 q4
                have hg3 : g3 < w3.heap.size := own_lt hown3 rfl
                have HB3 := Lib.hid (hbx.trans (hb3.mono hbx.size))
                have y3 : w3.cell? ⟨yb, 5, none⟩ = some (.slice a41 (changesS a.writes).length c41) := ((HB3.out).cell (p := ⟨yb, 5, none⟩) hybl).trans z5
                clear hown3
                try (go_wp2_with fail)
                refine hK.out _ _ ?_ (fun hNew => ?_)
                · exact y3
                clear hK K hHeld
                have hHeld := hNew
                clear hNew
                try simp only [Act.put, List.setIfInBounds_toArray, List.set_cons_zero, List.set_cons_succ]
                refine wpAnyH_more (S' := (fun (w' : World) => w'.cell? ⟨yb, 5, none⟩ = some (.slice a41 (changesS a.writes).length c41) ∧ w'.cell? ⟨g3, 5, none⟩ = some (.int .i64 15) ∧ w'.cell? ⟨g3, 6, none⟩ = some (.string ⟨#[]⟩) ∧ w'.cell? ⟨g3, 7, none⟩ = some (.int .i64 0) ∧ w'.cell? ⟨g3, 8, none⟩ = some (.int .i64 0) ∧ w'.cell? ⟨g3, 9, none⟩ = some (.string ⟨#[]⟩))) (fun _ h => h.1) ?_
                clear hHeld
                have hHeld : (fun (w' : World) => w'.cell? ⟨yb, 5, none⟩ = some (.slice a41 (changesS a.writes).length c41) ∧ w'.cell? ⟨g3, 5, none⟩ = some (.int .i64 15) ∧ w'.cell? ⟨g3, 6, none⟩ = some (.string ⟨#[]⟩) ∧ w'.cell? ⟨g3, 7, none⟩ = some (.int .i64 0) ∧ w'.cell? ⟨g3, 8, none⟩ = some (.int .i64 0) ∧ w'.cell? ⟨g3, 9, none⟩ = some (.string ⟨#[]⟩)) _ := ⟨y3, n0, n1, n2, n3, n4⟩
                refine wpAnyH_take (i := 1) (v := ?_) rfl (by kernel_rfl) (by kernel_rfl) (by kernel_rfl) (fun _ _ _ h => h) (Or.inl ⟨by kernel_rfl, ?_⟩) hHeld ?_
                rotate_left
                · (intro w hSw; (try dsimp only at hSw); go_simp; try with_reducible rfl)
                try simp only [Act.put, List.setIfInBounds_toArray, List.set_cons_zero, List.set_cons_succ]
                refine wpAnyH_take (i := 2) (v := ?_) rfl (by kernel_rfl) (by kernel_rfl) (by kernel_rfl) (fun _ _ _ h => h) (Or.inl ⟨by kernel_rfl, ?_⟩) hHeld ?_
                rotate_left
                · (intro w hSw; (try dsimp only at hSw); go_simp; try with_reducible rfl)
                try simp only [Act.put, List.setIfInBounds_toArray, List.set_cons_zero, List.set_cons_succ]
                have hmk := make_long w3
                refine wpAnyH_ready (rs := [3]) (by kernel_rfl) (by simp) ?_
                refine AllReadyH.cons rfl (fun K hK => ?_) AllReadyH.nil
                go_simp
                clear hmk
                refine hK.out _ _ ?_ (fun hNew => ?_)
                · exact ⟨((HB3.out.alloc HB3.out.size _).cell (p := ⟨yb, 5, none⟩) hybl).trans z5, (World.cell?_alloc_lt w3 _ _ (by first | (dsimp only; omega) | (simp; omega))).trans n0, (World.cell?_alloc_lt w3 _ _ (by first | (dsimp only; omega) | (simp; omega))).trans n1, (World.cell?_alloc_lt w3 _ _ (by first | (dsimp only; omega) | (simp; omega))).trans n2, (World.cell?_alloc_lt w3 _ _ (by first | (dsimp only; omega) | (simp; omega))).trans n3, (World.cell?_alloc_lt w3 _ _ (by first | (dsimp only; omega) | (simp; omega))).trans n4⟩
                clear hK K hHeld
                have hHeld := hNew
                clear hNew
                try simp only [Act.put, List.setIfInBounds_toArray, List.set_cons_zero, List.set_cons_succ]
                have HBM := Lib.hid (HB3.out.alloc HB3.out.size (.cells (madeCells #[.int .u8 0] 65537) 5))
                have hcv := conv_long (w3.alloc (.cells (madeCells #[.int .u8 0] 65537) 5)) w3.heap.size (fun i hi => made_cell w3 i hi)
                refine wpAnyH_ready (rs := [4]) (by kernel_rfl) (by simp) ?_
                refine AllReadyH.cons rfl (fun K hK => ?_) AllReadyH.nil
                go_simp
                clear hcv
                refine hK.out _ _ ?_ (fun hNew => ?_)
                · exact ⟨((HBM.out).cell (p := ⟨yb, 5, none⟩) hybl).trans z5, (World.cell?_alloc_lt w3 _ _ (by first | (dsimp only; omega) | (simp; omega))).trans n0, (World.cell?_alloc_lt w3 _ _ (by first | (dsimp only; omega) | (simp; omega))).trans n1, (World.cell?_alloc_lt w3 _ _ (by first | (dsimp only; omega) | (simp; omega))).trans n2, (World.cell?_alloc_lt w3 _ _ (by first | (dsimp only; omega) | (simp; omega))).trans n3, (World.cell?_alloc_lt w3 _ _ (by first | (dsimp only; omega) | (simp; omega))).trans n4⟩
                clear hK K hHeld
                have hHeld := hNew
                clear hNew
                try simp only [Act.put, List.setIfInBounds_toArray, List.set_cons_zero, List.set_cons_succ]
                have k0 : (w3.alloc (.cells (madeCells #[.int .u8 0] 65537) 5)).cell? ⟨g3, 5, none⟩ = some (.int .i64 15) := (World.cell?_alloc_lt w3 _ _ (by dsimp only; omega)).trans n0
                have k1 : (w3.alloc (.cells (madeCells #[.int .u8 0] 65537) 5)).cell? ⟨g3, 6, none⟩ = some (.string ⟨#[]⟩) := (World.cell?_alloc_lt w3 _ _ (by dsimp only; omega)).trans n1
                have k2 : (w3.alloc (.cells (madeCells #[.int .u8 0] 65537) 5)).cell? ⟨g3, 7, none⟩ = some (.int .i64 0) := (World.cell?_alloc_lt w3 _ _ (by dsimp only; omega)).trans n2
                have k3 : (w3.alloc (.cells (madeCells #[.int .u8 0] 65537) 5)).cell? ⟨g3, 8, none⟩ = some (.int .i64 0) := (World.cell?_alloc_lt w3 _ _ (by dsimp only; omega)).trans n3
                have k4 : (w3.alloc (.cells (madeCells #[.int .u8 0] 65537) 5)).cell? ⟨g3, 9, none⟩ = some (.string ⟨#[]⟩) := (World.cell?_alloc_lt w3 _ _ (by dsimp only; omega)).trans n4
                have hg3m : g3 < (w3.alloc (.cells (madeCells #[.int .u8 0] 65537) 5)).heap.size := by simp; omega
                clear n0 n1 n2 n3 n4
                refine wpAnyH_take (i := 5) (v := ?_) rfl (by kernel_rfl) (by kernel_rfl) (by kernel_rfl) (fun _ _ _ h => h) (Or.inl ⟨by kernel_rfl, ?_⟩) hHeld ?_
                rotate_left
                · (intro w hSw; (try dsimp only at hSw); go_simp; try with_reducible rfl)
                try simp only [Act.put, List.setIfInBounds_toArray, List.set_cons_zero, List.set_cons_succ]
                refine wpAnyH_ready (rs := [6]) (by kernel_rfl) (by simp) ?_
                refine AllReadyH.cons rfl (fun K hK => ?_) AllReadyH.nil
                go_simp
                refine hK.out _ _ ?_ (fun hNew => ?_)
                · exact ⟨((HBM.out.alloc HBM.out.size _).cell (p := ⟨yb, 5, none⟩) hybl).trans z5, (World.cell?_alloc_lt (w3.alloc (.cells (madeCells #[.int .u8 0] 65537) 5)) _ _ hg3m).trans k0, (World.cell?_alloc_lt (w3.alloc (.cells (madeCells #[.int .u8 0] 65537) 5)) _ _ hg3m).trans k1, (World.cell?_alloc_lt (w3.alloc (.cells (madeCells #[.int .u8 0] 65537) 5)) _ _ hg3m).trans k2, (World.cell?_alloc_lt (w3.alloc (.cells (madeCells #[.int .u8 0] 65537) 5)) _ _ hg3m).trans k3, (World.cell?_alloc_lt (w3.alloc (.cells (madeCells #[.int .u8 0] 65537) 5)) _ _ hg3m).trans k4⟩
                clear hK K hHeld
                have hHeld := hNew
                clear hNew
                try simp only [Act.put, List.setIfInBounds_toArray, List.set_cons_zero, List.set_cons_succ]
                refine wpAnyH_take (i := 7) (v := ?_) rfl (by kernel_rfl) (by kernel_rfl) (by kernel_rfl) (fun _ _ _ h => h) (Or.inl ⟨by kernel_rfl, ?_⟩) hHeld ?_
                rotate_left
                · (intro w hSw; (try dsimp only at hSw); go_simp; try with_reducible rfl)
                try simp only [Act.put, List.setIfInBounds_toArray, List.set_cons_zero, List.set_cons_succ]
                have hbF := HBM.out.alloc HBM.out.size (.cells #[.int .i64 15, .string ⟨#[]⟩, .int .i64 0, .int .i64 0, .string ⟨#[]⟩, .string (bs longS), .bool false] 52)
                have hcbF := HCB.out.next hbF HCB.out.lt
                have zF := hcbF.cell 5
                have zfF := hcbF.frozen 5
                (simp only [List.getElem?_toArray, List.getElem?_cons_zero, List.getElem?_cons_succ] at zF)
                have HBF := Lib.hid hbF
                have HCF := Lib.hid hcbF
                have hnw := own_new (w3.alloc (.cells (madeCells #[.int .u8 0] 65537) 5)) wa.heap.size 52 7 [.int .i64 15, .string ⟨#[]⟩, .int .i64 0, .int .i64 0, .string ⟨#[]⟩, .string (bs longS), .bool false] rfl (Nat.le_trans hwx HBM.out.size)
                try rw [show (w3.alloc (.cells (madeCells #[.int .u8 0] 65537) 5)).heap.size = w3.heap.size + 1 by simp] at hnw
                have HNW := Lib.hid hnw
                clear hnw hbF hcbF
                refine wpAnyH_done (by kernel_rfl) ?_ _
                refine lastQ_step rfl (fun K hK => ?_)
                clear hHeld
                go_simp
                refine hK _ _ ?_
                clear hK K
                refine NoPanic.normal ?_
                have hgr := only_setCell (p := ⟨yb, 5, none⟩) (World.grownBy.refl ((w3.alloc (.cells (madeCells #[.int .u8 0] 65537) 5)).alloc (.cells #[.int .i64 15, .string ⟨#[]⟩, .int .i64 0, .int .i64 0, .string ⟨#[]⟩, .string (bs longS), .bool false] 52)) (some yb)) (.inl rfl) (.slice (some ⟨w3.heap.size + 1, 0, none⟩) 1 1)
                have hk := Kept.of_blk [50] HCF.out hgr (by decide)
                have hbl := HCF.out.set_ 5 (.slice (some ⟨w3.heap.size + 1, 0, none⟩) 1 1)
                go_wp2_with fail
                go_meet
                case rel =>
                  unfold ActAc
                  rw [HON.out]
                  exact ⟨yb, _, _, rfl, hyb, blk_cast hbl rfl, RdP.keep (RdP.next HO1.out.rd HBF.out) hk (by decide), RdP.keep (show RdCh _ _ [⟨obI 1, longS, false⟩] from Rd.of_own HNW.out) hk (by decide), (HBX.out.trans (HBF.out.mono hwx)).setCell (p := ⟨yb, 5, none⟩) hyb _⟩
              · have hmk := make_long wc.drew
                go_simp
                clear hmk
                have HBM := Lib.hid (((Below.refl wc.heap.size wc).drew).alloc (Nat.le_refl _) (.cells (madeCells #[.int .u8 0] 65537) 5))
                refine hK.out _ _ ?_ (fun hNew => ?_)
                · exact ((HBM.out).cell (p := ⟨yb, 5, none⟩) hybl).trans z5
                clear hK K hHeld
                have hHeld := hNew
                clear hNew
                try simp only [Act.put, List.setIfInBounds_toArray, List.set_cons_zero, List.set_cons_succ]
                refine wpAnyH_ready (rs := [0, 4]) (by kernel_rfl) (by simp) ?_
                refine AllReadyH.cons rfl (fun K hK => ?_) (AllReadyH.cons rfl (fun K hK => ?_) AllReadyH.nil)
                · go_simp
                  have hbx := HBM.out
                  refine (objects_is _).mono ?_
                  rintro e w3 ⟨g3, c3', rfl, hown3, hb3⟩
                  obtain ⟨q0, q1, q2, q3, q4⟩ := ob_row hown3 (i := 1) (by omega)
                  have n0 : w3.cell? ⟨g3, 5, none⟩ = some (.int .i64 15) := q0
                  have n1 : w3.cell? ⟨g3, 6, none⟩ = some (.string ⟨#[]⟩) := q1
                  have n2 : w3.cell? ⟨g3, 7, none⟩ = some (.int .i64 0) := q2
                  have n3 : w3.cell? ⟨g3, 8, none⟩ = some (.int .i64 0) := q3
                  have n4 : w3.cell? ⟨g3, 9, none⟩ = some (.string ⟨#[]⟩) := q4
                  clear q0 q1 q2 q3 q4
                  have hg3 : g3 < w3.heap.size := own_lt hown3 rfl
                  have HB3 := Lib.hid (hbx.trans (hb3.mono hbx.size))
                  have y3 : w3.cell? ⟨yb, 5, none⟩ = some (.slice a41 (changesS a.writes).length c41) := ((HB3.out).cell (p := ⟨yb, 5, none⟩) hybl).trans z5
                  clear hown3
                  try (go_wp2_with fail)
                  refine hK.out _ _ ?_ (fun hNew => ?_)
                  · exact y3
                  clear hK K hHeld
                  have hHeld := hNew
                  clear hNew
                  try simp only [Act.put, List.setIfInBounds_toArray, List.set_cons_zero, List.set_cons_succ]
                  refine wpAnyH_more (S' := (fun (w' : World) => w'.cell? ⟨yb, 5, none⟩ = some (.slice a41 (changesS a.writes).length c41) ∧ w'.cell? ⟨g3, 5, none⟩ = some (.int .i64 15) ∧ w'.cell? ⟨g3, 6, none⟩ = some (.string ⟨#[]⟩) ∧ w'.cell? ⟨g3, 7, none⟩ = some (.int .i64 0) ∧ w'.cell? ⟨g3, 8, none⟩ = some (.int .i64 0) ∧ w'.cell? ⟨g3, 9, none⟩ = some (.string ⟨#[]⟩))) (fun _ h => h.1) ?_
                  clear hHeld
                  have hHeld : (fun (w' : World) => w'.cell? ⟨yb, 5, none⟩ = some (.slice a41 (changesS a.writes).length c41) ∧ w'.cell? ⟨g3, 5, none⟩ = some (.int .i64 15) ∧ w'.cell? ⟨g3, 6, none⟩ = some (.string ⟨#[]⟩) ∧ w'.cell? ⟨g3, 7, none⟩ = some (.int .i64 0) ∧ w'.cell? ⟨g3, 8, none⟩ = some (.int .i64 0) ∧ w'.cell? ⟨g3, 9, none⟩ = some (.string ⟨#[]⟩)) _ := ⟨y3, n0, n1, n2, n3, n4⟩
                  refine wpAnyH_take (i := 1) (v := ?_) rfl (by kernel_rfl) (by kernel_rfl) (by kernel_rfl) (fun _ _ _ h => h) (Or.inl ⟨by kernel_rfl, ?_⟩) hHeld ?_
                  rotate_left
                  · (intro w hSw; (try dsimp only at hSw); go_simp; try with_reducible rfl)
                  try simp only [Act.put, List.setIfInBounds_toArray, List.set_cons_zero, List.set_cons_succ]
                  refine wpAnyH_take (i := 2) (v := ?_) rfl (by kernel_rfl) (by kernel_rfl) (by kernel_rfl) (fun _ _ _ h => h) (Or.inl ⟨by kernel_rfl, ?_⟩) hHeld ?_
                  rotate_left
                  · (intro w hSw; (try dsimp only at hSw); go_simp; try with_reducible rfl)
                  try simp only [Act.put, List.setIfInBounds_toArray, List.set_cons_zero, List.set_cons_succ]
                  have hcv := conv_long w3 wc.heap.size (fun i hi => (hb3.cell (p := ⟨wc.heap.size, i, none⟩) (by simp)).trans (made_cell wc.drew i hi))
                  refine wpAnyH_ready (rs := [4]) (by kernel_rfl) (by simp) ?_
                  refine AllReadyH.cons rfl (fun K hK => ?_) AllReadyH.nil
                  go_simp
                  clear hcv
                  refine hK.out _ _ ?_ (fun hNew => ?_)
                  · exact ⟨y3, n0, n1, n2, n3, n4⟩
                  clear hK K hHeld
                  have hHeld := hNew
                  clear hNew
                  try simp only [Act.put, List.setIfInBounds_toArray, List.set_cons_zero, List.set_cons_succ]
                  refine wpAnyH_take (i := 5) (v := ?_) rfl (by kernel_rfl) (by kernel_rfl) (by kernel_rfl) (fun _ _ _ h => h) (Or.inl ⟨by kernel_rfl, ?_⟩) hHeld ?_
                  rotate_left
                  · (intro w hSw; (try dsimp only at hSw); go_simp; try with_reducible rfl)
                  try simp only [Act.put, List.setIfInBounds_toArray, List.set_cons_zero, List.set_cons_succ]
                  refine wpAnyH_ready (rs := [6]) (by kernel_rfl) (by simp) ?_
                  refine AllReadyH.cons rfl (fun K hK => ?_) AllReadyH.nil
                  go_simp
                  refine hK.out _ _ ?_ (fun hNew => ?_)
                  · exact ⟨((HB3.out.alloc HB3.out.size _).cell (p := ⟨yb, 5, none⟩) hybl).trans z5, (World.cell?_alloc_lt w3 _ _ (by dsimp only; omega)).trans n0, (World.cell?_alloc_lt w3 _ _ (by dsimp only; omega)).trans n1, (World.cell?_alloc_lt w3 _ _ (by dsimp only; omega)).trans n2, (World.cell?_alloc_lt w3 _ _ (by dsimp only; omega)).trans n3, (World.cell?_alloc_lt w3 _ _ (by dsimp only; omega)).trans n4⟩
                  clear hK K hHeld
                  have hHeld := hNew
                  clear hNew
                  try simp only [Act.put, List.setIfInBounds_toArray, List.set_cons_zero, List.set_cons_succ]
                  refine wpAnyH_take (i := 7) (v := ?_) rfl (by kernel_rfl) (by kernel_rfl) (by kernel_rfl) (fun _ _ _ h => h) (Or.inl ⟨by kernel_rfl, ?_⟩) hHeld ?_
                  rotate_left
                  · (intro w hSw; (try dsimp only at hSw); go_simp; try with_reducible rfl)
                  try simp only [Act.put, List.setIfInBounds_toArray, List.set_cons_zero, List.set_cons_succ]
                  have hbF := HB3.out.alloc HB3.out.size (.cells #[.int .i64 15, .string ⟨#[]⟩, .int .i64 0, .int .i64 0, .string ⟨#[]⟩, .string (bs longS), .bool false] 52)
                  have hcbF := HCB.out.next hbF HCB.out.lt
                  have zF := hcbF.cell 5
                  have zfF := hcbF.frozen 5
                  (simp only [List.getElem?_toArray, List.getElem?_cons_zero, List.getElem?_cons_succ] at zF)
                  have HBF := Lib.hid hbF
                  have HCF := Lib.hid hcbF
                  have hnw := own_new w3 wa.heap.size 52 7 [.int .i64 15, .string ⟨#[]⟩, .int .i64 0, .int .i64 0, .string ⟨#[]⟩, .string (bs longS), .bool false] rfl (Nat.le_trans hwx HB3.out.size)
                  try rw [show w3.heap.size = w3.heap.size by simp] at hnw
                  have HNW := Lib.hid hnw
                  clear hnw hbF hcbF
                  refine wpAnyH_done (by kernel_rfl) ?_ _
                  refine lastQ_step rfl (fun K hK => ?_)
                  clear hHeld
                  go_simp
                  refine hK _ _ ?_
                  clear hK K
                  refine NoPanic.normal ?_
                  have hgr := only_setCell (p := ⟨yb, 5, none⟩) (World.grownBy.refl (w3.alloc (.cells #[.int .i64 15, .string ⟨#[]⟩, .int .i64 0, .int .i64 0, .string ⟨#[]⟩, .string (bs longS), .bool false] 52)) (some yb)) (.inl rfl) (.slice (some ⟨w3.heap.size, 0, none⟩) 1 1)
                  have hk := Kept.of_blk [50] HCF.out hgr (by decide)
                  have hbl := HCF.out.set_ 5 (.slice (some ⟨w3.heap.size, 0, none⟩) 1 1)
                  go_wp2_with fail
                  go_meet
                  case rel =>
                    unfold ActAc
                    rw [HON.out]
                    exact ⟨yb, _, _, rfl, hyb, blk_cast hbl rfl, RdP.keep (RdP.next HO1.out.rd HBF.out) hk (by decide), RdP.keep (show RdCh _ _ [⟨obI 1, longS, false⟩] from Rd.of_own HNW.out) hk (by decide), (HBX.out.trans (HBF.out.mono hwx)).setCell (p := ⟨yb, 5, none⟩) hyb _⟩
                · have hcv := conv_long ((wc.alloc (.cells (madeCells #[.int .u8 0] 65537) 5)).drew) wc.heap.size (fun i hi => made_cell wc i hi)
                  go_simp
                  clear hcv
                  refine hK.out _ _ ?_ (fun hNew => ?_)
                  · exact ((HBM.out).cell (p := ⟨yb, 5, none⟩) hybl).trans z5
                  clear hK K hHeld
                  have hHeld := hNew
                  clear hNew
                  try simp only [Act.put, List.setIfInBounds_toArray, List.set_cons_zero, List.set_cons_succ]
                  refine wpAnyH_ready (rs := [0]) (by kernel_rfl) (by simp) ?_
                  refine AllReadyH.cons rfl (fun K hK => ?_) AllReadyH.nil
                  go_simp
                  have hbx := HBM.out
                  refine (objects_is _).mono ?_
                  rintro e w3 ⟨g3, c3', rfl, hown3, hb3⟩
                  obtain ⟨q0, q1, q2, q3, q4⟩ := ob_row hown3 (i := 1) (by omega)
                  have n0 : w3.cell? ⟨g3, 5, none⟩ = some (.int .i64 15) := q0
                  have n1 : w3.cell? ⟨g3, 6, none⟩ = some (.string ⟨#[]⟩) := q1
                  have n2 : w3.cell? ⟨g3, 7, none⟩ = some (.int .i64 0) := q2
                  have n3 : w3.cell? ⟨g3, 8, none⟩ = some (.int .i64 0) := q3
                  have n4 : w3.cell? ⟨g3, 9, none⟩ = some (.string ⟨#[]⟩) := q4
                  clear q0 q1 q2 q3 q4
                  have hg3 : g3 < w3.heap.size := own_lt hown3 rfl
                  have HB3 := Lib.hid (hbx.trans (hb3.mono hbx.size))
                  have y3 : w3.cell? ⟨yb, 5, none⟩ = some (.slice a41 (changesS a.writes).length c41) := ((HB3.out).cell (p := ⟨yb, 5, none⟩) hybl).trans z5
                  clear hown3
                  try (go_wp2_with fail)
                  refine hK.out _ _ ?_ (fun hNew => ?_)
                  · exact y3
                  clear hK K hHeld
                  have hHeld := hNew
                  clear hNew
                  try simp only [Act.put, List.setIfInBounds_toArray, List.set_cons_zero, List.set_cons_succ]
                  refine wpAnyH_more (S' := (fun (w' : World) => w'.cell? ⟨yb, 5, none⟩ = some (.slice a41 (changesS a.writes).length c41) ∧ w'.cell? ⟨g3, 5, none⟩ = some (.int .i64 15) ∧ w'.cell? ⟨g3, 6, none⟩ = some (.string ⟨#[]⟩) ∧ w'.cell? ⟨g3, 7, none⟩ = some (.int .i64 0) ∧ w'.cell? ⟨g3, 8, none⟩ = some (.int .i64 0) ∧ w'.cell? ⟨g3, 9, none⟩ = some (.string ⟨#[]⟩))) (fun _ h => h.1) ?_
                  clear hHeld
                  have hHeld : (fun (w' : World) => w'.cell? ⟨yb, 5, none⟩ = some (.slice a41 (changesS a.writes).length c41) ∧ w'.cell? ⟨g3, 5, none⟩ = some (.int .i64 15) ∧ w'.cell? ⟨g3, 6, none⟩ = some (.string ⟨#[]⟩) ∧ w'.cell? ⟨g3, 7, none⟩ = some (.int .i64 0) ∧ w'.cell? ⟨g3, 8, none⟩ = some (.int .i64 0) ∧ w'.cell? ⟨g3, 9, none⟩ = some (.string ⟨#[]⟩)) _ := ⟨y3, n0, n1, n2, n3, n4⟩
                  refine wpAnyH_take (i := 1) (v := ?_) rfl (by kernel_rfl) (by kernel_rfl) (by kernel_rfl) (fun _ _ _ h => h) (Or.inl ⟨by kernel_rfl, ?_⟩) hHeld ?_
                  rotate_left
                  · (intro w hSw; (try dsimp only at hSw); go_simp; try with_reducible rfl)
                  try simp only [Act.put, List.setIfInBounds_toArray, List.set_cons_zero, List.set_cons_succ]
                  refine wpAnyH_take (i := 2) (v := ?_) rfl (by kernel_rfl) (by kernel_rfl) (by kernel_rfl) (fun _ _ _ h => h) (Or.inl ⟨by kernel_rfl, ?_⟩) hHeld ?_
                  rotate_left
                  · (intro w hSw; (try dsimp only at hSw); go_simp; try with_reducible rfl)
                  try simp only [Act.put, List.setIfInBounds_toArray, List.set_cons_zero, List.set_cons_succ]
                  refine wpAnyH_take (i := 5) (v := ?_) rfl (by kernel_rfl) (by kernel_rfl) (by kernel_rfl) (fun _ _ _ h => h) (Or.inl ⟨by kernel_rfl, ?_⟩) hHeld ?_
                  rotate_left
                  · (intro w hSw; (try dsimp only at hSw); go_simp; try with_reducible rfl)
                  try simp only [Act.put, List.setIfInBounds_toArray, List.set_cons_zero, List.set_cons_succ]
                  refine wpAnyH_ready (rs := [6]) (by kernel_rfl) (by simp) ?_
                  refine AllReadyH.cons rfl (fun K hK => ?_) AllReadyH.nil
                  go_simp
                  refine hK.out _ _ ?_ (fun hNew => ?_)
                  · exact ⟨((HB3.out.alloc HB3.out.size _).cell (p := ⟨yb, 5, none⟩) hybl).trans z5, (World.cell?_alloc_lt w3 _ _ (by dsimp only; omega)).trans n0, (World.cell?_alloc_lt w3 _ _ (by dsimp only; omega)).trans n1, (World.cell?_alloc_lt w3 _ _ (by dsimp only; omega)).trans n2, (World.cell?_alloc_lt w3 _ _ (by dsimp only; omega)).trans n3, (World.cell?_alloc_lt w3 _ _ (by dsimp only; omega)).trans n4⟩
                  clear hK K hHeld
                  have hHeld := hNew
                  clear hNew
                  try simp only [Act.put, List.setIfInBounds_toArray, List.set_cons_zero, List.set_cons_succ]
                  refine wpAnyH_take (i := 7) (v := ?_) rfl (by kernel_rfl) (by kernel_rfl) (by kernel_rfl) (fun _ _ _ h => h) (Or.inl ⟨by kernel_rfl, ?_⟩) hHeld ?_
                  rotate_left
                  · (intro w hSw; (try dsimp only at hSw); go_simp; try with_reducible rfl)
                  try simp only [Act.put, List.setIfInBounds_toArray, List.set_cons_zero, List.set_cons_succ]
                  have hbF := HB3.out.alloc HB3.out.size (.cells #[.int .i64 15, .string ⟨#[]⟩, .int .i64 0, .int .i64 0, .string ⟨#[]⟩, .string (bs longS), .bool false] 52)
                  have hcbF := HCB.out.next hbF HCB.out.lt
                  have zF := hcbF.cell 5
                  have zfF := hcbF.frozen 5
                  (simp only [List.getElem?_toArray, List.getElem?_cons_zero, List.getElem?_cons_succ] at zF)
                  have HBF := Lib.hid hbF
                  have HCF := Lib.hid hcbF
                  have hnw := own_new w3 wa.heap.size 52 7 [.int .i64 15, .string ⟨#[]⟩, .int .i64 0, .int .i64 0, .string ⟨#[]⟩, .string (bs longS), .bool false] rfl (Nat.le_trans hwx HB3.out.size)
                  try rw [show w3.heap.size = w3.heap.size by simp] at hnw
                  have HNW := Lib.hid hnw
                  clear hnw hbF hcbF
                  refine wpAnyH_done (by kernel_rfl) ?_ _
                  refine lastQ_step rfl (fun K hK => ?_)
                  clear hHeld
                  go_simp
                  refine hK _ _ ?_
                  clear hK K
                  refine NoPanic.normal ?_
                  have hgr := only_setCell (p := ⟨yb, 5, none⟩) (World.grownBy.refl (w3.alloc (.cells #[.int .i64 15, .string ⟨#[]⟩, .int .i64 0, .int .i64 0, .string ⟨#[]⟩, .string (bs longS), .bool false] 52)) (some yb)) (.inl rfl) (.slice (some ⟨w3.heap.size, 0, none⟩) 1 1)
                  have hk := Kept.of_blk [50] HCF.out hgr (by decide)
                  have hbl := HCF.out.set_ 5 (.slice (some ⟨w3.heap.size, 0, none⟩) 1 1)
                  go_wp2_with fail
                  go_meet
                  case rel =>
                    unfold ActAc
                    rw [HON.out]
                    exact ⟨yb, _, _, rfl, hyb, blk_cast hbl rfl, RdP.keep (RdP.next HO1.out.rd HBF.out) hk (by decide), RdP.keep (show RdCh _ _ [⟨obI 1, longS, false⟩] from Rd.of_own HNW.out) hk (by decide), (HBX.out.trans (HBF.out.mono hwx)).setCell (p := ⟨yb, 5, none⟩) hyb _⟩
            have h0 : (a.spoil == 0) = false := by simpa using hs0
            have h1 : (a.spoil == 1) = false := by simpa using hs1
            have h2 : (a.spoil == 2) = false := by simpa using hs2
            have h3 : (a.spoil == 3) = false := by simpa using hs3
            have h4 : (a.spoil == 4) = false := by simpa using hs4
            have HON := Lib.hid (show oneA T a = plainA T a by unfold oneA spoilC; rw [if_neg hs0, if_neg hs1, if_neg hs2, if_neg hs3, if_neg hs4])
            clear hs0 hs1 hs2 hs3 hs4
            go_wp2_with fail
            go_meet
            case rel =>
              unfold ActAc
              rw [HON.out]
              exact ⟨yb, _, _, rfl, hyb, HCB.out, HO1.out.rd, HO2.out.rd, HBX.out⟩
          case rest =>
            obtain ⟨yb, v1', v2', rfl, hyb, hcb, hr1, hr2, hbx⟩ := hcut
            obtain ⟨y1, c1, rfl, _⟩ := RdP.form hr1
            obtain ⟨y2, c2, rfl, _⟩ := RdP.form hr2
            have HR1 := Lib.hid hr1
            have HR2 := Lib.hid hr2
            have HCB := Lib.hid hcb
            have HBX := Lib.hid hbx
            obtain ⟨vs, hw1, hw2⟩ := HOa.out.1
            have HW1 := Lib.hid hw1
            have HW2 := Lib.hid (own_next hw2 hbx)
            have HBB2 := Lib.hid (HOa.out.2.trans (hbx.mono HOa.out.2.size))
            have hWc : W.heap.size ≤ wc.heap.size := HBB2.out.size
            have HE := Lib.hid (show actsT 1 (l.take (i + 1)) = actsT 1 (l.take i) ++ [oneA T a] by rw [take_acts 1 l i hi1, HAE.out, HTK.out, HT.out])
            have HTE := Lib.hid (show tickT 1 (l.take (i + 1)) = T by rw [take_tick 1 l i hi1, HAE.out, HTK.out, HT.out])
            have hal : (actsT 1 (l.take i)).length ≤ 20 := by rw [actsT_len, List.length_take]; omega
            generalize actsT 1 (l.take i) = xs at *
            generalize oneA T a = ya at *
            have z0 := HCB.out.cell 0
            have z1 := HCB.out.cell 1
            have z2 := HCB.out.cell 2
            have z3 := HCB.out.cell 3
            have z4 := HCB.out.cell 4
            have z5 := HCB.out.cell 5
            simp only [List.getElem?_toArray, List.getElem?_cons_zero, List.getElem?_cons_succ] at z0 z1 z2 z3 z4 z5
            clear hcb hr1 hr2 hbx hw1 hw2 HAE HTK HT hT1 hT2
            obtain ⟨i0, hi, hz0, hz1, hz2⟩ := info_parts infoAc
            go_wp2_with (at_builtin; refine wpList_append_lies _ rfl _ _ _ rfl W.heap.size 50 i0 _ 6 88 Tryd.underlying29 hi hz0 hz1 hz2 rfl (by omega) (.slice A3 xs.length c3) xs.length (rowC acC xs vs) (by rfl) (own_next HW2.out ((Below.refl _ _).alloc (Nat.le_refl _) (.cells #[.int .i64 ya.key.tick, .int .i64 ya.key.cls, .int .i64 ya.key.num, .string (bs ya.key.lin), .slice y1 ya.reads.length c1, .slice y2 ya.writes.length c2] 50))) ⟨wc.heap.size, 0, none⟩ 1 1 [.int .i64 ya.key.tick, .int .i64 ya.key.cls, .int .i64 ya.key.num, .string (bs ya.key.lin), .slice y1 ya.reads.length c1, .slice y2 ya.writes.length c2] rfl rfl (World.news_of_block (cs := #[.int .i64 ya.key.tick, .int .i64 ya.key.cls, .int .i64 ya.key.num, .string (bs ya.key.lin), .slice y1 ya.reads.length c1, .slice y2 ya.writes.length c2]) (t := 50) (fr := (0, 0)) (heap_alloc_new wc _)) (by simp [Value.oneCell']) (by omega) (by unfold maxLen; omega) (by omega) (by simp; omega) (wc.heap.size + 1) (by simp) ?_; intro gg cap w5 hown5 hgrow5 hat5 hlt5; have HN5 := Lib.hid hown5; have HG5 := Lib.hid hgrow5; clear hown5 hgrow5 hat5 hlt5)
            go_roundg (gk - 1)
            case measure => omega
            case rel =>
              have hWal := (Below.refl wc.heap.size wc).alloc (Nat.le_refl _) (.cells #[.int .i64 ya.key.tick, .int .i64 ya.key.cls, .int .i64 ya.key.num, .string (bs ya.key.lin), .slice y1 ya.reads.length c1, .slice y2 ya.writes.length c2] 50)
              have hWn := own_next HW2.out hWal
              refine ⟨i + 1, by omega, by omega, by omega, by go_num, by rw [HTE.out], ?_, ?_⟩
              · rw [HE.out]
                have hk := Kept.of_own [50] hWn HG5.out (by decide)
                refine RowOwn.push (W := wc) (u := (_, _)) (HW1.out.imp fun _ _ h => NAc.next (HBX.out.mono (Nat.le_refl _)) h) HN5.out (fun _ _ h => NAc.keep hk (by decide) (NAc.next hWal h)) ⟨?_, ?_⟩
                · exact RdP.keep (RdP.next HR1.out hWal) hk (by decide)
                · exact RdP.keep (RdP.next HR2.out hWal) hk (by decide)
              · exact below_own (HBB2.out.trans (hWal.mono hWc)) hWn HG5.out (Nat.le_refl _) (by simp; omega)
      · go_wp2
        go_ret
        obtain ⟨q1, q2⟩ := HO.out
        have e : l.take i = r.acts.take 20 := by
          rw [HL.out]
          rw [show i = 20 by omega]
        refine ⟨_, rfl, ?_, ?_⟩
        · rw [HBB.out]; unfold actsS; rw [← e]; exact q1.base (Nat.le_of_lt hbW)
        · rw [HBB.out]; exact HB.out.trans (q2.mono (Nat.le_of_lt hbW))
    · go_wp2
      go_ret
      obtain ⟨q1, q2⟩ := HO.out
      have e : l.take i = r.acts.take 20 := by
        rw [HL.out]
        rw [List.take_of_length_le (by omega), List.take_of_length_le (by omega)]
      refine ⟨_, rfl, ?_, ?_⟩
      · rw [HBB.out]; unfold actsS; rw [← e]; exact q1.base (Nat.le_of_lt hbW)
      · rw [HBB.out]; exact HB.out.trans (q2.mono (Nat.le_of_lt hbW))
end Go.Proofs.YtobkmkplhbaepaaDoor
/- Walks of layer 46: step.Key.Check. -/
namespace Go.Proofs.YtobkmkplhbaepaaDoor
open Go.RowKit
set_option linter.unusedSimpArgs false
set_option linter.unusedVariables false
attribute [local go_sem ↓] Go.wp_at_zero Go.wp_at_succ
/-- A key of the runs. -/
def KyV (k : Ky) : Prop := -1 ≤ k.tick ∧ k.tick ≤ 100 ∧ k.cls = 0 ∧ 1 ≤ k.num ∧ k.num ≤ 256 ∧ k.lin = []
set_option maxRecDepth 100000 in
theorem key_check (k : Ky) (w : World) (h : KyV k) : Calls Tryd.prog 32 #[kyV k] w fun e w' => e = .returned (.int .i64 (if 0 ≤ k.tick then 0 else 2)) ∧ Below w.heap.size w w' := by
  obtain ⟨t, c, n, l⟩ := k
  obtain ⟨h1, h2, h3, h4, h5, h6⟩ := h
  simp only at h1 h2 h3 h4 h5 h6
  subst h3 h6
  have hb := (Below.refl w.heap.size w).alloc (Nat.le_refl _) (.cells #[.int .i64 t, .int .i64 0, .int .i64 n, .string ⟨#[]⟩] 47)
  have HB := Lib.hid hb
  clear hb
  show Calls Tryd.prog 32 #[.agg #[.int .i64 t, .int .i64 0, .int .i64 n, .string ⟨#[]⟩]] w _
  by_cases h0 : 0 ≤ t
  · have HI := Lib.hid (show (if 0 ≤ t then (0 : Int) else 2) = 0 from if_pos h0)
    have f1 : decide (t < 0) = false := decide_eq_false (by omega)
    have f2 : decide (1073741824 < t) = false := decide_eq_false (by omega)
    have f3 : decide (n < 0) = false := decide_eq_false (by omega)
    have f4 : decide (999999 < n) = false := decide_eq_false (by omega)
    have f5 : (n == 0) = false := by simp; omega
    have f6 : ¬ n = 0 := by omega
    go_enter Tryd.func32, Tryd.ntmps32
    go_wp2
    go_ret
    exact ⟨rfl, HB.out⟩
  · have HI := Lib.hid (show (if 0 ≤ t then (0 : Int) else 2) = 2 from if_neg h0)
    have f1 : decide (t < 0) = true := decide_eq_true (by omega)
    go_enter Tryd.func32, Tryd.ntmps32
    go_wp2
    go_ret
    exact ⟨rfl, HB.out⟩
end Go.Proofs.YtobkmkplhbaepaaDoor
/- Walks of layer 46: step.Compare. -/
namespace Go.Proofs.YtobkmkplhbaepaaDoor
open Go.RowKit
set_option linter.unusedSimpArgs false
set_option linter.unusedVariables false
attribute [local go_sem ↓] Go.wp_at_zero Go.wp_at_succ
theorem or_4 (a b c : Int) (w : World) (A : Nat) (h0 : w.cell? ⟨A, 0, none⟩ = some (.int .i64 a)) (h1 : w.cell? ⟨A, 1, none⟩ = some (.int .i64 b)) (h2 : w.cell? ⟨A, 2, none⟩ = some (.int .i64 c)) (h3 : w.cell? ⟨A, 3, none⟩ = some (.int .i64 0)) : Calls Tryd.prog 59 #[.slice (some ⟨A, 0, none⟩) 4 4] w fun e w' => e = .returned (.int .i64 (or3 a b c)) ∧ w = w' := by
  have hc : Hid (or3 a b c = if a ≠ 0 then a else if b ≠ 0 then b else c) := Lib.hid rfl
  go_enter Tryd.func59, Tryd.ntmps59
  go_wp2
  go_loop [8] (fun i => ∃ k : Nat, k ≤ 4 ∧ i = .int .i64 k ∧ (0 < k → a = 0) ∧ (1 < k → b = 0) ∧ (2 < k → c = 0)) (fun i => 4 - (intOf i).toNat)
  case atStart => exact ⟨0, by omega, rfl, by omega, by omega, by omega⟩
  case round =>
    obtain ⟨k, hk, rfl, p0, p1, p2⟩ := hrel
    have hcases : k = 0 ∨ k = 1 ∨ k = 2 ∨ k = 3 ∨ k = 4 := by omega
    rcases hcases with rfl | rfl | rfl | rfl | rfl
    · clear p0 p1 p2 hk
      by_cases ha : a = 0
      · have e1 : (a != 0) = false := by simp [ha]
        go_wp2
        go_round
        case rel => exact ⟨1, by omega, rfl, fun _ => ha, by omega, by omega⟩
        case measure => simp [intOf]
      · have e1 : (a != 0) = true := by simp [ha]
        go_wp2
        go_ret
        exact ⟨by rw [hc.out, if_pos ha]; rfl, rfl⟩
    · have ha := p0 (by omega)
      clear p0 p1 p2 hk
      by_cases hb : b = 0
      · have e1 : (b != 0) = false := by simp [hb]
        have HA := Lib.hid ha
        clear ha
        go_wp2
        go_round
        case rel => exact ⟨2, by omega, rfl, fun _ => HA.out, fun _ => hb, by omega⟩
        case measure => simp [intOf]
      · have e1 : (b != 0) = true := by simp [hb]
        have HA := Lib.hid ha
        clear ha
        go_wp2
        go_ret
        exact ⟨by rw [hc.out, if_neg (by simp [HA.out]), if_pos hb]; rfl, rfl⟩
    · have HA := Lib.hid (p0 (by omega))
      have HB := Lib.hid (p1 (by omega))
      clear p0 p1 p2 hk
      by_cases hcc : c = 0
      · have e1 : (c != 0) = false := by simp [hcc]
        go_wp2
        go_round
        case rel => exact ⟨3, by omega, rfl, fun _ => HA.out, fun _ => HB.out, fun _ => hcc⟩
        case measure => simp [intOf]
      · have e1 : (c != 0) = true := by simp [hcc]
        go_wp2
        go_ret
        exact ⟨by rw [hc.out, if_neg (by simp [HA.out]), if_neg (by simp [HB.out])]; rfl, rfl⟩
    · have HA := Lib.hid (p0 (by omega))
      have HB := Lib.hid (p1 (by omega))
      have HC := Lib.hid (p2 (by omega))
      clear p0 p1 p2 hk
      go_wp2
      go_round
      case rel => exact ⟨4, by omega, rfl, fun _ => HA.out, fun _ => HB.out, fun _ => HC.out⟩
      case measure => simp [intOf]
    · have HA := Lib.hid (p0 (by omega))
      have HB := Lib.hid (p1 (by omega))
      have HC := Lib.hid (p2 (by omega))
      clear p0 p1 p2 hk
      go_wp2
      go_ret
      exact ⟨by rw [hc.out, if_neg (by simp [HA.out]), if_neg (by simp [HB.out]), HC.out]; rfl, rfl⟩
set_option maxRecDepth 100000 in
theorem key_compare (a b : Ky) (w : World) (ha : a.lin = []) (hb : b.lin = []) : Calls Tryd.prog 34 #[kyV a, kyV b] w fun e w' => e = .returned (.int .i64 (cmpK a b)) ∧ Below w.heap.size w w' := by
  obtain ⟨at_, ac, an, al⟩ := a
  obtain ⟨bt, bc, bn, bl⟩ := b
  simp only at ha hb
  subst ha hb
  have HN := Lib.hid (cmp_i at_ bt)
  have HI := Lib.hid (cmp_i ac bc)
  have HT := Lib.hid (cmp_i an bn)
  have HO := Lib.hid (lin_same ⟨#[]⟩)
  show Calls Tryd.prog 34 #[.agg #[.int .i64 at_, .int .i64 ac, .int .i64 an, .string ⟨#[]⟩], .agg #[.int .i64 bt, .int .i64 bc, .int .i64 bn, .string ⟨#[]⟩]] w fun e w' => e = .returned (.int .i64 (or3 (cmpI at_ bt) (cmpI ac bc) (cmpI an bn))) ∧ Below w.heap.size w w'
  generalize cmpI at_ bt = c1 at *
  generalize cmpI ac bc = c2 at *
  generalize cmpI an bn = c3 at *
  go_enter Tryd.func34, Tryd.ntmps34
  go_upto_region 1 with (fail)
  have hb : Below w.heap.size w ((w.alloc (.cells #[.int .i64 at_, .int .i64 ac, .int .i64 an, .string ⟨#[]⟩] 47)).alloc (.cells #[.int .i64 bt, .int .i64 bc, .int .i64 bn, .string ⟨#[]⟩] 47)) := ((Below.refl _ _).alloc (Nat.le_refl _) _).alloc (by simp) _
  have b0 := (Blk.new w 47 #[.int .i64 at_, .int .i64 ac, .int .i64 an, .string ⟨#[]⟩]).alloc (.cells #[.int .i64 bt, .int .i64 bc, .int .i64 bn, .string ⟨#[]⟩] 47)
  have b1 := Blk.new (w.alloc (.cells #[.int .i64 at_, .int .i64 ac, .int .i64 an, .string ⟨#[]⟩] 47)) 47 #[.int .i64 bt, .int .i64 bc, .int .i64 bn, .string ⟨#[]⟩]
  rw [World.size_alloc] at b1
  have x0 := b0.cell 0
  have x1 := b0.cell 1
  have x2 := b0.cell 2
  have x3 := b0.cell 3
  have y0 := b1.cell 0
  have y1 := b1.cell 1
  have y2 := b1.cell 2
  have y3 := b1.cell 3
  simp only [List.getElem?_toArray, List.getElem?_cons_zero, List.getElem?_cons_succ] at x0 x1 x2 x3 y0 y1 y2 y3
  clear b0 b1
  have HB := Lib.hid hb
  clear hb
  generalize ((w.alloc (.cells #[.int .i64 at_, .int .i64 ac, .int .i64 an, .string ⟨#[]⟩] 47)).alloc (.cells #[.int .i64 bt, .int .i64 bc, .int .i64 bn, .string ⟨#[]⟩] 47)) = W at *
  refine wp_region_still_tail 20 (by kernel_rfl) (by kernel_rfl) ?_
  simp only [List.take_succ_cons, List.take_zero, List.drop_succ_cons, List.drop_zero]
  iterate 4 still_step
  still_call (still_of (HN.out _))
  iterate 4 still_step
  still_call (still_of (HI.out _))
  iterate 4 still_step
  still_call (still_of (HT.out _))
  iterate 4 still_step
  still_call (still_of (HO.out _))
  refine wpStill_nil ?_
  clear HN HI HT HO x0 x1 x2 x3 y0 y1 y2 y3
  show wpList _ _ _ _ _ W.drew
  have z := Blk.new W.drew 3 #[.int .i64 c1, .int .i64 c2, .int .i64 c3, .int .i64 0]
  go_wp2_with fail
  refine (or_4 c1 c2 c3 _ W.heap.size (z.cell 0) (z.cell 1) (z.cell 2) (z.cell 3)).mono ?_
  clear z
  rintro e w' ⟨rfl, rfl⟩
  go_wp2
  go_ret
  exact ⟨rfl, (HB.out.drew.alloc (by simpa using HB.out.size) _)⟩
end Go.Proofs.YtobkmkplhbaepaaDoor
