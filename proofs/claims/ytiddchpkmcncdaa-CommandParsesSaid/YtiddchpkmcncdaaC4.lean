/- Walks of layer 41: Of. -/
import Derived.Test.YtiddchpkmcncdaaE1
import Derived.Test.YtiddchpkmcncdaaC2
namespace Go.Proofs.Ytiddchpkmcncdaa
open Go.RowKit
set_option linter.unusedSimpArgs false
set_option linter.unusedVariables false

def OfP (w : World) (g : Nat) (cs zs : Array Value) (l : Ln) (gk : Nat) (v : Value) (wr : World) : Prop :=
  ∃ k, v = .int .i64 ((k : Nat) : Int) ∧ k ≤ l.parts.length ∧ gk + k = l.parts.length + 1 ∧ Below w.heap.size w wr ∧ Blk wr w.heap.size 24 cs ∧ Blk wr (w.heap.size + 1) 30 zs ∧ LnB 51 39 112 109 101 30 w.heap.size g ⟨l.parts.take k, l.bg⟩ wr
def OfS (wo : World) (q : Pl) (gk : Nat) (v : Value) (wr : World) : Prop :=
  ∃ j, v = .int .i64 ((j : Nat) : Int) ∧ j ≤ q.stages.length ∧ gk + j = q.stages.length + 1 ∧ Below wo.heap.size wo wr ∧ PlB 51 39 112 109 101 wo.heap.size wo.heap.size ⟨q.wh, q.stages.take j⟩ wr
set_option maxRecDepth 100000 in
set_option maxHeartbeats 16000000 in
theorem Of_any (w : World) (v : Value) (l : Ln) (h : RowRd 49 plV (NPp 61 42 140 46) w v l.parts) (hlim : LLen l) :
    Calls Try.prog 17 #[.agg #[v, .bool l.bg]] w fun e w' => ∃ v', e = .returned (.agg #[v', .bool l.bg]) ∧ RowRd 101 plV (NPp 51 39 112 109) w' v' l.parts ∧ Below w.heap.size w w' := by
  obtain ⟨js, hjs, hjs0, hjs1, hjs2⟩ := info_parts info109
  obtain ⟨jq, hjq, hjq0, hjq1, hjq2⟩ := info_parts info101
  obtain ⟨A, c, rfl, xa, hA2⟩ := h.all plV_len
  obtain ⟨l1, l2⟩ := hlim
  have HA := Lib.hid hA2
  have HL2 := Lib.hid l2
  clear h hA2 l2
  go_enter Try.func17, Try.ntmps17
  have HX0 := Lib.hid (((Blk.new w 24 #[.slice A l.parts.length c, .bool l.bg]).alloc (.cells #[.slice none 0 0, .bool false] 30)).alloc (.cells #[.slice none 0 0, .bool l.bg] 30))
  have HR0 := Lib.hid ((show Blk ((w.alloc (.cells #[.slice A l.parts.length c, .bool l.bg] 24)).alloc (.cells #[.slice none 0 0, .bool false] 30)) (w.heap.size + 1) 30 #[.slice none 0 0, .bool false] from by have := Blk.new (w.alloc (.cells #[.slice A l.parts.length c, .bool l.bg] 24)) 30 #[.slice none 0 0, .bool false]; simpa using this).alloc (.cells #[.slice none 0 0, .bool l.bg] 30))
  have HG0 := Lib.hid (show LnB 51 39 112 109 101 30 w.heap.size (w.heap.size + 1 + 1) ⟨[], l.bg⟩ (((w.alloc (.cells #[.slice A l.parts.length c, .bool l.bg] 24)).alloc (.cells #[.slice none 0 0, .bool false] 30)).alloc (.cells #[.slice none 0 0, .bool l.bg] 30)) from LnB.new (by have := Blk.new ((w.alloc (.cells #[.slice A l.parts.length c, .bool l.bg] 24)).alloc (.cells #[.slice none 0 0, .bool false] 30)) 30 #[.slice none 0 0, .bool l.bg]; simpa using this))
  have HB0 := Lib.hid ((((Below.refl w.heap.size w).alloc (Nat.le_refl _) (.cells #[.slice A l.parts.length c, .bool l.bg] 24)).alloc (by simp) (.cells #[.slice none 0 0, .bool false] 30)).alloc (by simp; omega) (.cells #[.slice none 0 0, .bool l.bg] 30))
  go_wp2
  generalize (((w.alloc (.cells #[.slice A l.parts.length c, .bool l.bg] 24)).alloc (.cells #[.slice none 0 0, .bool false] 30)).alloc (.cells #[.slice none 0 0, .bool l.bg] 30)) = wa at *
  obtain ⟨gg, hgg⟩ : ∃ gg, w.heap.size + 1 + 1 = gg := ⟨_, rfl⟩
  rw [hgg] at HG0
  simp only [hgg]
  have hg1 : w.heap.size + 1 < gg := by omega
  clear hgg
  go_loopg [4] (l.parts.length + 1) (fun gk v wr => OfP w gg #[.slice A l.parts.length c, .bool l.bg] #[.slice none 0 0, .bool false] l gk v wr)
  case atStart => exact ⟨0, rfl, Nat.zero_le _, by omega, HB0.out, HX0.out, HR0.out, HG0.out⟩
  case round =>
    obtain ⟨k, rfl, hk, hgk, hb, hX, hZ, hG⟩ := hrel
    have HX := Lib.hid hX
    have HZ := Lib.hid hZ
    have HG := Lib.hid hG
    have HB := Lib.hid hb
    clear hX hZ hG HX0 HR0 HG0 HB0
    by_cases hlt : k < l.parts.length
    · obtain ⟨b, o, u, rfl, hb0, hN, hx⟩ := HA.out k hlt
      have hlv := HL2.out l.parts[k] (List.getElem_mem hlt)
      have HTK := Lib.hid (take_next l.parts k hlt)
      obtain ⟨q, hq⟩ : ∃ q, l.parts[k] = q := ⟨_, rfl⟩
      rw [hq] at hN hx hlv HTK
      clear hq
      obtain ⟨wo, rfl⟩ : ∃ wo : World, wo = wr := ⟨_, rfl⟩
      obtain ⟨Au, cu, rfl, xu, hSt⟩ := RowRd.all (show RowRd 46 smV (NSp 61 42 140) w u q.stages from hN) smV_len
      have HSS := Lib.hid hSt
      have p0 := hx 0 _ rfl
      have p1 := hx 1 _ rfl
      have hbo : b < wo.heap.size := Nat.lt_of_lt_of_le hb0 hb.size
      have f0 : wo.cell? ⟨b, o + k * 2, none⟩ = some (.int .i64 q.wh) := ((bcell hb).1 b (o + k * 2) hb0).trans (by simpa using p0)
      have f1 : wo.cell? ⟨b, o + k * 2 + 1, none⟩ = some (.slice Au q.stages.length cu) := ((bcell hb).1 b (o + k * 2 + 1) hb0).trans (by rw [Nat.add_assoc]; exact p1)
      have x0 : wo.cell? ⟨w.heap.size, 0, none⟩ = some (.slice (some ⟨b, o, none⟩) l.parts.length c) := HX.out.cell 0
      have hxo : w.heap.size < wo.heap.size := HX.out.lt
      have i1 : (0 : Int) ≤ (k : Int) := by omega
      have i2 : (k : Int) < (l.parts.length : Int) := by omega
      have X0 := Lib.hid x0
      have F1 := Lib.hid f1
      have hl1 := hlv.1
      have HLS := Lib.hid hlv.2
      have HP0 := Lib.hid (show PlB 51 39 112 109 101 wo.heap.size wo.heap.size ⟨q.wh, []⟩ (wo.alloc (.cells #[.int .i64 q.wh, .slice none 0 0] 101)) from PlB.new (Blk.new wo 101 _))
      have HB1 := Lib.hid ((Below.refl wo.heap.size wo).alloc (Nat.le_refl _) (.cells #[.int .i64 q.wh, .slice none 0 0] 101))
      clear hN hx hlv p0 p1 hSt
      go_wp2
      generalize (wo.alloc (.cells #[.int .i64 q.wh, .slice none 0 0] 101)) = wb at *
      clear x0 f0 f1 i1 i2
      obtain ⟨gk0, rfl⟩ : ∃ gk0 : Nat, gk0 = gk := ⟨_, rfl⟩
      go_loopg [6] (q.stages.length + 1) (fun gk v wr => OfS wo q gk v wr)
      case atStart => exact ⟨0, rfl, Nat.zero_le _, by omega, HB1.out, HP0.out⟩
      case round =>
        obtain ⟨j, rfl, hj, hgj, hbj, hP⟩ := hrel
        have HPJ := Lib.hid hP
        have HBW := Lib.hid hbj
        clear hP HP0 HB1
        have x0 := ((bcell hbj).1 _ 0 hxo).trans X0.out
        have f1 := ((bcell hbj).1 b _ hbo).trans F1.out
        have hbr : b < wr.heap.size := Nat.lt_of_lt_of_le hbo hbj.size
        have hxr : w.heap.size < wr.heap.size := Nat.lt_of_lt_of_le hxo hbj.size
        have i1 : (0 : Int) ≤ (k : Int) := by omega
        have i2 : (k : Int) < (l.parts.length : Int) := by omega
        by_cases hjl : j < q.stages.length
        · obtain ⟨b2, o2, u4, rfl, hb2, hN, hx⟩ := HSS.out j hjl
          have hld := HLS.out q.stages[j] (List.getElem_mem hjl)
          have HTJ := Lib.hid (take_next q.stages j hjl)
          obtain ⟨d, hd⟩ : ∃ d, q.stages[j] = d := ⟨_, rfl⟩
          rw [hd] at hN hx hld HTJ
          clear hd
          obtain ⟨sa, na, sb, nb, si, ni, so, no, rfl⟩ := hN.forms
          have p0 := hx 0 _ rfl
          have p1 := hx 1 _ rfl
          have p2 := hx 2 _ rfl
          have p3 := hx 3 _ rfl
          have p4 := hx 4 _ rfl
          rw [← Nat.add_assoc] at p1 p2 p3 p4
          rw [Nat.add_zero] at p0
          have hb2o : b2 < wo.heap.size := Nat.lt_of_lt_of_le hb2 HB.out.size
          have E0 := Lib.hid (((bcell HB.out).1 b2 _ hb2).trans p0)
          have E1 := Lib.hid (((bcell HB.out).1 b2 _ hb2).trans p1)
          have E2 := Lib.hid (((bcell HB.out).1 b2 _ hb2).trans p2)
          have E3 := Lib.hid (((bcell HB.out).1 b2 _ hb2).trans p3)
          have E4 := Lib.hid (((bcell HB.out).1 b2 _ hb2).trans p4)
          have e0 := ((bcell hbj).1 b2 _ hb2o).trans E0.out
          have e1 := ((bcell hbj).1 b2 _ hb2o).trans E1.out
          have e2 := ((bcell hbj).1 b2 _ hb2o).trans E2.out
          have e3 := ((bcell hbj).1 b2 _ hb2o).trans E3.out
          have e4 := ((bcell hbj).1 b2 _ hb2o).trans E4.out
          have hbr2 : b2 < wr.heap.size := Nat.lt_of_lt_of_le hb2o hbj.size
          have j1 : (0 : Int) ≤ (j : Int) := by omega
          have j2 : (j : Int) < (q.stages.length : Int) := by omega
          have HND := Lib.hid (show NSp 61 42 140 wr.drew _ d from NSp.next (w := w) hN (HB.out.trans (HBW.out.drew.mono HB.out.size)))
          obtain ⟨gv, hB, ⟨vsa, hwa, hoa⟩⟩ := HPJ.out
          simp only at hB hwa hoa
          have hlk : (q.stages.take j).length = j := by rw [List.length_take]; omega
          have HLK := Lib.hid hlk
          rw [hlk] at hoa
          obtain ⟨Ga, gc, rfl, _⟩ := own_len hoa
          have g0 : wr.cell? ⟨wo.heap.size, 1, none⟩ = some (.slice Ga j gc) := hB.cell 1
          have gf0 := hB.frozen 1
          have hgl := hB.lt
          have hgl' : wo.heap.size < wr.drew.heap.size := hgl
          have HPB := Lib.hid hB
          have HWA := Lib.hid hwa
          have HOA := Lib.hid hoa
          have hne := Lib.hid (own_blk_ne hoa hB (by decide))
          have q0 : wo.heap.size ≠ w.heap.size := by omega
          have q1 : wo.heap.size ≠ b := by omega
          have q2 : wo.heap.size ≠ b2 := by omega
          have hbase := hbj.size
          clear hN hx p0 p1 p2 p3 p4 hB hwa hoa hlk hbj
          go_upto_region 9 with (fail)
          refine wp_region_noPanic ?_
          refine wp_region_last (S := (fun w' => w'.cell? ⟨w.heap.size, 0, none⟩ = some (.slice (some ⟨b, o, none⟩) l.parts.length c) ∧ w'.cell? ⟨b, o + k * 2 + 1, none⟩ = some (.slice (some ⟨b2, o2, none⟩) q.stages.length cu) ∧ w'.cell? ⟨b2, o2 + j * 5, none⟩ = some (.slice sa d.asg.length na) ∧ w'.cell? ⟨b2, o2 + j * 5 + 1, none⟩ = some (.slice sb d.words.length nb) ∧ w'.cell? ⟨b2, o2 + j * 5 + 2, none⟩ = some (.slice si d.inn.length ni) ∧ w'.cell? ⟨b2, o2 + j * 5 + 3, none⟩ = some (.slice so d.out.length no) ∧ w'.cell? ⟨b2, o2 + j * 5 + 4, none⟩ = some (.bool d.app) ∧ w'.cell? ⟨wo.heap.size, 1, none⟩ = some (.slice Ga j gc))) 15 15 rfl (by kernel_rfl) (by kernel_rfl) ?_ (fun hHeld => ?_)
          · exact ⟨x0, f1, e0, e1, e2, e3, e4, g0⟩
          refine wpAnyH_take (i := 0) (v := ?_) rfl (by kernel_rfl) (by kernel_rfl) (by kernel_rfl) (fun _ _ _ h => h) (Or.inl ⟨by rfl, ?_⟩) hHeld ?_
          rotate_left
          · (intro w hSw; (try dsimp only at hSw); go_simp; try with_reducible rfl)
          try simp only [Act.put, List.setIfInBounds_toArray, List.set_cons_zero, List.set_cons_succ]
          refine wpAnyH_take (i := 1) (v := ?_) rfl (by kernel_rfl) (by kernel_rfl) (by kernel_rfl) (fun _ _ _ h => h) (Or.inl ⟨by rfl, ?_⟩) hHeld ?_
          rotate_left
          · (intro w hSw; (try dsimp only at hSw); go_simp; try with_reducible rfl)
          try simp only [Act.put, List.setIfInBounds_toArray, List.set_cons_zero, List.set_cons_succ]
          refine wpAnyH_take (i := 2) (v := ?_) rfl (by kernel_rfl) (by kernel_rfl) (by kernel_rfl) (fun _ _ _ h => h) (Or.inl ⟨by rfl, ?_⟩) hHeld ?_
          rotate_left
          · (intro w hSw; (try dsimp only at hSw); go_simp; try with_reducible rfl)
          try simp only [Act.put, List.setIfInBounds_toArray, List.set_cons_zero, List.set_cons_succ]
          refine wpAnyH_take (i := 3) (v := ?_) rfl (by kernel_rfl) (by kernel_rfl) (by kernel_rfl) (fun _ _ _ h => h) (Or.inl ⟨by rfl, ?_⟩) hHeld ?_
          rotate_left
          · (intro w hSw; (try dsimp only at hSw); go_simp; try with_reducible rfl)
          try simp only [Act.put, List.setIfInBounds_toArray, List.set_cons_zero, List.set_cons_succ]
          refine wpAnyH_take (i := 4) (v := ?_) rfl (by kernel_rfl) (by kernel_rfl) (by kernel_rfl) (fun _ _ _ h => h) (Or.inl ⟨by rfl, ?_⟩) hHeld ?_
          rotate_left
          · (intro w hSw; (try dsimp only at hSw); go_simp; try with_reducible rfl)
          try simp only [Act.put, List.setIfInBounds_toArray, List.set_cons_zero, List.set_cons_succ]
          refine wpAnyH_take (i := 5) (v := ?_) rfl (by kernel_rfl) (by kernel_rfl) (by kernel_rfl) (fun _ _ _ h => h) (Or.inl ⟨by rfl, ?_⟩) hHeld ?_
          rotate_left
          · (intro w hSw; (try dsimp only at hSw); go_simp; try with_reducible rfl)
          try simp only [Act.put, List.setIfInBounds_toArray, List.set_cons_zero, List.set_cons_succ]
          refine wpAnyH_take (i := 6) (v := ?_) rfl (by kernel_rfl) (by kernel_rfl) (by kernel_rfl) (fun _ _ _ h => h) (Or.inl ⟨by rfl, ?_⟩) hHeld ?_
          rotate_left
          · (intro w hSw; (try dsimp only at hSw); go_simp; try with_reducible rfl)
          try simp only [Act.put, List.setIfInBounds_toArray, List.set_cons_zero, List.set_cons_succ]
          refine wpAnyH_take (i := 7) (v := ?_) rfl (by kernel_rfl) (by kernel_rfl) (by kernel_rfl) (fun _ _ _ h => h) (Or.inl ⟨by rfl, ?_⟩) hHeld ?_
          rotate_left
          · (intro w hSw; (try dsimp only at hSw); go_simp; try with_reducible rfl)
          try simp only [Act.put, List.setIfInBounds_toArray, List.set_cons_zero, List.set_cons_succ]
          refine wpAnyH_take (i := 8) (v := ?_) rfl (by kernel_rfl) (by kernel_rfl) (by kernel_rfl) (fun _ _ _ h => h) (Or.inl ⟨by rfl, ?_⟩) hHeld ?_
          rotate_left
          · (intro w hSw; (try dsimp only at hSw); go_simp; try with_reducible rfl)
          try simp only [Act.put, List.setIfInBounds_toArray, List.set_cons_zero, List.set_cons_succ]
          refine wpAnyH_take (i := 9) (v := ?_) rfl (by kernel_rfl) (by kernel_rfl) (by kernel_rfl) (fun _ _ _ h => h) (Or.inl ⟨by rfl, ?_⟩) hHeld ?_
          rotate_left
          · (intro w hSw; (try dsimp only at hSw); go_simp; try with_reducible rfl)
          try simp only [Act.put, List.setIfInBounds_toArray, List.set_cons_zero, List.set_cons_succ]
          refine wpAnyH_take (i := 10) (v := ?_) rfl (by kernel_rfl) (by kernel_rfl) (by kernel_rfl) (fun _ _ _ h => h) (Or.inl ⟨by rfl, ?_⟩) hHeld ?_
          rotate_left
          · (intro w hSw; (try dsimp only at hSw); go_simp; try with_reducible rfl)
          try simp only [Act.put, List.setIfInBounds_toArray, List.set_cons_zero, List.set_cons_succ]
          refine wpAnyH_ready (rs := [11]) (by kernel_rfl) (by simp) ?_
          refine AllReadyH.cons rfl (fun K hK => ?_) AllReadyH.nil
          go_simp
          go_at_call 49; (with_reducible refine (ofSimple_any wr.drew _ _ _ _ d HND.out hld).mono ?_); rintro e w2 ⟨ra, rb, ri, ro, rfl, hn2, hbb⟩; obtain ⟨ta, ua, tb, ub, ti, ui, tq, uq, hu⟩ := NSp.forms hn2; injection hu with h1 h2 h3 h4; subst h1 h2 h3 h4; have HB2 := Lib.hid hbb; have HN2 := Lib.hid hn2; have B2 := Lib.hid (HPB.out.drew.next hbb hgl'); have z0 : w2.cell? ⟨wo.heap.size, 1, none⟩ = some (.slice Ga j gc) := B2.out.cell 1; have zf0 := B2.out.frozen 1; have hgl2 : wo.heap.size < w2.heap.size := B2.out.lt; have HBW2 := Lib.hid (HBW.out.drew.trans (hbb.mono HBW.out.size)); have hs2 : wo.heap.size ≤ w2.heap.size := HBW2.out.size; have y0 := ((bcell HBW2.out).1 _ 0 hxo).trans X0.out; have y1 := ((bcell HBW2.out).1 b _ hbo).trans F1.out; have v0 := ((bcell HBW2.out).1 b2 _ hb2o).trans E0.out; have v1 := ((bcell HBW2.out).1 b2 _ hb2o).trans E1.out; have v2 := ((bcell HBW2.out).1 b2 _ hb2o).trans E2.out; have v3 := ((bcell HBW2.out).1 b2 _ hb2o).trans E3.out; have v4 := ((bcell HBW2.out).1 b2 _ hb2o).trans E4.out; clear hn2 hbb
          try (go_wp2_with fail)
          refine hK.out _ _ ?_ (fun hNew => ?_)
          · exact ⟨y0, y1, v0, v1, v2, v3, v4, z0⟩
          clear hK K hHeld
          have hHeld := hNew
          clear hNew
          try simp only [Act.put, List.setIfInBounds_toArray, List.set_cons_zero, List.set_cons_succ]
          refine wpAnyH_ready (rs := [12]) (by kernel_rfl) (by simp) ?_
          refine AllReadyH.cons rfl (fun K hK => ?_) AllReadyH.nil
          go_simp
          refine hK.out _ _ ?_ (fun hNew => ?_)
          · go_keep
          clear hK K hHeld
          have hHeld := hNew
          clear hNew
          try simp only [Act.put, List.setIfInBounds_toArray, List.set_cons_zero, List.set_cons_succ]
          refine wpAnyH_ready (rs := [13]) (by kernel_rfl) (by simp) ?_
          refine AllReadyH.cons rfl (fun K hK => ?_) AllReadyH.nil
          refine step_append_lies _ (by rfl) _ _ _ (by rfl) wo.heap.size 109 js _ 5 104 Try.underlying97 hjs hjs0 hjs1 hjs2 rfl (by omega) (.slice Ga j gc) j (rowC smV (q.stages.take j) vsa) (by rfl) ((own_next HOA.out.drew HB2.out).alloc _) ⟨w2.heap.size, 0, none⟩ 1 1 [.slice ta d.asg.length ua, .slice tb d.words.length ub, .slice ti d.inn.length ui, .slice tq d.out.length uq, .bool d.app] (by rfl) (by rfl) (World.news_of_block (cs := #[.slice ta d.asg.length ua, .slice tb d.words.length ub, .slice ti d.inn.length ui, .slice tq d.out.length uq, .bool d.app]) (t := 109) (fr := (0, 0)) (heap_alloc_new w2 _)) (by simp [Value.oneCell']) (by omega) (by unfold maxLen; omega) (by omega) (by simp; omega) (w2.heap.size + 1) (by simp) ?_; intro gz cap w3 hown3 hgrow3 hat hlt3; have B3 := Lib.hid (Blk.grown (Blk.alloc B2.out _) hgrow3 (Ne.symm hne.out)); have d0 : w3.cell? ⟨wo.heap.size, 1, none⟩ = some (.slice Ga j gc) := B3.out.cell 1; have df0 := B3.out.frozen 1; have hgl3 : wo.heap.size < w3.heap.size := B3.out.lt; have HB3 := Lib.hid (below_own (B := wo.heap.size) (HBW2.out.alloc hs2 _) ((own_next HOA.out.drew HB2.out).alloc _) hgrow3 (Nat.le_refl _) (by simp; omega)); have y0 := ((bcell HB3.out).1 _ 0 hxo).trans X0.out; have y1 := ((bcell HB3.out).1 b _ hbo).trans F1.out; have v0 := ((bcell HB3.out).1 b2 _ hb2o).trans E0.out; have v1 := ((bcell HB3.out).1 b2 _ hb2o).trans E1.out; have v2 := ((bcell HB3.out).1 b2 _ hb2o).trans E2.out; have v3 := ((bcell HB3.out).1 b2 _ hb2o).trans E3.out; have v4 := ((bcell HB3.out).1 b2 _ hb2o).trans E4.out
          refine hK.out _ _ ?_ (fun hNew => ?_)
          · exact ⟨y0, y1, v0, v1, v2, v3, v4, d0⟩
          clear hK K hHeld
          have hHeld := hNew
          clear hNew
          try simp only [Act.put, List.setIfInBounds_toArray, List.set_cons_zero, List.set_cons_succ]
          refine wpAnyH_take (i := 14) (v := ?_) rfl (by kernel_rfl) (by kernel_rfl) (by kernel_rfl) (fun _ _ _ h => h) (Or.inl ⟨by rfl, ?_⟩) hHeld ?_
          rotate_left
          · (intro w hSw; (try dsimp only at hSw); go_simp; try with_reducible rfl)
          try simp only [Act.put, List.setIfInBounds_toArray, List.set_cons_zero, List.set_cons_succ]
          refine wpAnyH_done (by kernel_rfl) ?_ _
          refine lastQ_step rfl (fun K hK => ?_)
          clear hHeld
          go_simp
          refine hK _ _ ?_
          clear hK K
          refine NoPanic.normal ?_
          have HN3 := Lib.hid ((Below.refl w2.heap.size w2).alloc (Nat.le_refl _) (.cells #[.slice ta d.asg.length ua, .slice tb d.words.length ub, .slice ti d.inn.length ui, .slice tq d.out.length uq, .bool d.app] 109))
          have h3' : w2.ownsRow wo.heap.size 109 5 (.slice Ga j gc) (q.stages.take j).length (rowC smV (q.stages.take j) vsa) := by rw [HLK.out]; exact own_next HOA.out.drew HB2.out
          have h4' : w3.ownsRow wo.heap.size 109 5 (.slice (some ⟨gz, 0, none⟩) (j + 1) cap) ((q.stages.take j).length + 1) (rowC smV (q.stages.take j) vsa ++ smV d ⟨.slice ta d.asg.length ua, .slice tb d.words.length ub, .slice ti d.inn.length ui, .slice tq d.out.length uq⟩) := by rw [HLK.out]; exact hown3
          have HP := Lib.hid (PlB.push (q := ⟨q.wh, q.stages.take j⟩) (x := d) (by decide) (by decide) (by decide) (by decide) (by decide) (by decide) (by decide) B2.out (HWA.out.imp (fun _ _ h => NSp.next (w := wr.drew) h HB2.out)) h3' HN3.out hgrow3 h4' (NSp.next HN2.out HN3.out)).1
          have HB4 := Lib.hid (HB3.out.setCell (p := ⟨wo.heap.size, 1, none⟩) (Nat.le_refl _) (.slice (some ⟨gz, 0, none⟩) (j + 1) cap))
          clear h3' h4' hown3 hgrow3 y0 y1 v0 v1 v2 v3 v4 d0 df0 hgl3 z0 zf0 hgl2 hs2 hat hlt3 e0 e1 e2 e3 e4 x0 f1 g0 gf0 hgl hbr hbr2 hne hxr hgl'
          generalize (w3.setCell ⟨wo.heap.size, 1, none⟩ (.slice (some ⟨gz, 0, none⟩) (j + 1) cap)) = wz at *
          go_wp2
          go_roundg (gk - 1)
          case rel => exact ⟨j + 1, by go_num, by omega, by omega, HB4.out, by rw [HTJ.out]; exact HP.out⟩
          case measure => omega
        · obtain rfl : j = q.stages.length := by omega
          rw [List.take_length] at HPJ
          have HGJ := Lib.hid (HG.out.next hbj)
          have HXJ := Lib.hid (HX.out.next hbj HX.out.lt)
          have HZJ := Lib.hid (HZ.out.next hbj HZ.out.lt)
          have HBJ := Lib.hid (HB.out.trans (hbj.mono HB.out.size))
          obtain ⟨u, hB, hNq⟩ := HPJ.out.cells
          obtain ⟨Av, cv, rfl, _⟩ := RowRd.form hNq
          simp only at hB
          have HNQ := Lib.hid hNq
          obtain ⟨lv, hL, ⟨vsp, hwp, hop⟩⟩ := HGJ.out
          simp only at hL hwp hop
          have hlk : (l.parts.take k).length = k := by rw [List.length_take]; omega
          have HLK := Lib.hid hlk
          rw [hlk] at hop
          obtain ⟨Ga, gc, rfl, _⟩ := own_len hop
          have g0 : wr.cell? ⟨gg, 0, none⟩ = some (.slice Ga k gc) := hL.cell 0
          have gf0 := hL.frozen 0
          have hgl := hL.lt
          have t0 : wr.cell? ⟨wo.heap.size, 0, none⟩ = some (.int .i64 q.wh) := hB.cell 0
          have t1 : wr.cell? ⟨wo.heap.size, 1, none⟩ = some (.slice Av q.stages.length cv) := hB.cell 1
          have htl := hB.lt
          have HLB := Lib.hid hL
          have HWP := Lib.hid hwp
          have HOP := Lib.hid hop
          have hs0 : w.heap.size ≤ wr.heap.size := HBJ.out.size
          clear hbj hB hNq hL hwp hop hlk
          go_wp2_with (at_builtin; refine wpList_append_lies _ rfl _ _ _ rfl w.heap.size 101 jq _ 2 32 Try.underlying28 hjq hjq0 hjq1 hjq2 rfl (by omega) (.slice Ga k gc) k (rowC plV (l.parts.take k) vsp) rfl (HOP.out.alloc _) ⟨wr.heap.size, 0, none⟩ 1 1 [.int .i64 q.wh, .slice Av q.stages.length cv] rfl rfl (World.news_of_block (cs := #[.int .i64 q.wh, .slice Av q.stages.length cv]) (t := 101) (fr := (0, 0)) (heap_alloc_new wr _)) (by simp [Value.oneCell']) (by omega) (by unfold maxLen; omega) (by omega) (by simp; omega) (wr.heap.size + 1) (by simp) ?_; intro gz cap w3 hown3 hgrow3 hat hlt3; have B3 := Lib.hid (Blk.grown (Blk.alloc HLB.out _) hgrow3 (Ne.symm (own_blk_ne HOP.out HLB.out (by decide)))); have d0 : w3.cell? ⟨gg, 0, none⟩ = some (.slice Ga k gc) := B3.out.cell 0; have df0 := B3.out.frozen 0; have hgl3 : gg < w3.heap.size := B3.out.lt; have HB3 := Lib.hid (below_own (B := w.heap.size) (HBJ.out.alloc hs0 _) (HOP.out.alloc _) hgrow3 (Nat.le_refl _) (by simp; omega)); have HX3 := Lib.hid ((HXJ.out.alloc _).grown hgrow3 (Ne.symm (own_blk_ne HOP.out HXJ.out (by decide)))); have HZ3 := Lib.hid ((HZJ.out.alloc _).grown hgrow3 (Ne.symm (own_blk_ne HOP.out HZJ.out (by decide)))); have HOW3 := Lib.hid hown3; have HGR3 := Lib.hid hgrow3; clear hown3 hgrow3)
          have HN3 := Lib.hid ((Below.refl wr.heap.size wr).alloc (Nat.le_refl _) (.cells #[.int .i64 q.wh, .slice Av q.stages.length cv] 101))
          have h3' : wr.ownsRow w.heap.size 101 2 (.slice Ga k gc) (l.parts.take k).length (rowC plV (l.parts.take k) vsp) := by rw [HLK.out]; exact HOP.out
          have h4' : w3.ownsRow w.heap.size 101 2 (.slice (some ⟨gz, 0, none⟩) (k + 1) cap) ((l.parts.take k).length + 1) (rowC plV (l.parts.take k) vsp ++ [.int .i64 q.wh, .slice Av q.stages.length cv]) := by rw [HLK.out]; exact HOW3.out
          have HP := Lib.hid (LnB.push (l := ⟨l.parts.take k, l.bg⟩) (x := q) (by decide) (by decide) (by decide) (by decide) (by decide) (by decide) (by decide) (by decide) (by decide) HLB.out HWP.out h3' HN3.out HGR3.out h4' (NPp.next HNQ.out HN3.out)).1
          have HX4 := Lib.hid (HX3.out.far (p := ⟨gg, 0, none⟩) (show w.heap.size ≠ gg by omega) (.slice (some ⟨gz, 0, none⟩) (k + 1) cap))
          have HZ4 := Lib.hid (HZ3.out.far (p := ⟨gg, 0, none⟩) (show w.heap.size + 1 ≠ gg by omega) (.slice (some ⟨gz, 0, none⟩) (k + 1) cap))
          have HB4 := Lib.hid (HB3.out.setCell (p := ⟨gg, 0, none⟩) (show w.heap.size ≤ gg by omega) (.slice (some ⟨gz, 0, none⟩) (k + 1) cap))
          go_roundg (gk0 - 1)
          case rel => exact ⟨k + 1, by go_num, by omega, by omega, HB4.out, HX4.out, HZ4.out, by rw [HTK.out]; exact HP.out⟩
          case measure => omega
    · obtain rfl : k = l.parts.length := by omega
      rw [List.take_length] at HG
      obtain ⟨lv, hL, hrow⟩ := HG.out
      have hRD := hrow.rd
      obtain ⟨Av, cv, rfl, _⟩ := RowRd.form hRD
      simp only at hL hRD
      have HRD := Lib.hid hRD
      have x0 : wr.cell? ⟨w.heap.size, 0, none⟩ = some (.slice A l.parts.length c) := HX.out.cell 0
      have hxl := HX.out.lt
      have g0 : wr.cell? ⟨gg, 0, none⟩ = some (.slice Av l.parts.length cv) := hL.cell 0
      have g1 : wr.cell? ⟨gg, 1, none⟩ = some (.bool l.bg) := hL.cell 1
      have hgl := hL.lt
      have r0 : wr.cell? ⟨w.heap.size + 1, 0, none⟩ = some (.slice none 0 0) := HZ.out.cell 0
      have r1 : wr.cell? ⟨w.heap.size + 1, 1, none⟩ = some (.bool false) := HZ.out.cell 1
      have rf0 := HZ.out.frozen 0
      have rf1 := HZ.out.frozen 1
      have hrb := HZ.out.lt
      have G2 : wr.grownBy ((wr.setCell ⟨w.heap.size + 1, 0, none⟩ (.slice Av l.parts.length cv)).setCell ⟨w.heap.size + 1, 1, none⟩ (.bool l.bg)) (some (w.heap.size + 1)) := only_setCell (p := ⟨w.heap.size + 1, 1, none⟩) (only_setCell (p := ⟨w.heap.size + 1, 0, none⟩) (World.grownBy.refl _ _) (.inl rfl) _) (.inl rfl) _
      have K := Lib.hid (Kept.of_blk [30] HZ.out G2 rfl)
      have HGB := Lib.hid (below_of_grown' hb G2 (by omega))
      clear G2 hb hL hrow hRD
      go_wp2
      refine bodyPost_ret (v := .agg #[.slice Av l.parts.length cv, .bool l.bg]) (by simp [results, Try.results17, go_sem, hrb, r0, r1]) rfl ?_
      exact ⟨_, rfl, HRD.out.keep K.out rfl (fun _ _ h => NPp.keep h K.out rfl rfl rfl rfl), HGB.out⟩
end Go.Proofs.Ytiddchpkmcncdaa
