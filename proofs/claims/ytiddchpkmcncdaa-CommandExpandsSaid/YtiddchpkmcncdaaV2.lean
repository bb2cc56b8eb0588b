/- Walks of layer 41: shortValues. -/
import Derived.Test.YtiddchpkmcncdaaD3
import Derived.Test.YtiddchpkmcncdaaX32
namespace Go.Proofs.Ytiddchpkmcncdaa
open Go.RowKit
set_option linter.unusedSimpArgs false
set_option linter.unusedVariables false
theorem info56 : (Try.prog.info? 56).map (fun i => (i.zero, i.size, i.bytes)) = some (some (.agg #[.string ⟨#[]⟩, .string ⟨#[]⟩]), 2, 32) := by kernel_rfl
def cut1 (p : Bs × Bs) : Bs × Bs := (p.1.take 60, p.2.take 60)
def cutV (l : Vl) : Vl := (l.take 8).map cut1
theorem cutV_len (l : Vl) : (cutV l).length ≤ 8 := by unfold cutV; rw [List.length_map, List.length_take]; omega
theorem cutV_val (l : Vl) (n : Bs) : (valOf (cutV l) n).length ≤ 60 := by
  have h : ∀ m : Vl, (valOf (m.map cut1) n).length ≤ 60 := by
    intro m
    induction m with
    | nil => simp [valOf]
    | cons p r ih =>
      simp only [List.map_cons, valOf]
      split
      · show (p.2.take 60).length ≤ 60
        rw [List.length_take]; omega
      · exact ih
  exact h _
theorem vlC_snoc (l : Vl) (p : Bs × Bs) : vlC (l ++ [p]) = vlC l ++ [.string (bs p.1), .string (bs p.2)] := by simp [vlC]
theorem cutV_next (l : Vl) (k : Nat) (h : k < l.length) : vlC ((l.take (k + 1)).map cut1) = vlC ((l.take k).map cut1) ++ [.string (bs (l[k].1.take 60)), .string (bs (l[k].2.take 60))] := by
  rw [List.take_succ_eq_append_getElem h, List.map_append]
  exact vlC_snoc _ _
def SvRel (w : World) (vl : Vl) (gk : Nat) (v i : Value) (wr : World) : Prop :=
  ∃ k, i = .int .i64 ((k : Nat) : Int) ∧ k ≤ vl.length ∧ k ≤ 8 ∧ gk + k = vl.length + 1 ∧ Below w.heap.size w wr ∧ wr.ownsRow w.heap.size 56 2 v k (vlC ((vl.take k).map cut1))
theorem min_60 (t : Bs) : ∃ n, n ≤ t.length ∧ min ((bs t).size : Int) 60 = (n : Int) ∧ t.take n = t.take 60 := by
  rw [bs_size]
  rcases Nat.lt_or_ge t.length 60 with h | h
  · exact ⟨t.length, Nat.le_refl _, by omega, by rw [List.take_length, List.take_of_length_le (by omega)]⟩
  · exact ⟨60, h, by omega, rfl⟩
set_option maxRecDepth 100000 in
set_option maxHeartbeats 8000000 in
theorem shortValues_any (B : Nat) (w : World) (v : Value) (vl : Vl) (h : RowRa vlV VlN B w v vl) (hB : B ≤ w.heap.size) :
    Calls Try.prog 31 #[v] w fun e w' => ∃ v', e = .returned v' ∧ w'.ownsRow w.heap.size 56 2 v' (cutV vl).length (vlC (cutV vl)) ∧ Below w.heap.size w w' := by
  obtain ⟨i0, hi, hz0, hz1, hz2⟩ := info_parts info56
  obtain ⟨A, c, rfl, hc, hm, hA2⟩ := RowRa.all h vlV_len
  unfold maxLen at hm
  have HA := Lib.hid hA2
  clear h hA2
  go_enter Try.func31, Try.ntmps31
  go_wp2
  go_loopg [3, 4] (vl.length + 1) (fun gk v i wr => SvRel w vl gk v i wr)
  case atStart => exact ⟨0, rfl, Nat.zero_le _, by omega, by omega, Below.refl _ _, World.ownsRow_nil _ _ _ _⟩
  case round =>
    obtain ⟨k, rfl, hk, hk8, hgk, hb, hown⟩ := hrel
    have HO := Lib.hid hown
    have HB := Lib.hid hb
    obtain ⟨av, cv, rfl, _⟩ := own_len hown
    clear hown
    by_cases hlt : k < vl.length
    · have t1 : decide ((k : Int) < (vl.length : Int)) = true := decide_eq_true (by omega)
      by_cases h8 : k < 8
      · obtain ⟨b, o, u, rfl, hb0, hN, hx⟩ := HA.out k hlt
        have HNX := Lib.hid (cutV_next vl k hlt)
        obtain ⟨p, hp⟩ : ∃ p, vl[k] = p := ⟨_, rfl⟩
        rw [hp] at hN hx HNX
        clear hp
        have p0 := hx 0 _ rfl
        have p1 := hx 1 _ rfl
        rw [← Nat.add_assoc] at p1
        rw [Nat.add_zero] at p0
        have hbw : b < w.heap.size := Nat.lt_of_lt_of_le hb0 hB
        have P0 := Lib.hid p0
        have P1 := Lib.hid p1
        have e0 := ((bcell hb).1 b _ hbw).trans p0
        have e1 := ((bcell hb).1 b _ hbw).trans p1
        have hbr : b < wr.heap.size := Nat.lt_of_lt_of_le hbw hb.size
        have i1 : (0 : Int) ≤ (k : Int) := by omega
        have i2 : (k : Int) < (vl.length : Int) := by omega
        have hy1 : (bs p.1).size ≤ 9223372036854775807 := by rw [bs_size]; exact hN.1
        have hy2 : (bs p.2).size ≤ 9223372036854775807 := by rw [bs_size]; exact hN.2
        have t2 : decide ((k : Int) < 8) = true := decide_eq_true (by omega)
        obtain ⟨n1, hn1, hmin1, htk1⟩ := min_60 p.1
        obtain ⟨n2, hn2, hmin2, htk2⟩ := min_60 p.2
        have hq1 : (n1 : Int) ≤ ((bs p.1).size : Int) := by rw [bs_size]; omega
        have hq2 : (n2 : Int) ≤ ((bs p.2).size : Int) := by rw [bs_size]; omega
        have hr1 : (0 : Int) ≤ (n1 : Int) := by omega
        have hr2 : (0 : Int) ≤ (n2 : Int) := by omega
        have HX1 := Lib.hid (show (bs p.1).extract 0 n1 = bs (p.1.take 60) by rw [ext_take, htk1])
        have HX2 := Lib.hid (show (bs p.2).extract 0 n2 = bs (p.2.take 60) by rw [ext_take, htk2])
        have hs0 : w.heap.size ≤ wr.heap.size := hb.size
        obtain ⟨s1, hs1⟩ : ∃ s, bs (p.1.take 60) = s := ⟨_, rfl⟩
        obtain ⟨s2, hs2⟩ : ∃ s, bs (p.2.take 60) = s := ⟨_, rfl⟩
        rw [hs1] at HX1
        rw [hs2] at HX2
        rw [hs1, hs2] at HNX
        clear hx p0 p1 hb htk1 htk2 hn1 hn2 hs1 hs2 hN
        go_upto_region 5 with (fail)
        refine wp_region_noPanic ?_
        refine wp_region_held_drew (S := (fun w' => w'.cell? ⟨b, o + k * 2, none⟩ = some (.string (bs p.1)) ∧ w'.cell? ⟨b, o + k * 2 + 1, none⟩ = some (.string (bs p.2)))) (by kernel_rfl) ?_ (fun hHeld => ?_)
        · exact ⟨e0, e1⟩
        refine wpAnyH_take (i := 0) (v := ?_) rfl (by kernel_rfl) (by kernel_rfl) (by kernel_rfl) (fun _ _ _ h => h) (Or.inl ⟨by kernel_rfl, ?_⟩) hHeld ?_
        rotate_left
        · (intro w hSw; (try dsimp only at hSw); go_simp; try with_reducible rfl)
        try simp only [Act.put, List.setIfInBounds_toArray, List.set_cons_zero, List.set_cons_succ]
        refine wpAnyH_take (i := 1) (v := ?_) rfl (by kernel_rfl) (by kernel_rfl) (by kernel_rfl) (fun _ _ _ h => h) (Or.inl ⟨by kernel_rfl, ?_⟩) hHeld ?_
        rotate_left
        · (intro w hSw; (try dsimp only at hSw); go_simp; try with_reducible rfl)
        try simp only [Act.put, List.setIfInBounds_toArray, List.set_cons_zero, List.set_cons_succ]
        refine wpAnyH_take (i := 2) (v := ?_) rfl (by kernel_rfl) (by kernel_rfl) (by kernel_rfl) (fun _ _ _ h => h) (Or.inl ⟨by kernel_rfl, ?_⟩) hHeld ?_
        rotate_left
        · (intro w hSw; (try dsimp only at hSw); go_simp; try with_reducible rfl)
        try simp only [Act.put, List.setIfInBounds_toArray, List.set_cons_zero, List.set_cons_succ]
        refine wpAnyH_take (i := 3) (v := ?_) rfl (by kernel_rfl) (by kernel_rfl) (by kernel_rfl) (fun _ _ _ h => h) (Or.inl ⟨by kernel_rfl, ?_⟩) hHeld ?_
        rotate_left
        · (intro w hSw; (try dsimp only at hSw); go_simp; try with_reducible rfl)
        try simp only [Act.put, List.setIfInBounds_toArray, List.set_cons_zero, List.set_cons_succ]
        refine wpAnyH_take (i := 4) (v := ?_) rfl (by kernel_rfl) (by kernel_rfl) (by kernel_rfl) (fun _ _ _ h => h) (Or.inl ⟨by kernel_rfl, ?_⟩) hHeld ?_
        rotate_left
        · (intro w hSw; (try dsimp only at hSw); go_simp; try with_reducible rfl)
        try simp only [Act.put, List.setIfInBounds_toArray, List.set_cons_zero, List.set_cons_succ]
        refine wpAnyH_take (i := 5) (v := ?_) rfl (by kernel_rfl) (by kernel_rfl) (by kernel_rfl) (fun _ _ _ h => h) (Or.inl ⟨by kernel_rfl, ?_⟩) hHeld ?_
        rotate_left
        · (intro w hSw; (try dsimp only at hSw); go_simp; try with_reducible rfl)
        try simp only [Act.put, List.setIfInBounds_toArray, List.set_cons_zero, List.set_cons_succ]
        refine wpAnyH_take (i := 6) (v := ?_) rfl (by kernel_rfl) (by kernel_rfl) (by kernel_rfl) (fun _ _ _ h => h) (Or.inl ⟨by kernel_rfl, ?_⟩) hHeld ?_
        rotate_left
        · (intro w hSw; (try dsimp only at hSw); go_simp; try with_reducible rfl)
        try simp only [Act.put, List.setIfInBounds_toArray, List.set_cons_zero, List.set_cons_succ]
        refine wpAnyH_take (i := 7) (v := ?_) rfl (by kernel_rfl) (by kernel_rfl) (by kernel_rfl) (fun _ _ _ h => h) (Or.inl ⟨by kernel_rfl, ?_⟩) hHeld ?_
        rotate_left
        · (intro w hSw; (try dsimp only at hSw); go_simp; try with_reducible rfl)
        try simp only [Act.put, List.setIfInBounds_toArray, List.set_cons_zero, List.set_cons_succ]
        refine wpAnyH_take (i := 8) (v := ?_) rfl (by kernel_rfl) (by kernel_rfl) (by kernel_rfl) (fun _ _ _ h => h) (Or.inl ⟨by kernel_rfl, ?_⟩) hHeld ?_
        rotate_left
        · (intro w hSw; (try dsimp only at hSw); go_simp; try with_reducible rfl)
        try simp only [Act.put, List.setIfInBounds_toArray, List.set_cons_zero, List.set_cons_succ]
        refine wpAnyH_take (i := 9) (v := ?_) rfl (by kernel_rfl) (by kernel_rfl) (by kernel_rfl) (fun _ _ _ h => h) (Or.inl ⟨by kernel_rfl, ?_⟩) hHeld ?_
        rotate_left
        · (intro w hSw; (try dsimp only at hSw); go_simp; try with_reducible rfl)
        try simp only [Act.put, List.setIfInBounds_toArray, List.set_cons_zero, List.set_cons_succ]
        refine wpAnyH_take (i := 10) (v := ?_) rfl (by kernel_rfl) (by kernel_rfl) (by kernel_rfl) (fun _ _ _ h => h) (Or.inl ⟨by kernel_rfl, ?_⟩) hHeld ?_
        rotate_left
        · (intro w hSw; (try dsimp only at hSw); go_simp; try with_reducible rfl)
        try simp only [Act.put, List.setIfInBounds_toArray, List.set_cons_zero, List.set_cons_succ]
        refine wpAnyH_take (i := 11) (v := ?_) rfl (by kernel_rfl) (by kernel_rfl) (by kernel_rfl) (fun _ _ _ h => h) (Or.inl ⟨by kernel_rfl, ?_⟩) hHeld ?_
        rotate_left
        · (intro w hSw; (try dsimp only at hSw); go_simp; try with_reducible rfl)
        try simp only [Act.put, List.setIfInBounds_toArray, List.set_cons_zero, List.set_cons_succ]
        refine wpAnyH_take (i := 14) (v := ?_) rfl (by kernel_rfl) (by kernel_rfl) (by kernel_rfl) (fun _ _ _ h => h) (Or.inl ⟨by kernel_rfl, ?_⟩) hHeld ?_
        rotate_left
        · (intro w hSw; (try dsimp only at hSw); go_simp; try with_reducible rfl)
        try simp only [Act.put, List.setIfInBounds_toArray, List.set_cons_zero, List.set_cons_succ]
        refine wpAnyH_take (i := 15) (v := ?_) rfl (by kernel_rfl) (by kernel_rfl) (by kernel_rfl) (fun _ _ _ h => h) (Or.inl ⟨by kernel_rfl, ?_⟩) hHeld ?_
        rotate_left
        · (intro w hSw; (try dsimp only at hSw); go_simp; try with_reducible rfl)
        try simp only [Act.put, List.setIfInBounds_toArray, List.set_cons_zero, List.set_cons_succ]
        refine wpAnyH_take (i := 16) (v := ?_) rfl (by kernel_rfl) (by kernel_rfl) (by kernel_rfl) (fun _ _ _ h => h) (Or.inl ⟨by kernel_rfl, ?_⟩) hHeld ?_
        rotate_left
        · (intro w hSw; (try dsimp only at hSw); go_simp; try with_reducible rfl)
        try simp only [Act.put, List.setIfInBounds_toArray, List.set_cons_zero, List.set_cons_succ]
        refine wpAnyH_take (i := 17) (v := ?_) rfl (by kernel_rfl) (by kernel_rfl) (by kernel_rfl) (fun _ _ _ h => h) (Or.inl ⟨by kernel_rfl, ?_⟩) hHeld ?_
        rotate_left
        · (intro w hSw; (try dsimp only at hSw); go_simp; try with_reducible rfl)
        try simp only [Act.put, List.setIfInBounds_toArray, List.set_cons_zero, List.set_cons_succ]
        refine wpAnyH_take (i := 18) (v := ?_) rfl (by kernel_rfl) (by kernel_rfl) (by kernel_rfl) (fun _ _ _ h => h) (Or.inl ⟨by kernel_rfl, ?_⟩) hHeld ?_
        rotate_left
        · (intro w hSw; (try dsimp only at hSw); go_simp; try with_reducible rfl)
        try simp only [Act.put, List.setIfInBounds_toArray, List.set_cons_zero, List.set_cons_succ]
        refine wpAnyH_take (i := 19) (v := ?_) rfl (by kernel_rfl) (by kernel_rfl) (by kernel_rfl) (fun _ _ _ h => h) (Or.inl ⟨by kernel_rfl, ?_⟩) hHeld ?_
        rotate_left
        · (intro w hSw; (try dsimp only at hSw); go_simp; try with_reducible rfl)
        try simp only [Act.put, List.setIfInBounds_toArray, List.set_cons_zero, List.set_cons_succ]
        refine wpAnyH_take (i := 20) (v := ?_) rfl (by kernel_rfl) (by kernel_rfl) (by kernel_rfl) (fun _ _ _ h => h) (Or.inl ⟨by kernel_rfl, ?_⟩) hHeld ?_
        rotate_left
        · (intro w hSw; (try dsimp only at hSw); go_simp; try with_reducible rfl)
        try simp only [Act.put, List.setIfInBounds_toArray, List.set_cons_zero, List.set_cons_succ]
        refine wpAnyH_take (i := 21) (v := ?_) rfl (by kernel_rfl) (by kernel_rfl) (by kernel_rfl) (fun _ _ _ h => h) (Or.inl ⟨by kernel_rfl, ?_⟩) hHeld ?_
        rotate_left
        · (intro w hSw; (try dsimp only at hSw); go_simp; try with_reducible rfl)
        try simp only [Act.put, List.setIfInBounds_toArray, List.set_cons_zero, List.set_cons_succ]
        refine wpAnyH_take (i := 22) (v := ?_) rfl (by kernel_rfl) (by kernel_rfl) (by kernel_rfl) (fun _ _ _ h => h) (Or.inl ⟨by kernel_rfl, ?_⟩) hHeld ?_
        rotate_left
        · (intro w hSw; (try dsimp only at hSw); go_simp; try with_reducible rfl)
        try simp only [Act.put, List.setIfInBounds_toArray, List.set_cons_zero, List.set_cons_succ]
        refine wpAnyH_take (i := 23) (v := ?_) rfl (by kernel_rfl) (by kernel_rfl) (by kernel_rfl) (fun _ _ _ h => h) (Or.inl ⟨by kernel_rfl, ?_⟩) hHeld ?_
        rotate_left
        · (intro w hSw; (try dsimp only at hSw); go_simp; try with_reducible rfl)
        try simp only [Act.put, List.setIfInBounds_toArray, List.set_cons_zero, List.set_cons_succ]
        refine wpAnyH_take (i := 24) (v := ?_) rfl (by kernel_rfl) (by kernel_rfl) (by kernel_rfl) (fun _ _ _ h => h) (Or.inl ⟨by kernel_rfl, ?_⟩) hHeld ?_
        rotate_left
        · (intro w hSw; (try dsimp only at hSw); go_simp; try with_reducible rfl)
        try simp only [Act.put, List.setIfInBounds_toArray, List.set_cons_zero, List.set_cons_succ]
        refine wpAnyH_ready (rs := [12, 25]) (by kernel_rfl) (by simp) ?_
        refine AllReadyH.cons rfl (fun K hK => ?_) (AllReadyH.cons rfl (fun K hK => ?_) AllReadyH.nil)
        · go_simp
          refine hK.out _ _ ?_ (fun hNew => ?_)
          · exact ⟨e0, e1⟩
          clear hK K hHeld
          have hHeld := hNew
          clear hNew
          try simp only [Act.put, List.setIfInBounds_toArray, List.set_cons_zero, List.set_cons_succ]
          refine wpAnyH_take (i := 13) (v := ?_) rfl (by kernel_rfl) (by kernel_rfl) (by kernel_rfl) (fun _ _ _ h => h) (Or.inl ⟨by kernel_rfl, ?_⟩) hHeld ?_
          rotate_left
          · (intro w hSw; (try dsimp only at hSw); go_simp; try with_reducible rfl)
          try simp only [Act.put, List.setIfInBounds_toArray, List.set_cons_zero, List.set_cons_succ]
          rw [HX1.out]
          refine wpAnyH_ready (rs := [25]) (by kernel_rfl) (by simp) ?_
          refine AllReadyH.cons rfl (fun K hK => ?_) AllReadyH.nil
          go_simp
          refine hK.out _ _ ?_ (fun hNew => ?_)
          · exact ⟨e0, e1⟩
          clear hK K hHeld
          have hHeld := hNew
          clear hNew
          try simp only [Act.put, List.setIfInBounds_toArray, List.set_cons_zero, List.set_cons_succ]
          refine wpAnyH_take (i := 26) (v := ?_) rfl (by kernel_rfl) (by kernel_rfl) (by kernel_rfl) (fun _ _ _ h => h) (Or.inl ⟨by kernel_rfl, ?_⟩) hHeld ?_
          rotate_left
          · (intro w hSw; (try dsimp only at hSw); go_simp; try with_reducible rfl)
          try simp only [Act.put, List.setIfInBounds_toArray, List.set_cons_zero, List.set_cons_succ]
          rw [HX2.out]
          refine wpAnyH_take (i := 27) (v := ?_) rfl (by kernel_rfl) (by kernel_rfl) (by kernel_rfl) (fun _ _ _ h => h) (Or.inl ⟨by kernel_rfl, ?_⟩) hHeld ?_
          rotate_left
          · (intro w hSw; (try dsimp only at hSw); go_simp; try with_reducible rfl)
          try simp only [Act.put, List.setIfInBounds_toArray, List.set_cons_zero, List.set_cons_succ]
          refine wpAnyH_ready (rs := [28]) (by kernel_rfl) (by simp) ?_
          refine AllReadyH.cons rfl (fun K hK => ?_) AllReadyH.nil
          go_simp
          refine hK.out _ _ ?_ (fun hNew => ?_)
          · go_keep
          clear hK K hHeld
          have hHeld := hNew
          clear hNew
          try simp only [Act.put, List.setIfInBounds_toArray, List.set_cons_zero, List.set_cons_succ]
          refine wpAnyH_ready (rs := [29]) (by kernel_rfl) (by simp) ?_
          refine AllReadyH.cons rfl (fun K hK => ?_) AllReadyH.nil
          refine step_append_lies _ (by rfl) _ _ _ (by rfl) w.heap.size 56 i0 _ 2 32 Try.underlying58 hi hz0 hz1 hz2 rfl (by omega) (.slice av k cv) k (vlC ((vl.take k).map cut1)) (by rfl) (HO.out.drew.alloc _) ⟨wr.heap.size, 0, none⟩ 1 1 [.string s1, .string s2] (by rfl) (by rfl) (World.news_of_block (cs := #[.string s1, .string s2]) (t := 56) (fr := (0, 0)) (heap_alloc_new wr.drew _)) (by simp [Value.oneCell']) (by omega) (by unfold maxLen; omega) (by omega) (by simp; omega) (wr.heap.size + 1) (by simp) ?_; intro gz cap w3 hown3 hgrow3 hat hlt3; have HB3 := Lib.hid (below_own (B := w.heap.size) (HB.out.drew.alloc (by simpa using hs0) _) (HO.out.drew.alloc _) hgrow3 (Nat.le_refl _) (by simp; omega)); have z0 := ((bcell HB3.out).1 b (o + k * 2) hbw).trans P0.out; have z1 := ((bcell HB3.out).1 b (o + k * 2 + 1) hbw).trans P1.out
          refine hK.out _ _ ?_ (fun hNew => ?_)
          · exact ⟨z0, z1⟩
          clear hK K hHeld
          have hHeld := hNew
          clear hNew
          try simp only [Act.put, List.setIfInBounds_toArray, List.set_cons_zero, List.set_cons_succ]
          refine wpAnyH_take (i := 30) (v := ?_) rfl (by kernel_rfl) (by kernel_rfl) (by kernel_rfl) (fun _ _ _ h => h) (Or.inl ⟨by kernel_rfl, ?_⟩) hHeld ?_
          rotate_left
          · (intro w hSw; (try dsimp only at hSw); go_simp; try with_reducible rfl)
          try simp only [Act.put, List.setIfInBounds_toArray, List.set_cons_zero, List.set_cons_succ]
          refine wpAnyH_done (by kernel_rfl) ?_ _
          clear hHeld
          simp only [List.getElem_toArray, List.getElem_cons_zero, List.getElem_cons_succ, Act.put, List.setIfInBounds_toArray, List.set_cons_zero, List.set_cons_succ]
          refine NoPanic.normal ?_
          have HO5 := Lib.hid (show w3.ownsRow w.heap.size 56 2 (.slice (some ⟨gz, 0, none⟩) (k + 1) cap) (k + 1) (vlC ((vl.take (k + 1)).map cut1)) from by rw [HNX.out]; exact hown3)
          clear hown3 hgrow3 z0 z1 hat hlt3
          go_wp2
          go_roundg (gk - 1)
          case rel => exact ⟨k + 1, by go_num, by omega, by omega, by omega, HB3.out, HO5.out⟩
          case measure => omega
        · go_simp
          refine hK.out _ _ ?_ (fun hNew => ?_)
          · exact ⟨e0, e1⟩
          clear hK K hHeld
          have hHeld := hNew
          clear hNew
          try simp only [Act.put, List.setIfInBounds_toArray, List.set_cons_zero, List.set_cons_succ]
          refine wpAnyH_take (i := 26) (v := ?_) rfl (by kernel_rfl) (by kernel_rfl) (by kernel_rfl) (fun _ _ _ h => h) (Or.inl ⟨by kernel_rfl, ?_⟩) hHeld ?_
          rotate_left
          · (intro w hSw; (try dsimp only at hSw); go_simp; try with_reducible rfl)
          try simp only [Act.put, List.setIfInBounds_toArray, List.set_cons_zero, List.set_cons_succ]
          rw [HX2.out]
          refine wpAnyH_ready (rs := [12]) (by kernel_rfl) (by simp) ?_
          refine AllReadyH.cons rfl (fun K hK => ?_) AllReadyH.nil
          go_simp
          refine hK.out _ _ ?_ (fun hNew => ?_)
          · exact ⟨e0, e1⟩
          clear hK K hHeld
          have hHeld := hNew
          clear hNew
          try simp only [Act.put, List.setIfInBounds_toArray, List.set_cons_zero, List.set_cons_succ]
          refine wpAnyH_take (i := 13) (v := ?_) rfl (by kernel_rfl) (by kernel_rfl) (by kernel_rfl) (fun _ _ _ h => h) (Or.inl ⟨by kernel_rfl, ?_⟩) hHeld ?_
          rotate_left
          · (intro w hSw; (try dsimp only at hSw); go_simp; try with_reducible rfl)
          try simp only [Act.put, List.setIfInBounds_toArray, List.set_cons_zero, List.set_cons_succ]
          rw [HX1.out]
          refine wpAnyH_take (i := 27) (v := ?_) rfl (by kernel_rfl) (by kernel_rfl) (by kernel_rfl) (fun _ _ _ h => h) (Or.inl ⟨by kernel_rfl, ?_⟩) hHeld ?_
          rotate_left
          · (intro w hSw; (try dsimp only at hSw); go_simp; try with_reducible rfl)
          try simp only [Act.put, List.setIfInBounds_toArray, List.set_cons_zero, List.set_cons_succ]
          refine wpAnyH_ready (rs := [28]) (by kernel_rfl) (by simp) ?_
          refine AllReadyH.cons rfl (fun K hK => ?_) AllReadyH.nil
          go_simp
          refine hK.out _ _ ?_ (fun hNew => ?_)
          · go_keep
          clear hK K hHeld
          have hHeld := hNew
          clear hNew
          try simp only [Act.put, List.setIfInBounds_toArray, List.set_cons_zero, List.set_cons_succ]
          refine wpAnyH_ready (rs := [29]) (by kernel_rfl) (by simp) ?_
          refine AllReadyH.cons rfl (fun K hK => ?_) AllReadyH.nil
          refine step_append_lies _ (by rfl) _ _ _ (by rfl) w.heap.size 56 i0 _ 2 32 Try.underlying58 hi hz0 hz1 hz2 rfl (by omega) (.slice av k cv) k (vlC ((vl.take k).map cut1)) (by rfl) (HO.out.drew.alloc _) ⟨wr.heap.size, 0, none⟩ 1 1 [.string s1, .string s2] (by rfl) (by rfl) (World.news_of_block (cs := #[.string s1, .string s2]) (t := 56) (fr := (0, 0)) (heap_alloc_new wr.drew _)) (by simp [Value.oneCell']) (by omega) (by unfold maxLen; omega) (by omega) (by simp; omega) (wr.heap.size + 1) (by simp) ?_; intro gz cap w3 hown3 hgrow3 hat hlt3; have HB3 := Lib.hid (below_own (B := w.heap.size) (HB.out.drew.alloc (by simpa using hs0) _) (HO.out.drew.alloc _) hgrow3 (Nat.le_refl _) (by simp; omega)); have z0 := ((bcell HB3.out).1 b (o + k * 2) hbw).trans P0.out; have z1 := ((bcell HB3.out).1 b (o + k * 2 + 1) hbw).trans P1.out
          refine hK.out _ _ ?_ (fun hNew => ?_)
          · exact ⟨z0, z1⟩
          clear hK K hHeld
          have hHeld := hNew
          clear hNew
          try simp only [Act.put, List.setIfInBounds_toArray, List.set_cons_zero, List.set_cons_succ]
          refine wpAnyH_take (i := 30) (v := ?_) rfl (by kernel_rfl) (by kernel_rfl) (by kernel_rfl) (fun _ _ _ h => h) (Or.inl ⟨by kernel_rfl, ?_⟩) hHeld ?_
          rotate_left
          · (intro w hSw; (try dsimp only at hSw); go_simp; try with_reducible rfl)
          try simp only [Act.put, List.setIfInBounds_toArray, List.set_cons_zero, List.set_cons_succ]
          refine wpAnyH_done (by kernel_rfl) ?_ _
          clear hHeld
          simp only [List.getElem_toArray, List.getElem_cons_zero, List.getElem_cons_succ, Act.put, List.setIfInBounds_toArray, List.set_cons_zero, List.set_cons_succ]
          refine NoPanic.normal ?_
          have HO5 := Lib.hid (show w3.ownsRow w.heap.size 56 2 (.slice (some ⟨gz, 0, none⟩) (k + 1) cap) (k + 1) (vlC ((vl.take (k + 1)).map cut1)) from by rw [HNX.out]; exact hown3)
          clear hown3 hgrow3 z0 z1 hat hlt3
          go_wp2
          go_roundg (gk - 1)
          case rel => exact ⟨k + 1, by go_num, by omega, by omega, by omega, HB3.out, HO5.out⟩
          case measure => omega
      · obtain rfl : k = 8 := by omega
        have t2 : decide (((8 : Nat) : Int) < 8) = false := by simp
        have t3 : decide ((8 : Int) < (vl.length : Int)) = true := t1
        have HZ := Lib.hid (show vlC ((vl.take 8).map cut1) = vlC (cutV vl) from rfl)
        have HLN := Lib.hid (show (cutV vl).length = 8 by unfold cutV; rw [List.length_map, List.length_take]; omega)
        clear hb
        go_wp2
        go_ret
        exact ⟨_, rfl, by rw [HLN.out]; exact HO.out, HB.out⟩
    · obtain rfl : k = vl.length := by omega
      have t1 : decide ((vl.length : Int) < (vl.length : Int)) = false := by simp
      have HZ := Lib.hid (show vlC ((vl.take vl.length).map cut1) = vlC (cutV vl) by unfold cutV; rw [List.take_length, List.take_of_length_le (by omega)])
      have HLN := Lib.hid (show (cutV vl).length = vl.length by unfold cutV; rw [List.length_map, List.length_take]; omega)
      clear hb
      go_wp2
      go_ret
      exact ⟨_, rfl, by rw [HLN.out, ← HZ.out]; exact HO.out, HB.out⟩
end Go.Proofs.Ytiddchpkmcncdaa
