/- The law CommandParses, walked. -/
import Derived.Test.YtiddchpkmcncdaaT18
import Derived.Test.YtiddchpkmcncdaaT15
import Derived.Test.YtiddchpkmcncdaaC4
import Derived.Test.YtiddchpkmcncdaaY2
import Derived.Test.YtiddchpkmcncdaaX26
import Derived.Test.YtiddchpkmcncdaaG5
namespace Go.Proofs.Ytiddchpkmcncdaa
open Go.RowKit
set_option linter.unusedSimpArgs false
set_option linter.unusedVariables false
def rL : R Ln → Ln | .ok l => l | .err _ _ => ⟨[], false⟩
def rP : R Ln → Nat | .ok _ => 0 | .err q _ => q
def rE : R Ln → Int | .ok _ => 0 | .err _ e => e
theorem SmIn.limP {c : Sm} (h : SmIn c) : SmLim c := by
  obtain ⟨h1, h2, h3, h4, h5, h6⟩ := h
  exact ⟨by omega, by omega, fun a ha => by have := (h3 a ha).2.1; omega, fun x hx => by have := (h4 x hx).1; omega, by have := h5.1; omega, by have := h6.1; omega⟩
theorem LnIn.limP {l : Ln} (h : LnIn l) : LLen l := ⟨by have := h.1; omega, fun q hq => ⟨by have := (h.2 q hq).1; omega, fun c hc => ((h.2 q hq).2 c hc).limP⟩⟩
theorem LLen_par (L : Bs) : LLen (rL (parS L)) := by
  cases h : parS L with
  | err q e => exact ⟨by simp [rL], fun q hq => by simp [rL] at hq⟩
  | ok l => exact (par_v L l h).2.limP
theorem our_is (L : Bs) (w : World) (hs : L.length ≤ 1100) : Calls Try.prog 13 #[.string (bs L)] w fun e w' => ∃ v, e = .returned (.tuple #[.agg #[v, .bool (rL (parS L)).bg], .int .i64 (rP (parS L) : Int), .int .i64 (rE (parS L))]) ∧ RowRd 49 plV (NPp 61 42 140 46) w' v (rL (parS L)).parts ∧ Below w.heap.size w w' := by
  refine (Parse_any (bs L) w (by rw [bs_size]; omega)).mono ?_
  rintro e w' ⟨hb, hm⟩
  rw [bs_list] at hm
  cases h : parS L with
  | err q er =>
    rw [h] at hm
    exact ⟨_, hm, RowRd.nil, hb⟩
  | ok l =>
    rw [h] at hm
    obtain ⟨v, he, hr⟩ := hm
    exact ⟨v, he, hr, hb⟩
theorem ref_is (L : Bs) (w : World) (hs : L.length ≤ 1100) : Calls Try.prog 14 #[.string (bs L)] w fun e w' => ∃ v, e = .returned (.tuple #[.agg #[v, .bool (rL (parS L)).bg], .int .i64 (rP (parS L) : Int), .int .i64 (rE (parS L))]) ∧ RowRd 101 plV (NPp 51 39 112 109) w' v (rL (parS L)).parts ∧ Below w.heap.size w w' := by
  refine (Parse_ref (pipeline_ref simple_ref) (bs L) w (by rw [bs_size]; omega)).mono ?_
  rintro e w' ⟨hb, hm⟩
  rw [bs_list] at hm
  cases h : parS L with
  | err q er =>
    rw [h] at hm
    exact ⟨_, hm, RowRd.nil, hb⟩
  | ok l =>
    rw [h] at hm
    obtain ⟨v, he, hr⟩ := hm
    exact ⟨v, he, hr, hb⟩
set_option maxRecDepth 100000 in
set_option maxHeartbeats 8000000 in
theorem parses_small (s : ByteArray) (w : World) (hs : s.size ≤ maxLen) (h60 : s.size ≤ 1100) :
    Calls Try.prog 3 #[.string s] w fun e w' => e = .returned (.bool true) ∧ Below w.heap.size w w' := by
  unfold maxLen at hs
  have hm : min (s.size : Int) 1100 = s.size := by omega
  obtain ⟨L, hL⟩ : ∃ L, s = bs L := ⟨(s).data.toList, (bs_of _).symm⟩
  have hLl : L.length ≤ 1100 := by rw [← bs_size, ← hL]; exact h60
  have HL := Lib.hid hL
  clear hL
  go_enter Try.func3, Try.ntmps3
  go_wp2_with fail
  rw [HL.out]
  clear hm h60 hs HL
  refine (our_is L _ hLl).mono ?_
  rintro e w1 ⟨v, rfl, hr1, hb1⟩
  have HREF := Lib.hid (fun wx => ref_is L wx hLl)
  have HLL := Lib.hid (LLen_par L)
  obtain ⟨r, hr⟩ : ∃ r, parS L = r := ⟨_, rfl⟩
  rw [hr] at hr1 HREF HLL ⊢
  clear hr
  obtain ⟨l, hl⟩ : ∃ l, rL r = l := ⟨_, rfl⟩
  obtain ⟨p, hp⟩ : ∃ p, rP r = p := ⟨_, rfl⟩
  obtain ⟨ev, he⟩ : ∃ ev, rE r = ev := ⟨_, rfl⟩
  rw [hl] at hr1 HREF HLL ⊢
  rw [hp, he] at HREF ⊢
  clear hl hp he
  obtain ⟨A, c, rfl, _⟩ := RowRd.form hr1
  have HB1 := Lib.hid (hb1.alloc hb1.size (.cells #[.slice A l.parts.length c, .bool l.bg] 24))
  have HX1 := Lib.hid (Blk.new w1 24 #[.slice A l.parts.length c, .bool l.bg])
  have HR1 := Lib.hid (hr1.next ((Below.refl w1.heap.size w1).alloc (Nat.le_refl _) (.cells #[.slice A l.parts.length c, .bool l.bg] 24)) (fun _ _ h => NPp.next h ((Below.refl w1.heap.size w1).alloc (Nat.le_refl _) (.cells #[.slice A l.parts.length c, .bool l.bg] 24))))
  clear hb1 hr1
  go_wp2_with fail
  generalize (w1.alloc (.cells #[.slice A l.parts.length c, .bool l.bg] 24)) = wa at *
  generalize w1.heap.size = g at *
  refine (HREF.out _).mono ?_
  rintro e w2 ⟨v2, rfl, hr2, hb2⟩
  obtain ⟨A2, c2, rfl, _⟩ := RowRd.form hr2
  have hba := hb2.alloc hb2.size (.cells #[.slice A2 l.parts.length c2, .bool l.bg] 30)
  have HB2 := Lib.hid (HB1.out.trans (hba.mono HB1.out.size))
  have HX2 := Lib.hid (HX1.out.next hba HX1.out.lt)
  have HR2 := Lib.hid (HR1.out.next hba (fun _ _ h => NPp.next h hba))
  have hbn := (Below.refl w2.heap.size w2).alloc (Nat.le_refl _) (.cells #[.slice A2 l.parts.length c2, .bool l.bg] 30)
  have HY2 := Lib.hid (Blk.new w2 30 #[.slice A2 l.parts.length c2, .bool l.bg])
  have HQ2 := Lib.hid (hr2.next hbn (fun _ _ h => NPp.next h hbn))
  clear hba hbn hb2 hr2 HB1 HX1 HR1 HREF
  go_upto_region 4 with (fail)
  generalize (w2.alloc (.cells #[.slice A2 l.parts.length c2, .bool l.bg] 30)) = wb at *
  generalize w2.heap.size = g2 at *
  have x0 : wb.cell? ⟨g, 0, none⟩ = some (.slice A l.parts.length c) := HX2.out.cell 0
  have x1 : wb.cell? ⟨g, 1, none⟩ = some (.bool l.bg) := HX2.out.cell 1
  have y0 : wb.cell? ⟨g2, 0, none⟩ = some (.slice A2 l.parts.length c2) := HY2.out.cell 0
  have y1 : wb.cell? ⟨g2, 1, none⟩ = some (.bool l.bg) := HY2.out.cell 1
  have HEQ := Lib.hid ((eqLn_iff l l).2 rfl)
  refine wp_region_noPanic ?_
  refine wp_region_held_drew (S := (fun w' => w'.cell? ⟨g, 0, none⟩ = some (.slice A l.parts.length c) ∧ w'.cell? ⟨g, 1, none⟩ = some (.bool l.bg) ∧ w'.cell? ⟨g2, 0, none⟩ = some (.slice A2 l.parts.length c2) ∧ w'.cell? ⟨g2, 1, none⟩ = some (.bool l.bg))) (by kernel_rfl) ?_ (fun hHeld => ?_)
  · exact ⟨x0, x1, y0, y1⟩
  refine wpAnyH_ready (rs := [0]) (by kernel_rfl) (by simp) ?_
  refine AllReadyH.cons rfl (fun K hK => ?_) AllReadyH.nil
  go_simp
  go_at_call 15; refine (known_any _).mono ?_; rintro e w3 ⟨rfl, hb3⟩; have HR3 := Lib.hid (HR2.out.next (((Below.refl wb.heap.size wb).drew).trans hb3) (fun _ _ h => NPp.next h (((Below.refl wb.heap.size wb).drew).trans hb3))); have HQ3 := Lib.hid (HQ2.out.next (((Below.refl wb.heap.size wb).drew).trans hb3) (fun _ _ h => NPp.next h (((Below.refl wb.heap.size wb).drew).trans hb3))); have HX3 := Lib.hid (HX2.out.next (((Below.refl wb.heap.size wb).drew).trans hb3) HX2.out.lt); have HY3 := Lib.hid (HY2.out.next (((Below.refl wb.heap.size wb).drew).trans hb3) HY2.out.lt); have HB3 := Lib.hid (HB2.out.trans ((((Below.refl wb.heap.size wb).drew).trans hb3).mono HB2.out.size)); have x0 : w3.cell? ⟨g, 0, none⟩ = some (.slice A l.parts.length c) := HX3.out.cell 0; have x1 : w3.cell? ⟨g, 1, none⟩ = some (.bool l.bg) := HX3.out.cell 1; have y0 : w3.cell? ⟨g2, 0, none⟩ = some (.slice A2 l.parts.length c2) := HY3.out.cell 0; have y1 : w3.cell? ⟨g2, 1, none⟩ = some (.bool l.bg) := HY3.out.cell 1
  try (go_wp2_with fail)
  refine hK.out _ _ ?_ (fun hNew => ?_)
  · exact ⟨x0, x1, y0, y1⟩
  clear hK K hHeld
  have hHeld := hNew
  clear hNew
  try simp only [Act.put, List.setIfInBounds_toArray, List.set_cons_zero, List.set_cons_succ]
  refine wpAnyH_take (i := 1) (v := ?_) rfl (by kernel_rfl) (by kernel_rfl) (by kernel_rfl) (fun _ _ _ h => h) (Or.inl ⟨by kernel_rfl, ?_⟩) hHeld ?_
  rotate_left
  · (intro w hSw; (try dsimp only at hSw); go_simp; try with_reducible rfl)
  try simp only [Act.put, List.setIfInBounds_toArray, List.set_cons_zero, List.set_cons_succ]
  refine wpAnyH_take (i := 2) (v := ?_) rfl (by kernel_rfl) (by kernel_rfl) (by kernel_rfl) (fun _ _ _ h => h) (Or.inl ⟨by kernel_rfl, ?_⟩) hHeld ?_
  rotate_left
  · (intro w hSw; (try dsimp only at hSw); go_simp; try with_reducible rfl)
  try simp only [Act.put, List.setIfInBounds_toArray, List.set_cons_zero, List.set_cons_succ]
  refine wpAnyH_take (i := 3) (v := ?_) rfl (by kernel_rfl) (by kernel_rfl) (by kernel_rfl) (fun _ _ _ h => h) (Or.inl ⟨by kernel_rfl, ?_⟩) hHeld ?_
  rotate_left
  · (intro w hSw; (try dsimp only at hSw); go_simp; try with_reducible rfl)
  try simp only [Act.put, List.setIfInBounds_toArray, List.set_cons_zero, List.set_cons_succ]
  refine wpAnyH_take (i := 4) (v := ?_) rfl (by kernel_rfl) (by kernel_rfl) (by kernel_rfl) (fun _ _ _ h => h) (Or.inl ⟨by kernel_rfl, ?_⟩) hHeld ?_
  rotate_left
  · (intro w hSw; (try dsimp only at hSw); go_simp; try with_reducible rfl)
  try simp only [Act.put, List.setIfInBounds_toArray, List.set_cons_zero, List.set_cons_succ]
  refine wpAnyH_take (i := 5) (v := ?_) rfl (by kernel_rfl) (by kernel_rfl) (by kernel_rfl) (fun _ _ _ h => h) (Or.inl ⟨by kernel_rfl, ?_⟩) hHeld ?_
  rotate_left
  · (intro w hSw; (try dsimp only at hSw); go_simp; try with_reducible rfl)
  try simp only [Act.put, List.setIfInBounds_toArray, List.set_cons_zero, List.set_cons_succ]
  refine wpAnyH_take (i := 6) (v := ?_) rfl (by kernel_rfl) (by kernel_rfl) (by kernel_rfl) (fun _ _ _ h => h) (Or.inl ⟨by kernel_rfl, ?_⟩) hHeld ?_
  rotate_left
  · (intro w hSw; (try dsimp only at hSw); go_simp; try with_reducible rfl)
  try simp only [Act.put, List.setIfInBounds_toArray, List.set_cons_zero, List.set_cons_succ]
  refine wpAnyH_take (i := 7) (v := ?_) rfl (by kernel_rfl) (by kernel_rfl) (by kernel_rfl) (fun _ _ _ h => h) (Or.inl ⟨by kernel_rfl, ?_⟩) hHeld ?_
  rotate_left
  · (intro w hSw; (try dsimp only at hSw); go_simp; try with_reducible rfl)
  try simp only [Act.put, List.setIfInBounds_toArray, List.set_cons_zero, List.set_cons_succ]
  refine wpAnyH_take (i := 8) (v := ?_) rfl (by kernel_rfl) (by kernel_rfl) (by kernel_rfl) (fun _ _ _ h => h) (Or.inl ⟨by kernel_rfl, ?_⟩) hHeld ?_
  rotate_left
  · (intro w hSw; (try dsimp only at hSw); go_simp; try with_reducible rfl)
  try simp only [Act.put, List.setIfInBounds_toArray, List.set_cons_zero, List.set_cons_succ]
  refine wpAnyH_take (i := 9) (v := ?_) rfl (by kernel_rfl) (by kernel_rfl) (by kernel_rfl) (fun _ _ _ h => h) (Or.inl ⟨by kernel_rfl, ?_⟩) hHeld ?_
  rotate_left
  · (intro w hSw; (try dsimp only at hSw); go_simp; try with_reducible rfl)
  try simp only [Act.put, List.setIfInBounds_toArray, List.set_cons_zero, List.set_cons_succ]
  refine wpAnyH_take (i := 10) (v := ?_) rfl (by kernel_rfl) (by kernel_rfl) (by kernel_rfl) (fun _ _ _ h => h) (Or.inl ⟨by kernel_rfl, ?_⟩) hHeld ?_
  rotate_left
  · (intro w hSw; (try dsimp only at hSw); go_simp; try with_reducible rfl)
  try simp only [Act.put, List.setIfInBounds_toArray, List.set_cons_zero, List.set_cons_succ]
  refine wpAnyH_take (i := 11) (v := ?_) rfl (by kernel_rfl) (by kernel_rfl) (by kernel_rfl) (fun _ _ _ h => h) (Or.inl ⟨by kernel_rfl, ?_⟩) hHeld ?_
  rotate_left
  · (intro w hSw; (try dsimp only at hSw); go_simp; try with_reducible rfl)
  try simp only [Act.put, List.setIfInBounds_toArray, List.set_cons_zero, List.set_cons_succ]
  refine wpAnyH_take (i := 12) (v := ?_) rfl (by kernel_rfl) (by kernel_rfl) (by kernel_rfl) (fun _ _ _ h => h) (Or.inl ⟨by kernel_rfl, ?_⟩) hHeld ?_
  rotate_left
  · (intro w hSw; (try dsimp only at hSw); go_simp; try with_reducible rfl)
  try simp only [Act.put, List.setIfInBounds_toArray, List.set_cons_zero, List.set_cons_succ]
  refine wpAnyH_take (i := 14) (v := ?_) rfl (by kernel_rfl) (by kernel_rfl) (by kernel_rfl) (fun _ _ _ h => h) (Or.inl ⟨by kernel_rfl, ?_⟩) hHeld ?_
  rotate_left
  · (intro w hSw; (try dsimp only at hSw); go_simp; try with_reducible rfl)
  try simp only [Act.put, List.setIfInBounds_toArray, List.set_cons_zero, List.set_cons_succ]
  refine wpAnyH_ready (rs := [13]) (by kernel_rfl) (by simp) ?_
  refine AllReadyH.cons rfl (fun K hK => ?_) AllReadyH.nil
  go_simp
  go_at_call 17; refine (Of_any _ _ l HR3.out HLL.out).mono ?_; rintro e w4 ⟨v4, rfl, hq4, hb4⟩; have HQ4 := Lib.hid (HQ3.out.next hb4 (fun _ _ h => NPp.next h hb4)); have HV4 := Lib.hid hq4; have HX4 := Lib.hid (HX3.out.next hb4 HX3.out.lt); have HY4 := Lib.hid (HY3.out.next hb4 HY3.out.lt); have HB4 := Lib.hid (HB3.out.trans (hb4.mono HB3.out.size)); have x0 : w4.cell? ⟨g, 0, none⟩ = some (.slice A l.parts.length c) := HX4.out.cell 0; have x1 : w4.cell? ⟨g, 1, none⟩ = some (.bool l.bg) := HX4.out.cell 1; have y0 : w4.cell? ⟨g2, 0, none⟩ = some (.slice A2 l.parts.length c2) := HY4.out.cell 0; have y1 : w4.cell? ⟨g2, 1, none⟩ = some (.bool l.bg) := HY4.out.cell 1
  try (go_wp2_with fail)
  refine hK.out _ _ ?_ (fun hNew => ?_)
  · exact ⟨x0, x1, y0, y1⟩
  clear hK K hHeld
  have hHeld := hNew
  clear hNew
  try simp only [Act.put, List.setIfInBounds_toArray, List.set_cons_zero, List.set_cons_succ]
  refine wpAnyH_ready (rs := [15]) (by kernel_rfl) (by simp) ?_
  refine AllReadyH.cons rfl (fun K hK => ?_) AllReadyH.nil
  go_simp
  go_at_call 16; refine (Same_is _ _ _ l l true HV4.out HQ4.out HLL.out HLL.out HEQ.out).mono ?_; rintro e w5 ⟨rfl, hb5⟩; have HX5 := Lib.hid (HX4.out.next hb5 HX4.out.lt); have HY5 := Lib.hid (HY4.out.next hb5 HY4.out.lt); have HB5 := Lib.hid (HB4.out.trans (hb5.mono HB4.out.size)); have x0 : w5.cell? ⟨g, 0, none⟩ = some (.slice A l.parts.length c) := HX5.out.cell 0; have x1 : w5.cell? ⟨g, 1, none⟩ = some (.bool l.bg) := HX5.out.cell 1; have y0 : w5.cell? ⟨g2, 0, none⟩ = some (.slice A2 l.parts.length c2) := HY5.out.cell 0; have y1 : w5.cell? ⟨g2, 1, none⟩ = some (.bool l.bg) := HY5.out.cell 1
  try (go_wp2_with fail)
  refine hK.out _ _ ?_ (fun hNew => ?_)
  · exact ⟨x0, x1, y0, y1⟩
  clear hK K hHeld
  have hHeld := hNew
  clear hNew
  try simp only [Act.put, List.setIfInBounds_toArray, List.set_cons_zero, List.set_cons_succ]
  refine wpAnyH_take (i := 16) (v := ?_) rfl (by kernel_rfl) (by kernel_rfl) (by kernel_rfl) (fun _ _ _ h => h) (Or.inl ⟨by kernel_rfl, ?_⟩) hHeld ?_
  rotate_left
  · (intro w hSw; (try dsimp only at hSw); go_simp; try with_reducible rfl)
  try simp only [Act.put, List.setIfInBounds_toArray, List.set_cons_zero, List.set_cons_succ]
  refine wpAnyH_take (i := 17) (v := ?_) rfl (by kernel_rfl) (by kernel_rfl) (by kernel_rfl) (fun _ _ _ h => h) (Or.inl ⟨by kernel_rfl, ?_⟩) hHeld ?_
  rotate_left
  · (intro w hSw; (try dsimp only at hSw); go_simp; try with_reducible rfl)
  try simp only [Act.put, List.setIfInBounds_toArray, List.set_cons_zero, List.set_cons_succ]
  refine wpAnyH_done (by kernel_rfl) ?_ _
  clear hHeld
  simp only [List.getElem_toArray, List.getElem_cons_zero, List.getElem_cons_succ, Act.put, List.setIfInBounds_toArray, List.set_cons_zero, List.set_cons_succ]
  refine NoPanic.normal ?_
  go_wp2
  go_ret
  exact ⟨rfl, HB5.out⟩
set_option maxRecDepth 100000 in
set_option maxHeartbeats 8000000 in
theorem parses_large (s : ByteArray) (w : World) (hs : s.size ≤ maxLen) (h60 : ¬ s.size ≤ 1100) :
    Calls Try.prog 3 #[.string s] w fun e w' => e = .returned (.bool true) ∧ Below w.heap.size w w' := by
  unfold maxLen at hs
  have hm : min (s.size : Int) 1100 = 1100 := by omega
  obtain ⟨L, hL⟩ : ∃ L, s.extract 0 1100 = bs L := ⟨(s.extract 0 1100).data.toList, (bs_of _).symm⟩
  have hLl : L.length ≤ 1100 := by rw [← bs_size, ← hL]; rw [size_extract _ _ _ (by omega)]; omega
  have HL := Lib.hid hL
  clear hL
  go_enter Try.func3, Try.ntmps3
  go_wp2_with fail
  rw [HL.out]
  clear hm h60 hs HL
  refine (our_is L _ hLl).mono ?_
  rintro e w1 ⟨v, rfl, hr1, hb1⟩
  have HREF := Lib.hid (fun wx => ref_is L wx hLl)
  have HLL := Lib.hid (LLen_par L)
  obtain ⟨r, hr⟩ : ∃ r, parS L = r := ⟨_, rfl⟩
  rw [hr] at hr1 HREF HLL ⊢
  clear hr
  obtain ⟨l, hl⟩ : ∃ l, rL r = l := ⟨_, rfl⟩
  obtain ⟨p, hp⟩ : ∃ p, rP r = p := ⟨_, rfl⟩
  obtain ⟨ev, he⟩ : ∃ ev, rE r = ev := ⟨_, rfl⟩
  rw [hl] at hr1 HREF HLL ⊢
  rw [hp, he] at HREF ⊢
  clear hl hp he
  obtain ⟨A, c, rfl, _⟩ := RowRd.form hr1
  have HB1 := Lib.hid (hb1.alloc hb1.size (.cells #[.slice A l.parts.length c, .bool l.bg] 24))
  have HX1 := Lib.hid (Blk.new w1 24 #[.slice A l.parts.length c, .bool l.bg])
  have HR1 := Lib.hid (hr1.next ((Below.refl w1.heap.size w1).alloc (Nat.le_refl _) (.cells #[.slice A l.parts.length c, .bool l.bg] 24)) (fun _ _ h => NPp.next h ((Below.refl w1.heap.size w1).alloc (Nat.le_refl _) (.cells #[.slice A l.parts.length c, .bool l.bg] 24))))
  clear hb1 hr1
  go_wp2_with fail
  generalize (w1.alloc (.cells #[.slice A l.parts.length c, .bool l.bg] 24)) = wa at *
  generalize w1.heap.size = g at *
  refine (HREF.out _).mono ?_
  rintro e w2 ⟨v2, rfl, hr2, hb2⟩
  obtain ⟨A2, c2, rfl, _⟩ := RowRd.form hr2
  have hba := hb2.alloc hb2.size (.cells #[.slice A2 l.parts.length c2, .bool l.bg] 30)
  have HB2 := Lib.hid (HB1.out.trans (hba.mono HB1.out.size))
  have HX2 := Lib.hid (HX1.out.next hba HX1.out.lt)
  have HR2 := Lib.hid (HR1.out.next hba (fun _ _ h => NPp.next h hba))
  have hbn := (Below.refl w2.heap.size w2).alloc (Nat.le_refl _) (.cells #[.slice A2 l.parts.length c2, .bool l.bg] 30)
  have HY2 := Lib.hid (Blk.new w2 30 #[.slice A2 l.parts.length c2, .bool l.bg])
  have HQ2 := Lib.hid (hr2.next hbn (fun _ _ h => NPp.next h hbn))
  clear hba hbn hb2 hr2 HB1 HX1 HR1 HREF
  go_upto_region 4 with (fail)
  generalize (w2.alloc (.cells #[.slice A2 l.parts.length c2, .bool l.bg] 30)) = wb at *
  generalize w2.heap.size = g2 at *
  have x0 : wb.cell? ⟨g, 0, none⟩ = some (.slice A l.parts.length c) := HX2.out.cell 0
  have x1 : wb.cell? ⟨g, 1, none⟩ = some (.bool l.bg) := HX2.out.cell 1
  have y0 : wb.cell? ⟨g2, 0, none⟩ = some (.slice A2 l.parts.length c2) := HY2.out.cell 0
  have y1 : wb.cell? ⟨g2, 1, none⟩ = some (.bool l.bg) := HY2.out.cell 1
  have HEQ := Lib.hid ((eqLn_iff l l).2 rfl)
  refine wp_region_noPanic ?_
  refine wp_region_held_drew (S := (fun w' => w'.cell? ⟨g, 0, none⟩ = some (.slice A l.parts.length c) ∧ w'.cell? ⟨g, 1, none⟩ = some (.bool l.bg) ∧ w'.cell? ⟨g2, 0, none⟩ = some (.slice A2 l.parts.length c2) ∧ w'.cell? ⟨g2, 1, none⟩ = some (.bool l.bg))) (by kernel_rfl) ?_ (fun hHeld => ?_)
  · exact ⟨x0, x1, y0, y1⟩
  refine wpAnyH_ready (rs := [0]) (by kernel_rfl) (by simp) ?_
  refine AllReadyH.cons rfl (fun K hK => ?_) AllReadyH.nil
  go_simp
  go_at_call 15; refine (known_any _).mono ?_; rintro e w3 ⟨rfl, hb3⟩; have HR3 := Lib.hid (HR2.out.next (((Below.refl wb.heap.size wb).drew).trans hb3) (fun _ _ h => NPp.next h (((Below.refl wb.heap.size wb).drew).trans hb3))); have HQ3 := Lib.hid (HQ2.out.next (((Below.refl wb.heap.size wb).drew).trans hb3) (fun _ _ h => NPp.next h (((Below.refl wb.heap.size wb).drew).trans hb3))); have HX3 := Lib.hid (HX2.out.next (((Below.refl wb.heap.size wb).drew).trans hb3) HX2.out.lt); have HY3 := Lib.hid (HY2.out.next (((Below.refl wb.heap.size wb).drew).trans hb3) HY2.out.lt); have HB3 := Lib.hid (HB2.out.trans ((((Below.refl wb.heap.size wb).drew).trans hb3).mono HB2.out.size)); have x0 : w3.cell? ⟨g, 0, none⟩ = some (.slice A l.parts.length c) := HX3.out.cell 0; have x1 : w3.cell? ⟨g, 1, none⟩ = some (.bool l.bg) := HX3.out.cell 1; have y0 : w3.cell? ⟨g2, 0, none⟩ = some (.slice A2 l.parts.length c2) := HY3.out.cell 0; have y1 : w3.cell? ⟨g2, 1, none⟩ = some (.bool l.bg) := HY3.out.cell 1
  try (go_wp2_with fail)
  refine hK.out _ _ ?_ (fun hNew => ?_)
  · exact ⟨x0, x1, y0, y1⟩
  clear hK K hHeld
  have hHeld := hNew
  clear hNew
  try simp only [Act.put, List.setIfInBounds_toArray, List.set_cons_zero, List.set_cons_succ]
  refine wpAnyH_take (i := 1) (v := ?_) rfl (by kernel_rfl) (by kernel_rfl) (by kernel_rfl) (fun _ _ _ h => h) (Or.inl ⟨by kernel_rfl, ?_⟩) hHeld ?_
  rotate_left
  · (intro w hSw; (try dsimp only at hSw); go_simp; try with_reducible rfl)
  try simp only [Act.put, List.setIfInBounds_toArray, List.set_cons_zero, List.set_cons_succ]
  refine wpAnyH_take (i := 2) (v := ?_) rfl (by kernel_rfl) (by kernel_rfl) (by kernel_rfl) (fun _ _ _ h => h) (Or.inl ⟨by kernel_rfl, ?_⟩) hHeld ?_
  rotate_left
  · (intro w hSw; (try dsimp only at hSw); go_simp; try with_reducible rfl)
  try simp only [Act.put, List.setIfInBounds_toArray, List.set_cons_zero, List.set_cons_succ]
  refine wpAnyH_take (i := 3) (v := ?_) rfl (by kernel_rfl) (by kernel_rfl) (by kernel_rfl) (fun _ _ _ h => h) (Or.inl ⟨by kernel_rfl, ?_⟩) hHeld ?_
  rotate_left
  · (intro w hSw; (try dsimp only at hSw); go_simp; try with_reducible rfl)
  try simp only [Act.put, List.setIfInBounds_toArray, List.set_cons_zero, List.set_cons_succ]
  refine wpAnyH_take (i := 4) (v := ?_) rfl (by kernel_rfl) (by kernel_rfl) (by kernel_rfl) (fun _ _ _ h => h) (Or.inl ⟨by kernel_rfl, ?_⟩) hHeld ?_
  rotate_left
  · (intro w hSw; (try dsimp only at hSw); go_simp; try with_reducible rfl)
  try simp only [Act.put, List.setIfInBounds_toArray, List.set_cons_zero, List.set_cons_succ]
  refine wpAnyH_take (i := 5) (v := ?_) rfl (by kernel_rfl) (by kernel_rfl) (by kernel_rfl) (fun _ _ _ h => h) (Or.inl ⟨by kernel_rfl, ?_⟩) hHeld ?_
  rotate_left
  · (intro w hSw; (try dsimp only at hSw); go_simp; try with_reducible rfl)
  try simp only [Act.put, List.setIfInBounds_toArray, List.set_cons_zero, List.set_cons_succ]
  refine wpAnyH_take (i := 6) (v := ?_) rfl (by kernel_rfl) (by kernel_rfl) (by kernel_rfl) (fun _ _ _ h => h) (Or.inl ⟨by kernel_rfl, ?_⟩) hHeld ?_
  rotate_left
  · (intro w hSw; (try dsimp only at hSw); go_simp; try with_reducible rfl)
  try simp only [Act.put, List.setIfInBounds_toArray, List.set_cons_zero, List.set_cons_succ]
  refine wpAnyH_take (i := 7) (v := ?_) rfl (by kernel_rfl) (by kernel_rfl) (by kernel_rfl) (fun _ _ _ h => h) (Or.inl ⟨by kernel_rfl, ?_⟩) hHeld ?_
  rotate_left
  · (intro w hSw; (try dsimp only at hSw); go_simp; try with_reducible rfl)
  try simp only [Act.put, List.setIfInBounds_toArray, List.set_cons_zero, List.set_cons_succ]
  refine wpAnyH_take (i := 8) (v := ?_) rfl (by kernel_rfl) (by kernel_rfl) (by kernel_rfl) (fun _ _ _ h => h) (Or.inl ⟨by kernel_rfl, ?_⟩) hHeld ?_
  rotate_left
  · (intro w hSw; (try dsimp only at hSw); go_simp; try with_reducible rfl)
  try simp only [Act.put, List.setIfInBounds_toArray, List.set_cons_zero, List.set_cons_succ]
  refine wpAnyH_take (i := 9) (v := ?_) rfl (by kernel_rfl) (by kernel_rfl) (by kernel_rfl) (fun _ _ _ h => h) (Or.inl ⟨by kernel_rfl, ?_⟩) hHeld ?_
  rotate_left
  · (intro w hSw; (try dsimp only at hSw); go_simp; try with_reducible rfl)
  try simp only [Act.put, List.setIfInBounds_toArray, List.set_cons_zero, List.set_cons_succ]
  refine wpAnyH_take (i := 10) (v := ?_) rfl (by kernel_rfl) (by kernel_rfl) (by kernel_rfl) (fun _ _ _ h => h) (Or.inl ⟨by kernel_rfl, ?_⟩) hHeld ?_
  rotate_left
  · (intro w hSw; (try dsimp only at hSw); go_simp; try with_reducible rfl)
  try simp only [Act.put, List.setIfInBounds_toArray, List.set_cons_zero, List.set_cons_succ]
  refine wpAnyH_take (i := 11) (v := ?_) rfl (by kernel_rfl) (by kernel_rfl) (by kernel_rfl) (fun _ _ _ h => h) (Or.inl ⟨by kernel_rfl, ?_⟩) hHeld ?_
  rotate_left
  · (intro w hSw; (try dsimp only at hSw); go_simp; try with_reducible rfl)
  try simp only [Act.put, List.setIfInBounds_toArray, List.set_cons_zero, List.set_cons_succ]
  refine wpAnyH_take (i := 12) (v := ?_) rfl (by kernel_rfl) (by kernel_rfl) (by kernel_rfl) (fun _ _ _ h => h) (Or.inl ⟨by kernel_rfl, ?_⟩) hHeld ?_
  rotate_left
  · (intro w hSw; (try dsimp only at hSw); go_simp; try with_reducible rfl)
  try simp only [Act.put, List.setIfInBounds_toArray, List.set_cons_zero, List.set_cons_succ]
  refine wpAnyH_take (i := 14) (v := ?_) rfl (by kernel_rfl) (by kernel_rfl) (by kernel_rfl) (fun _ _ _ h => h) (Or.inl ⟨by kernel_rfl, ?_⟩) hHeld ?_
  rotate_left
  · (intro w hSw; (try dsimp only at hSw); go_simp; try with_reducible rfl)
  try simp only [Act.put, List.setIfInBounds_toArray, List.set_cons_zero, List.set_cons_succ]
  refine wpAnyH_ready (rs := [13]) (by kernel_rfl) (by simp) ?_
  refine AllReadyH.cons rfl (fun K hK => ?_) AllReadyH.nil
  go_simp
  go_at_call 17; refine (Of_any _ _ l HR3.out HLL.out).mono ?_; rintro e w4 ⟨v4, rfl, hq4, hb4⟩; have HQ4 := Lib.hid (HQ3.out.next hb4 (fun _ _ h => NPp.next h hb4)); have HV4 := Lib.hid hq4; have HX4 := Lib.hid (HX3.out.next hb4 HX3.out.lt); have HY4 := Lib.hid (HY3.out.next hb4 HY3.out.lt); have HB4 := Lib.hid (HB3.out.trans (hb4.mono HB3.out.size)); have x0 : w4.cell? ⟨g, 0, none⟩ = some (.slice A l.parts.length c) := HX4.out.cell 0; have x1 : w4.cell? ⟨g, 1, none⟩ = some (.bool l.bg) := HX4.out.cell 1; have y0 : w4.cell? ⟨g2, 0, none⟩ = some (.slice A2 l.parts.length c2) := HY4.out.cell 0; have y1 : w4.cell? ⟨g2, 1, none⟩ = some (.bool l.bg) := HY4.out.cell 1
  try (go_wp2_with fail)
  refine hK.out _ _ ?_ (fun hNew => ?_)
  · exact ⟨x0, x1, y0, y1⟩
  clear hK K hHeld
  have hHeld := hNew
  clear hNew
  try simp only [Act.put, List.setIfInBounds_toArray, List.set_cons_zero, List.set_cons_succ]
  refine wpAnyH_ready (rs := [15]) (by kernel_rfl) (by simp) ?_
  refine AllReadyH.cons rfl (fun K hK => ?_) AllReadyH.nil
  go_simp
  go_at_call 16; refine (Same_is _ _ _ l l true HV4.out HQ4.out HLL.out HLL.out HEQ.out).mono ?_; rintro e w5 ⟨rfl, hb5⟩; have HX5 := Lib.hid (HX4.out.next hb5 HX4.out.lt); have HY5 := Lib.hid (HY4.out.next hb5 HY4.out.lt); have HB5 := Lib.hid (HB4.out.trans (hb5.mono HB4.out.size)); have x0 : w5.cell? ⟨g, 0, none⟩ = some (.slice A l.parts.length c) := HX5.out.cell 0; have x1 : w5.cell? ⟨g, 1, none⟩ = some (.bool l.bg) := HX5.out.cell 1; have y0 : w5.cell? ⟨g2, 0, none⟩ = some (.slice A2 l.parts.length c2) := HY5.out.cell 0; have y1 : w5.cell? ⟨g2, 1, none⟩ = some (.bool l.bg) := HY5.out.cell 1
  try (go_wp2_with fail)
  refine hK.out _ _ ?_ (fun hNew => ?_)
  · exact ⟨x0, x1, y0, y1⟩
  clear hK K hHeld
  have hHeld := hNew
  clear hNew
  try simp only [Act.put, List.setIfInBounds_toArray, List.set_cons_zero, List.set_cons_succ]
  refine wpAnyH_take (i := 16) (v := ?_) rfl (by kernel_rfl) (by kernel_rfl) (by kernel_rfl) (fun _ _ _ h => h) (Or.inl ⟨by kernel_rfl, ?_⟩) hHeld ?_
  rotate_left
  · (intro w hSw; (try dsimp only at hSw); go_simp; try with_reducible rfl)
  try simp only [Act.put, List.setIfInBounds_toArray, List.set_cons_zero, List.set_cons_succ]
  refine wpAnyH_take (i := 17) (v := ?_) rfl (by kernel_rfl) (by kernel_rfl) (by kernel_rfl) (fun _ _ _ h => h) (Or.inl ⟨by kernel_rfl, ?_⟩) hHeld ?_
  rotate_left
  · (intro w hSw; (try dsimp only at hSw); go_simp; try with_reducible rfl)
  try simp only [Act.put, List.setIfInBounds_toArray, List.set_cons_zero, List.set_cons_succ]
  refine wpAnyH_done (by kernel_rfl) ?_ _
  clear hHeld
  simp only [List.getElem_toArray, List.getElem_cons_zero, List.getElem_cons_succ, Act.put, List.setIfInBounds_toArray, List.set_cons_zero, List.set_cons_succ]
  refine NoPanic.normal ?_
  go_wp2
  go_ret
  exact ⟨rfl, HB5.out⟩
theorem parses_walk (s : ByteArray) (w : World) (hs : s.size ≤ maxLen) :
    Calls Try.prog 3 #[.string s] w fun e w' => e = .returned (.bool true) ∧ Below w.heap.size w w' := by
  by_cases h : s.size ≤ 1100
  · exact parses_small s w hs h
  · exact parses_large s w hs h
end Go.Proofs.Ytiddchpkmcncdaa
