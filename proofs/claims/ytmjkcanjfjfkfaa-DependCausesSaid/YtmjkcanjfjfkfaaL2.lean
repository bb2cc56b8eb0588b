/- The walk of the law DependWriters. -/
import Derived.Test.YtmjkcanjfjfkfaaT11
import Derived.Test.YtmjkcanjfjfkfaaT7
import Derived.Test.YtmjkcanjfjfkfaaB8
import Derived.Test.YtmjkcanjfjfkfaaP4
import Derived.Test.YtmjkcanjfjfkfaaP5
import Derived.Test.YtmjkcanjfjfkfaaLA
namespace Go.Proofs.Ytmjkcanjfjfkfaa
open Go.RowKit
set_option linter.unusedSimpArgs false
set_option linter.unusedVariables false
attribute [local go_sem ↓] Go.wp_at_zero Go.wp_at_succ
theorem Ra.more {B B' : Nat} {w : World} {v : Value} {n : Nat} {xs : List Value} (h : Ra B w v n xs) (hB : B ≤ B') : Ra B' w v n xs := by
  obtain ⟨A, c, hv, hc, hm, h0 | ⟨b, o, hA, hlt, hx⟩⟩ := h
  · exact ⟨A, c, hv, hc, hm, .inl h0⟩
  · exact ⟨A, c, hv, hc, hm, .inr ⟨b, o, hA, by omega, hx⟩⟩
theorem DeAt.next {w w' : World} {B : Nat} {v : Value} {l : List De} (h : DeAt B w v l) (hb : Below B w w') (hB : B ≤ w'.heap.size) : DeAt w'.heap.size w' v l := ⟨(h.1.below hb).more hB, h.2⟩
theorem okAc_w {a : Ac} (h : okAc a = true) : ordCh a.writes = true := by unfold okAc at h; rw [Bool.and_eq_true] at h; exact h.2
theorem gwriter_is {w : World} {B g : Nat} {l : List Ac} (n : Nm) (t : Int) (hg : GAt w B g l) (hr : ∀ a ∈ l, AcR a) (ho : ∀ a ∈ l, okAc a = true) (hl : l.length ≤ 35) :
    Calls Try.prog 19 #[.pointer (some ⟨g, 0, none⟩), nmV n, .int .i64 t] w fun e w' => e = .returned (.int .i64 (wrB l n (min t (l.length : Int)).toNat)) ∧ Below w.heap.size w w' := by
  obtain ⟨vk, vl, vu, bw, vL, vU, h⟩ := hg
  have := writer_is n t h (wls_asc (fun a ha => okAc_w (ho a ha)) n) (Nat.le_trans (wls_len (fun a ha => (hr a ha).2.2.2.2) (by omega) n) (by decide))
  rw [wrI_wrB (fun a ha => okAc_w (ho a ha))] at this
  exact this
theorem set5_ {w : World} {g : Nat} {t : TypeId} {z0 z1 z2 z3 z4 : Value} (v0 v1 v2 v3 v4 : Value) (h : Blk w g t #[z0, z1, z2, z3, z4]) : Blk (((((w.setCell ⟨g, 0, none⟩ v0).setCell ⟨g, 1, none⟩ v1).setCell ⟨g, 2, none⟩ v2).setCell ⟨g, 3, none⟩ v3).setCell ⟨g, 4, none⟩ v4) g t #[v0, v1, v2, v3, v4] := by
  have := ((((h.set_ 0 v0).set_ 1 v1).set_ 2 v2).set_ 3 v3).set_ 4 v4
  simpa using this
theorem low5_ {B : Nat} {w0 w : World} {g : Nat} (v0 v1 v2 v3 v4 : Value) (h : Below B w0 w) (hg : B ≤ g) : Below B w0 (((((w.setCell ⟨g, 0, none⟩ v0).setCell ⟨g, 1, none⟩ v1).setCell ⟨g, 2, none⟩ v2).setCell ⟨g, 3, none⟩ v3).setCell ⟨g, 4, none⟩ v4) :=
  ((((h.setCell (p := ⟨g, 0, none⟩) hg v0).setCell (p := ⟨g, 1, none⟩) hg v1).setCell (p := ⟨g, 2, none⟩) hg v2).setCell (p := ⟨g, 3, none⟩) hg v3).setCell (p := ⟨g, 4, none⟩) hg v4
set_option maxRecDepth 100000 in
set_option maxHeartbeats 8000000 in
theorem law_writers {w : World} {u : Value} {ds : List De} (hd : DeAt w.heap.size w u ds) (a : Nat) (ha : a < 256) (t : Int) : Calls Try.prog 4 #[.agg #[u], .int .u8 a, .int .i64 t] w fun e w' => e = .returned (.bool true) ∧ Below w.heap.size w w' := by
  obtain ⟨A, c, rfl, hc, hcm⟩ := Ra.form hd.1
  have ha0 := (Below.refl w.heap.size w).alloc (Nat.le_refl _) (.cells #[.slice A ds.length c] 24)
  have x0 := (Blk.new w 24 #[.slice A ds.length c]).cell 0
  simp only [List.getElem?_toArray, List.getElem?_cons_zero] at x0
  have HD0 := Lib.hid (hd.next ha0 ha0.size)
  have HA0 := Lib.hid ha0
  have HDD : Hid (DeOk ds) := Lib.hid hd.2
  have hrun := run_is 0 0 HD0.out (by decide) (by decide)
  rw [show ((0 : Nat) : Int) = 0 from rfl] at hrun
  have HRUN := Lib.hid hrun
  clear hd ha0 hrun HD0
  go_enter Try.func4, Try.ntmps4
  go_wp2_with fail
  go_at_call 9
  refine HRUN.out.mono ?_
  rintro e w1 ⟨v, rfl, hrd, hb⟩
  have HF1 := Lib.hid (HA0.out.trans (hb.mono HA0.out.size))
  obtain ⟨l, hll⟩ : ∃ l, runS ds 0 0 = l := ⟨_, rfl⟩
  obtain ⟨g1, g2, g3, g4⟩ := runS_good HDD.out 0 0
  rw [hll] at hrd g1 g2 g3 g4
  have HR := Lib.hid g2
  have HO := Lib.hid g3
  have HL := Lib.hid g4
  have HB := Lib.hid (dbuild_is hrd g1 g2 g3 (by omega))
  have HL0 := Lib.hid hrd
  obtain ⟨A1, c1, rfl, hc1⟩ := RowRd.form hrd
  clear hrd hb g1 g2 g3 hll x0 HRUN
  go_wp2_with fail
  go_at_call 10
  refine HB.out.mono ?_
  rintro e w2 ⟨g, rfl, hg, hb⟩
  have HF := Lib.hid (HF1.out.trans (hb.mono HF1.out.size))
  have HG := Lib.hid hg
  have HL1 := Lib.hid (HL0.out.next hb)
  clear hg hb HB HL0 HF1
  go_wp2_with fail
  go_at_call 16
  refine (port_is ((a : Int) % 7) (by omega) (by omega) _).mono ?_
  rintro e w3 ⟨rfl, hb⟩
  generalize prtN (1 + (a : Int) % 7) = n
  have hbn := hb.alloc hb.size (.cells #[.int .i64 n.kind, .string (bs n.owner), .int .i64 n.num, .int .i64 n.idx, .string (bs n.text)] 41)
  have PW := Lib.hid hbn
  have ZW := Lib.hid (Blk.new w3 41 #[.int .i64 n.kind, .string (bs n.owner), .int .i64 n.num, .int .i64 n.idx, .string (bs n.text)])
  have htb := hb.size
  have HTB := Lib.hid htb
  clear hb hbn
  simp only [nmV, nmA]
  by_cases h2 : 200 < a
  · have c1 : decide ((200 : Int) < (a : Int)) = true := decide_eq_true (by omega)
    have c2 : decide (200 < a) = true := decide_eq_true h2
    go_wp2_with fail
    generalize w3.alloc (.cells #[.int .i64 n.kind, .string (bs n.owner), .int .i64 n.num, .int .i64 n.idx, .string (bs n.text)] 41) = W4 at *
    obtain ⟨tb, htb0⟩ : ∃ tb, w3.heap.size = tb := ⟨_, rfl⟩
    rw [htb0] at ZW HTB htb ⊢
    clear htb0
    go_at_call 18
    refine (who_is a (by omega) ha _).mono ?_
    rintro e w4 ⟨rfl, hb⟩
    have PW2 := Lib.hid (PW.out.trans (hb.mono PW.out.size))
    have ZW2 := Lib.hid (ZW.out.next hb ZW.out.lt)
    clear hb PW ZW
    go_wp2_with fail
    go_at_call 17
    refine (ofproc_is _ _).mono ?_
    rintro e w5 ⟨rfl, hb⟩
    have PW3 := Lib.hid (PW2.out.trans (hb.mono PW2.out.size))
    have ZW3 := Lib.hid (ZW2.out.next hb ZW2.out.lt)
    clear hb PW2 ZW2
    obtain ⟨n, hm⟩ : ∃ n, prcN (whoS a) = n := ⟨_, rfl⟩
    rw [hm]
    clear hm
    have PW := Lib.hid (low5_ (.int .i64 n.kind) (.string (bs n.owner)) (.int .i64 n.num) (.int .i64 n.idx) (.string (bs n.text)) PW3.out HTB.out)
    have ZW := Lib.hid (set5_ (.int .i64 n.kind) (.string (bs n.owner)) (.int .i64 n.num) (.int .i64 n.idx) (.string (bs n.text)) ZW3.out)
    have y0 := ZW3.out.cell 0
    have y1 := ZW3.out.cell 1
    have y2 := ZW3.out.cell 2
    have y3 := ZW3.out.cell 3
    have y4 := ZW3.out.cell 4
    simp only [List.getElem?_toArray, List.getElem?_cons_zero, List.getElem?_cons_succ] at y0 y1 y2 y3 y4
    have zf := ZW3.out.frozen 0
    have zf1 := ZW3.out.frozen 1
    have zf2 := ZW3.out.frozen 2
    have zf3 := ZW3.out.frozen 3
    have zf4 := ZW3.out.frozen 4
    simp only [nmV, nmA]
    go_wp2_with fail
    generalize (((((w5.setCell ⟨tb, 0, none⟩ (.int .i64 n.kind)).setCell ⟨tb, 1, none⟩ (.string (bs n.owner))).setCell ⟨tb, 2, none⟩ (.int .i64 n.num)).setCell ⟨tb, 3, none⟩ (.int .i64 n.idx)).setCell ⟨tb, 4, none⟩ (.string (bs n.text))) = W5 at *
    clear zf zf1 zf2 zf3 zf4 y0 y1 y2 y3 y4
    have z0 := ZW.out.cell 0
    have z1 := ZW.out.cell 1
    have z2 := ZW.out.cell 2
    have z3 := ZW.out.cell 3
    have z4 := ZW.out.cell 4
    simp only [List.getElem?_toArray, List.getElem?_cons_zero, List.getElem?_cons_succ] at z0 z1 z2 z3 z4
    have Pw5a := Lib.hid (PW.out.trans ((Below.refl W5.heap.size W5).drew.mono PW.out.size))
    have Zw5a := Lib.hid (ZW.out.next (Below.refl W5.heap.size W5).drew ZW.out.lt)
    go_wp2_with fail
    refine wp_region_noPanic ?_
    refine wp_region_last (S := (fun (w' : World) => w'.cell? ⟨tb, 0, none⟩ = some (.int .i64 n.kind) ∧ w'.cell? ⟨tb, 1, none⟩ = some (.string (bs n.owner)) ∧ w'.cell? ⟨tb, 2, none⟩ = some (.int .i64 n.num) ∧ w'.cell? ⟨tb, 3, none⟩ = some (.int .i64 n.idx) ∧ w'.cell? ⟨tb, 4, none⟩ = some (.string (bs n.text)))) 16 16 rfl (by kernel_rfl) (by kernel_rfl) ?_ (fun hHeld => ?_)
    · exact ⟨z0, z1, z2, z3, z4⟩
    refine wpAnyH_ready (rs := [0]) (by kernel_rfl) (by simp) ?_
    refine AllReadyH.cons rfl (fun K hK => ?_) AllReadyH.nil
    go_simp
    refine (known47_is _).mono ?_; rintro e w6 ⟨rfl, hb⟩; have Pw6 := Lib.hid (Pw5a.out.trans (hb.mono Pw5a.out.size)); have Zw6 := Lib.hid (Zw5a.out.next hb Zw5a.out.lt); have z0w6 := Zw6.out.cell 0; have z1w6 := Zw6.out.cell 1; have z2w6 := Zw6.out.cell 2; have z3w6 := Zw6.out.cell 3; have z4w6 := Zw6.out.cell 4; simp only [List.getElem?_toArray, List.getElem?_cons_zero, List.getElem?_cons_succ] at z0w6 z1w6 z2w6 z3w6 z4w6; clear hb; have Pw6a := Pw6; have Zw6a := Zw6
    try (go_wp2_with fail)
    refine hK.out _ _ ?_ (fun hNew => ?_)
    · exact ⟨z0w6, z1w6, z2w6, z3w6, z4w6⟩
    clear hK K hHeld
    have hHeld := hNew
    clear hNew
    try simp only [Act.put, List.setIfInBounds_toArray, List.set_cons_zero, List.set_cons_succ]
    refine wpAnyH_take (i := 1) (v := ?_) rfl (by kernel_rfl) (by kernel_rfl) (by kernel_rfl) (fun _ _ _ h => h) (Or.inl ⟨by kernel_rfl, ?_⟩) hHeld ?_
    rotate_left
    · (intro w hSw; (try dsimp only at hSw); go_simp; try with_reducible rfl)
    try simp only [Act.put, List.setIfInBounds_toArray, List.set_cons_zero, List.set_cons_succ]
    refine wpAnyH_take (i := 2) (v := ?_) rfl (by kernel_rfl) (by kernel_rfl) (by kernel_rfl) (fun _ _ _ h => h) (Or.inl ⟨by kernel_rfl, ?_⟩) hHeld ?_
    rotate_left
    · (intro w hSw; (try dsimp only at hSw); go_simp; try with_reducible rfl)
    try simp only [Act.put, List.setIfInBounds_toArray, List.set_cons_zero, List.set_cons_succ]
    refine wpAnyH_take (i := 3) (v := ?_) rfl (by kernel_rfl) (by kernel_rfl) (by kernel_rfl) (fun _ _ _ h => h) (Or.inl ⟨by kernel_rfl, ?_⟩) hHeld ?_
    rotate_left
    · (intro w hSw; (try dsimp only at hSw); go_simp; try with_reducible rfl)
    try simp only [Act.put, List.setIfInBounds_toArray, List.set_cons_zero, List.set_cons_succ]
    refine wpAnyH_take (i := 4) (v := ?_) rfl (by kernel_rfl) (by kernel_rfl) (by kernel_rfl) (fun _ _ _ h => h) (Or.inl ⟨by kernel_rfl, ?_⟩) hHeld ?_
    rotate_left
    · (intro w hSw; (try dsimp only at hSw); go_simp; try with_reducible rfl)
    try simp only [Act.put, List.setIfInBounds_toArray, List.set_cons_zero, List.set_cons_succ]
    refine wpAnyH_take (i := 5) (v := ?_) rfl (by kernel_rfl) (by kernel_rfl) (by kernel_rfl) (fun _ _ _ h => h) (Or.inl ⟨by kernel_rfl, ?_⟩) hHeld ?_
    rotate_left
    · (intro w hSw; (try dsimp only at hSw); go_simp; try with_reducible rfl)
    try simp only [Act.put, List.setIfInBounds_toArray, List.set_cons_zero, List.set_cons_succ]
    refine wpAnyH_take (i := 6) (v := ?_) rfl (by kernel_rfl) (by kernel_rfl) (by kernel_rfl) (fun _ _ _ h => h) (Or.inl ⟨by kernel_rfl, ?_⟩) hHeld ?_
    rotate_left
    · (intro w hSw; (try dsimp only at hSw); go_simp; try with_reducible rfl)
    try simp only [Act.put, List.setIfInBounds_toArray, List.set_cons_zero, List.set_cons_succ]
    refine wpAnyH_take (i := 7) (v := ?_) rfl (by kernel_rfl) (by kernel_rfl) (by kernel_rfl) (fun _ _ _ h => h) (Or.inl ⟨by kernel_rfl, ?_⟩) hHeld ?_
    rotate_left
    · (intro w hSw; (try dsimp only at hSw); go_simp; try with_reducible rfl)
    try simp only [Act.put, List.setIfInBounds_toArray, List.set_cons_zero, List.set_cons_succ]
    refine wpAnyH_take (i := 8) (v := ?_) rfl (by kernel_rfl) (by kernel_rfl) (by kernel_rfl) (fun _ _ _ h => h) (Or.inl ⟨by kernel_rfl, ?_⟩) hHeld ?_
    rotate_left
    · (intro w hSw; (try dsimp only at hSw); go_simp; try with_reducible rfl)
    try simp only [Act.put, List.setIfInBounds_toArray, List.set_cons_zero, List.set_cons_succ]
    refine wpAnyH_take (i := 10) (v := ?_) rfl (by kernel_rfl) (by kernel_rfl) (by kernel_rfl) (fun _ _ _ h => h) (Or.inl ⟨by kernel_rfl, ?_⟩) hHeld ?_
    rotate_left
    · (intro w hSw; (try dsimp only at hSw); go_simp; try with_reducible rfl)
    try simp only [Act.put, List.setIfInBounds_toArray, List.set_cons_zero, List.set_cons_succ]
    refine wpAnyH_take (i := 11) (v := ?_) rfl (by kernel_rfl) (by kernel_rfl) (by kernel_rfl) (fun _ _ _ h => h) (Or.inl ⟨by kernel_rfl, ?_⟩) hHeld ?_
    rotate_left
    · (intro w hSw; (try dsimp only at hSw); go_simp; try with_reducible rfl)
    try simp only [Act.put, List.setIfInBounds_toArray, List.set_cons_zero, List.set_cons_succ]
    refine wpAnyH_take (i := 12) (v := ?_) rfl (by kernel_rfl) (by kernel_rfl) (by kernel_rfl) (fun _ _ _ h => h) (Or.inl ⟨by kernel_rfl, ?_⟩) hHeld ?_
    rotate_left
    · (intro w hSw; (try dsimp only at hSw); go_simp; try with_reducible rfl)
    try simp only [Act.put, List.setIfInBounds_toArray, List.set_cons_zero, List.set_cons_succ]
    refine wpAnyH_ready (rs := [9]) (by kernel_rfl) (by simp) ?_
    refine AllReadyH.cons rfl (fun K hK => ?_) AllReadyH.nil
    go_simp
    refine (gwriter_is n t (HG.out.next Pw6.out) HR.out HO.out HL.out).mono ?_; rintro e w7 ⟨rfl, hb⟩; have Pw7 := Lib.hid (Pw6a.out.trans (hb.mono Pw6a.out.size)); have Zw7 := Lib.hid (Zw6a.out.next hb Zw6a.out.lt); have z0w7 := Zw7.out.cell 0; have z1w7 := Zw7.out.cell 1; have z2w7 := Zw7.out.cell 2; have z3w7 := Zw7.out.cell 3; have z4w7 := Zw7.out.cell 4; simp only [List.getElem?_toArray, List.getElem?_cons_zero, List.getElem?_cons_succ] at z0w7 z1w7 z2w7 z3w7 z4w7; clear hb; have Pw7a := Pw7; have Zw7a := Zw7
    try (go_wp2_with fail)
    refine hK.out _ _ ?_ (fun hNew => ?_)
    · exact ⟨z0w7, z1w7, z2w7, z3w7, z4w7⟩
    clear hK K hHeld
    have hHeld := hNew
    clear hNew
    try simp only [Act.put, List.setIfInBounds_toArray, List.set_cons_zero, List.set_cons_succ]
    refine wpAnyH_ready (rs := [13]) (by kernel_rfl) (by simp) ?_
    refine AllReadyH.cons rfl (fun K hK => ?_) AllReadyH.nil
    go_simp
    refine (rwriter_is n t (HL1.out.next Pw7.out) (Nat.le_trans HL.out (by decide)) (fun a ha => (HR.out a ha).2.2.2.2)).mono ?_; rintro e w8 ⟨rfl, hb⟩; have Pw8 := Lib.hid (Pw7a.out.trans (hb.mono Pw7a.out.size)); have Zw8 := Lib.hid (Zw7a.out.next hb Zw7a.out.lt); have z0w8 := Zw8.out.cell 0; have z1w8 := Zw8.out.cell 1; have z2w8 := Zw8.out.cell 2; have z3w8 := Zw8.out.cell 3; have z4w8 := Zw8.out.cell 4; simp only [List.getElem?_toArray, List.getElem?_cons_zero, List.getElem?_cons_succ] at z0w8 z1w8 z2w8 z3w8 z4w8; clear hb; have Pw8a := Pw8; have Zw8a := Zw8
    try (go_wp2_with fail)
    refine hK.out _ _ ?_ (fun hNew => ?_)
    · exact ⟨z0w8, z1w8, z2w8, z3w8, z4w8⟩
    clear hK K hHeld
    have hHeld := hNew
    clear hNew
    try simp only [Act.put, List.setIfInBounds_toArray, List.set_cons_zero, List.set_cons_succ]
    refine wpAnyH_take (i := 14) (v := ?_) rfl (by kernel_rfl) (by kernel_rfl) (by kernel_rfl) (fun _ _ _ h => h) (Or.inl ⟨by kernel_rfl, ?_⟩) hHeld ?_
    rotate_left
    · (intro w hSw; (try dsimp only at hSw); go_simp; try with_reducible rfl)
    try simp only [Act.put, List.setIfInBounds_toArray, List.set_cons_zero, List.set_cons_succ]
    refine wpAnyH_take (i := 15) (v := ?_) rfl (by kernel_rfl) (by kernel_rfl) (by kernel_rfl) (fun _ _ _ h => h) (Or.inl ⟨by kernel_rfl, ?_⟩) hHeld ?_
    rotate_left
    · (intro w hSw; (try dsimp only at hSw); go_simp; try with_reducible rfl)
    try simp only [Act.put, List.setIfInBounds_toArray, List.set_cons_zero, List.set_cons_succ]
    refine wpAnyH_done (by kernel_rfl) ?_ _
    refine lastQ_step rfl (fun K hK => ?_)
    clear hHeld
    go_simp
    refine hK _ _ ?_
    clear hK K
    refine NoPanic.normal ?_
    go_wp2_with fail
    try go_ret
    exact ⟨rfl, HF.out.trans (Pw8.out.mono HF.out.size)⟩
  · have c1 : decide ((200 : Int) < (a : Int)) = false := decide_eq_false (by omega)
    have c2 : decide (200 < a) = false := decide_eq_false h2
    go_wp2_with fail
    generalize w3.alloc (.cells #[.int .i64 n.kind, .string (bs n.owner), .int .i64 n.num, .int .i64 n.idx, .string (bs n.text)] 41) = W5 at *
    obtain ⟨tb, htb0⟩ : ∃ tb, w3.heap.size = tb := ⟨_, rfl⟩
    rw [htb0] at ZW HTB htb ⊢
    clear htb0
    have z0 := ZW.out.cell 0
    have z1 := ZW.out.cell 1
    have z2 := ZW.out.cell 2
    have z3 := ZW.out.cell 3
    have z4 := ZW.out.cell 4
    simp only [List.getElem?_toArray, List.getElem?_cons_zero, List.getElem?_cons_succ] at z0 z1 z2 z3 z4
    have Pw5a := Lib.hid (PW.out.trans ((Below.refl W5.heap.size W5).drew.mono PW.out.size))
    have Zw5a := Lib.hid (ZW.out.next (Below.refl W5.heap.size W5).drew ZW.out.lt)
    go_wp2_with fail
    refine wp_region_noPanic ?_
    refine wp_region_last (S := (fun (w' : World) => w'.cell? ⟨tb, 0, none⟩ = some (.int .i64 n.kind) ∧ w'.cell? ⟨tb, 1, none⟩ = some (.string (bs n.owner)) ∧ w'.cell? ⟨tb, 2, none⟩ = some (.int .i64 n.num) ∧ w'.cell? ⟨tb, 3, none⟩ = some (.int .i64 n.idx) ∧ w'.cell? ⟨tb, 4, none⟩ = some (.string (bs n.text)))) 16 16 rfl (by kernel_rfl) (by kernel_rfl) ?_ (fun hHeld => ?_)
    · exact ⟨z0, z1, z2, z3, z4⟩
    refine wpAnyH_ready (rs := [0]) (by kernel_rfl) (by simp) ?_
    refine AllReadyH.cons rfl (fun K hK => ?_) AllReadyH.nil
    go_simp
    refine (known47_is _).mono ?_; rintro e w6 ⟨rfl, hb⟩; have Pw6 := Lib.hid (Pw5a.out.trans (hb.mono Pw5a.out.size)); have Zw6 := Lib.hid (Zw5a.out.next hb Zw5a.out.lt); have z0w6 := Zw6.out.cell 0; have z1w6 := Zw6.out.cell 1; have z2w6 := Zw6.out.cell 2; have z3w6 := Zw6.out.cell 3; have z4w6 := Zw6.out.cell 4; simp only [List.getElem?_toArray, List.getElem?_cons_zero, List.getElem?_cons_succ] at z0w6 z1w6 z2w6 z3w6 z4w6; clear hb; have Pw6a := Pw6; have Zw6a := Zw6
    try (go_wp2_with fail)
    refine hK.out _ _ ?_ (fun hNew => ?_)
    · exact ⟨z0w6, z1w6, z2w6, z3w6, z4w6⟩
    clear hK K hHeld
    have hHeld := hNew
    clear hNew
    try simp only [Act.put, List.setIfInBounds_toArray, List.set_cons_zero, List.set_cons_succ]
    refine wpAnyH_take (i := 1) (v := ?_) rfl (by kernel_rfl) (by kernel_rfl) (by kernel_rfl) (fun _ _ _ h => h) (Or.inl ⟨by kernel_rfl, ?_⟩) hHeld ?_
    rotate_left
    · (intro w hSw; (try dsimp only at hSw); go_simp; try with_reducible rfl)
    try simp only [Act.put, List.setIfInBounds_toArray, List.set_cons_zero, List.set_cons_succ]
    refine wpAnyH_take (i := 2) (v := ?_) rfl (by kernel_rfl) (by kernel_rfl) (by kernel_rfl) (fun _ _ _ h => h) (Or.inl ⟨by kernel_rfl, ?_⟩) hHeld ?_
    rotate_left
    · (intro w hSw; (try dsimp only at hSw); go_simp; try with_reducible rfl)
    try simp only [Act.put, List.setIfInBounds_toArray, List.set_cons_zero, List.set_cons_succ]
    refine wpAnyH_take (i := 3) (v := ?_) rfl (by kernel_rfl) (by kernel_rfl) (by kernel_rfl) (fun _ _ _ h => h) (Or.inl ⟨by kernel_rfl, ?_⟩) hHeld ?_
    rotate_left
    · (intro w hSw; (try dsimp only at hSw); go_simp; try with_reducible rfl)
    try simp only [Act.put, List.setIfInBounds_toArray, List.set_cons_zero, List.set_cons_succ]
    refine wpAnyH_take (i := 4) (v := ?_) rfl (by kernel_rfl) (by kernel_rfl) (by kernel_rfl) (fun _ _ _ h => h) (Or.inl ⟨by kernel_rfl, ?_⟩) hHeld ?_
    rotate_left
    · (intro w hSw; (try dsimp only at hSw); go_simp; try with_reducible rfl)
    try simp only [Act.put, List.setIfInBounds_toArray, List.set_cons_zero, List.set_cons_succ]
    refine wpAnyH_take (i := 5) (v := ?_) rfl (by kernel_rfl) (by kernel_rfl) (by kernel_rfl) (fun _ _ _ h => h) (Or.inl ⟨by kernel_rfl, ?_⟩) hHeld ?_
    rotate_left
    · (intro w hSw; (try dsimp only at hSw); go_simp; try with_reducible rfl)
    try simp only [Act.put, List.setIfInBounds_toArray, List.set_cons_zero, List.set_cons_succ]
    refine wpAnyH_take (i := 6) (v := ?_) rfl (by kernel_rfl) (by kernel_rfl) (by kernel_rfl) (fun _ _ _ h => h) (Or.inl ⟨by kernel_rfl, ?_⟩) hHeld ?_
    rotate_left
    · (intro w hSw; (try dsimp only at hSw); go_simp; try with_reducible rfl)
    try simp only [Act.put, List.setIfInBounds_toArray, List.set_cons_zero, List.set_cons_succ]
    refine wpAnyH_take (i := 7) (v := ?_) rfl (by kernel_rfl) (by kernel_rfl) (by kernel_rfl) (fun _ _ _ h => h) (Or.inl ⟨by kernel_rfl, ?_⟩) hHeld ?_
    rotate_left
    · (intro w hSw; (try dsimp only at hSw); go_simp; try with_reducible rfl)
    try simp only [Act.put, List.setIfInBounds_toArray, List.set_cons_zero, List.set_cons_succ]
    refine wpAnyH_take (i := 8) (v := ?_) rfl (by kernel_rfl) (by kernel_rfl) (by kernel_rfl) (fun _ _ _ h => h) (Or.inl ⟨by kernel_rfl, ?_⟩) hHeld ?_
    rotate_left
    · (intro w hSw; (try dsimp only at hSw); go_simp; try with_reducible rfl)
    try simp only [Act.put, List.setIfInBounds_toArray, List.set_cons_zero, List.set_cons_succ]
    refine wpAnyH_take (i := 10) (v := ?_) rfl (by kernel_rfl) (by kernel_rfl) (by kernel_rfl) (fun _ _ _ h => h) (Or.inl ⟨by kernel_rfl, ?_⟩) hHeld ?_
    rotate_left
    · (intro w hSw; (try dsimp only at hSw); go_simp; try with_reducible rfl)
    try simp only [Act.put, List.setIfInBounds_toArray, List.set_cons_zero, List.set_cons_succ]
    refine wpAnyH_take (i := 11) (v := ?_) rfl (by kernel_rfl) (by kernel_rfl) (by kernel_rfl) (fun _ _ _ h => h) (Or.inl ⟨by kernel_rfl, ?_⟩) hHeld ?_
    rotate_left
    · (intro w hSw; (try dsimp only at hSw); go_simp; try with_reducible rfl)
    try simp only [Act.put, List.setIfInBounds_toArray, List.set_cons_zero, List.set_cons_succ]
    refine wpAnyH_take (i := 12) (v := ?_) rfl (by kernel_rfl) (by kernel_rfl) (by kernel_rfl) (fun _ _ _ h => h) (Or.inl ⟨by kernel_rfl, ?_⟩) hHeld ?_
    rotate_left
    · (intro w hSw; (try dsimp only at hSw); go_simp; try with_reducible rfl)
    try simp only [Act.put, List.setIfInBounds_toArray, List.set_cons_zero, List.set_cons_succ]
    refine wpAnyH_ready (rs := [9]) (by kernel_rfl) (by simp) ?_
    refine AllReadyH.cons rfl (fun K hK => ?_) AllReadyH.nil
    go_simp
    refine (gwriter_is n t (HG.out.next Pw6.out) HR.out HO.out HL.out).mono ?_; rintro e w7 ⟨rfl, hb⟩; have Pw7 := Lib.hid (Pw6a.out.trans (hb.mono Pw6a.out.size)); have Zw7 := Lib.hid (Zw6a.out.next hb Zw6a.out.lt); have z0w7 := Zw7.out.cell 0; have z1w7 := Zw7.out.cell 1; have z2w7 := Zw7.out.cell 2; have z3w7 := Zw7.out.cell 3; have z4w7 := Zw7.out.cell 4; simp only [List.getElem?_toArray, List.getElem?_cons_zero, List.getElem?_cons_succ] at z0w7 z1w7 z2w7 z3w7 z4w7; clear hb; have Pw7a := Pw7; have Zw7a := Zw7
    try (go_wp2_with fail)
    refine hK.out _ _ ?_ (fun hNew => ?_)
    · exact ⟨z0w7, z1w7, z2w7, z3w7, z4w7⟩
    clear hK K hHeld
    have hHeld := hNew
    clear hNew
    try simp only [Act.put, List.setIfInBounds_toArray, List.set_cons_zero, List.set_cons_succ]
    refine wpAnyH_ready (rs := [13]) (by kernel_rfl) (by simp) ?_
    refine AllReadyH.cons rfl (fun K hK => ?_) AllReadyH.nil
    go_simp
    refine (rwriter_is n t (HL1.out.next Pw7.out) (Nat.le_trans HL.out (by decide)) (fun a ha => (HR.out a ha).2.2.2.2)).mono ?_; rintro e w8 ⟨rfl, hb⟩; have Pw8 := Lib.hid (Pw7a.out.trans (hb.mono Pw7a.out.size)); have Zw8 := Lib.hid (Zw7a.out.next hb Zw7a.out.lt); have z0w8 := Zw8.out.cell 0; have z1w8 := Zw8.out.cell 1; have z2w8 := Zw8.out.cell 2; have z3w8 := Zw8.out.cell 3; have z4w8 := Zw8.out.cell 4; simp only [List.getElem?_toArray, List.getElem?_cons_zero, List.getElem?_cons_succ] at z0w8 z1w8 z2w8 z3w8 z4w8; clear hb; have Pw8a := Pw8; have Zw8a := Zw8
    try (go_wp2_with fail)
    refine hK.out _ _ ?_ (fun hNew => ?_)
    · exact ⟨z0w8, z1w8, z2w8, z3w8, z4w8⟩
    clear hK K hHeld
    have hHeld := hNew
    clear hNew
    try simp only [Act.put, List.setIfInBounds_toArray, List.set_cons_zero, List.set_cons_succ]
    refine wpAnyH_take (i := 14) (v := ?_) rfl (by kernel_rfl) (by kernel_rfl) (by kernel_rfl) (fun _ _ _ h => h) (Or.inl ⟨by kernel_rfl, ?_⟩) hHeld ?_
    rotate_left
    · (intro w hSw; (try dsimp only at hSw); go_simp; try with_reducible rfl)
    try simp only [Act.put, List.setIfInBounds_toArray, List.set_cons_zero, List.set_cons_succ]
    refine wpAnyH_take (i := 15) (v := ?_) rfl (by kernel_rfl) (by kernel_rfl) (by kernel_rfl) (fun _ _ _ h => h) (Or.inl ⟨by kernel_rfl, ?_⟩) hHeld ?_
    rotate_left
    · (intro w hSw; (try dsimp only at hSw); go_simp; try with_reducible rfl)
    try simp only [Act.put, List.setIfInBounds_toArray, List.set_cons_zero, List.set_cons_succ]
    refine wpAnyH_done (by kernel_rfl) ?_ _
    refine lastQ_step rfl (fun K hK => ?_)
    clear hHeld
    go_simp
    refine hK _ _ ?_
    clear hK K
    refine NoPanic.normal ?_
    go_wp2_with fail
    try go_ret
    exact ⟨rfl, HF.out.trans (Pw8.out.mono HF.out.size)⟩
theorem law_writers_at (w : World) {u : Value} {ds : List De} (hd : DeAt w.heap.size w u ds) (a : Int) (ha : (Lit.int .u8 a).wf = true) (t : Int) (_ : (Lit.int .i64 t).wf = true) : Calls Try.prog 4 #[.agg #[u], .int .u8 a, .int .i64 t] w fun e w' => e = .returned (.bool true) ∧ Below w.heap.size w w' := by
  simp only [Lit.wf, Bool.and_eq_true, decide_eq_true_eq] at ha
  have e1 : IntKind.min .u8 = 0 := by decide
  have e2 : IntKind.max .u8 = 255 := by decide
  rw [e1, e2] at ha
  obtain ⟨k, rfl⟩ : ∃ k : Nat, a = (k : Int) := ⟨a.toNat, by omega⟩
  exact law_writers hd k (by omega) t
end Go.Proofs.Ytmjkcanjfjfkfaa
