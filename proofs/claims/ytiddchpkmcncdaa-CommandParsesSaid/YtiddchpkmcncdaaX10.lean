/- Walks of layer 41: scanWord. -/
import Derived.Test.YtiddchpkmcncdaaX9
namespace Go.Proofs.Ytiddchpkmcncdaa
open Go.RowKit
set_option linter.unusedSimpArgs false
set_option linter.unusedVariables false
theorem wst_begin {w : World} {g : Nat} {s : ByteArray} {vt vw vx : Value} {p : Nat} (h : Blk w g 86 (scC s p vt vw vx 0 0)) (hp : p ≤ s.size) : WSt w g s vt p [] [] 0 0 ((w.setCell ⟨g, 3, none⟩ (.slice none 0 0)).setCell ⟨g, 4, none⟩ (.slice none 0 0)) :=
  ⟨_, _, blk_cast ((h.set_ 3 _).set_ 4 _) rfl, World.ownsRow_nil _ _ _ _, World.ownsRow_nil _ _ _ _, only_setCell (p := ⟨g, 4, none⟩) (only_setCell (p := ⟨g, 3, none⟩) (World.grownBy.refl _ _) (.inl rfl) _) (.inl rfl) _, h.lt, by simp, hp⟩
theorem operatorAt_none (s : ByteArray) (p : Nat) (h : opAt (dr s p) = []) (w : World) (hp : p ≤ s.size) (hs : s.size ≤ 100000) :
    Calls Try.prog 71 #[.string s, .int .i64 p] w fun e w' => e = .returned (.string ⟨#[]⟩) ∧ w = w' := operatorAt_at s p [] h w hp hs
set_option maxRecDepth 100000 in
set_option maxHeartbeats 16000000 in
theorem scanWord_any (w : World) (g : Nat) (s : ByteArray) (vt vw vx : Value) (p : Nat) (h : Blk w g 86 (scC s p vt vw vx 0 0)) (hs : s.size ≤ 100000) (hp : p ≤ s.size) :
    Calls Try.prog 72 #[ptr g] w fun r w' => WPost w g s vt (wordP s p [] []) r w' := by
  have HS := Lib.hid (wst_begin h hp)
  have c3 : w.cell? ⟨g, 3, none⟩ = some vw := h.cell 3
  have c4 : w.cell? ⟨g, 4, none⟩ = some vx := h.cell 4
  have f3 := h.frozen 3
  have f4 := h.frozen 4
  obtain ⟨i0, hi, hz0, hz1, hz2⟩ := info_parts info5
  have hgl := h.lt
  clear h
  go_enter Try.func72, Try.ntmps72
  go_wp2
  clear c3 c4 f3 f4
  go_loopg [12] (s.size + 1) (fun gk _ wr => QRel w g s vt (wordP s) (wordP s p [] []) p gk wr)
  case atStart => exact .inl ⟨p, [], [], HS.out, Nat.le_refl _, hp, by omega, rfl⟩
  case round =>
    rcases hrel with ⟨k, ps1, tx1, hw, hk0, hk, hgk, hr⟩ | ⟨ps1, tx1, q, e0, hw, he, hr⟩
    · have HR := Lib.hid hr
      have HW := Lib.hid hw
      obtain ⟨c0, c1, f1⟩ := wst_cells hw
      have hb1 := hw
      obtain ⟨_, _, _, _, _, _, _, g6, g7⟩ := hb1
      clear hw hr
      by_cases hlt : k < s.size
      · have HR2 := Lib.hid (HR.out.trans (wordP_cons s k ps1 tx1 hlt))
        have hb := bt_of s k hlt
        have d1 : decide (k < s.size) = true := by simpa using hlt
        have e4 : (k : Int) < (s.size : Int) := by omega
        have e5 : (0 : Int) ≤ (k : Int) := by omega
        clear HR
        cases b1 : blkI (bt s k) with
        | true =>
          have HR3 := Lib.hid (HR2.out.trans (if_pos (by rw [b1]; rfl)))
          have HB1 := Lib.hid b1
          clear HR2 b1
          go_wp2
          go_quiet ((go_at_call 70; exact quiet_left (isBlank_at _ true HB1.out _)))
          go_wp2_with fail
          refine (flush_any w g s vt k ps1 tx1 0 0 _ (HW.out.drewN _) hs).mono ?_
          rintro e w1 ⟨rfl, k1⟩
          obtain ⟨vw1, vx1, h1, h2, h3, h4, h5, h6', h7'⟩ := k1
          have H1 := Lib.hid h1
          have m3 : w1.cell? ⟨g, 3, none⟩ = some vw1 := h1.cell 3
          obtain ⟨av, cv, rfl, hcv⟩ := own_len h2
          have hsz := h4.size
          have H2 := Lib.hid h2
          clear h1 h2 c0 c1 f1
          by_cases hz : (flS ps1 tx1).length = 0
          · have HZ := Lib.hid hz
            have t9 : ((((flS ps1 tx1).length : Nat) : Int) == 0) = true := by rw [hz]; rfl
            clear hz hcv
            go_wp2
            go_ret
            exact WPost.ok HR3.out (by rw [finS_nil HZ.out]; exact own_one w1 _ hsz) (only_alloc h4 _) (H1.out.alloc _)
          · have hz' : 0 < (flS ps1 tx1).length := by omega
            have t9 : ((((flS ps1 tx1).length : Nat) : Int) == 0) = false := beq_false_of_ne (by omega)
            have HZ := Lib.hid hz'
            clear hz hcv hz'
            go_wp2
            go_ret
            exact WPost.ok HR3.out (by rw [finS_cons HZ.out]; exact H2.out) h4 H1.out
        | false =>
          have HB1 := Lib.hid b1
          rw [b1] at HR2
          clear b1
          obtain ⟨o, ho⟩ : ∃ o, opAt (dr s k) = o := ⟨_, rfl⟩
          rw [ho] at HR2
          have HO := Lib.hid ho
          clear ho
          by_cases o1 : o = []
          · subst o1
            have HR3 := Lib.hid (HR2.out.trans (if_neg (by decide)))
            clear HR2
            go_wp2
            go_quiet ((first | (go_at_call 70; exact quiet_left (isBlank_at _ false HB1.out _)) | (go_at_call 71; exact quiet_left (operatorAt_none s k HO.out _ hk hs))))
            have HA := Lib.hid (HW.out.drewN nq)
            clear HW c0 c1 f1
            generalize wr.drewN nq = wa at *
            obtain ⟨c0, c1, f1⟩ := wst_cells HA.out
            clear d1
            go_wp2
            go_quiet (fail)
            have HB := Lib.hid (HA.out.drewN nq)
            clear HA c0 c1 f1
            generalize wa.drewN nq = wb at *
            by_cases q0 : bt s k = 39
            · have HR4 := Lib.hid (HR3.out.trans (if_pos q0))
              have t0 : (bt s k == 39) = true := by simpa using q0
              have hal := ap_le s (k + 1)
              clear HR3 q0
              by_cases q4 : (apS s (k + 1)).length < s.size - (k + 1)
              · have HR5 := Lib.hid (HR4.out.trans (if_pos q4))
                go_wp2_with fail
                refine (scanApostrophes_yes w g s vt k ps1 tx1 _ HB.out hs hlt q4).mono ?_
                rintro e w1 ⟨rfl, k1⟩
                clear hb
                go_wp2
                go_roundg (gk - 1)
                case rel => exact .inl ⟨_, _, _, k1, by omega, by omega, by omega, HR5.out⟩
                case measure => omega
              · have HR5 := Lib.hid (HR4.out.trans (if_neg q4))
                go_wp2_with fail
                refine (scanApostrophes_no w g s vt k ps1 tx1 _ HB.out hs hlt (by omega)).mono ?_
                rintro e w1 ⟨rfl, k1⟩
                clear hb
                go_wp2
                go_roundg (gk - 1)
                case rel => exact .inr ⟨_, _, k, 4, k1, by decide, HR5.out⟩
                case measure => omega
            have t0 : (bt s k == 39) = false := by simpa using q0
            have HR4 := Lib.hid (HR3.out.trans (if_neg q0))
            clear HR3 q0
            by_cases q1 : bt s k = 34
            · have HR5 := Lib.hid (HR4.out.trans (if_pos q1))
              have t1 : (bt s k == 34) = true := by simpa using q1
              clear HR4 q1
              rcases wordP_quoted s k ps1 tx1 _ hlt HR5.out with ⟨ps2, tx2, q, hq, hq1, hq2, hr⟩ | ⟨q, e0, hq, he, hr⟩
              · have HR6 := Lib.hid hr
                have HQ := Lib.hid hq
                clear hr hq HR5
                go_wp2_with fail
                refine (scanQuoted_any w g s vt k ps1 tx1 _ HB.out hs hlt).mono ?_
                rintro e w1 ⟨rfl, k1⟩
                rw [HQ.out] at k1
                clear hb
                go_wp2
                go_roundg (gk - 1)
                case rel => exact .inl ⟨_, _, _, k1, by omega, by omega, by omega, HR6.out⟩
                case measure => omega
              · have HR6 := Lib.hid hr
                have HQ := Lib.hid hq
                clear hr hq HR5
                go_wp2_with fail
                refine (scanQuoted_any w g s vt k ps1 tx1 _ HB.out hs hlt).mono ?_
                rintro e w1 ⟨rfl, k1⟩
                rw [HQ.out] at k1
                obtain ⟨ps2, tx2, k1⟩ := k1
                clear hb
                go_wp2
                go_roundg (gk - 1)
                case rel => exact .inr ⟨_, _, q, e0, k1, he, HR6.out⟩
                case measure => omega
            have t1 : (bt s k == 34) = false := by simpa using q1
            have HR5 := Lib.hid (HR4.out.trans (if_neg q1))
            clear HR4 q1
            by_cases q2 : bt s k = 92
            · have HR6 := Lib.hid (HR5.out.trans (if_pos q2))
              have t2 : (bt s k == 92) = true := by simpa using q2
              obtain ⟨c0, c1, f1⟩ := wst_cells HB.out
              clear HR5 q2
              by_cases q3 : k + 1 = s.size
              · have HR7 := Lib.hid (HR6.out.trans (if_pos q3))
                go_wp2_with fail
                refine (scanEscape_end w g s vt k ps1 tx1 k _ HB.out hs q3).mono ?_
                rintro e w1 ⟨rfl, k1⟩
                clear hb c0 c1 f1
                go_wp2
                go_roundg (gk - 1)
                case rel => exact .inr ⟨_, _, k, 4, k1, by decide, HR7.out⟩
                case measure => omega
              · have HR7 := Lib.hid (HR6.out.trans (if_neg q3))
                go_wp2_with fail
                refine (scanEscape_any w g s vt k ps1 tx1 k _ HB.out hs (by omega)).mono ?_
                rintro e w1 ⟨rfl, k1⟩
                clear hb c0 c1 f1
                go_wp2
                go_roundg (gk - 1)
                case rel => exact .inl ⟨k + 2, ps1, _, k1, by omega, by omega, by omega, HR7.out⟩
                case measure => omega
            have t2 : (bt s k == 92) = false := by simpa using q2
            have HR6 := Lib.hid (HR5.out.trans (if_neg q2))
            clear HR5 q2
            by_cases q3 : bt s k = 36
            · have HR7 := Lib.hid (HR6.out.trans (if_pos q3))
              have t3 : (bt s k == 36) = true := by simpa using q3
              have hnl := nm_le s (k + 1)
              clear HR6 q3
              by_cases q4 : isVarS (nmS s (k + 1)) = true
              · have HR8 := Lib.hid (HR7.out.trans (if_pos q4))
                have HQ4 := Lib.hid q4
                clear q4
                go_wp2_with fail
                refine (scanVariable_yes w g s vt k ps1 tx1 false _ HB.out hs hlt HQ4.out).mono ?_
                rintro e w1 ⟨rfl, k1⟩
                clear hb
                go_wp2
                go_roundg (gk - 1)
                case rel => exact .inl ⟨_, _, _, k1, by omega, by omega, by omega, HR8.out⟩
                case measure => omega
              · have HR8 := Lib.hid (HR7.out.trans (if_neg q4))
                have HQ4 := Lib.hid (show isVarS (nmS s (k + 1)) = false by simpa using q4)
                clear q4
                go_wp2_with fail
                refine (scanVariable_no w g s vt k ps1 tx1 false _ HB.out hs hlt HQ4.out).mono ?_
                rintro e w1 ⟨rfl, k1⟩
                clear hb
                go_wp2
                go_roundg (gk - 1)
                case rel => exact .inr ⟨ps1, tx1, k, 3, k1, by decide, HR8.out⟩
                case measure => omega
            have t3 : (bt s k == 36) = false := by simpa using q3
            have HR7 := Lib.hid (HR6.out.trans (if_neg q3))
            clear HR6 q3
            go_upto_region 4 with (fail)
            obtain ⟨vw, vx, h1, h2, h3, h4, h5, h6', h7'⟩ := HB.out
            have H1 := Lib.hid h1
            have c0 : wb.cell? ⟨g, 0, none⟩ = some (.string s) := h1.cell 0
            have c1 : wb.cell? ⟨g, 1, none⟩ = some (.int .i64 k) := h1.cell 1
            have c4 : wb.cell? ⟨g, 4, none⟩ = some vx := h1.cell 4
            have f4 := h1.frozen 4
            have hg : g < wb.heap.size := h1.lt
            have hne := Lib.hid (own_blk_ne h3 h1 (by decide))
            obtain ⟨ax, cx, rfl, _⟩ := own_len h3
            have hbase : w.heap.size ≤ wb.heap.size + 1 := by have := h4.size; omega
            clear h1
            go_region_law ((refine step_append_lies _ (by rfl) _ _ _ (by rfl) w.heap.size 5 i0 _ 1 1 Try.underlying84 hi hz0 hz1 hz2 rfl (by omega) (.slice ax tx1.length cx) tx1.length (tx1.map byV) (by rfl) ((h3.alloc _).drew) ⟨wb.heap.size, 0, none⟩ 1 1 [.int .u8 (bt s k)] (by rfl) (by rfl) (World.news_of_block (cs := #[.int .u8 (bt s k)]) (t := 5) (fr := (0, 0)) (heap_alloc_new wb _)) (by simp [Value.oneCell']) (by omega) (by unfold maxLen; omega) (by omega) (by simp; omega) (wb.heap.size + 1) (by simp) ?_; intro gg cap w1 hown1 hgrow hat hlt1; have B1 := Lib.hid (Blk.grown (Blk.drew (Blk.alloc H1.out _)) hgrow (Ne.symm hne.out)); have d1 : w1.cell? ⟨g, 1, none⟩ = some (.int .i64 k) := B1.out.cell 1; have d4 : w1.cell? ⟨g, 4, none⟩ = some (.slice ax tx1.length cx) := B1.out.cell 4; have f4' := B1.out.frozen 4; have f1' := B1.out.frozen 1))
            all_goals
              have HW := Lib.hid (WSt.text (nt := [b8 s k]) H1.out h2 h3 h4 h5 h7' (((Below.refl _ _).alloc (Nat.le_refl _) _).drew) hgrow (by rw [List.map_append, List.length_append]; exact hown1))
              clear hown1 hgrow c0 c1 c4 f4 e4 e5 hb
              go_wp2
              go_roundg (gk - 1)
              case rel => exact .inl ⟨k + 1, _, _, WSt.go HW.out.1 (by omega) (by simp; omega) (by omega), by omega, by omega, by omega, HR7.out⟩
              case measure => omega
          · have HR3 := Lib.hid (HR2.out.trans (if_pos (by cases o with | nil => exact absurd rfl o1 | cons a l => rfl)))
            have o2 : (bs o).toList.isEmpty = false := isEmpty_of _ (by rw [bs_size]; intro h0; exact o1 (List.length_eq_zero_iff.1 h0))
            clear HR2 o1
            go_wp2
            go_quiet ((first | (go_at_call 70; exact quiet_left (isBlank_at _ false HB1.out _)) | (go_at_call 71; exact quiet_left (operatorAt_at s k o HO.out _ hk hs))))
            go_wp2_with fail
            refine (flush_any w g s vt k ps1 tx1 0 0 _ (HW.out.drewN _) hs).mono ?_
            rintro e w1 ⟨rfl, k1⟩
            obtain ⟨vw1, vx1, h1, h2, h3, h4, h5, h6', h7'⟩ := k1
            have H1 := Lib.hid h1
            have m3 : w1.cell? ⟨g, 3, none⟩ = some vw1 := h1.cell 3
            obtain ⟨av, cv, rfl, hcv⟩ := own_len h2
            have hsz := h4.size
            have H2 := Lib.hid h2
            clear h1 h2 c0 c1 f1
            by_cases hz : (flS ps1 tx1).length = 0
            · have HZ := Lib.hid hz
              have t9 : ((((flS ps1 tx1).length : Nat) : Int) == 0) = true := by rw [hz]; rfl
              clear hz hcv
              go_wp2
              go_ret
              exact WPost.ok HR3.out (by rw [finS_nil HZ.out]; exact own_one w1 _ hsz) (only_alloc h4 _) (H1.out.alloc _)
            · have hz' : 0 < (flS ps1 tx1).length := by omega
              have t9 : ((((flS ps1 tx1).length : Nat) : Int) == 0) = false := beq_false_of_ne (by omega)
              have HZ := Lib.hid hz'
              clear hz hcv hz'
              go_wp2
              go_ret
              exact WPost.ok HR3.out (by rw [finS_cons HZ.out]; exact H2.out) h4 H1.out
      · obtain rfl : k = s.size := by omega
        have HR3 := Lib.hid (HR.out.trans (wordP_end s s.size ps1 tx1 (Nat.le_refl _)))
        have d1 : decide ((s.size : Int) < (s.size : Int)) = false := by simp
        go_wp2
        go_quiet (fail)
        go_wp2_with fail
        refine (flush_any w g s vt s.size ps1 tx1 0 0 _ (HW.out.drewN _) hs).mono ?_
        rintro e w1 ⟨rfl, k1⟩
        obtain ⟨vw1, vx1, h1, h2, h3, h4, h5, h6', h7'⟩ := k1
        have H1 := Lib.hid h1
        have m3 : w1.cell? ⟨g, 3, none⟩ = some vw1 := h1.cell 3
        obtain ⟨av, cv, rfl, hcv⟩ := own_len h2
        have hsz := h4.size
        have H2 := Lib.hid h2
        clear h1 h2 c0 c1 f1
        by_cases hz : (flS ps1 tx1).length = 0
        · have HZ := Lib.hid hz
          have t9 : ((((flS ps1 tx1).length : Nat) : Int) == 0) = true := by rw [hz]; rfl
          clear hz hcv
          go_wp2
          go_ret
          exact WPost.ok HR3.out (by rw [finS_nil HZ.out]; exact own_one w1 _ hsz) (only_alloc h4 _) (H1.out.alloc _)
        · have hz' : 0 < (flS ps1 tx1).length := by omega
          have t9 : ((((flS ps1 tx1).length : Nat) : Int) == 0) = false := beq_false_of_ne (by omega)
          have HZ := Lib.hid hz'
          clear hz hcv hz'
          go_wp2
          go_ret
          exact WPost.ok HR3.out (by rw [finS_cons HZ.out]; exact H2.out) h4 H1.out
    · have HR3 := Lib.hid hr
      have HW := Lib.hid hw
      obtain ⟨c0, c1, f1⟩ := wst_cells hw
      have d1 : decide ((s.size : Int) < (s.size : Int)) = false := by simp
      clear hw hr
      go_wp2
      go_quiet (fail)
      go_wp2_with fail
      refine (flush_any w g s vt s.size ps1 tx1 q e0 _ (HW.out.drewN _) hs).mono ?_
      rintro e w1 ⟨rfl, k1⟩
      obtain ⟨vw1, vx1, h1, h2, h3, h4, h5, h6', h7'⟩ := k1
      have H1 := Lib.hid h1
      have m3 : w1.cell? ⟨g, 3, none⟩ = some vw1 := h1.cell 3
      obtain ⟨av, cv, rfl, hcv⟩ := own_len h2
      have hsz := h4.size
      have H2 := Lib.hid h2
      clear h1 h2 c0 c1 f1
      by_cases hz : (flS ps1 tx1).length = 0
      · have HZ := Lib.hid hz
        have t9 : ((((flS ps1 tx1).length : Nat) : Int) == 0) = true := by rw [hz]; rfl
        clear hz hcv
        go_wp2
        go_ret
        exact WPost.bad (ps := [lit []]) HR3.out (own_one w1 _ hsz) (only_alloc h4 _) (H1.out.alloc _)
      · have hz' : 0 < (flS ps1 tx1).length := by omega
        have t9 : ((((flS ps1 tx1).length : Nat) : Int) == 0) = false := beq_false_of_ne (by omega)
        have HZ := Lib.hid hz'
        clear hz hcv hz'
        go_wp2
        go_ret
        exact WPost.bad HR3.out H2.out h4 H1.out
end Go.Proofs.Ytiddchpkmcncdaa
