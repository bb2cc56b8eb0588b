/- Walks and plain facts, packed: GW, GP, QA, Q2, W86, W87, N2. -/
import Derived.Sort.BigQuietIn
import Derived.Test.YtamjllakfgphnaaGreatDoorZA3
namespace Go.Proofs.YtamjllakfgphnaaGreatDoor
open Go.RowKit
set_option linter.unusedSimpArgs false
set_option linter.unusedVariables false
attribute [local go_sem ↓] Go.wp_at_zero Go.wp_at_succ
set_option maxRecDepth 100000 in
set_option maxHeartbeats 16000000 in
theorem orderly_is {w : World} {v : Value} {l : List Ch} (h : RdCh w v l) (hu : UseAt w) (hr : ∀ c ∈ l, ChR c) (hl : l.length ≤ 100000) : Calls Tryz.prog 168 #[v] w fun e w' => e = .returned (.bool (ordCh l)) ∧ Below w.heap.size w w' := by
  have HU := Lib.hid hu
  have HR := Lib.hid hr
  obtain ⟨A, c, rfl, hc⟩ := RdP.form h
  have HH := Lib.hid h
  clear h hu hr
  have H0 : Hid (ForRel l w (.int .i64 (0 : Nat)) w) := Lib.hid ⟨0, Nat.zero_le _, rfl, fun j _ h => by omega, Below.refl _ _⟩
  go_enter Tryz.func168, Tryz.ntmps168
  go_wp2
  go_loopw [7] (fun i wr => ForRel l w i wr) (fun i _ => l.length - (intOf i).toNat)
  case atStart => exact H0.out
  case round =>
    clear H0
    obtain ⟨k, hkl, rfl, ho, hb⟩ := hrel
    have HO := Lib.hid ho
    have HB := Lib.hid hb
    clear ho hb
    by_cases hk : k < l.length
    · obtain ⟨b, o, rfl, hbw, x0, x1, x2, x3, x4, x5, x6⟩ := RdCh.piece HH.out hk
      have hsz : w.heap.size ≤ wr.heap.size := HB.out.size
      have hbr : b < wr.heap.size := Nat.lt_of_lt_of_le hbw hsz
      have y0 := (HB.out.cell (p := ⟨b, o + k * 7, none⟩) hbw).trans x0
      have y1 := (HB.out.cell (p := ⟨b, o + k * 7 + 1, none⟩) hbw).trans x1
      have y2 := (HB.out.cell (p := ⟨b, o + k * 7 + 2, none⟩) hbw).trans x2
      have y3 := (HB.out.cell (p := ⟨b, o + k * 7 + 3, none⟩) hbw).trans x3
      have y4 := (HB.out.cell (p := ⟨b, o + k * 7 + 4, none⟩) hbw).trans x4
      have y5 := (HB.out.cell (p := ⟨b, o + k * 7 + 5, none⟩) hbw).trans x5
      have y6 := (HB.out.cell (p := ⟨b, o + k * 7 + 6, none⟩) hbw).trans x6
      clear x0 x1 x2 x3 x4 x5 x6
      have hcr := HR.out _ (List.getElem_mem hk)
      obtain ⟨ch, hch⟩ : ∃ ch, l[k] = ch := ⟨_, rfl⟩
      rw [hch] at hcr y0 y1 y2 y3 y4 y5 y6
      have HCE := Lib.hid hch
      have HCR := Lib.hid hcr
      clear hch hcr
      have i1 : (0 : Int) ≤ (k : Int) := by omega
      have i2 : (k : Int) < (l.length : Int) := by omega
      go_upto_region 4 with (fail)
      have hsz1 : wr.heap.size < (wr.alloc (.cells #[.int .i64 ch.name.kind, .string (bs ch.name.owner), .int .i64 ch.name.num, .int .i64 ch.name.idx, .string (bs ch.name.text), .string (bs ch.value), .bool ch.absent] 105)).heap.size := by simp
      have HUr := Lib.hid (UseAt.below (HU.out.next HB.out HU.out.1) ((Below.refl wr.heap.size wr).alloc (Nat.le_refl _) (.cells #[.int .i64 ch.name.kind, .string (bs ch.name.owner), .int .i64 ch.name.num, .int .i64 ch.name.idx, .string (bs ch.name.text), .string (bs ch.value), .bool ch.absent] 105)))
      have HA := Lib.hid ((Below.refl wr.heap.size wr).alloc (Nat.le_refl _) (.cells #[.int .i64 ch.name.kind, .string (bs ch.name.owner), .int .i64 ch.name.num, .int .i64 ch.name.idx, .string (bs ch.name.text), .string (bs ch.value), .bool ch.absent] 105))
      have zb := Blk.new wr 105 #[.int .i64 ch.name.kind, .string (bs ch.name.owner), .int .i64 ch.name.num, .int .i64 ch.name.idx, .string (bs ch.name.text), .string (bs ch.value), .bool ch.absent]
      have z0 : (wr.alloc (.cells #[.int .i64 ch.name.kind, .string (bs ch.name.owner), .int .i64 ch.name.num, .int .i64 ch.name.idx, .string (bs ch.name.text), .string (bs ch.value), .bool ch.absent] 105)).cell? ⟨wr.heap.size, 0, none⟩ = some (.int .i64 ch.name.kind) := zb.cell 0
      have z1 : (wr.alloc (.cells #[.int .i64 ch.name.kind, .string (bs ch.name.owner), .int .i64 ch.name.num, .int .i64 ch.name.idx, .string (bs ch.name.text), .string (bs ch.value), .bool ch.absent] 105)).cell? ⟨wr.heap.size, 1, none⟩ = some (.string (bs ch.name.owner)) := zb.cell 1
      have z2 : (wr.alloc (.cells #[.int .i64 ch.name.kind, .string (bs ch.name.owner), .int .i64 ch.name.num, .int .i64 ch.name.idx, .string (bs ch.name.text), .string (bs ch.value), .bool ch.absent] 105)).cell? ⟨wr.heap.size, 2, none⟩ = some (.int .i64 ch.name.num) := zb.cell 2
      have z3 : (wr.alloc (.cells #[.int .i64 ch.name.kind, .string (bs ch.name.owner), .int .i64 ch.name.num, .int .i64 ch.name.idx, .string (bs ch.name.text), .string (bs ch.value), .bool ch.absent] 105)).cell? ⟨wr.heap.size, 3, none⟩ = some (.int .i64 ch.name.idx) := zb.cell 3
      have z4 : (wr.alloc (.cells #[.int .i64 ch.name.kind, .string (bs ch.name.owner), .int .i64 ch.name.num, .int .i64 ch.name.idx, .string (bs ch.name.text), .string (bs ch.value), .bool ch.absent] 105)).cell? ⟨wr.heap.size, 4, none⟩ = some (.string (bs ch.name.text)) := zb.cell 4
      have z5 : (wr.alloc (.cells #[.int .i64 ch.name.kind, .string (bs ch.name.owner), .int .i64 ch.name.num, .int .i64 ch.name.idx, .string (bs ch.name.text), .string (bs ch.value), .bool ch.absent] 105)).cell? ⟨wr.heap.size, 5, none⟩ = some (.string (bs ch.value)) := zb.cell 5
      have z6 : (wr.alloc (.cells #[.int .i64 ch.name.kind, .string (bs ch.name.owner), .int .i64 ch.name.num, .int .i64 ch.name.idx, .string (bs ch.name.text), .string (bs ch.value), .bool ch.absent] 105)).cell? ⟨wr.heap.size, 6, none⟩ = some (.bool ch.absent) := zb.cell 6
      clear y0 y1 y2 y3 y4 y5 y6 zb
      have HAW := Lib.hid (fun i => HA.out.cell (p := ⟨b, i, none⟩) hbr)
      generalize wr.alloc (.cells #[.int .i64 ch.name.kind, .string (bs ch.name.owner), .int .i64 ch.name.num, .int .i64 ch.name.idx, .string (bs ch.name.text), .string (bs ch.value), .bool ch.absent] 105) = W at *
      generalize wr.heap.size = cb at *
      by_cases hob : IsOb ch.name
      · have HOB := Lib.hid hob
        clear hob
        by_cases h2 : 65536 < ch.value.length
        · have f2 : decide ((65536 : Int) < ((bs ch.value).size : Int)) = true := decide_eq_true (by rw [bs_size]; omega)
          have HBAD := Lib.hid (ordCh_bad hk (by rw [HCE.out]; exact okCh_no2 h2))
          clear h2
          go_wp2_with (go_at_call 76; refine (check_ob ch.name _ HOB.out HUr.out).mono ?_; rintro e w2 ⟨rfl, hb2⟩; obtain ⟨hc2, hf2⟩ := bcell hb2; have HB2 := Lib.hid (HA.out.trans (hb2.mono (Nat.le_of_lt hsz1))); have hsz2 : cb < w2.heap.size := Nat.lt_of_lt_of_le hsz1 hb2.size; clear hb2)
          go_ret
          exact ⟨by rw [HBAD.out]; rfl, HB.out.trans (HB2.out.mono hsz)⟩
        · have f2 : decide ((65536 : Int) < ((bs ch.value).size : Int)) = false := decide_eq_false (by rw [bs_size]; omega)
          have f2' : ¬ (65536 : Int) < ((bs ch.value).size : Int) := by rw [bs_size]; omega
          have H2 := Lib.hid (show ch.value.length ≤ 65536 by omega)
          clear h2
          cases hab : ch.absent with
          | true =>
            rw [hab] at z6
            by_cases h3 : ch.value = []
            · rw [h3] at z5
              have HOK := Lib.hid (okCh_parts HOB.out H2.out (fun _ => h3))
              have H3 := Lib.hid h3
              have HAB := Lib.hid hab
              clear h3 hab f2 f2'
              have f2 : decide ((65536 : Int) < ((bs ([] : Bs)).size : Int)) = false := by decide
              have f2' : ¬ (65536 : Int) < ((bs ([] : Bs)).size : Int) := by decide
              have t5 : (bs ([] : Bs)).toList = [] := bs_tl []
              have t6 : (bs ([] : Bs)).toList.isEmpty = true := by rw [t5]; rfl
              rcases Nat.eq_zero_or_pos k with hz | hz
              · have g0 : decide ((0 : Int) < (k : Int)) = false := decide_eq_false (by omega)
                have g0' : ¬ (0 : Int) < (k : Int) := by omega
                have gn : decide (0 < k) = false := decide_eq_false (by omega)
                have HZ := Lib.hid hz
                clear hz
                go_upto_region 6 with (first | (go_at_call 76; refine (check_ob ch.name _ HOB.out HUr.out).mono ?_; rintro e w2 ⟨rfl, hb2⟩; obtain ⟨hc2, hf2⟩ := bcell hb2; have HB2 := Lib.hid (HA.out.trans (hb2.mono (Nat.le_of_lt hsz1))); have hsz2 : cb < w2.heap.size := Nat.lt_of_lt_of_le hsz1 hb2.size; clear hb2))
                go_quiet (fail)
                go_wp2_with fail
                go_roundw
                case rel =>
                  refine ⟨k + 1, by omega, by go_num, HO.out.next hk (by rw [HCE.out]; exact HOK.out) (fun m e => by omega), HB.out.trans ((below_drewN (HB2.out.mono hsz) _))⟩
                case measure => simp [intOf]; omega
              · obtain ⟨m, hm⟩ : ∃ m, k = m + 1 := ⟨k - 1, by omega⟩
                have g0 : decide ((0 : Int) < (k : Int)) = true := decide_eq_true (by omega)
                have g1 : (k : Int) - 1 = (m : Int) := by omega
                have g2 : IntKind.i64.wrap (m : Int) = (m : Int) := IntWalk.i64_in _ (by omega)
                have j1 : (0 : Int) ≤ (m : Int) := by omega
                have j2 : (m : Int) < (l.length : Int) := by omega
                have hml : m < l.length := by omega
                obtain ⟨b', o', hbo, _, q0, q1, q2, q3, q4, _, _⟩ := RdCh.piece HH.out hml
                injection hbo with hbo
                injection hbo with hbo1 hbo2 _
                subst hbo1 hbo2
                obtain ⟨pv, hpv⟩ : ∃ pv, l[m].name = pv := ⟨_, rfl⟩
                rw [hpv] at q0 q1 q2 q3 q4
                have HPV := Lib.hid hpv
                have HOW := Lib.hid (show pv.owner = ch.name.owner by rw [← hpv, ← HCE.out, (HR.out _ (List.getElem_mem hml)).own, (HR.out _ (List.getElem_mem hk)).own])
                have p0 := (HB.out.cell (p := ⟨b, o + m * 7, none⟩) hbw).trans q0
                have p1 := (HB.out.cell (p := ⟨b, o + m * 7 + 1, none⟩) hbw).trans q1
                have p2 := (HB.out.cell (p := ⟨b, o + m * 7 + 2, none⟩) hbw).trans q2
                have p3 := (HB.out.cell (p := ⟨b, o + m * 7 + 3, none⟩) hbw).trans q3
                have p4 := (HB.out.cell (p := ⟨b, o + m * 7 + 4, none⟩) hbw).trans q4
                have HM := Lib.hid hm
                obtain ⟨bq, hbq⟩ : ∃ bq, decide (0 ≤ cmpN pv ch.name) = bq := ⟨_, rfl⟩
                clear hpv q0 q1 q2 q3 q4 hm
                have gn : decide (0 < k) = true := decide_eq_true hz
                have r0 := hbr
                go_upto_region 6 with (first | (go_at_call 76; refine (check_ob ch.name _ HOB.out HUr.out).mono ?_; rintro e w2 ⟨rfl, hb2⟩; obtain ⟨hc2, hf2⟩ := bcell hb2; have HB2 := Lib.hid (HA.out.trans (hb2.mono (Nat.le_of_lt hsz1))); have hsz2 : cb < w2.heap.size := Nat.lt_of_lt_of_le hsz1 hb2.size; clear hb2))
                have hbr2 : b < w2.heap.size := Nat.lt_of_lt_of_le hbr (by have := HB2.out.size; omega)
                have q0 := (hc2 cb 0 hsz1).trans z0
                have q1 := (hc2 cb 1 hsz1).trans z1
                have q2 := (hc2 cb 2 hsz1).trans z2
                have q3 := (hc2 cb 3 hsz1).trans z3
                have q4 := (hc2 cb 4 hsz1).trans z4
                have p0 := (HB2.out.cell (p := ⟨b, o + m * 7, none⟩) hbr).trans p0
                have p1 := (HB2.out.cell (p := ⟨b, o + m * 7 + 1, none⟩) hbr).trans p1
                have p2 := (HB2.out.cell (p := ⟨b, o + m * 7 + 2, none⟩) hbr).trans p2
                have p3 := (HB2.out.cell (p := ⟨b, o + m * 7 + 3, none⟩) hbr).trans p3
                have p4 := (HB2.out.cell (p := ⟨b, o + m * 7 + 4, none⟩) hbr).trans p4
                clear hc2 hf2 z0 z1 z2 z3 z4 z5 z6
                refine wp_region_noPanic ?_
                refine wp_region_held_drew (S := (fun (w' : World) => w'.cell? ⟨cb, 0, none⟩ = some (.int .i64 ch.name.kind) ∧ w'.cell? ⟨cb, 1, none⟩ = some (.string (bs ch.name.owner)) ∧ w'.cell? ⟨cb, 2, none⟩ = some (.int .i64 ch.name.num) ∧ w'.cell? ⟨cb, 3, none⟩ = some (.int .i64 ch.name.idx) ∧ w'.cell? ⟨cb, 4, none⟩ = some (.string (bs ch.name.text)) ∧ w'.cell? ⟨b, o + m * 7, none⟩ = some (.int .i64 pv.kind) ∧ w'.cell? ⟨b, o + m * 7 + 1, none⟩ = some (.string (bs pv.owner)) ∧ w'.cell? ⟨b, o + m * 7 + 2, none⟩ = some (.int .i64 pv.num) ∧ w'.cell? ⟨b, o + m * 7 + 3, none⟩ = some (.int .i64 pv.idx) ∧ w'.cell? ⟨b, o + m * 7 + 4, none⟩ = some (.string (bs pv.text)))) (by kernel_rfl) ?_ (fun hHeld => ?_)
                · exact ⟨q0, q1, q2, q3, q4, p0, p1, p2, p3, p4⟩
                refine tk (v := ?_) 0 rfl (by kernel_rfl) (fun _ _ _ h => h) ?_ hHeld ?_
                rotate_left
                · (intro w h; (try dsimp only at h); go_simp; try with_reducible rfl)
                try simp only [Act.put, pB, pC, pD]
                refine tk (v := ?_) 1 rfl (by kernel_rfl) (fun _ _ _ h => h) ?_ hHeld ?_
                rotate_left
                · (intro w h; (try dsimp only at h); go_simp; try with_reducible rfl)
                try simp only [Act.put, pB, pC, pD]
                refine tk (v := ?_) 2 rfl (by kernel_rfl) (fun _ _ _ h => h) ?_ hHeld ?_
                rotate_left
                · (intro w h; (try dsimp only at h); go_simp; try with_reducible rfl)
                try simp only [Act.put, pB, pC, pD]
                refine tk (v := ?_) 3 rfl (by kernel_rfl) (fun _ _ _ h => h) ?_ hHeld ?_
                rotate_left
                · (intro w h; (try dsimp only at h); go_simp; try with_reducible rfl)
                try simp only [Act.put, pB, pC, pD]
                refine tk (v := ?_) 4 rfl (by kernel_rfl) (fun _ _ _ h => h) ?_ hHeld ?_
                rotate_left
                · (intro w h; (try dsimp only at h); go_simp; try with_reducible rfl)
                try simp only [Act.put, pB, pC, pD]
                refine tk (v := ?_) 5 rfl (by kernel_rfl) (fun _ _ _ h => h) ?_ hHeld ?_
                rotate_left
                · (intro w h; (try dsimp only at h); go_simp; try with_reducible rfl)
                try simp only [Act.put, pB, pC, pD]
                refine tk (v := ?_) 6 rfl (by kernel_rfl) (fun _ _ _ h => h) ?_ hHeld ?_
                rotate_left
                · (intro w h; (try dsimp only at h); go_simp; try with_reducible rfl)
                try simp only [Act.put, pB, pC, pD]
                refine tk (v := ?_) 7 rfl (by kernel_rfl) (fun _ _ _ h => h) ?_ hHeld ?_
                rotate_left
                · (intro w h; (try dsimp only at h); go_simp; try with_reducible rfl)
                try simp only [Act.put, pB, pC, pD]
                refine tk (v := ?_) 8 rfl (by kernel_rfl) (fun _ _ _ h => h) ?_ hHeld ?_
                rotate_left
                · (intro w h; (try dsimp only at h); go_simp; try with_reducible rfl)
                try simp only [Act.put, pB, pC, pD]
                refine tk (v := ?_) 9 rfl (by kernel_rfl) (fun _ _ _ h => h) ?_ hHeld ?_
                rotate_left
                · (intro w h; (try dsimp only at h); go_simp; try with_reducible rfl)
                try simp only [Act.put, pB, pC, pD]
                refine tk (v := ?_) 10 rfl (by kernel_rfl) (fun _ _ _ h => h) ?_ hHeld ?_
                rotate_left
                · (intro w h; (try dsimp only at h); go_simp; try with_reducible rfl)
                try simp only [Act.put, pB, pC, pD]
                refine wpAnyH_ready (rs := [11]) (by kernel_rfl) (by simp) ?_
                refine AllReadyH.cons rfl (fun K hK => ?_) AllReadyH.nil
                go_simp
                refine (compare_is pv ch.name _ HOW.out).mono ?_; rintro e w3 ⟨rfl, hb3⟩; have HB3 := Lib.hid ((Below.refl w2.heap.size w2).drew.trans hb3); clear hb3
                try (go_wp2_with fail)
                refine hK.out _ _ ?_ (fun hNew => ?_)
                · exact ⟨(HB3.out.cell (p := ⟨cb, 0, none⟩) hsz2).trans q0, (HB3.out.cell (p := ⟨cb, 1, none⟩) hsz2).trans q1, (HB3.out.cell (p := ⟨cb, 2, none⟩) hsz2).trans q2, (HB3.out.cell (p := ⟨cb, 3, none⟩) hsz2).trans q3, (HB3.out.cell (p := ⟨cb, 4, none⟩) hsz2).trans q4, (HB3.out.cell (p := ⟨b, o + m * 7, none⟩) hbr2).trans p0, (HB3.out.cell (p := ⟨b, o + m * 7 + 1, none⟩) hbr2).trans p1, (HB3.out.cell (p := ⟨b, o + m * 7 + 2, none⟩) hbr2).trans p2, (HB3.out.cell (p := ⟨b, o + m * 7 + 3, none⟩) hbr2).trans p3, (HB3.out.cell (p := ⟨b, o + m * 7 + 4, none⟩) hbr2).trans p4⟩
                clear hK K hHeld
                have hHeld := hNew
                clear hNew
                try simp only [Act.put, pB, pC, pD]
                refine tk (v := ?_) 12 rfl (by kernel_rfl) (fun _ _ _ h => h) ?_ hHeld ?_
                rotate_left
                · (intro w h; (try dsimp only at h); go_simp; try with_reducible rfl)
                try simp only [Act.put, pB, pC, pD]
                refine tk (v := ?_) 13 rfl (by kernel_rfl) (fun _ _ _ h => h) ?_ hHeld ?_
                rotate_left
                · (intro w h; (try dsimp only at h); go_simp; try with_reducible rfl)
                try simp only [Act.put, pB, pC, pD]
                refine wpAnyH_done (by kernel_rfl) ?_ _
                clear hHeld
                try simp only [List.getElem_toArray, List.getElem_cons_zero, List.getElem_cons_succ, Act.put, pB, pC, pD]
                refine NoPanic.normal ?_
                cases bq with
                | true =>
                  have HQ := Lib.hid hbq
                  clear hbq
                  go_wp2_with fail
                  go_ret
                  have e : ordCh l = false := by
                    have hm := HM.out
                    subst hm
                    refine ordCh_bad2 hk ?_
                    rw [HPV.out, HCE.out]
                    exact of_decide_eq_true HQ.out
                  exact ⟨by rw [e]; rfl, HB.out.trans ((HB2.out.trans (HB3.out.mono (Nat.le_of_lt hsz2))).mono hsz)⟩
                | false =>
                  have HQ := Lib.hid hbq
                  clear hbq
                  go_wp2_with fail
                  go_roundw
                  case rel =>
                    refine ⟨k + 1, by omega, by go_num, HO.out.next hk (by rw [HCE.out]; exact HOK.out) (fun m' e => ?_), HB.out.trans ((HB2.out.trans (HB3.out.mono (Nat.le_of_lt hsz2))).mono hsz)⟩
                    have e2 : m' = m := by have := HM.out; omega
                    subst e2
                    rw [HPV.out, HCE.out]
                    have := of_decide_eq_false HQ.out
                    omega
                  case measure => simp [intOf]; omega
            · have HBAD := Lib.hid (ordCh_bad hk (by rw [HCE.out]; exact okCh_no3 hab h3))
              have f3' : ¬ (bs ch.value).toList = [] := by rw [bs_tl]; exact h3
              have f3 : (bs ch.value).toList.isEmpty = false := by rw [List.isEmpty_eq_false_iff]; exact f3'
              clear h3 hab
              go_wp2_with (go_at_call 76; refine (check_ob ch.name _ HOB.out HUr.out).mono ?_; rintro e w2 ⟨rfl, hb2⟩; obtain ⟨hc2, hf2⟩ := bcell hb2; have HB2 := Lib.hid (HA.out.trans (hb2.mono (Nat.le_of_lt hsz1))); have hsz2 : cb < w2.heap.size := Nat.lt_of_lt_of_le hsz1 hb2.size; clear hb2)
              go_ret
              exact ⟨by rw [HBAD.out]; rfl, HB.out.trans (HB2.out.mono hsz)⟩
          | false =>
            rw [hab] at z6
            have HOK := Lib.hid (okCh_parts HOB.out H2.out (fun h => by rw [hab] at h; cases h))
            have HAB := Lib.hid hab
            clear hab
            rcases Nat.eq_zero_or_pos k with hz | hz
            · have g0 : decide ((0 : Int) < (k : Int)) = false := decide_eq_false (by omega)
              have g0' : ¬ (0 : Int) < (k : Int) := by omega
              have gn : decide (0 < k) = false := decide_eq_false (by omega)
              have HZ := Lib.hid hz
              clear hz
              go_upto_region 6 with (first | (go_at_call 76; refine (check_ob ch.name _ HOB.out HUr.out).mono ?_; rintro e w2 ⟨rfl, hb2⟩; obtain ⟨hc2, hf2⟩ := bcell hb2; have HB2 := Lib.hid (HA.out.trans (hb2.mono (Nat.le_of_lt hsz1))); have hsz2 : cb < w2.heap.size := Nat.lt_of_lt_of_le hsz1 hb2.size; clear hb2))
              go_quiet (fail)
              go_wp2_with fail
              go_roundw
              case rel =>
                refine ⟨k + 1, by omega, by go_num, HO.out.next hk (by rw [HCE.out]; exact HOK.out) (fun m e => by omega), HB.out.trans ((below_drewN (HB2.out.mono hsz) _))⟩
              case measure => simp [intOf]; omega
            · obtain ⟨m, hm⟩ : ∃ m, k = m + 1 := ⟨k - 1, by omega⟩
              have g0 : decide ((0 : Int) < (k : Int)) = true := decide_eq_true (by omega)
              have g1 : (k : Int) - 1 = (m : Int) := by omega
              have g2 : IntKind.i64.wrap (m : Int) = (m : Int) := IntWalk.i64_in _ (by omega)
              have j1 : (0 : Int) ≤ (m : Int) := by omega
              have j2 : (m : Int) < (l.length : Int) := by omega
              have hml : m < l.length := by omega
              obtain ⟨b', o', hbo, _, q0, q1, q2, q3, q4, _, _⟩ := RdCh.piece HH.out hml
              injection hbo with hbo
              injection hbo with hbo1 hbo2 _
              subst hbo1 hbo2
              obtain ⟨pv, hpv⟩ : ∃ pv, l[m].name = pv := ⟨_, rfl⟩
              rw [hpv] at q0 q1 q2 q3 q4
              have HPV := Lib.hid hpv
              have HOW := Lib.hid (show pv.owner = ch.name.owner by rw [← hpv, ← HCE.out, (HR.out _ (List.getElem_mem hml)).own, (HR.out _ (List.getElem_mem hk)).own])
              have p0 := (HB.out.cell (p := ⟨b, o + m * 7, none⟩) hbw).trans q0
              have p1 := (HB.out.cell (p := ⟨b, o + m * 7 + 1, none⟩) hbw).trans q1
              have p2 := (HB.out.cell (p := ⟨b, o + m * 7 + 2, none⟩) hbw).trans q2
              have p3 := (HB.out.cell (p := ⟨b, o + m * 7 + 3, none⟩) hbw).trans q3
              have p4 := (HB.out.cell (p := ⟨b, o + m * 7 + 4, none⟩) hbw).trans q4
              have HM := Lib.hid hm
              obtain ⟨bq, hbq⟩ : ∃ bq, decide (0 ≤ cmpN pv ch.name) = bq := ⟨_, rfl⟩
              clear hpv q0 q1 q2 q3 q4 hm
              have gn : decide (0 < k) = true := decide_eq_true hz
              have r0 := hbr
              go_upto_region 6 with (first | (go_at_call 76; refine (check_ob ch.name _ HOB.out HUr.out).mono ?_; rintro e w2 ⟨rfl, hb2⟩; obtain ⟨hc2, hf2⟩ := bcell hb2; have HB2 := Lib.hid (HA.out.trans (hb2.mono (Nat.le_of_lt hsz1))); have hsz2 : cb < w2.heap.size := Nat.lt_of_lt_of_le hsz1 hb2.size; clear hb2))
              have hbr2 : b < w2.heap.size := Nat.lt_of_lt_of_le hbr (by have := HB2.out.size; omega)
              have q0 := (hc2 cb 0 hsz1).trans z0
              have q1 := (hc2 cb 1 hsz1).trans z1
              have q2 := (hc2 cb 2 hsz1).trans z2
              have q3 := (hc2 cb 3 hsz1).trans z3
              have q4 := (hc2 cb 4 hsz1).trans z4
              have p0 := (HB2.out.cell (p := ⟨b, o + m * 7, none⟩) hbr).trans p0
              have p1 := (HB2.out.cell (p := ⟨b, o + m * 7 + 1, none⟩) hbr).trans p1
              have p2 := (HB2.out.cell (p := ⟨b, o + m * 7 + 2, none⟩) hbr).trans p2
              have p3 := (HB2.out.cell (p := ⟨b, o + m * 7 + 3, none⟩) hbr).trans p3
              have p4 := (HB2.out.cell (p := ⟨b, o + m * 7 + 4, none⟩) hbr).trans p4
              clear hc2 hf2 z0 z1 z2 z3 z4 z5 z6
              refine wp_region_noPanic ?_
              refine wp_region_held_drew (S := (fun (w' : World) => w'.cell? ⟨cb, 0, none⟩ = some (.int .i64 ch.name.kind) ∧ w'.cell? ⟨cb, 1, none⟩ = some (.string (bs ch.name.owner)) ∧ w'.cell? ⟨cb, 2, none⟩ = some (.int .i64 ch.name.num) ∧ w'.cell? ⟨cb, 3, none⟩ = some (.int .i64 ch.name.idx) ∧ w'.cell? ⟨cb, 4, none⟩ = some (.string (bs ch.name.text)) ∧ w'.cell? ⟨b, o + m * 7, none⟩ = some (.int .i64 pv.kind) ∧ w'.cell? ⟨b, o + m * 7 + 1, none⟩ = some (.string (bs pv.owner)) ∧ w'.cell? ⟨b, o + m * 7 + 2, none⟩ = some (.int .i64 pv.num) ∧ w'.cell? ⟨b, o + m * 7 + 3, none⟩ = some (.int .i64 pv.idx) ∧ w'.cell? ⟨b, o + m * 7 + 4, none⟩ = some (.string (bs pv.text)))) (by kernel_rfl) ?_ (fun hHeld => ?_)
              · exact ⟨q0, q1, q2, q3, q4, p0, p1, p2, p3, p4⟩
              refine tk (v := ?_) 0 rfl (by kernel_rfl) (fun _ _ _ h => h) ?_ hHeld ?_
              rotate_left
              · (intro w h; (try dsimp only at h); go_simp; try with_reducible rfl)
              try simp only [Act.put, pB, pC, pD]
              refine tk (v := ?_) 1 rfl (by kernel_rfl) (fun _ _ _ h => h) ?_ hHeld ?_
              rotate_left
              · (intro w h; (try dsimp only at h); go_simp; try with_reducible rfl)
              try simp only [Act.put, pB, pC, pD]
              refine tk (v := ?_) 2 rfl (by kernel_rfl) (fun _ _ _ h => h) ?_ hHeld ?_
              rotate_left
              · (intro w h; (try dsimp only at h); go_simp; try with_reducible rfl)
              try simp only [Act.put, pB, pC, pD]
              refine tk (v := ?_) 3 rfl (by kernel_rfl) (fun _ _ _ h => h) ?_ hHeld ?_
              rotate_left
              · (intro w h; (try dsimp only at h); go_simp; try with_reducible rfl)
              try simp only [Act.put, pB, pC, pD]
              refine tk (v := ?_) 4 rfl (by kernel_rfl) (fun _ _ _ h => h) ?_ hHeld ?_
              rotate_left
              · (intro w h; (try dsimp only at h); go_simp; try with_reducible rfl)
              try simp only [Act.put, pB, pC, pD]
              refine tk (v := ?_) 5 rfl (by kernel_rfl) (fun _ _ _ h => h) ?_ hHeld ?_
              rotate_left
              · (intro w h; (try dsimp only at h); go_simp; try with_reducible rfl)
              try simp only [Act.put, pB, pC, pD]
              refine tk (v := ?_) 6 rfl (by kernel_rfl) (fun _ _ _ h => h) ?_ hHeld ?_
              rotate_left
              · (intro w h; (try dsimp only at h); go_simp; try with_reducible rfl)
              try simp only [Act.put, pB, pC, pD]
              refine tk (v := ?_) 7 rfl (by kernel_rfl) (fun _ _ _ h => h) ?_ hHeld ?_
              rotate_left
              · (intro w h; (try dsimp only at h); go_simp; try with_reducible rfl)
              try simp only [Act.put, pB, pC, pD]
              refine tk (v := ?_) 8 rfl (by kernel_rfl) (fun _ _ _ h => h) ?_ hHeld ?_
              rotate_left
              · (intro w h; (try dsimp only at h); go_simp; try with_reducible rfl)
              try simp only [Act.put, pB, pC, pD]
              refine tk (v := ?_) 9 rfl (by kernel_rfl) (fun _ _ _ h => h) ?_ hHeld ?_
              rotate_left
              · (intro w h; (try dsimp only at h); go_simp; try with_reducible rfl)
              try simp only [Act.put, pB, pC, pD]
              refine tk (v := ?_) 10 rfl (by kernel_rfl) (fun _ _ _ h => h) ?_ hHeld ?_
              rotate_left
              · (intro w h; (try dsimp only at h); go_simp; try with_reducible rfl)
              try simp only [Act.put, pB, pC, pD]
              refine wpAnyH_ready (rs := [11]) (by kernel_rfl) (by simp) ?_
              refine AllReadyH.cons rfl (fun K hK => ?_) AllReadyH.nil
              go_simp
              refine (compare_is pv ch.name _ HOW.out).mono ?_; rintro e w3 ⟨rfl, hb3⟩; have HB3 := Lib.hid ((Below.refl w2.heap.size w2).drew.trans hb3); clear hb3
              try (go_wp2_with fail)
              refine hK.out _ _ ?_ (fun hNew => ?_)
              · exact ⟨(HB3.out.cell (p := ⟨cb, 0, none⟩) hsz2).trans q0, (HB3.out.cell (p := ⟨cb, 1, none⟩) hsz2).trans q1, (HB3.out.cell (p := ⟨cb, 2, none⟩) hsz2).trans q2, (HB3.out.cell (p := ⟨cb, 3, none⟩) hsz2).trans q3, (HB3.out.cell (p := ⟨cb, 4, none⟩) hsz2).trans q4, (HB3.out.cell (p := ⟨b, o + m * 7, none⟩) hbr2).trans p0, (HB3.out.cell (p := ⟨b, o + m * 7 + 1, none⟩) hbr2).trans p1, (HB3.out.cell (p := ⟨b, o + m * 7 + 2, none⟩) hbr2).trans p2, (HB3.out.cell (p := ⟨b, o + m * 7 + 3, none⟩) hbr2).trans p3, (HB3.out.cell (p := ⟨b, o + m * 7 + 4, none⟩) hbr2).trans p4⟩
              clear hK K hHeld
              have hHeld := hNew
              clear hNew
              try simp only [Act.put, pB, pC, pD]
              refine tk (v := ?_) 12 rfl (by kernel_rfl) (fun _ _ _ h => h) ?_ hHeld ?_
              rotate_left
              · (intro w h; (try dsimp only at h); go_simp; try with_reducible rfl)
              try simp only [Act.put, pB, pC, pD]
              refine tk (v := ?_) 13 rfl (by kernel_rfl) (fun _ _ _ h => h) ?_ hHeld ?_
              rotate_left
              · (intro w h; (try dsimp only at h); go_simp; try with_reducible rfl)
              try simp only [Act.put, pB, pC, pD]
              refine wpAnyH_done (by kernel_rfl) ?_ _
              clear hHeld
              try simp only [List.getElem_toArray, List.getElem_cons_zero, List.getElem_cons_succ, Act.put, pB, pC, pD]
              refine NoPanic.normal ?_
              cases bq with
              | true =>
                have HQ := Lib.hid hbq
                clear hbq
                go_wp2_with fail
                go_ret
                have e : ordCh l = false := by
                  have hm := HM.out
                  subst hm
                  refine ordCh_bad2 hk ?_
                  rw [HPV.out, HCE.out]
                  exact of_decide_eq_true HQ.out
                exact ⟨by rw [e]; rfl, HB.out.trans ((HB2.out.trans (HB3.out.mono (Nat.le_of_lt hsz2))).mono hsz)⟩
              | false =>
                have HQ := Lib.hid hbq
                clear hbq
                go_wp2_with fail
                go_roundw
                case rel =>
                  refine ⟨k + 1, by omega, by go_num, HO.out.next hk (by rw [HCE.out]; exact HOK.out) (fun m' e => ?_), HB.out.trans ((HB2.out.trans (HB3.out.mono (Nat.le_of_lt hsz2))).mono hsz)⟩
                  have e2 : m' = m := by have := HM.out; omega
                  subst e2
                  rw [HPV.out, HCE.out]
                  have := of_decide_eq_false HQ.out
                  omega
                case measure => simp [intOf]; omega
      · have hbd : ch.name = badN := HCR.out.1.resolve_left hob
        have HBAD := Lib.hid (ordCh_bad hk (by rw [HCE.out]; exact okCh_no1 hob))
        rw [hbd] at z0 z1 z2 z3 z4
        clear hob hbd
        go_wp2_with (go_at_call 76; refine (check_bad _).mono ?_; rintro e w2 ⟨rfl, hb2⟩; obtain ⟨hc2, hf2⟩ := bcell hb2; have HB2 := Lib.hid (HA.out.trans (hb2.mono (Nat.le_of_lt hsz1))); have hsz2 : cb < w2.heap.size := Nat.lt_of_lt_of_le hsz1 hb2.size; clear hb2)
        go_ret
        exact ⟨by rw [HBAD.out]; rfl, HB.out.trans (HB2.out.mono hsz)⟩
    · have HI := Lib.hid (show k = l.length by omega)
      have HK := Lib.hid hk
      go_wp2
      go_ret
      have e := ordCh_of (HI.out ▸ HO.out)
      exact ⟨by rw [e]; rfl, HB.out⟩
end Go.Proofs.YtamjllakfgphnaaGreatDoor
namespace Go.Proofs.YtamjllakfgphnaaGreatDoor
open Go.RowKit
set_option linter.unusedSimpArgs false
set_option linter.unusedVariables false
attribute [local go_sem ↓] Go.wp_at_zero Go.wp_at_succ
theorem none_is {w : World} {g : Nat} {pb : Addr} (h0 : w.cell? ⟨g, 0, none⟩ = some (.pointer (some pb))) : Calls Tryz.prog 51 #[.pointer (some ⟨g, 0, none⟩)] w fun e w' => e = .returned (.bool false) ∧ w = w' := by
  go_enter Tryz.func51, Tryz.ntmps51
  go_wp2
  go_ret
  exact ⟨rfl, rfl⟩
def acV (a : Ac) (u : Value × Value) : Value := .agg #[.int .i64 a.key.tick, .int .i64 a.key.cls, .int .i64 a.key.num, .string (bs a.key.lin), u.1, u.2]
set_option maxRecDepth 100000 in
theorem wellFormed_is {w : World} {a : Ac} {u : Value × Value} (h : NAc w u a) (hr : AcR a) (hu : UseAt w) : Calls Tryz.prog 126 #[acV a u] w fun e w' => e = .returned (.bool (okAc a)) ∧ Below w.heap.size w w' := by
  obtain ⟨⟨t, c, n, ln⟩, rs, ws⟩ := a
  obtain ⟨u1, u2⟩ := u
  obtain ⟨hk, h1, h2, h3, h4⟩ := hr
  obtain ⟨n1, n2⟩ := h
  simp only at hk h1 h2 h3 h4 n1 n2
  have ha := (Below.refl w.heap.size w).alloc (Nat.le_refl _) (.cells #[.int .i64 t, .int .i64 c, .int .i64 n, .string (bs ln), u1, u2] 77)
  have hz : w.heap.size < (w.alloc (.cells #[.int .i64 t, .int .i64 c, .int .i64 n, .string (bs ln), u1, u2] 77)).heap.size := by simp
  have zb := Blk.new w 77 #[.int .i64 t, .int .i64 c, .int .i64 n, .string (bs ln), u1, u2]
  have HKY := Lib.hid (key_check ⟨t, c, n, ln⟩ (w.alloc (.cells #[.int .i64 t, .int .i64 c, .int .i64 n, .string (bs ln), u1, u2] 77)) hk)
  have HU := Lib.hid (hu.below ha)
  have N1 := Lib.hid (RdP.next n1 ha)
  have N2 := Lib.hid (RdP.next n2 ha)
  have HA := Lib.hid ha
  have H1 := Lib.hid h1
  have H2 := Lib.hid h2
  have H3 := Lib.hid h3
  have H4 := Lib.hid h4
  have HK := Lib.hid hk
  have z0 := zb.cell 0
  have z1 := zb.cell 1
  have z2 := zb.cell 2
  have z3 := zb.cell 3
  have z4 := zb.cell 4
  have z5 := zb.cell 5
  simp only [qB, qC, qD] at z0 z1 z2 z3 z4 z5
  clear zb n1 n2 hu hk h1 h2 h3 h4 ha
  unfold okAc okKy
  have HN : Hid ((decide (c = 2) || decide (1 ≤ n)) = true) := Lib.hid (by rcases HK.out.2.2 with h | h; exact Bool.or_eq_true_iff.2 (.inr (decide_eq_true h.2.1)); exact Bool.or_eq_true_iff.2 (.inl (decide_eq_true h.1)))
  simp only
  rw [HN.out, Bool.and_true]
  unfold kyV at HKY
  go_enter Tryz.func126, Tryz.ntmps126
  simp only [acV]
  go_upto_region 1 with (fail)
  generalize w.alloc (.cells #[.int .i64 t, .int .i64 c, .int .i64 n, .string (bs ln), u1, u2] 77) = W at *
  generalize hcb : w.heap.size = cb at *
  have HCB := Lib.hid hcb
  clear hcb
  by_cases ht : 0 ≤ t
  · have HT := Lib.hid ht
    have HI := Lib.hid (show (if 0 ≤ t then (0 : Int) else 2) = 0 from if_pos ht)
    clear ht
    go_wp2_with fail
    refine HKY.out.mono ?_
    rintro e w2 ⟨rfl, hb2⟩
    simp only
    rw [HI.out]
    obtain ⟨hc2, hf2⟩ := bcell hb2
    have HB2 := Lib.hid (HA.out.trans (hb2.mono (Nat.le_of_lt hz)))
    have U2 := Lib.hid (HU.out.below hb2)
    have M1 := Lib.hid (RdP.next N1.out hb2)
    have M2 := Lib.hid (RdP.next N2.out hb2)
    have hz2 : cb < w2.heap.size := Nat.lt_of_lt_of_le hz hb2.size
    have y5 := (hc2 cb 5 hz).trans z5
    have HHB := Lib.hid hb2
    obtain ⟨b1, hb1⟩ : ∃ b1, ordCh rs = b1 := ⟨_, rfl⟩
    have HB1 := Lib.hid hb1
    clear hb2 hb1
    cases b1 with
    | false =>
      go_wp2_with fail
      refine (orderly_is M1.out U2.out H1.out (Nat.le_trans H3.out (by decide))).mono ?_
      rintro e w3 ⟨rfl, hb3⟩
      rw [HB1.out]
      have HB3 := Lib.hid (HB2.out.trans (hb3.mono (by have := HB2.out.size; have := hb3.size; omega)))
      clear hb3 hc2 hf2
      go_wp2_with fail
      go_ret
      exact ⟨by rw [decide_eq_true HT.out, HB1.out]; rfl, by rw [HCB.out]; exact HB3.out⟩
    | true =>
      go_wp2_with fail
      refine (orderly_is M1.out U2.out H1.out (Nat.le_trans H3.out (by decide))).mono ?_
      rintro e w3 ⟨rfl, hb3⟩
      rw [HB1.out]
      have x5 := (hb3.cell (p := ⟨cb, 5, none⟩) hz2).trans y5
      have HB3 := Lib.hid (HB2.out.trans (hb3.mono (by have := HB2.out.size; have := hb3.size; omega)))
      have U3 := Lib.hid (U2.out.below hb3)
      have hz3 : cb < w3.heap.size := Nat.lt_of_lt_of_le hz2 hb3.size
      have M3 := Lib.hid (RdP.next M2.out hb3)
      clear hb3 hc2 hf2 z0 z1 z2 z3 z4 z5 y5
      obtain ⟨b2, hb2⟩ : ∃ b2, ordCh ws = b2 := ⟨_, rfl⟩
      have HBB := Lib.hid hb2
      clear hb2
      go_wp2_with fail
      refine (orderly_is M3.out U3.out H2.out (Nat.le_trans H4.out (by decide))).mono ?_
      rintro e w4 ⟨rfl, hb4⟩
      rw [HBB.out]
      have HB4 := Lib.hid (HB3.out.trans (hb4.mono (by omega)))
      clear hb4
      go_wp2_with fail
      go_ret
      exact ⟨by rw [decide_eq_true HT.out, HB1.out, HBB.out]; rfl, by rw [HCB.out]; exact HB4.out⟩
  · have HT := Lib.hid ht
    have HI := Lib.hid (show (if 0 ≤ t then (0 : Int) else 2) = 2 from if_neg ht)
    clear ht
    go_wp2_with fail
    refine HKY.out.mono ?_
    rintro e w2 ⟨rfl, hb2⟩
    simp only
    rw [HI.out]
    have HB2 := Lib.hid (HA.out.trans (hb2.mono (Nat.le_of_lt hz)))
    clear hb2
    go_wp2_with fail
    go_ret
    exact ⟨by rw [decide_eq_false (show ¬ 0 ≤ t by have := HT.out; omega)]; rfl, by rw [HCB.out]; exact HB2.out⟩
end Go.Proofs.YtamjllakfgphnaaGreatDoor
namespace Go.Proofs.YtamjllakfgphnaaGreatDoor
open Go.RowKit
set_option linter.unusedSimpArgs false
set_option linter.unusedVariables false
attribute [local go_sem ↓] Go.wp_at_zero Go.wp_at_succ
theorem ch_one (l : List Ch) : ∀ u ∈ l.flatMap chC, u.oneCell' = true := by
  intro u hu
  obtain ⟨c, _, hc⟩ := List.mem_flatMap.1 hu
  simp only [chC, List.mem_cons, List.not_mem_nil, or_false] at hc
  rcases hc with rfl | rfl | rfl | rfl | rfl | rfl | rfl <;> rfl
def CopP (a : Ac) (w : World) (e : Ending) (w' : World) : Prop := ∃ u, e = .returned (acV a u) ∧ NAc w' u a ∧ Below w.heap.size w w'
set_option maxRecDepth 100000 in
set_option maxHeartbeats 1000000 in
theorem copied_is {w : World} {a : Ac} {u : Value × Value} (h : NAc w u a) (hr : a.reads.length ≤ 100) (hw : a.writes.length ≤ 100) : Calls Tryz.prog 83 #[acV a u] w (CopP a w) := by
  obtain ⟨⟨t, c, n, ln⟩, rs, ws⟩ := a
  obtain ⟨u1, u2⟩ := u
  obtain ⟨n1, n2⟩ := h
  simp only at hr hw n1 n2
  have ha := ((Below.refl w.heap.size w).alloc (Nat.le_refl _) (.cells #[.int .i64 t, .int .i64 c, .int .i64 n, .string (bs ln), u1, u2] 77)).alloc (by simp) (.cells #[.int .i64 0, .int .i64 0, .int .i64 0, .string ⟨#[]⟩, .slice none 0 0, .slice none 0 0] 77)
  have hz : w.heap.size < ((w.alloc (.cells #[.int .i64 t, .int .i64 c, .int .i64 n, .string (bs ln), u1, u2] 77)).alloc (.cells #[.int .i64 0, .int .i64 0, .int .i64 0, .string ⟨#[]⟩, .slice none 0 0, .slice none 0 0] 77)).heap.size := by simp; omega
  have hzr : w.heap.size + 1 < ((w.alloc (.cells #[.int .i64 t, .int .i64 c, .int .i64 n, .string (bs ln), u1, u2] 77)).alloc (.cells #[.int .i64 0, .int .i64 0, .int .i64 0, .string ⟨#[]⟩, .slice none 0 0, .slice none 0 0] 77)).heap.size := by simp
  have zb := (Blk.new w 77 #[.int .i64 t, .int .i64 c, .int .i64 n, .string (bs ln), u1, u2]).alloc (.cells #[.int .i64 0, .int .i64 0, .int .i64 0, .string ⟨#[]⟩, .slice none 0 0, .slice none 0 0] 77)
  have rb := Blk.new (w.alloc (.cells #[.int .i64 t, .int .i64 c, .int .i64 n, .string (bs ln), u1, u2] 77)) 77 #[.int .i64 0, .int .i64 0, .int .i64 0, .string ⟨#[]⟩, .slice none 0 0, .slice none 0 0]
  rw [World.size_alloc] at rb
  have N1 := Lib.hid (RdP.next n1 ha)
  have N2 := Lib.hid (RdP.next n2 ha)
  have HA := Lib.hid ha
  have HRB := Lib.hid rb
  have H3 := Lib.hid hr
  have H4 := Lib.hid hw
  have z0 := zb.cell 0
  have z1 := zb.cell 1
  have z2 := zb.cell 2
  have z3 := zb.cell 3
  have z4 := zb.cell 4
  have z5 := zb.cell 5
  simp only [qB, qC, qD] at z0 z1 z2 z3 z4 z5
  clear zb rb n1 n2 hr hw ha
  go_enter Tryz.func83, Tryz.ntmps83
  simp only [acV]
  go_upto_region 1 with (fail)
  generalize (w.alloc (.cells #[.int .i64 t, .int .i64 c, .int .i64 n, .string (bs ln), u1, u2] 77)).alloc (.cells #[.int .i64 0, .int .i64 0, .int .i64 0, .string ⟨#[]⟩, .slice none 0 0, .slice none 0 0] 77) = W at *
  generalize hcb : w.heap.size = cb at *
  have HCB := Lib.hid hcb
  clear hcb
  refine wp_region_noPanic ?_
  refine wp_region_last (S := (fun (w' : World) => w'.cell? ⟨cb, 0, none⟩ = some (.int .i64 t) ∧ w'.cell? ⟨cb, 1, none⟩ = some (.int .i64 c) ∧ w'.cell? ⟨cb, 2, none⟩ = some (.int .i64 n) ∧ w'.cell? ⟨cb, 3, none⟩ = some (.string (bs ln)) ∧ w'.cell? ⟨cb, 4, none⟩ = some (u1) ∧ w'.cell? ⟨cb, 5, none⟩ = some (u2))) 9 9 rfl (by kernel_rfl) (by kernel_rfl) ?_ (fun hHeld => ?_)
  · exact ⟨z0, z1, z2, z3, z4, z5⟩
  refine tk (v := ?_) 0 rfl (by kernel_rfl) (fun _ _ _ h => h) ?_ hHeld ?_
  rotate_left
  · (intro w h; (try dsimp only at h); go_simp; try with_reducible rfl)
  try simp only [Act.put, pB, pC, pD]
  refine tk (v := ?_) 1 rfl (by kernel_rfl) (fun _ _ _ h => h) ?_ hHeld ?_
  rotate_left
  · (intro w h; (try dsimp only at h); go_simp; try with_reducible rfl)
  try simp only [Act.put, pB, pC, pD]
  refine tk (v := ?_) 2 rfl (by kernel_rfl) (fun _ _ _ h => h) ?_ hHeld ?_
  rotate_left
  · (intro w h; (try dsimp only at h); go_simp; try with_reducible rfl)
  try simp only [Act.put, pB, pC, pD]
  refine tk (v := ?_) 3 rfl (by kernel_rfl) (fun _ _ _ h => h) ?_ hHeld ?_
  rotate_left
  · (intro w h; (try dsimp only at h); go_simp; try with_reducible rfl)
  try simp only [Act.put, pB, pC, pD]
  refine tk (v := ?_) 5 rfl (by kernel_rfl) (fun _ _ _ h => h) ?_ hHeld ?_
  rotate_left
  · (intro w h; (try dsimp only at h); go_simp; try with_reducible rfl)
  try simp only [Act.put, pB, pC, pD]
  refine tk (v := ?_) 6 rfl (by kernel_rfl) (fun _ _ _ h => h) ?_ hHeld ?_
  rotate_left
  · (intro w h; (try dsimp only at h); go_simp; try with_reducible rfl)
  try simp only [Act.put, pB, pC, pD]
  refine wpAnyH_ready (rs := [4]) (by kernel_rfl) (by simp) ?_
  refine AllReadyH.cons rfl (fun K hK => ?_) AllReadyH.nil
  go_simp
  refine (cloneCh (RdP.drew N1.out) (fm_len chC_len rs) (ch_one rs) (by have := H3.out; omega)).mono ?_
  rintro e w3 ⟨v1, rfl, ho1, hb3⟩
  obtain ⟨A1, k1, rfl, hk1⟩ := own_len ho1
  have HO1 := Lib.hid ho1
  have HB3 := Lib.hid ((Below.refl W.heap.size W).drew.trans hb3)
  have y0 := (HB3.out.cell (p := ⟨cb, 0, none⟩) hz).trans z0
  have y1 := (HB3.out.cell (p := ⟨cb, 1, none⟩) hz).trans z1
  have y2 := (HB3.out.cell (p := ⟨cb, 2, none⟩) hz).trans z2
  have y3 := (HB3.out.cell (p := ⟨cb, 3, none⟩) hz).trans z3
  have y4 := (HB3.out.cell (p := ⟨cb, 4, none⟩) hz).trans z4
  have y5 := (HB3.out.cell (p := ⟨cb, 5, none⟩) hz).trans z5
  have N3 := Lib.hid (RdP.next N2.out HB3.out)
  have hz3 : cb + 1 < w3.heap.size := Nat.lt_of_lt_of_le hzr hb3.size
  have hs3 : W.heap.size ≤ w3.heap.size := hb3.size
  clear ho1 hb3
  try (go_wp2_with fail)
  refine hK.out _ _ ?_ (fun hNew => ?_)
  · exact ⟨y0, y1, y2, y3, y4, y5⟩
  clear hK K hHeld
  have hHeld := hNew
  clear hNew
  try simp only [Act.put, pB, pC, pD]
  refine wpAnyH_ready (rs := [7]) (by kernel_rfl) (by simp) ?_
  refine AllReadyH.cons rfl (fun K hK => ?_) AllReadyH.nil
  go_simp
  refine (cloneCh N3.out (fm_len chC_len ws) (ch_one ws) (by have := H4.out; omega)).mono ?_
  rintro e w4 ⟨v2, rfl, ho2, hb4⟩
  obtain ⟨A2, k2, rfl, hk2⟩ := own_len ho2
  have HO2 := Lib.hid ho2
  have HO1' := Lib.hid (own_next HO1.out hb4)
  have HB4 := Lib.hid (HB3.out.trans (hb4.mono hs3))
  have x0 := (HB4.out.cell (p := ⟨cb, 0, none⟩) hz).trans z0
  have x1 := (HB4.out.cell (p := ⟨cb, 1, none⟩) hz).trans z1
  have x2 := (HB4.out.cell (p := ⟨cb, 2, none⟩) hz).trans z2
  have x3 := (HB4.out.cell (p := ⟨cb, 3, none⟩) hz).trans z3
  have x4 := (HB4.out.cell (p := ⟨cb, 4, none⟩) hz).trans z4
  have x5 := (HB4.out.cell (p := ⟨cb, 5, none⟩) hz).trans z5
  have r4 := HRB.out.next HB4.out HRB.out.lt
  have R4 := Lib.hid r4
  have q0 := r4.cell 0
  have f0 := r4.frozen 0
  have q1 := r4.cell 1
  have f1 := r4.frozen 1
  have q2 := r4.cell 2
  have f2 := r4.frozen 2
  have q3 := r4.cell 3
  have f3 := r4.frozen 3
  have q4 := r4.cell 4
  have f4 := r4.frozen 4
  have q5 := r4.cell 5
  have f5 := r4.frozen 5
  simp only [qB, qC, qD] at q0 q1 q2 q3 q4 q5
  clear ho2 hb4 r4
  try (go_wp2_with fail)
  refine hK.out _ _ ?_ (fun hNew => ?_)
  · exact ⟨x0, x1, x2, x3, x4, x5⟩
  clear hK K hHeld
  have hHeld := hNew
  clear hNew
  try simp only [Act.put, pB, pC, pD]
  refine tk (v := ?_) 8 rfl (by kernel_rfl) (fun _ _ _ h => h) ?_ hHeld ?_
  rotate_left
  · (intro w h; (try dsimp only at h); go_simp; try with_reducible rfl)
  try simp only [Act.put, pB, pC, pD]
  refine wpAnyH_done (by kernel_rfl) ?_ _
  refine lastQ_step rfl (fun K hK => ?_)
  clear hHeld
  go_simp
  refine hK _ _ ?_
  clear hK K
  refine NoPanic.normal ?_
  clear z0 z1 z2 z3 z4 z5 y0 y1 y2 y3 y4 y5
  go_wp2_with fail
  have hg := only_set6 w4 (cb + 1) (.int .i64 t) (.int .i64 c) (.int .i64 n) (.string (bs ln)) (.slice A1 rs.length k1) (.slice A2 ws.length k2)
  have hk := Kept.of_blk [77] R4.out hg rfl
  have hbe := below_set6 (B := cb) ((HA.out.trans (HB4.out.mono (Nat.le_of_lt hz)))) (g := cb + 1) (by omega) (.int .i64 t) (.int .i64 c) (.int .i64 n) (.string (bs ln)) (.slice A1 rs.length k1) (.slice A2 ws.length k2)
  exact bodyPost_ret (v := .agg #[.int .i64 t, .int .i64 c, .int .i64 n, .string (bs ln), (.slice A1 rs.length k1), (.slice A2 ws.length k2)]) (by simp [results, Tryz.results83, go_sem, q0, q1, q2, q3, q4, q5]) rfl ⟨((.slice A1 rs.length k1), (.slice A2 ws.length k2)), rfl, ⟨RdP.keep (show RdCh w4 (.slice A1 rs.length k1) rs from Rd.of_own HO1'.out) hk rfl, RdP.keep (show RdCh w4 (.slice A2 ws.length k2) ws from Rd.of_own HO2.out) hk rfl⟩, by rw [HCB.out]; exact hbe⟩
end Go.Proofs.YtamjllakfgphnaaGreatDoor
namespace Go.Proofs.YtamjllakfgphnaaGreatDoor
open Go.RowKit
set_option linter.unusedSimpArgs false
set_option linter.unusedVariables false
attribute [local go_sem ↓] Go.wp_at_zero Go.wp_at_succ
def AppP (w0 : World) (F : Nat → Prop) (g : Nat) (s0 : St) (l : List Ac) (a : Ac) (e : Ending) (w' : World) : Prop :=
  e = .returned (.int .i64 (appR l a)) ∧ (appR l a = 0 → VAt w' (Grow F w0 w') g s0 (l ++ [a])) ∧ (appR l a ≠ 0 → Below w0.heap.size w0 w') ∧ Outer F w0 w' ∧ Kept LV w0 w'
theorem VNow.cells {w0 w : World} {F : Nat → Prop} {g : Nat} {pb : Option Addr} {va vk : Value} {pl : Option Addr} {bw br : Nat} {s0 sl : St} {la : List Ac} {lk : List St} {Dw : Nm → List Ver} {Dr : Nm → List Int} (h : VNow w0 F w g pb va vk pl bw br s0 sl la lk Dw Dr) :
    w.cell? ⟨g, 0, none⟩ = some (.pointer pb) ∧ w.cell? ⟨g, 1, none⟩ = some va ∧ w.cell? ⟨g, 2, none⟩ = some vk ∧ w.cell? ⟨g, 3, none⟩ = some (.pointer pl) ∧ w.cell? ⟨g, 4, none⟩ = some (.map (some bw)) ∧ w.cell? ⟨g, 5, none⟩ = some (.map (some br)) :=
  ⟨h.vin.blk.cell 0, h.vin.blk.cell 1, h.vin.blk.cell 2, h.vin.blk.cell 3, h.vin.blk.cell 4, h.vin.blk.cell 5⟩
def KeepP (W : World) (F : Nat → Prop) (w4 wx : World) (g : Nat) (pb : Option Addr) (va : Value) (pl : Option Addr) (bw br : Nat) (s0 : St) (l : List Ac) (a : Ac) : Prop :=
  ∃ vk, VNow W F wx g pb va vk pl bw br s0 (stS s0 l) l (keptS s0 (l ++ [a])) (fun n => vers n 0 l) (fun n => rdrs n 0 l) ∧ Kept LV w4 wx
theorem infoKp : (Tryz.prog.info? 44).map (fun i => (i.zero, i.size, i.bytes)) = some (some (.pointer none), 1, 8) := by kernel_rfl
def AppL1 (W : World) (F : Nat → Prop) (g : Nat) (pb : Option Addr) (va vk : Value) (pl : Option Addr) (bw br : Nat) (s0 s2 : St) (l : List Ac) (a : Ac) (lk : List St) (i : Value) (wr : World) : Prop :=
  ∃ k : Nat, k ≤ a.writes.length ∧ i = .int .i64 k ∧ VNow W F wr g pb va vk pl bw br s0 s2 (l ++ [a]) lk (fun n => versT l (a.writes.take k) n) (fun n => rdrs n 0 l)
def AppL2 (W : World) (F : Nat → Prop) (g : Nat) (pb : Option Addr) (va vk : Value) (pl : Option Addr) (bw br : Nat) (s0 s2 : St) (l : List Ac) (a : Ac) (lk : List St) (i : Value) (wr : World) : Prop :=
  ∃ k : Nat, k ≤ a.reads.length ∧ i = .int .i64 k ∧ VNow W F wr g pb va vk pl bw br s0 s2 (l ++ [a]) lk (fun n => vers n 0 (l ++ [a])) (fun n => rdrsT l (a.reads.take k) n)
theorem blk_map {w w' : World} {g t b : Nat} {cs : Array Value} {ents : List (Nm × Value)} (h : Blk w g t cs) (hm : MapAt w b ents) (hg : w.grownBy w' (some b)) : Blk w' g t cs := by
  obtain ⟨es, c, hb, _⟩ := hm
  exact h.grown hg (fun e => by
    injection e with e
    subst e
    unfold Blk at h
    rw [hb] at h
    cases h)
theorem own_map {w w' : World} {base e s n b : Nat} {v : Value} {xs : List Value} {ents : List (Nm × Value)} (h : w.ownsRow base e s v n xs) (hm : MapAt w b ents) (hg : w.grownBy w' (some b)) : w'.ownsRow base e s v n xs := by
  obtain ⟨es, c, hb, _⟩ := hm
  exact h.kept hg (.inr (own_not_map h hb))
theorem infoVe : (Tryz.prog.info? 68).map (fun i => (i.zero, i.size, i.bytes)) = some (some (.agg #[.int .i64 0, .string ⟨#[]⟩, .bool false]), 3, 32) := by kernel_rfl
theorem zeroveC (w : World) : (zeroValue 110).run Tryz.prog w = .ok (.slice none 0 0) w := by kernel_rfl
theorem zeroinC (w : World) : (zeroValue 33).run Tryz.prog w = .ok (.slice none 0 0) w := by kernel_rfl
theorem below_of_fail {w W w' : World} {B : Nat} (h : Below w.heap.size w W) (k : Below B W w') (hB : w.heap.size ≤ B) : Below w.heap.size w w' := h.trans (k.mono hB)
set_option maxRecDepth 100000 in
set_option maxHeartbeats 16000000 in
theorem append_is {w : World} {F : Nat → Prop} {g : Nat} {s0 : St} {l : List Ac} {a : Ac} {u : Value × Value} (hv : VAt w F g s0 l) (hF : ∀ i, F i → i < w.heap.size) (hu : UseAt w) (hn : NAc w u a) (ha : AcR a) (hl : ∀ b ∈ l, AcR b) (hs : StV (stS s0 l)) (hlen : l.length ≤ 100) :
    Calls Tryz.prog 80 #[.pointer (some ⟨g, 0, none⟩), acV a u] w (AppP w F g s0 l a) := by
  obtain ⟨pb, va, vk, pl, bw, br, hv⟩ := hv
  obtain ⟨B, rfl⟩ : ∃ B, pb = some ⟨B, 0, none⟩ := by obtain ⟨B, _, _, e, _⟩ := hv.base; exact ⟨B, e⟩
  obtain ⟨Aa, ca, rfl, hca⟩ : ∃ A c, va = .slice A l.length c ∧ l.length ≤ c := by obtain ⟨us, _, ho⟩ := hv.act; exact own_len ho
  obtain ⟨Ak, ck, rfl, hck⟩ : ∃ A c, vk = .slice A (keptS s0 l).length c ∧ (keptS s0 l).length ≤ c := by obtain ⟨us, _, ho⟩ := hv.kp; exact own_len ho
  obtain ⟨⟨t, c, n, ln⟩, rs, ws⟩ := a
  obtain ⟨u1, u2⟩ := u
  have hb0 := (Below.refl w.heap.size w).alloc (Nat.le_refl _) (.cells #[.int .i64 t, .int .i64 c, .int .i64 n, .string (bs ln), u1, u2] 77)
  have hz : w.heap.size < (w.alloc (.cells #[.int .i64 t, .int .i64 c, .int .i64 n, .string (bs ln), u1, u2] 77)).heap.size := by simp
  have zb := Blk.new w 77 #[.int .i64 t, .int .i64 c, .int .i64 n, .string (bs ln), u1, u2]
  have VN := Lib.hid (VNow.start (hv.next hb0))
  have HF := Lib.hid hF
  have HU := Lib.hid (hu.below hb0)
  have HN := Lib.hid (NAc.next hb0 hn)
  have HAR := Lib.hid ha
  have HL := Lib.hid hl
  have HS := Lib.hid hs
  have HB0 := Lib.hid hb0
  obtain ⟨x0, x1, x2, x3, x4, x5⟩ := VN.out.cells
  have z0 := zb.cell 0
  have z1 := zb.cell 1
  have z2 := zb.cell 2
  have z3 := zb.cell 3
  have z4 := zb.cell 4
  have z5 := zb.cell 5
  simp only [qB, qC, qD] at z0 z1 z2 z3 z4 z5
  have ZB := Lib.hid zb
  have i1 : (l.length : Int) ≤ 100 := by omega
  have i2 : (0 : Int) ≤ (l.length : Int) := by omega
  have i3 : decide ((65536 : Int) ≤ (l.length : Int)) = false := decide_eq_false (by omega)
  clear hv hF hu hn ha hl hs hb0 zb
  go_enter Tryz.func80, Tryz.ntmps80
  simp only [acV]
  go_upto_region 6 with (go_at_call 51; refine (none_is x0).mono ?_; rintro e w' ⟨rfl, rfl⟩)
  generalize w.alloc (.cells #[.int .i64 t, .int .i64 c, .int .i64 n, .string (bs ln), u1, u2] 77) = W at *
  generalize hcb : w.heap.size = cb at *
  have HCB := Lib.hid hcb
  clear hcb
  obtain ⟨bo, hbo⟩ : ∃ b, okAc ⟨⟨t, c, n, ln⟩, rs, ws⟩ = b := ⟨_, rfl⟩
  have HBO := Lib.hid hbo
  clear hbo
  go_wp2_with fail
  refine (wellFormed_is HN.out HAR.out HU.out).mono ?_
  rintro e w2 ⟨rfl, hb2⟩
  rw [HBO.out]
  have HB2 := Lib.hid hb2
  clear hb2
  cases bo with
  | false =>
    have HB3 := Lib.hid (below_of_fail (B := W.heap.size) (by rw [HCB.out]; exact HB0.out) HB2.out (by rw [HCB.out]; exact Nat.le_of_lt hz))
    go_wp2_with fail
    go_ret
    have er := appR_bad (l := l) HBO.out
    exact ⟨by rw [er]; rfl, fun h => (by rw [er] at h; cases h), fun _ => HB3.out, Outer.of_below HB3.out, Kept.of_below _ HB3.out⟩
  | true =>
    have V2 : Hid (VNow W F w2 g (some ⟨B, 0, none⟩) (.slice Aa l.length ca) (.slice Ak (keptS s0 l).length ck) pl bw br s0 (stS s0 l) l (keptS s0 l) (fun n => vers n 0 l) (fun n => rdrs n 0 l)) := Lib.hid (VN.out.next HB2.out)
    have hz2 : cb < w2.heap.size := Nat.lt_of_lt_of_le hz HB2.out.size
    have U2 := Lib.hid (HU.out.below HB2.out)
    have N2 := Lib.hid (NAc.next HB2.out HN.out)
    have Z2 := Lib.hid (ZB.out.next HB2.out ZB.out.lt)
    clear x0 x1 x2 x3 x4 x5 z0 z1 z2 z3 z4 z5
    obtain ⟨x0, x1, x2, x3, x4, x5⟩ := V2.out.cells
    have z0 := Z2.out.cell 0
    have z1 := Z2.out.cell 1
    have z2 := Z2.out.cell 2
    have z3 := Z2.out.cell 3
    have z4 := Z2.out.cell 4
    have z5 := Z2.out.cell 5
    simp only [qB, qC, qD] at z0 z1 z2 z3 z4 z5
    obtain ⟨bq, hbq⟩ : ∃ b, decide (appR l ⟨⟨t, c, n, ln⟩, rs, ws⟩ ≠ 0) = b := ⟨_, rfl⟩
    have HBQ := Lib.hid hbq
    clear hbq
    go_upto_region 8 with (fail)
    go_cut [40] (fun v40 wx => v40 = .bool bq ∧ Below w2.heap.size w2 wx)
    case first =>
      rcases Nat.eq_zero_or_pos l.length with hz0 | hz0
      · have g0 : decide ((0 : Int) < (l.length : Int)) = false := decide_eq_false (by omega)
        have gn : decide (0 < l.length) = false := decide_eq_false (by omega)
        have HQ : Hid (bq = false) := Lib.hid (by rw [← HBQ.out, List.eq_nil_of_length_eq_zero hz0, appR_nil HBO.out]; rfl)
        have HZ := Lib.hid hz0
        clear hz0
        go_quiet (fail)
        go_wp2_with fail
        go_meet
        case rel => exact ⟨by rw [HQ.out], below_drewN (Below.refl _ _) _⟩
      · obtain ⟨m, hm⟩ : ∃ m, l.length = m + 1 := ⟨l.length - 1, by omega⟩
        have g0 : decide ((0 : Int) < (l.length : Int)) = true := decide_eq_true (by omega)
        have gn : decide (0 < l.length) = true := decide_eq_true hz0
        have hml : m < l.length := by omega
        have hgl : g < w2.heap.size := V2.out.vin.blk.lt
        obtain ⟨b0, o, v1, v2, hbe, hb0l, _, _, y0, y1, y2, y3, _, _⟩ := RdAc.piece (show RdAc w2 (.slice Aa l.length ca) l from RowOwn.rd V2.out.vin.act) hml
        subst hbe
        have HE := Lib.hid (show l[m] = l.getLast (by intro e; rw [e] at hz0; cases hz0) by rw [List.getLast_eq_getElem]; congr 1; omega)
        have HKB := Lib.hid ((HL.out _ (List.getElem_mem hml)).1.2.1)
        have HKA := Lib.hid HAR.out.1.2.1
        have HQ : Hid (decide (cmpK ⟨t, c, n, ln⟩ l[m].key ≤ 0) = bq) := Lib.hid (by
          rw [← HBQ.out]
          have hne : l ≠ [] := by intro e; rw [e] at hz0; cases hz0
          have e2 : l = l.dropLast ++ [l[m]] := by rw [HE.out]; exact (List.dropLast_concat_getLast hne).symm
          have e3 : appR l ⟨⟨t, c, n, ln⟩, rs, ws⟩ = if cmpK l[m].key ⟨t, c, n, ln⟩ < 0 then 0 else 32 := by
            have := appR_snoc (l := l.dropLast) (b := l[m]) HBO.out
            rw [← e2] at this
            exact this
          rw [e3, cmpK_neg l[m].key]
          by_cases hc : cmpK ⟨t, c, n, ln⟩ l[m].key ≤ 0
          · rw [decide_eq_true hc, if_neg (by omega)]; rfl
          · rw [decide_eq_false hc, if_pos (by omega)]; rfl)
        obtain ⟨kb, hkb⟩ : ∃ kb, l[m].key = kb := ⟨_, rfl⟩
        rw [hkb] at y0 y1 y2 y3 HKB HQ
        clear hkb HE
        have g1 : (l.length : Int) - 1 = (m : Int) := by omega
        have g2 : IntKind.i64.wrap (m : Int) = (m : Int) := IntWalk.i64_in _ (by omega)
        have j1 : (0 : Int) ≤ (m : Int) := by omega
        have j2 : (m : Int) < (l.length : Int) := by omega
        have hbq := HQ.out
        have HM := Lib.hid hm
        clear hm
        refine wp_region_noPanic ?_
        refine wp_region_held_drew (S := (fun (w' : World) => w'.cell? ⟨cb, 0, none⟩ = some (.int .i64 t) ∧ w'.cell? ⟨cb, 1, none⟩ = some (.int .i64 c) ∧ w'.cell? ⟨cb, 2, none⟩ = some (.int .i64 n) ∧ w'.cell? ⟨cb, 3, none⟩ = some (.string (bs ln)) ∧ w'.cell? ⟨g, 1, none⟩ = some (.slice (some ⟨b0, o, none⟩) l.length ca) ∧ w'.cell? ⟨b0, o + m * 6, none⟩ = some (.int .i64 kb.tick) ∧ w'.cell? ⟨b0, o + m * 6 + 1, none⟩ = some (.int .i64 kb.cls) ∧ w'.cell? ⟨b0, o + m * 6 + 2, none⟩ = some (.int .i64 kb.num) ∧ w'.cell? ⟨b0, o + m * 6 + 3, none⟩ = some (.string (bs kb.lin)))) (by kernel_rfl) ?_ (fun hHeld => ?_)
        · exact ⟨z0, z1, z2, z3, x1, y0, y1, y2, y3⟩
        refine tk (v := ?_) 0 rfl (by kernel_rfl) (fun _ _ _ h => h) ?_ hHeld ?_
        rotate_left
        · (intro w h; (try dsimp only at h); go_simp; try with_reducible rfl)
        try simp only [Act.put, pB, pC, pD]
        refine tk (v := ?_) 1 rfl (by kernel_rfl) (fun _ _ _ h => h) ?_ hHeld ?_
        rotate_left
        · (intro w h; (try dsimp only at h); go_simp; try with_reducible rfl)
        try simp only [Act.put, pB, pC, pD]
        refine tk (v := ?_) 2 rfl (by kernel_rfl) (fun _ _ _ h => h) ?_ hHeld ?_
        rotate_left
        · (intro w h; (try dsimp only at h); go_simp; try with_reducible rfl)
        try simp only [Act.put, pB, pC, pD]
        refine tk (v := ?_) 3 rfl (by kernel_rfl) (fun _ _ _ h => h) ?_ hHeld ?_
        rotate_left
        · (intro w h; (try dsimp only at h); go_simp; try with_reducible rfl)
        try simp only [Act.put, pB, pC, pD]
        refine tk (v := ?_) 4 rfl (by kernel_rfl) (fun _ _ _ h => h) ?_ hHeld ?_
        rotate_left
        · (intro w h; (try dsimp only at h); go_simp; try with_reducible rfl)
        try simp only [Act.put, pB, pC, pD]
        refine tk (v := ?_) 5 rfl (by kernel_rfl) (fun _ _ _ h => h) ?_ hHeld ?_
        rotate_left
        · (intro w h; (try dsimp only at h); go_simp; try with_reducible rfl)
        try simp only [Act.put, pB, pC, pD]
        refine tk (v := ?_) 6 rfl (by kernel_rfl) (fun _ _ _ h => h) ?_ hHeld ?_
        rotate_left
        · (intro w h; (try dsimp only at h); go_simp; try with_reducible rfl)
        try simp only [Act.put, pB, pC, pD]
        refine tk (v := ?_) 7 rfl (by kernel_rfl) (fun _ _ _ h => h) ?_ hHeld ?_
        rotate_left
        · (intro w h; (try dsimp only at h); go_simp; try with_reducible rfl)
        try simp only [Act.put, pB, pC, pD]
        refine tk (v := ?_) 8 rfl (by kernel_rfl) (fun _ _ _ h => h) ?_ hHeld ?_
        rotate_left
        · (intro w h; (try dsimp only at h); go_simp; try with_reducible rfl)
        try simp only [Act.put, pB, pC, pD]
        refine tk (v := ?_) 9 rfl (by kernel_rfl) (fun _ _ _ h => h) ?_ hHeld ?_
        rotate_left
        · (intro w h; (try dsimp only at h); go_simp; try with_reducible rfl)
        try simp only [Act.put, pB, pC, pD]
        refine tk (v := ?_) 10 rfl (by kernel_rfl) (fun _ _ _ h => h) ?_ hHeld ?_
        rotate_left
        · (intro w h; (try dsimp only at h); go_simp; try with_reducible rfl)
        try simp only [Act.put, pB, pC, pD]
        refine tk (v := ?_) 11 rfl (by kernel_rfl) (fun _ _ _ h => h) ?_ hHeld ?_
        rotate_left
        · (intro w h; (try dsimp only at h); go_simp; try with_reducible rfl)
        try simp only [Act.put, pB, pC, pD]
        refine tk (v := ?_) 12 rfl (by kernel_rfl) (fun _ _ _ h => h) ?_ hHeld ?_
        rotate_left
        · (intro w h; (try dsimp only at h); go_simp; try with_reducible rfl)
        try simp only [Act.put, pB, pC, pD]
        refine tk (v := ?_) 13 rfl (by kernel_rfl) (fun _ _ _ h => h) ?_ hHeld ?_
        rotate_left
        · (intro w h; (try dsimp only at h); go_simp; try with_reducible rfl)
        try simp only [Act.put, pB, pC, pD]
        refine wpAnyH_ready (rs := [14]) (by kernel_rfl) (by simp) ?_
        refine AllReadyH.cons rfl (fun K hK => ?_) AllReadyH.nil
        go_simp
        refine (key_compare ⟨t, c, n, ln⟩ kb _ HKA.out HKB.out).mono ?_; rintro e w3 ⟨rfl, hb3'⟩; have hb3 := (Below.refl w2.heap.size w2).drew.trans hb3'; have HB3 := Lib.hid hb3; clear hb3'
        try (go_wp2_with fail)
        refine hK.out _ _ ?_ (fun hNew => ?_)
        · exact ⟨(hb3.cell (p := ⟨cb, 0, none⟩) hz2).trans z0, (hb3.cell (p := ⟨cb, 1, none⟩) hz2).trans z1, (hb3.cell (p := ⟨cb, 2, none⟩) hz2).trans z2, (hb3.cell (p := ⟨cb, 3, none⟩) hz2).trans z3, (hb3.cell (p := ⟨g, 1, none⟩) hgl).trans x1, (hb3.cell (p := ⟨b0, o + m * 6, none⟩) hb0l).trans y0, (hb3.cell (p := ⟨b0, o + m * 6 + 1, none⟩) hb0l).trans y1, (hb3.cell (p := ⟨b0, o + m * 6 + 2, none⟩) hb0l).trans y2, (hb3.cell (p := ⟨b0, o + m * 6 + 3, none⟩) hb0l).trans y3⟩
        clear hK K hHeld
        have hHeld := hNew
        clear hNew
        try simp only [Act.put, pB, pC, pD]
        refine tk (v := ?_) 15 rfl (by kernel_rfl) (fun _ _ _ h => h) ?_ hHeld ?_
        rotate_left
        · (intro w h; (try dsimp only at h); go_simp; try with_reducible rfl)
        try simp only [Act.put, pB, pC, pD]
        refine tk (v := ?_) 16 rfl (by kernel_rfl) (fun _ _ _ h => h) ?_ hHeld ?_
        rotate_left
        · (intro w h; (try dsimp only at h); go_simp; try with_reducible rfl)
        try simp only [Act.put, pB, pC, pD]
        refine wpAnyH_done (by kernel_rfl) ?_ _
        clear hHeld
        try simp only [List.getElem_toArray, List.getElem_cons_zero, List.getElem_cons_succ, Act.put, pB, pC, pD]
        refine NoPanic.normal ?_
        go_wp2_with fail
        go_meet
        case rel => exact ⟨rfl, HB3.out⟩
    case rest =>
      obtain ⟨rfl, hbx⟩ := hcut
      have HBX := Lib.hid hbx
      have V3 : Hid (VNow W F wc g (some ⟨B, 0, none⟩) (.slice Aa l.length ca) (.slice Ak (keptS s0 l).length ck) pl bw br s0 (stS s0 l) l (keptS s0 l) (fun n => vers n 0 l) (fun n => rdrs n 0 l)) := Lib.hid (V2.out.next HBX.out)
      have U3 := Lib.hid (U2.out.below HBX.out)
      have N3 := Lib.hid (NAc.next HBX.out N2.out)
      have Z3 := Lib.hid (Z2.out.next HBX.out Z2.out.lt)
      clear x0 x1 x2 x3 x4 x5 z0 z1 z2 z3 z4 z5 hbx
      cases bq with
      | true =>
        have HB3 := Lib.hid (below_of_fail (B := W.heap.size) (by rw [HCB.out]; exact HB0.out) (HB2.out.trans (HBX.out.mono HB2.out.size)) (by rw [HCB.out]; exact Nat.le_of_lt hz))
        go_wp2_with fail
        go_ret
        have er : appR l ⟨⟨t, c, n, ln⟩, rs, ws⟩ = 32 := by
          have h1 := of_decide_eq_true HBQ.out
          rcases List.eq_nil_or_concat l with rfl | ⟨l', b, rfl⟩
          · exact absurd (appR_nil HBO.out) h1
          · rw [List.concat_eq_append] at h1 ⊢
            rw [appR_snoc HBO.out] at h1 ⊢
            split at h1
            · exact absurd rfl h1
            · rw [if_neg (by assumption)]
        exact ⟨by rw [er]; rfl, fun h => (by rw [er] at h; cases h), fun _ => HB3.out, Outer.of_below HB3.out, Kept.of_below _ HB3.out⟩
      | false =>
        have HOK := Lib.hid (show appR l ⟨⟨t, c, n, ln⟩, rs, ws⟩ = 0 from Classical.byContradiction fun h => by have := HBQ.out; rw [decide_eq_true h] at this; cases this)
        have HOA : Hid (ordCh rs = true ∧ ordCh ws = true) := Lib.hid (by
          have := HBO.out
          unfold okAc at this
          simp only [Bool.and_eq_true] at this
          exact ⟨this.1.2, this.2⟩)
        have HCV : Hid (∀ c ∈ ws, ChV c) := Lib.hid (ord_ob HOA.out.2)
        obtain ⟨x0, x1, x2, x3, x4, x5⟩ := V3.out.cells
        have z5 := Z3.out.cell 5
        simp only [qB, qC, qD] at z5
        go_upto_region 10 with (fail)
        refine wp_region_noPanic ?_
        refine wp_region_held_drew (S := (fun (w' : World) => w'.cell? ⟨g, 3, none⟩ = some (.pointer pl) ∧ w'.cell? ⟨cb, 5, none⟩ = some u2)) (by kernel_rfl) ?_ (fun hHeld => ?_)
        · exact ⟨x3, z5⟩
        refine tk (v := ?_) 0 rfl (by kernel_rfl) (fun _ _ _ h => h) ?_ hHeld ?_
        rotate_left
        · (intro w h; (try dsimp only at h); go_simp; try with_reducible rfl)
        try simp only [Act.put, pB, pC, pD]
        refine tk (v := ?_) 1 rfl (by kernel_rfl) (fun _ _ _ h => h) ?_ hHeld ?_
        rotate_left
        · (intro w h; (try dsimp only at h); go_simp; try with_reducible rfl)
        try simp only [Act.put, pB, pC, pD]
        refine tk (v := ?_) 2 rfl (by kernel_rfl) (fun _ _ _ h => h) ?_ hHeld ?_
        rotate_left
        · (intro w h; (try dsimp only at h); go_simp; try with_reducible rfl)
        try simp only [Act.put, pB, pC, pD]
        refine tk (v := ?_) 3 rfl (by kernel_rfl) (fun _ _ _ h => h) ?_ hHeld ?_
        rotate_left
        · (intro w h; (try dsimp only at h); go_simp; try with_reducible rfl)
        try simp only [Act.put, pB, pC, pD]
        refine tk (v := ?_) 4 rfl (by kernel_rfl) (fun _ _ _ h => h) ?_ hHeld ?_
        rotate_left
        · (intro w h; (try dsimp only at h); go_simp; try with_reducible rfl)
        try simp only [Act.put, pB, pC, pD]
        refine tk (v := ?_) 5 rfl (by kernel_rfl) (fun _ _ _ h => h) ?_ hHeld ?_
        rotate_left
        · (intro w h; (try dsimp only at h); go_simp; try with_reducible rfl)
        try simp only [Act.put, pB, pC, pD]
        refine wpAnyH_ready (rs := [6]) (by kernel_rfl) (by simp) ?_
        refine AllReadyH.cons rfl (fun K hK => ?_) AllReadyH.nil
        go_simp
        refine (apply_st (StAt.drew V3.out.vin.last) HS.out (RdP.drew N3.out.2) HCV.out (UseAt.below U3.out (Below.refl _ _).drew) (Nat.le_trans HAR.out.2.2.2.2 (by decide))).mono ?_; rintro e w4 ⟨q, rfl, hq, hb4'⟩; have HQ4 := Lib.hid hq; have HB4 := Lib.hid ((Below.refl wc.heap.size wc).drew.trans hb4'); clear hq hb4'
        try (go_wp2_with fail)
        refine hK.out _ _ ?_ (fun hNew => ?_)
        · exact ⟨(HB4.out.cell (p := ⟨g, 3, none⟩) V3.out.vin.blk.lt).trans x3, (HB4.out.cell (p := ⟨cb, 5, none⟩) Z3.out.lt).trans z5⟩
        clear hK K hHeld
        have hHeld := hNew
        clear hNew
        try simp only [Act.put, pB, pC, pD]
        refine tk (v := ?_) 7 rfl (by kernel_rfl) (fun _ _ _ h => h) ?_ hHeld ?_
        rotate_left
        · (intro w h; (try dsimp only at h); go_simp; try with_reducible rfl)
        try simp only [Act.put, pB, pC, pD]
        refine tk (v := ?_) 8 rfl (by kernel_rfl) (fun _ _ _ h => h) ?_ hHeld ?_
        rotate_left
        · (intro w h; (try dsimp only at h); go_simp; try with_reducible rfl)
        try simp only [Act.put, pB, pC, pD]
        refine tk (v := ?_) 9 rfl (by kernel_rfl) (fun _ _ _ h => h) ?_ hHeld ?_
        rotate_left
        · (intro w h; (try dsimp only at h); go_simp; try with_reducible rfl)
        try simp only [Act.put, pB, pC, pD]
        refine tk (v := ?_) 10 rfl (by kernel_rfl) (fun _ _ _ h => h) ?_ hHeld ?_
        rotate_left
        · (intro w h; (try dsimp only at h); go_simp; try with_reducible rfl)
        try simp only [Act.put, pB, pC, pD]
        refine tk (v := ?_) 11 rfl (by kernel_rfl) (fun _ _ _ h => h) ?_ hHeld ?_
        rotate_left
        · (intro w h; (try dsimp only at h); go_simp; try with_reducible rfl)
        try simp only [Act.put, pB, pC, pD]
        refine wpAnyH_done (by kernel_rfl) ?_ _
        clear hHeld
        try simp only [List.getElem_toArray, List.getElem_cons_zero, List.getElem_cons_succ, Act.put, pB, pC, pD]
        refine NoPanic.normal ?_
        have hb4 := HB4.out
        clear x0 x1 x2 x3 x4 x5 z5
        have V4 : Hid (VNow W F w4 g (some ⟨B, 0, none⟩) (.slice Aa l.length ca) (.slice Ak (keptS s0 l).length ck) pl bw br s0 (stS s0 l) l (keptS s0 l) (fun n => vers n 0 l) (fun n => rdrs n 0 l)) := Lib.hid (V3.out.next hb4)
        have N4 := Lib.hid (NAc.next hb4 N3.out)
        have Z4 := Lib.hid (Z3.out.next hb4 Z3.out.lt)
        clear hb4
        go_upto_if 56 with (fail)
        go_cut [5] (fun v5 wx => v5 = .int .i64 l.length ∧ KeepP W F w4 wx g (some ⟨B, 0, none⟩) (.slice Aa l.length ca) pl bw br s0 l ⟨⟨t, c, n, ln⟩, rs, ws⟩)
        case first =>
          by_cases hm : l.length % 16 = 0
          · have m1 : ((l.length : Int) % 16 == 0) = true := by rw [beq_iff_eq]; omega
            have m2 : (l.length % 16 == 0) = true := by rw [beq_iff_eq]; omega
            have m3 : (l.length : Int) % 16 = 0 := by omega
            obtain ⟨x0, x1, x2, x3, x4, x5⟩ := V4.out.cells
            obtain ⟨us, hus, how⟩ := id V4.out.vin.kp
            have hkl : (keptS s0 l).length ≤ 100 := by rw [keptS_len]; omega
            have HM := Lib.hid hm
            have hbA := (Below.refl w4.heap.size w4).alloc (Nat.le_refl _) (.cells #[.pointer pl] 44)
            have VA : Hid (VNow W F (w4.alloc (.cells #[.pointer pl] 44)).drew g (some ⟨B, 0, none⟩) (.slice Aa l.length ca) (.slice Ak (keptS s0 l).length ck) pl bw br s0 (stS s0 l) l (keptS s0 l) (fun n => vers n 0 l) (fun n => rdrs n 0 l)) := Lib.hid (V4.out.next hbA.drew)
            have HUS := Lib.hid (hus.imp fun _ _ h => StAt.next h hbA.drew)
            have HOW : Hid ((w4.alloc (.cells #[.pointer pl] 44)).drew.ownsRow 0 44 1 (.slice Ak (keptS s0 l).length ck) (keptS s0 l).length (rowC kpC (keptS s0 l) us)) := Lib.hid (own_next how hbA.drew)
            obtain ⟨i0, hi, hz0, hz1, hz2⟩ := info_parts infoKp
            clear x0 x1 x4 x5 hus how hbA hm
            go_upto_region 14 with (fail)
            refine wp_region_noPanic ?_
            refine wp_region_last (S := (fun (w' : World) => w'.cell? ⟨g, 2, none⟩ = some (.slice Ak (keptS s0 l).length ck) ∧ w'.cell? ⟨g, 3, none⟩ = some (.pointer pl))) 13 13 rfl (by kernel_rfl) (by kernel_rfl) ?_ (fun hHeld => ?_)
            · exact ⟨x2, x3⟩
            refine tk (v := ?_) 0 rfl (by kernel_rfl) (fun _ _ _ h => h) ?_ hHeld ?_
            rotate_left
            · (intro w h; (try dsimp only at h); go_simp; try with_reducible rfl)
            try simp only [Act.put, pB, pC, pD]
            refine tk (v := ?_) 1 rfl (by kernel_rfl) (fun _ _ _ h => h) ?_ hHeld ?_
            rotate_left
            · (intro w h; (try dsimp only at h); go_simp; try with_reducible rfl)
            try simp only [Act.put, pB, pC, pD]
            refine tk (v := ?_) 2 rfl (by kernel_rfl) (fun _ _ _ h => h) ?_ hHeld ?_
            rotate_left
            · (intro w h; (try dsimp only at h); go_simp; try with_reducible rfl)
            try simp only [Act.put, pB, pC, pD]
            refine tk (v := ?_) 3 rfl (by kernel_rfl) (fun _ _ _ h => h) ?_ hHeld ?_
            rotate_left
            · (intro w h; (try dsimp only at h); go_simp; try with_reducible rfl)
            try simp only [Act.put, pB, pC, pD]
            refine tk (v := ?_) 4 rfl (by kernel_rfl) (fun _ _ _ h => h) ?_ hHeld ?_
            rotate_left
            · (intro w h; (try dsimp only at h); go_simp; try with_reducible rfl)
            try simp only [Act.put, pB, pC, pD]
            refine tk (v := ?_) 5 rfl (by kernel_rfl) (fun _ _ _ h => h) ?_ hHeld ?_
            rotate_left
            · (intro w h; (try dsimp only at h); go_simp; try with_reducible rfl)
            try simp only [Act.put, pB, pC, pD]
            refine tk (v := ?_) 6 rfl (by kernel_rfl) (fun _ _ _ h => h) ?_ hHeld ?_
            rotate_left
            · (intro w h; (try dsimp only at h); go_simp; try with_reducible rfl)
            try simp only [Act.put, pB, pC, pD]
            refine tk (v := ?_) 7 rfl (by kernel_rfl) (fun _ _ _ h => h) ?_ hHeld ?_
            rotate_left
            · (intro w h; (try dsimp only at h); go_simp; try with_reducible rfl)
            try simp only [Act.put, pB, pC, pD]
            refine tk (v := ?_) 8 rfl (by kernel_rfl) (fun _ _ _ h => h) ?_ hHeld ?_
            rotate_left
            · (intro w h; (try dsimp only at h); go_simp; try with_reducible rfl)
            try simp only [Act.put, pB, pC, pD]
            refine wpAnyH_ready (rs := [9]) (by kernel_rfl) (by simp) ?_
            refine AllReadyH.cons rfl (fun K hK => ?_) AllReadyH.nil
            go_simp
            refine hK.out _ _ ?_ (fun hNew => ?_)
            · exact ⟨(World.cell?_alloc_lt w4 _ _ V4.out.vin.blk.lt).trans x2, (World.cell?_alloc_lt w4 _ _ V4.out.vin.blk.lt).trans x3⟩
            clear hK K hHeld
            have hHeld := hNew
            clear hNew
            try simp only [Act.put, pB, pC, pD]
            refine wpAnyH_ready (rs := [10]) (by kernel_rfl) (by simp) ?_
            refine AllReadyH.cons rfl (fun K hK => ?_) AllReadyH.nil
            refine step_append_w _ (by rfl) _ _ _ (by rfl) 0 44 i0 _ 1 8 Tryz.underlying132 hi hz0 hz1 hz2 rfl (by omega) (.slice Ak (keptS s0 l).length ck) (keptS s0 l).length (rowC kpC (keptS s0 l) us) (by rfl) HOW.out (.slice (some ⟨w4.heap.size, 0, none⟩) 1 1) 1 [.pointer pl] (by rfl) (show Rd 44 (w4.alloc (.cells #[.pointer pl] 44)).drew _ 1 _ from Rd.of_own (own_new w4 0 44 1 [.pointer pl] rfl (Nat.zero_le _))) (by omega) (by rfl) (by simp [Value.oneCell']) (by unfold maxLen; omega) (by omega) (by omega) ?_; intro v5 w5 hown5 hg5 hat5; obtain ⟨A5, c5, rfl, _⟩ := own_len hown5; have hB5 := VA.out.vin.blk.grown hg5 (fun e => own_blk_ne HOW.out VA.out.vin.blk (by decide) e.symm); have HB5 := Lib.hid hB5; have HOW5 := Lib.hid hown5; have HG5 := Lib.hid hg5; have HAT5 := Lib.hid hat5; have y2 := hB5.cell 2; have y3 := hB5.cell 3; have yf := hB5.frozen 2; (simp only [qB, qC, qD] at y2 y3); clear hown5 hg5 hat5 hB5
            refine hK.out _ _ ?_ (fun hNew => ?_)
            · exact ⟨y2, y3⟩
            clear hK K hHeld
            have hHeld := hNew
            clear hNew
            try simp only [Act.put, pB, pC, pD]
            refine tk (v := ?_) 11 rfl (by kernel_rfl) (fun _ _ _ h => h) ?_ hHeld ?_
            rotate_left
            · (intro w h; (try dsimp only at h); go_simp; try with_reducible rfl)
            try simp only [Act.put, pB, pC, pD]
            refine tk (v := ?_) 12 rfl (by kernel_rfl) (fun _ _ _ h => h) ?_ hHeld ?_
            rotate_left
            · (intro w h; (try dsimp only at h); go_simp; try with_reducible rfl)
            try simp only [Act.put, pB, pC, pD]
            refine wpAnyH_done (by kernel_rfl) ?_ _
            refine lastQ_step rfl (fun K hK => ?_)
            clear hHeld
            go_simp
            refine hK _ _ ?_
            clear hK K
            refine NoPanic.normal ?_
            go_wp2_with fail
            go_meet
            case rel =>
              have h5 := VNow.kept_ VA.out HUS.out VA.out.vin.last HOW.out HG5.out HOW5.out (by rcases HAT5.out with h | h; exact .inl h; exact .inr ⟨_, h, Nat.le_refl _⟩)
              unfold KeepP
              rw [keptS_snoc, if_pos HM.out]
              have k1 : Kept LV w4 w5 := (Kept.of_below LV (((Below.refl w4.heap.size w4).alloc (Nat.le_refl _) (.cells #[.pointer pl] 44)).drew)).trans (Kept.of_own LV HOW.out HG5.out rfl)
              have hg2 : w5.grownBy (w5.setCell ⟨g, 2, none⟩ (.slice A5 ((keptS s0 l).length + 1) c5)) (some g) := only_setCell (only_of_below (Below.refl _ _) _) (.inl rfl) _
              exact ⟨rfl, _, h5, k1.trans (Kept.of_blk LV HB5.out hg2 rfl)⟩
          · have m1 : ((l.length : Int) % 16 == 0) = false := by rw [beq_eq_false_iff_ne]; omega
            have m2 : (l.length % 16 == 0) = false := by rw [beq_eq_false_iff_ne]; omega
            have m3 : ¬ (l.length : Int) % 16 = 0 := by omega
            have HM := Lib.hid hm
            clear hm
            go_wp2_with fail
            go_meet
            case rel =>
              unfold KeepP
              rw [keptS_snoc, if_neg HM.out]
              exact ⟨rfl, _, V4.out, Kept.refl _ _⟩
        case rest =>
          obtain ⟨rfl, vk, hvn, hbx⟩ := hcut
          have V4a := Lib.hid hvn
          have HQ5 := Lib.hid (HQ4.out.keep hbx rfl rfl)
          have N4a := Lib.hid (NAc.keep hbx rfl N4.out)
          have Z4a : Hid (Blk wc cb 77 #[.int .i64 t, .int .i64 c, .int .i64 n, .string (bs ln), u1, u2]) := Lib.hid ((hvn.out.block cb hz (fun h => by have := HF.out cb h; omega)).trans ZB.out)
          clear hvn hbx
          obtain ⟨x0, x1, x2, x3, x4, x5⟩ := V4a.out.cells
          have xf := V4a.out.vin.blk.frozen 3
          go_upto_region 16 with (fail)
          have V5 : Hid (VNow W F (wc.setCell ⟨g, 3, none⟩ (.pointer q)) g (some ⟨B, 0, none⟩) (.slice Aa l.length ca) vk q bw br s0 (appS (stS s0 l) ws) l (keptS s0 (l ++ [⟨⟨t, c, n, ln⟩, rs, ws⟩])) (fun n => vers n 0 l) (fun n => rdrs n 0 l)) := Lib.hid (V4a.out.last_ HQ5.out)
          have hg5 : wc.grownBy (wc.setCell ⟨g, 3, none⟩ (.pointer q)) (some g) := only_setCell (only_of_below (Below.refl _ _) _) (.inl rfl) _
          have k5 : Kept LV wc (wc.setCell ⟨g, 3, none⟩ (.pointer q)) := Kept.of_blk LV V4a.out.vin.blk hg5 rfl
          have N5 := Lib.hid (NAc.keep k5 rfl N4a.out)
          have Z5 : Hid (Blk (wc.setCell ⟨g, 3, none⟩ (.pointer q)) cb 77 #[.int .i64 t, .int .i64 c, .int .i64 n, .string (bs ln), u1, u2]) := Lib.hid ((V5.out.out.block cb hz (fun h => by have := HF.out cb h; omega)).trans ZB.out)
          have HNE : Hid ((Value.slice Aa l.length ca).ownBlock ≠ some cb) := Lib.hid (fun e => by
            rcases V5.out.vin.actF cb e with h | ⟨h, _⟩
            · have := HF.out cb h; omega
            · omega)
          clear x0 x1 x2 x3 x4 x5 xf hg5 k5
          generalize wc.setCell ⟨g, 3, none⟩ (.pointer q) = w5 at *
          obtain ⟨x0, x1, x2, x3, x4, x5⟩ := V5.out.cells
          have z0 := Z5.out.cell 0
          have z1 := Z5.out.cell 1
          have z2 := Z5.out.cell 2
          have z3 := Z5.out.cell 3
          have z4 := Z5.out.cell 4
          have z5 := Z5.out.cell 5
          simp only [qB, qC, qD] at z0 z1 z2 z3 z4 z5
          obtain ⟨us, hus, how⟩ := id V5.out.vin.act
          obtain ⟨i0, hi, hz0, hz1, hz2⟩ := info_parts infoAc
          clear x0 x2 x3 x4 x5
          refine wp_region_noPanic ?_
          refine wp_region_last (S := (fun (w' : World) => w'.cell? ⟨g, 1, none⟩ = some (.slice Aa l.length ca) ∧ w'.cell? ⟨cb, 0, none⟩ = some (.int .i64 t) ∧ w'.cell? ⟨cb, 1, none⟩ = some (.int .i64 c) ∧ w'.cell? ⟨cb, 2, none⟩ = some (.int .i64 n) ∧ w'.cell? ⟨cb, 3, none⟩ = some (.string (bs ln)) ∧ w'.cell? ⟨cb, 4, none⟩ = some (u1) ∧ w'.cell? ⟨cb, 5, none⟩ = some (u2))) 11 11 rfl (by kernel_rfl) (by kernel_rfl) ?_ (fun hHeld => ?_)
          · exact ⟨x1, z0, z1, z2, z3, z4, z5⟩
          refine tk (v := ?_) 0 rfl (by kernel_rfl) (fun _ _ _ h => h) ?_ hHeld ?_
          rotate_left
          · (intro w h; (try dsimp only at h); go_simp; try with_reducible rfl)
          try simp only [Act.put, pB, pC, pD]
          refine tk (v := ?_) 1 rfl (by kernel_rfl) (fun _ _ _ h => h) ?_ hHeld ?_
          rotate_left
          · (intro w h; (try dsimp only at h); go_simp; try with_reducible rfl)
          try simp only [Act.put, pB, pC, pD]
          refine tk (v := ?_) 2 rfl (by kernel_rfl) (fun _ _ _ h => h) ?_ hHeld ?_
          rotate_left
          · (intro w h; (try dsimp only at h); go_simp; try with_reducible rfl)
          try simp only [Act.put, pB, pC, pD]
          refine tk (v := ?_) 3 rfl (by kernel_rfl) (fun _ _ _ h => h) ?_ hHeld ?_
          rotate_left
          · (intro w h; (try dsimp only at h); go_simp; try with_reducible rfl)
          try simp only [Act.put, pB, pC, pD]
          refine tk (v := ?_) 4 rfl (by kernel_rfl) (fun _ _ _ h => h) ?_ hHeld ?_
          rotate_left
          · (intro w h; (try dsimp only at h); go_simp; try with_reducible rfl)
          try simp only [Act.put, pB, pC, pD]
          refine tk (v := ?_) 5 rfl (by kernel_rfl) (fun _ _ _ h => h) ?_ hHeld ?_
          rotate_left
          · (intro w h; (try dsimp only at h); go_simp; try with_reducible rfl)
          try simp only [Act.put, pB, pC, pD]
          refine wpAnyH_ready (rs := [6]) (by kernel_rfl) (by simp) ?_
          refine AllReadyH.cons rfl (fun K hK => ?_) AllReadyH.nil
          go_simp
          refine (copied_is (NAc.next (Below.refl w5.heap.size w5).drew N5.out) (Nat.le_trans HAR.out.2.2.2.1 (by decide)) (Nat.le_trans HAR.out.2.2.2.2 (by decide))).mono ?_; rintro e w6 ⟨⟨y1, y2⟩, rfl, hn6, hb6'⟩; obtain ⟨p1, k1, rfl, hk1⟩ := RdP.form hn6.1; obtain ⟨p2, k2, rfl, hk2⟩ := RdP.form hn6.2; (try simp only [acV]); have N6 := Lib.hid hn6; have hb6 := (Below.refl w5.heap.size w5).drew.trans hb6'; have HB6 := Lib.hid hb6; have V6 : Hid (VNow W F w6 g (some ⟨B, 0, none⟩) (.slice Aa l.length ca) vk q bw br s0 (appS (stS s0 l) ws) l (keptS s0 (l ++ [⟨⟨t, c, n, ln⟩, rs, ws⟩])) (fun n => vers n 0 l) (fun n => rdrs n 0 l)) := Lib.hid (V5.out.next hb6); have how6 := own_next how hb6; have hus6 := hus.imp fun _ _ h => NAc.next hb6 h; have HUS6 := Lib.hid (RowW.imp hus6 fun _ _ h => NAc.next ((Below.refl w6.heap.size w6).alloc (Nat.le_refl _) (.cells #[.int .i64 t, .int .i64 c, .int .i64 n, .string (bs ln), .slice p1 rs.length k1, .slice p2 ws.length k2] 77)) h); have HOW6 := Lib.hid (own_next how6 ((Below.refl w6.heap.size w6).alloc (Nat.le_refl _) (.cells #[.int .i64 t, .int .i64 c, .int .i64 n, .string (bs ln), .slice p1 rs.length k1, .slice p2 ws.length k2] 77))); have VA6 := Lib.hid (V6.out.next ((Below.refl w6.heap.size w6).alloc (Nat.le_refl _) (.cells #[.int .i64 t, .int .i64 c, .int .i64 n, .string (bs ln), .slice p1 rs.length k1, .slice p2 ws.length k2] 77))); have x1' := (hb6.cell (p := ⟨g, 1, none⟩) V5.out.vin.blk.lt).trans x1; have q0 := (hb6.cell (p := ⟨cb, 0, none⟩) Z5.out.lt).trans z0; have q1 := (hb6.cell (p := ⟨cb, 1, none⟩) Z5.out.lt).trans z1; have q2 := (hb6.cell (p := ⟨cb, 2, none⟩) Z5.out.lt).trans z2; have q3 := (hb6.cell (p := ⟨cb, 3, none⟩) Z5.out.lt).trans z3; have q4 := (hb6.cell (p := ⟨cb, 4, none⟩) Z5.out.lt).trans z4; have q5 := (hb6.cell (p := ⟨cb, 5, none⟩) Z5.out.lt).trans z5; clear hn6 hb6 hb6' how6 hus6
          try (go_wp2_with fail)
          refine hK.out _ _ ?_ (fun hNew => ?_)
          · exact ⟨x1', q0, q1, q2, q3, q4, q5⟩
          clear hK K hHeld
          have hHeld := hNew
          clear hNew
          try simp only [Act.put, pB, pC, pD]
          refine wpAnyH_ready (rs := [7]) (by kernel_rfl) (by simp) ?_
          refine AllReadyH.cons rfl (fun K hK => ?_) AllReadyH.nil
          go_simp
          refine hK.out _ _ ?_ (fun hNew => ?_)
          · exact ⟨(World.cell?_alloc_lt w6 _ _ V6.out.vin.blk.lt).trans x1', (World.cell?_alloc_lt w6 _ _ (Nat.lt_of_lt_of_le Z5.out.lt HB6.out.size)).trans q0, (World.cell?_alloc_lt w6 _ _ (Nat.lt_of_lt_of_le Z5.out.lt HB6.out.size)).trans q1, (World.cell?_alloc_lt w6 _ _ (Nat.lt_of_lt_of_le Z5.out.lt HB6.out.size)).trans q2, (World.cell?_alloc_lt w6 _ _ (Nat.lt_of_lt_of_le Z5.out.lt HB6.out.size)).trans q3, (World.cell?_alloc_lt w6 _ _ (Nat.lt_of_lt_of_le Z5.out.lt HB6.out.size)).trans q4, (World.cell?_alloc_lt w6 _ _ (Nat.lt_of_lt_of_le Z5.out.lt HB6.out.size)).trans q5⟩
          clear hK K hHeld
          have hHeld := hNew
          clear hNew
          try simp only [Act.put, pB, pC, pD]
          refine wpAnyH_ready (rs := [8]) (by kernel_rfl) (by simp) ?_
          refine AllReadyH.cons rfl (fun K hK => ?_) AllReadyH.nil
          refine step_append_w _ (by rfl) _ _ _ (by rfl) 0 77 i0 _ 6 88 Tryz.underlying45 hi hz0 hz1 hz2 rfl (by omega) (.slice Aa l.length ca) l.length (rowC acC l us) (by rfl) HOW6.out (.slice (some ⟨w6.heap.size, 0, none⟩) 1 1) 1 [.int .i64 t, .int .i64 c, .int .i64 n, .string (bs ln), .slice p1 rs.length k1, .slice p2 ws.length k2] (by rfl) (Rd.of_own (own_new w6 0 77 6 [.int .i64 t, .int .i64 c, .int .i64 n, .string (bs ln), .slice p1 rs.length k1, .slice p2 ws.length k2] rfl (Nat.zero_le _))) (by omega) (by rfl) (by simp [Value.oneCell']) (by unfold maxLen; omega) (by omega) (by omega) ?_; intro v7 w7 hown7 hg7 hat7; obtain ⟨A7, c7, rfl, _⟩ := own_len hown7; have hB7 := VA6.out.vin.blk.grown hg7 (fun e => own_blk_ne HOW6.out VA6.out.vin.blk (by decide) e.symm); have HB7 := Lib.hid hB7; have HOW7 := Lib.hid hown7; have HG7 := Lib.hid hg7; have HAT7 := Lib.hid hat7; have r1 := hB7.cell 1; have rf := hB7.frozen 1; (simp only [qB, qC, qD] at r1); have hcb7 : w7.heap[cb]? = (w6.alloc (.cells #[.int .i64 t, .int .i64 c, .int .i64 n, .string (bs ln), .slice p1 rs.length k1, .slice p2 ws.length k2] 77)).heap[cb]? := hg7.block cb (by have := Z5.out.lt; have := HB6.out.size; simp; omega) (fun e => HNE.out e.symm); have e0 := (World.cell?_of_block (a := ⟨cb, 0, none⟩) hcb7).trans ((World.cell?_alloc_lt w6 _ _ (Nat.lt_of_lt_of_le Z5.out.lt HB6.out.size)).trans q0); have e1 := (World.cell?_of_block (a := ⟨cb, 1, none⟩) hcb7).trans ((World.cell?_alloc_lt w6 _ _ (Nat.lt_of_lt_of_le Z5.out.lt HB6.out.size)).trans q1); have e2 := (World.cell?_of_block (a := ⟨cb, 2, none⟩) hcb7).trans ((World.cell?_alloc_lt w6 _ _ (Nat.lt_of_lt_of_le Z5.out.lt HB6.out.size)).trans q2); have e3 := (World.cell?_of_block (a := ⟨cb, 3, none⟩) hcb7).trans ((World.cell?_alloc_lt w6 _ _ (Nat.lt_of_lt_of_le Z5.out.lt HB6.out.size)).trans q3); have e4 := (World.cell?_of_block (a := ⟨cb, 4, none⟩) hcb7).trans ((World.cell?_alloc_lt w6 _ _ (Nat.lt_of_lt_of_le Z5.out.lt HB6.out.size)).trans q4); have e5 := (World.cell?_of_block (a := ⟨cb, 5, none⟩) hcb7).trans ((World.cell?_alloc_lt w6 _ _ (Nat.lt_of_lt_of_le Z5.out.lt HB6.out.size)).trans q5); clear hown7 hg7 hat7 hB7 hcb7
          refine hK.out _ _ ?_ (fun hNew => ?_)
          · exact ⟨r1, e0, e1, e2, e3, e4, e5⟩
          clear hK K hHeld
          have hHeld := hNew
          clear hNew
          try simp only [Act.put, pB, pC, pD]
          refine tk (v := ?_) 9 rfl (by kernel_rfl) (fun _ _ _ h => h) ?_ hHeld ?_
          rotate_left
          · (intro w h; (try dsimp only at h); go_simp; try with_reducible rfl)
          try simp only [Act.put, pB, pC, pD]
          refine tk (v := ?_) 10 rfl (by kernel_rfl) (fun _ _ _ h => h) ?_ hHeld ?_
          rotate_left
          · (intro w h; (try dsimp only at h); go_simp; try with_reducible rfl)
          try simp only [Act.put, pB, pC, pD]
          refine wpAnyH_done (by kernel_rfl) ?_ _
          refine lastQ_step rfl (fun K hK => ?_)
          clear hHeld
          go_simp
          refine hK _ _ ?_
          clear hK K
          refine NoPanic.normal ?_
          have V8 := Lib.hid (VNow.act_ VA6.out HUS6.out (a := ⟨⟨t, c, n, ln⟩, rs, ws⟩) (u := (.slice p1 rs.length k1, .slice p2 ws.length k2)) (NAc.next ((Below.refl w6.heap.size w6).alloc (Nat.le_refl _) (.cells #[.int .i64 t, .int .i64 c, .int .i64 n, .string (bs ln), .slice p1 rs.length k1, .slice p2 ws.length k2] 77)) N6.out) HOW6.out HG7.out HOW7.out (by rcases HAT7.out with h | h; exact .inl h; exact .inr ⟨_, h, Nat.le_refl _⟩))
          clear x1 z0 z1 z2 z3 z4 z5 x1' q0 q1 q2 q3 q4 q5 r1 rf e0 e1 e2 e3 e4 e5 hi hz0 hz1 hz2 hus how
          have Z8 : Hid (Blk (w7.setCell ⟨g, 1, none⟩ (.slice A7 (l.length + 1) c7)) cb 77 #[.int .i64 t, .int .i64 c, .int .i64 n, .string (bs ln), u1, u2]) := Lib.hid ((V8.out.out.block cb hz (fun h => by have := HF.out cb h; omega)).trans ZB.out)
          go_upto_region 17 with (fail)
          generalize w7.setCell ⟨g, 1, none⟩ (.slice A7 (l.length + 1) c7) = w8 at *
          have hr2 : RdCh w8 u2 ws := (NAc.keep V8.out.kept rfl HN.out).2
          have hr1 : RdCh w8 u1 rs := (NAc.keep V8.out.kept rfl HN.out).1
          obtain ⟨A2, c2, rfl, hc2⟩ := RdP.form hr2
          obtain ⟨A1, c1, rfl, hc1⟩ := RdP.form hr1
          have z5 : w8.cell? ⟨cb, 5, none⟩ = some (.slice A2 ws.length c2) := Z8.out.cell 5
          have j0 : ws.length ≤ 10 := HAR.out.2.2.2.2
          have j00 : rs.length ≤ 10 := HAR.out.2.2.2.1
          have HLA := Lib.hid (show ∀ b ∈ l, b.writes.length ≤ 10 ∧ b.reads.length ≤ 10 from fun b hb => ⟨(HL.out b hb).2.2.2.2, (HL.out b hb).2.2.2.1⟩)
          have H0 : Hid (AppL1 W F g (some ⟨B, 0, none⟩) (.slice A7 (l.length + 1) c7) vk q bw br s0 (appS (stS s0 l) ws) l ⟨⟨t, c, n, ln⟩, rs, ws⟩ (keptS s0 (l ++ [⟨⟨t, c, n, ln⟩, rs, ws⟩])) (.int .i64 (0 : Nat)) w8) := Lib.hid ⟨0, Nat.zero_le _, rfl, V8.out.data (fun n => (versT_nil l n).symm) (fun n => rfl)⟩
          clear hr1 hr2
          go_wp2
          clear z5
          go_loopw [88] (fun i wr => AppL1 W F g (some ⟨B, 0, none⟩) (.slice A7 (l.length + 1) c7) vk q bw br s0 (appS (stS s0 l) ws) l ⟨⟨t, c, n, ln⟩, rs, ws⟩ (keptS s0 (l ++ [⟨⟨t, c, n, ln⟩, rs, ws⟩])) i wr) (fun i _ => ws.length - (intOf i).toNat)
          case atStart => exact H0.out
          case round =>
            clear H0
            obtain ⟨k, hkl, rfl, hvn⟩ := hrel
            have V9 := Lib.hid hvn
            clear hvn
            simp only at hkl
            by_cases hk : k < ws.length
            · have j1 : (0 : Int) ≤ (k : Int) := by omega
              have j2 : (k : Int) < (ws.length : Int) := by omega
              have j3 : decide ((k : Int) < (ws.length : Int)) = true := decide_eq_true j2
              have hN9 := NAc.keep V9.out.kept rfl HN.out
              obtain ⟨b, o, hbe, hbw, y0, y1, y2, y3, y4, y5, y6⟩ := RdCh.piece (show RdCh wr (.slice A2 ws.length c2) ws from hN9.2) hk
              subst hbe
              obtain ⟨ch, hch⟩ : ∃ ch, ws[k] = ch := ⟨_, rfl⟩
              rw [hch] at y0 y1 y2 y3 y4 y5 y6
              have HCE := Lib.hid hch
              clear hch hN9
              go_upto_region 20 with (fail)
              have hbb := (Below.refl wr.heap.size wr).alloc (Nat.le_refl _) (.cells #[.int .i64 ch.name.kind, .string (bs ch.name.owner), .int .i64 ch.name.num, .int .i64 ch.name.idx, .string (bs ch.name.text), .string (bs ch.value), .bool ch.absent] 105)
              have VB := Lib.hid (V9.out.next hbb)
              have ZC : Hid (Blk (wr.alloc (.cells #[.int .i64 ch.name.kind, .string (bs ch.name.owner), .int .i64 ch.name.num, .int .i64 ch.name.idx, .string (bs ch.name.text), .string (bs ch.value), .bool ch.absent] 105)) wr.heap.size 105 #[.int .i64 ch.name.kind, .string (bs ch.name.owner), .int .i64 ch.name.num, .int .i64 ch.name.idx, .string (bs ch.name.text), .string (bs ch.value), .bool ch.absent]) := Lib.hid (Blk.new wr 105 #[.int .i64 ch.name.kind, .string (bs ch.name.owner), .int .i64 ch.name.num, .int .i64 ch.name.idx, .string (bs ch.name.text), .string (bs ch.value), .bool ch.absent])
              clear y0 y1 y2 y3 y4 y5 y6 hbb
              generalize wr.alloc (.cells #[.int .i64 ch.name.kind, .string (bs ch.name.owner), .int .i64 ch.name.num, .int .i64 ch.name.idx, .string (bs ch.name.text), .string (bs ch.value), .bool ch.absent] 105) = wb at *
              generalize wr.heap.size = cc at *
              obtain ⟨x0, x1, x2, x3, x4, x5⟩ := VB.out.cells

              have v0 : wb.cell? ⟨cc, 0, none⟩ = some (.int .i64 ch.name.kind) := ZC.out.cell 0
              have v1 : wb.cell? ⟨cc, 1, none⟩ = some (.string (bs ch.name.owner)) := ZC.out.cell 1
              have v2 : wb.cell? ⟨cc, 2, none⟩ = some (.int .i64 ch.name.num) := ZC.out.cell 2
              have v3 : wb.cell? ⟨cc, 3, none⟩ = some (.int .i64 ch.name.idx) := ZC.out.cell 3
              have v4 : wb.cell? ⟨cc, 4, none⟩ = some (.string (bs ch.name.text)) := ZC.out.cell 4
              have v5 : wb.cell? ⟨cc, 5, none⟩ = some (.string (bs ch.value)) := ZC.out.cell 5
              have v6 : wb.cell? ⟨cc, 6, none⟩ = some (.bool ch.absent) := ZC.out.cell 6
              have hbq := ((Below.refl wb.heap.size wb).alloc (Nat.le_refl _) (.cells #[.int .i64 l.length, .string (bs ch.value), .bool ch.absent] 68)).drew
              have VQ := Lib.hid (VB.out.next hbq)
              have ZQ := Lib.hid (ZC.out.next hbq ZC.out.lt)
              obtain ⟨ents, Ad, cd, hm, hve, hown, hback⟩ := VQ.out.wr_ ch.name
              obtain ⟨dl, hdl⟩ : ∃ dl, versT l (ws.take k) ch.name = dl := ⟨_, rfl⟩
              simp only [hdl] at hve hown hback
              have HDL := Lib.hid hdl
              have hdn : dl.length ≤ 2000 := by
                rw [← hdl]
                unfold versT
                have h1 := vers_len ch.name 0 l fun b hb => (HLA.out b hb).1
                have h2 := filt_len (ws.take k) ch.name
                have h3 := List.length_take_le k ws
                simp only [List.length_append, List.length_map]
                omega
              have HM := Lib.hid hm
              have HVE := Lib.hid hve
              have HOWN := Lib.hid hown
              have HBACK := Lib.hid hback
              clear hm hve hown hback hdl hbq x0 x1 x2 x3 x5
              obtain ⟨i0, hi, hz0, hz1, hz2⟩ := info_parts infoVe
              refine wp_region_noPanic ?_
              refine wp_region_last (S := (fun (w' : World) => w'.cell? ⟨g, 4, none⟩ = some (.map (some bw)) ∧ w'.cell? ⟨cc, 0, none⟩ = some (.int .i64 ch.name.kind) ∧ w'.cell? ⟨cc, 1, none⟩ = some (.string (bs ch.name.owner)) ∧ w'.cell? ⟨cc, 2, none⟩ = some (.int .i64 ch.name.num) ∧ w'.cell? ⟨cc, 3, none⟩ = some (.int .i64 ch.name.idx) ∧ w'.cell? ⟨cc, 4, none⟩ = some (.string (bs ch.name.text)) ∧ w'.cell? ⟨cc, 5, none⟩ = some (.string (bs ch.value)) ∧ w'.cell? ⟨cc, 6, none⟩ = some (.bool ch.absent))) 17 17 rfl (by kernel_rfl) (by kernel_rfl) ?_ (fun hHeld => ?_)
              · exact ⟨x4, v0, v1, v2, v3, v4, v5, v6⟩
              refine tk (v := ?_) 0 rfl (by kernel_rfl) (fun _ _ _ h => h) ?_ hHeld ?_
              rotate_left
              · (intro w h; (try dsimp only at h); go_simp; try with_reducible rfl)
              try simp only [Act.put, pB, pC, pD]
              refine tk (v := ?_) 1 rfl (by kernel_rfl) (fun _ _ _ h => h) ?_ hHeld ?_
              rotate_left
              · (intro w h; (try dsimp only at h); go_simp; try with_reducible rfl)
              try simp only [Act.put, pB, pC, pD]
              refine tk (v := ?_) 2 rfl (by kernel_rfl) (fun _ _ _ h => h) ?_ hHeld ?_
              rotate_left
              · (intro w h; (try dsimp only at h); go_simp; try with_reducible rfl)
              try simp only [Act.put, pB, pC, pD]
              refine tk (v := ?_) 3 rfl (by kernel_rfl) (fun _ _ _ h => h) ?_ hHeld ?_
              rotate_left
              · (intro w h; (try dsimp only at h); go_simp; try with_reducible rfl)
              try simp only [Act.put, pB, pC, pD]
              refine tk (v := ?_) 4 rfl (by kernel_rfl) (fun _ _ _ h => h) ?_ hHeld ?_
              rotate_left
              · (intro w h; (try dsimp only at h); go_simp; try with_reducible rfl)
              try simp only [Act.put, pB, pC, pD]
              refine tk (v := ?_) 5 rfl (by kernel_rfl) (fun _ _ _ h => h) ?_ hHeld ?_
              rotate_left
              · (intro w h; (try dsimp only at h); go_simp; try with_reducible rfl)
              try simp only [Act.put, pB, pC, pD]
              refine tk (v := ?_) 6 rfl (by kernel_rfl) (fun _ _ _ h => h) ?_ hHeld ?_
              rotate_left
              · (intro w h; (try dsimp only at h); go_simp; try with_reducible rfl)
              try simp only [Act.put, pB, pC, pD]
              refine tk (v := ?_) 7 rfl (by kernel_rfl) (fun _ _ _ h => h) ?_ hHeld ?_
              rotate_left
              · (intro w h; (try dsimp only at h); go_simp; try with_reducible rfl)
              try simp only [Act.put, pB, pC, pD]
              refine tk (v := ?_) 8 rfl (by kernel_rfl) (fun _ _ _ h => h) ?_ hHeld ?_
              rotate_left
              · (intro w h; (try dsimp only at h); go_simp; try with_reducible rfl)
              try simp only [Act.put, pB, pC, pD]
              refine tk (v := ?_) 9 rfl (by kernel_rfl) (fun _ _ _ h => h) ?_ hHeld ?_
              rotate_left
              · (intro w h; (try dsimp only at h); go_simp; try with_reducible rfl)
              try simp only [Act.put, pB, pC, pD]
              refine tk (v := ?_) 10 rfl (by kernel_rfl) (fun _ _ _ h => h) ?_ hHeld ?_
              rotate_left
              · (intro w h; (try dsimp only at h); go_simp; try with_reducible rfl)
              try simp only [Act.put, pB, pC, pD]
              refine tk (v := ?_) 11 rfl (by kernel_rfl) (fun _ _ _ h => h) ?_ hHeld ?_
              rotate_left
              · (intro w h; (try dsimp only at h); go_simp; try with_reducible rfl)
              try simp only [Act.put, pB, pC, pD]
              refine wpAnyH_ready (rs := [12]) (by kernel_rfl) (by simp) ?_
              refine AllReadyH.cons rfl (fun K hK => ?_) AllReadyH.nil
              go_simp
              refine hK.out _ _ ?_ (fun hNew => ?_)
              · exact ⟨(World.cell?_alloc_lt wb _ _ VB.out.vin.blk.lt).trans x4, (World.cell?_alloc_lt wb _ _ ZC.out.lt).trans v0, (World.cell?_alloc_lt wb _ _ ZC.out.lt).trans v1, (World.cell?_alloc_lt wb _ _ ZC.out.lt).trans v2, (World.cell?_alloc_lt wb _ _ ZC.out.lt).trans v3, (World.cell?_alloc_lt wb _ _ ZC.out.lt).trans v4, (World.cell?_alloc_lt wb _ _ ZC.out.lt).trans v5, (World.cell?_alloc_lt wb _ _ ZC.out.lt).trans v6⟩
              clear hK K hHeld
              have hHeld := hNew
              clear hNew
              try simp only [Act.put, pB, pC, pD]
              refine wpAnyH_ready (rs := [13]) (by kernel_rfl) (by simp) ?_
              refine AllReadyH.cons rfl (fun K hK => ?_) AllReadyH.nil
              refine step_entry_nm _ (by rfl) _ _ 133 (by rfl) Tryz.underlying133 (zeroveC _) bw ents (by rfl) HM.out ch.name (by rfl) (.slice Ad dl.length cd) HVE.out ?_; intro w6 st hg6 hm6 hst; have hG6 := blk_map VQ.out.vin.blk HM.out hg6; have hC6 := blk_map ZQ.out HM.out hg6; have HW6 := Lib.hid (own_map HOWN.out HM.out hg6); have HN6 := Lib.hid (own_map (show (wb.alloc (.cells #[.int .i64 l.length, .string (bs ch.value), .bool ch.absent] 68)).drew.ownsRow 0 68 3 (.slice (some ⟨wb.heap.size, 0, none⟩) 1 1) 1 [.int .i64 l.length, .string (bs ch.value), .bool ch.absent] from own_new wb 0 68 3 [.int .i64 l.length, .string (bs ch.value), .bool ch.absent] rfl (Nat.zero_le _)) HM.out hg6); have HG6 := Lib.hid hg6; have HBG := Lib.hid hG6; have HBC := Lib.hid hC6; have HM6 := Lib.hid hm6; have HST := Lib.hid hst; have g6 := hG6.cell 4; have e0 := hC6.cell 0; have e1 := hC6.cell 1; have e2 := hC6.cell 2; have e3 := hC6.cell 3; have e4 := hC6.cell 4; have e5 := hC6.cell 5; have e6 := hC6.cell 6; (simp only [qB, qC, qD] at g6 e0 e1 e2 e3 e4 e5 e6); clear hg6 hm6 hst hG6 hC6
              refine hK.out _ _ ?_ (fun hNew => ?_)
              · exact ⟨g6, e0, e1, e2, e3, e4, e5, e6⟩
              clear hK K hHeld
              have hHeld := hNew
              clear hNew
              try simp only [Act.put, pB, pC, pD]
              refine tk (v := ?_) 14 rfl (by kernel_rfl) (fun _ _ _ h => h) ?_ hHeld ?_
              rotate_left
              · (intro w h; (try dsimp only at h); go_simp; try with_reducible rfl)
              try simp only [Act.put, pB, pC, pD]
              refine tk (v := ?_) 16 rfl (by kernel_rfl) (fun _ _ _ h => h) ?_ hHeld ?_
              rotate_left
              · (intro w h; (try dsimp only at h); go_simp; try with_reducible rfl)
              try simp only [Act.put, pB, pC, pD]
              refine wpAnyH_ready (rs := [15]) (by kernel_rfl) (by simp) ?_
              refine AllReadyH.cons rfl (fun K hK => ?_) AllReadyH.nil
              refine step_append_w _ (by rfl) _ _ _ (by rfl) 0 68 i0 _ 3 32 Tryz.underlying110 hi hz0 hz1 hz2 rfl (by omega) (.slice Ad dl.length cd) dl.length (dl.flatMap veC) (by rfl) HW6.out (.slice (some ⟨wb.heap.size, 0, none⟩) 1 1) 1 [.int .i64 l.length, .string (bs ch.value), .bool ch.absent] (by rfl) (Rd.of_own HN6.out) (by omega) (by rfl) (by simp [Value.oneCell']) (by unfold maxLen; omega) (by omega) (by omega) ?_; intro v7 w7 hown7 hg7 hat7; obtain ⟨A9, c9, rfl, _⟩ := own_len hown7; have hG7 := HBG.out.grown hg7 (fun e => own_blk_ne HW6.out HBG.out (by decide) e.symm); have hC7 := HBC.out.grown hg7 (fun e => own_blk_ne HW6.out HBC.out (by decide) e.symm); obtain ⟨es6, cl6, hm6⟩ := HM6.out; have hb7 : w7.heap[bw]? = w6.heap[bw]? := hg7.block bw (Array.getElem?_eq_some_iff.1 hm6).1 (fun e => own_not_map HW6.out hm6 e.symm); obtain ⟨w8', hrun8, hm8, hg8⟩ := HST.out w7 (.slice A9 (dl.length + 1) c9) hb7; have HB7 := Lib.hid hb7; have HOW7 := Lib.hid hown7; have HG7 := Lib.hid hg7; have HAT7 := Lib.hid hat7; have HM8 := Lib.hid hm8; have HG8 := Lib.hid hg8; have HMM := Lib.hid hm6; have r6 := hG7.cell 4; have tt0 := hC7.cell 0; have tt1 := hC7.cell 1; have tt2 := hC7.cell 2; have tt3 := hC7.cell 3; have tt4 := hC7.cell 4; have tt5 := hC7.cell 5; have tt6 := hC7.cell 6; (simp only [qB, qC, qD] at r6 tt0 tt1 tt2 tt3 tt4 tt5 tt6); clear hown7 hg7 hat7 hG7 hC7 hm6 hb7 hm8 hg8
              refine hK.out _ _ ?_ (fun hNew => ?_)
              · exact ⟨r6, tt0, tt1, tt2, tt3, tt4, tt5, tt6⟩
              clear hK K hHeld
              have hHeld := hNew
              clear hNew
              try simp only [Act.put, pB, pC, pD]
              refine wpAnyH_done (by kernel_rfl) ?_ _
              refine lastQ_step rfl (fun K hK => ?_)
              clear hHeld
              go_simp
              refine hK _ _ ?_
              clear hK K
              refine NoPanic.normal ?_
              clear x4 g6 r6 v0 e0 tt0 v1 e1 tt1 v2 e2 tt2 v3 e3 tt3 v4 e4 tt4 v5 e5 tt5 v6 e6 tt6 hrun8
              go_wp2_with fail
              go_roundw
              case rel =>
                have h9 := HBACK.out w7 w8' (.slice A9 (dl.length + 1) c9) (x := (⟨(l.length : Int), ch.value, ch.absent⟩ : Ver)) (((Chg.refl _ _ _).map_ HG6.out).row_ HG7.out) ⟨es6, cl6, HB7.out.trans HMM.out⟩ HOW7.out (by rcases HAT7.out with h | h; exact .inl h; exact .inr ⟨_, h, HG6.out.size⟩) HM8.out HG8.out
                refine ⟨k + 1, by simp only; omega, by go_num, h9.data (fun n => ?_) (fun n => ?_)⟩
                · rw [versT_take l ws k hk n, HCE.out, HDL.out]
                · rfl
              case measure => simp [intOf]; omega
            · have HK := Lib.hid hk
              have HI := Lib.hid (show k = ws.length by omega)
              have V10 : Hid (VNow W F wr g (some ⟨B, 0, none⟩) (.slice A7 (l.length + 1) c7) vk q bw br s0 (appS (stS s0 l) ws) (l ++ [⟨⟨t, c, n, ln⟩, rs, ws⟩]) (keptS s0 (l ++ [⟨⟨t, c, n, ln⟩, rs, ws⟩])) (fun nm => vers nm 0 (l ++ [⟨⟨t, c, n, ln⟩, rs, ws⟩])) (fun n => rdrs n 0 l)) := Lib.hid (V9.out.data (fun n => by
                have := HI.out
                subst this
                rw [List.take_length, ← versT_all]) (fun n => rfl))
              have Z9 : Hid (Blk wr cb 77 #[.int .i64 t, .int .i64 c, .int .i64 n, .string (bs ln), .slice A1 rs.length c1, .slice A2 ws.length c2]) := Lib.hid ((V10.out.out.block cb hz (fun h => by have := HF.out cb h; omega)).trans ZB.out)
              have z4 : wr.cell? ⟨cb, 4, none⟩ = some (.slice A1 rs.length c1) := Z9.out.cell 4
              have H0 : Hid (AppL2 W F g (some ⟨B, 0, none⟩) (.slice A7 (l.length + 1) c7) vk q bw br s0 (appS (stS s0 l) ws) l ⟨⟨t, c, n, ln⟩, rs, ws⟩ (keptS s0 (l ++ [⟨⟨t, c, n, ln⟩, rs, ws⟩])) (.int .i64 (0 : Nat)) wr) := Lib.hid ⟨0, Nat.zero_le _, rfl, V10.out.data (fun n => rfl) (fun n => (rdrsT_nil l n).symm)⟩
              have nk : decide ((k : Int) < (ws.length : Int)) = false := decide_eq_false (by omega)
              go_wp2
              clear z4
              obtain ⟨wo, hwo⟩ : ∃ wo : World, wo = wr := ⟨_, rfl⟩
              subst hwo
              go_loopw [113] (fun i wr => AppL2 W F g (some ⟨B, 0, none⟩) (.slice A7 (l.length + 1) c7) vk q bw br s0 (appS (stS s0 l) ws) l ⟨⟨t, c, n, ln⟩, rs, ws⟩ (keptS s0 (l ++ [⟨⟨t, c, n, ln⟩, rs, ws⟩])) i wr) (fun i _ => rs.length - (intOf i).toNat)
              case atStart => exact H0.out
              case round =>
                clear H0 hk hkl
                obtain ⟨k, hkl, rfl, hvn⟩ := hrel
                have V9 := Lib.hid hvn
                clear hvn
                simp only at hkl
                by_cases hk : k < rs.length
                · have j1 : (0 : Int) ≤ (k : Int) := by omega
                  have j2 : (k : Int) < (rs.length : Int) := by omega
                  have j3 : decide ((k : Int) < (rs.length : Int)) = true := decide_eq_true j2
                  have hN9 := NAc.keep V9.out.kept rfl HN.out
                  obtain ⟨b, o, hbe, hbw, y0, y1, y2, y3, y4, y5, y6⟩ := RdCh.piece (show RdCh wr (.slice A1 rs.length c1) rs from hN9.1) hk
                  subst hbe
                  obtain ⟨ch, hch⟩ : ∃ ch, rs[k] = ch := ⟨_, rfl⟩
                  rw [hch] at y0 y1 y2 y3 y4 y5 y6
                  have HCE := Lib.hid hch
                  clear hch hN9
                  go_upto_region 25 with (fail)
                  have hbb := (Below.refl wr.heap.size wr).alloc (Nat.le_refl _) (.cells #[.int .i64 ch.name.kind, .string (bs ch.name.owner), .int .i64 ch.name.num, .int .i64 ch.name.idx, .string (bs ch.name.text), .string (bs ch.value), .bool ch.absent] 105)
                  have VB := Lib.hid (V9.out.next hbb)
                  have ZC : Hid (Blk (wr.alloc (.cells #[.int .i64 ch.name.kind, .string (bs ch.name.owner), .int .i64 ch.name.num, .int .i64 ch.name.idx, .string (bs ch.name.text), .string (bs ch.value), .bool ch.absent] 105)) wr.heap.size 105 #[.int .i64 ch.name.kind, .string (bs ch.name.owner), .int .i64 ch.name.num, .int .i64 ch.name.idx, .string (bs ch.name.text), .string (bs ch.value), .bool ch.absent]) := Lib.hid (Blk.new wr 105 #[.int .i64 ch.name.kind, .string (bs ch.name.owner), .int .i64 ch.name.num, .int .i64 ch.name.idx, .string (bs ch.name.text), .string (bs ch.value), .bool ch.absent])
                  clear y0 y1 y2 y3 y4 y5 y6 hbb
                  generalize wr.alloc (.cells #[.int .i64 ch.name.kind, .string (bs ch.name.owner), .int .i64 ch.name.num, .int .i64 ch.name.idx, .string (bs ch.name.text), .string (bs ch.value), .bool ch.absent] 105) = wb at *
                  generalize wr.heap.size = cc at *
                  obtain ⟨x0, x1, x2, x3, x4, x5⟩ := VB.out.cells
                  have x4 := x5
                  have v0 : wb.cell? ⟨cc, 0, none⟩ = some (.int .i64 ch.name.kind) := ZC.out.cell 0
                  have v1 : wb.cell? ⟨cc, 1, none⟩ = some (.string (bs ch.name.owner)) := ZC.out.cell 1
                  have v2 : wb.cell? ⟨cc, 2, none⟩ = some (.int .i64 ch.name.num) := ZC.out.cell 2
                  have v3 : wb.cell? ⟨cc, 3, none⟩ = some (.int .i64 ch.name.idx) := ZC.out.cell 3
                  have v4 : wb.cell? ⟨cc, 4, none⟩ = some (.string (bs ch.name.text)) := ZC.out.cell 4
                  have hbq := ((Below.refl wb.heap.size wb).alloc (Nat.le_refl _) (.cells #[.int .i64 l.length] 3)).drew
                  have VQ := Lib.hid (VB.out.next hbq)
                  have ZQ := Lib.hid (ZC.out.next hbq ZC.out.lt)
                  obtain ⟨ents, Ad, cd, hm, hve, hown, hback⟩ := VQ.out.rd_ ch.name
                  obtain ⟨dl, hdl⟩ : ∃ dl, rdrsT l (rs.take k) ch.name = dl := ⟨_, rfl⟩
                  simp only [hdl] at hve hown hback
                  have HDL := Lib.hid hdl
                  have hdn : dl.length ≤ 2000 := by
                    rw [← hdl]
                    unfold rdrsT
                    have h1 := rdrs_len ch.name 0 l fun b hb => (HLA.out b hb).2
                    have h2 := filt_len (rs.take k) ch.name
                    have h3 := List.length_take_le k rs
                    simp only [List.length_append, List.length_map]
                    omega
                  have HM := Lib.hid hm
                  have HVE := Lib.hid hve
                  have HOWN := Lib.hid hown
                  have HBACK := Lib.hid hback
                  clear hm hve hown hback hdl hbq x0 x1 x2 x3
                  obtain ⟨i0, hi, hz0, hz1, hz2⟩ := info_parts infoIn
                  refine wp_region_noPanic ?_
                  refine wp_region_last (S := (fun (w' : World) => w'.cell? ⟨g, 5, none⟩ = some (.map (some br)) ∧ w'.cell? ⟨cc, 0, none⟩ = some (.int .i64 ch.name.kind) ∧ w'.cell? ⟨cc, 1, none⟩ = some (.string (bs ch.name.owner)) ∧ w'.cell? ⟨cc, 2, none⟩ = some (.int .i64 ch.name.num) ∧ w'.cell? ⟨cc, 3, none⟩ = some (.int .i64 ch.name.idx) ∧ w'.cell? ⟨cc, 4, none⟩ = some (.string (bs ch.name.text)))) 12 12 rfl (by kernel_rfl) (by kernel_rfl) ?_ (fun hHeld => ?_)
                  · exact ⟨x4, v0, v1, v2, v3, v4⟩
                  refine tk (v := ?_) 0 rfl (by kernel_rfl) (fun _ _ _ h => h) ?_ hHeld ?_
                  rotate_left
                  · (intro w h; (try dsimp only at h); go_simp; try with_reducible rfl)
                  try simp only [Act.put, pB, pC, pD]
                  refine tk (v := ?_) 1 rfl (by kernel_rfl) (fun _ _ _ h => h) ?_ hHeld ?_
                  rotate_left
                  · (intro w h; (try dsimp only at h); go_simp; try with_reducible rfl)
                  try simp only [Act.put, pB, pC, pD]
                  refine tk (v := ?_) 2 rfl (by kernel_rfl) (fun _ _ _ h => h) ?_ hHeld ?_
                  rotate_left
                  · (intro w h; (try dsimp only at h); go_simp; try with_reducible rfl)
                  try simp only [Act.put, pB, pC, pD]
                  refine tk (v := ?_) 3 rfl (by kernel_rfl) (fun _ _ _ h => h) ?_ hHeld ?_
                  rotate_left
                  · (intro w h; (try dsimp only at h); go_simp; try with_reducible rfl)
                  try simp only [Act.put, pB, pC, pD]
                  refine tk (v := ?_) 4 rfl (by kernel_rfl) (fun _ _ _ h => h) ?_ hHeld ?_
                  rotate_left
                  · (intro w h; (try dsimp only at h); go_simp; try with_reducible rfl)
                  try simp only [Act.put, pB, pC, pD]
                  refine tk (v := ?_) 5 rfl (by kernel_rfl) (fun _ _ _ h => h) ?_ hHeld ?_
                  rotate_left
                  · (intro w h; (try dsimp only at h); go_simp; try with_reducible rfl)
                  try simp only [Act.put, pB, pC, pD]
                  refine tk (v := ?_) 6 rfl (by kernel_rfl) (fun _ _ _ h => h) ?_ hHeld ?_
                  rotate_left
                  · (intro w h; (try dsimp only at h); go_simp; try with_reducible rfl)
                  try simp only [Act.put, pB, pC, pD]
                  refine wpAnyH_ready (rs := [7]) (by kernel_rfl) (by simp) ?_
                  refine AllReadyH.cons rfl (fun K hK => ?_) AllReadyH.nil
                  go_simp
                  refine hK.out _ _ ?_ (fun hNew => ?_)
                  · exact ⟨(World.cell?_alloc_lt wb _ _ VB.out.vin.blk.lt).trans x4, (World.cell?_alloc_lt wb _ _ ZC.out.lt).trans v0, (World.cell?_alloc_lt wb _ _ ZC.out.lt).trans v1, (World.cell?_alloc_lt wb _ _ ZC.out.lt).trans v2, (World.cell?_alloc_lt wb _ _ ZC.out.lt).trans v3, (World.cell?_alloc_lt wb _ _ ZC.out.lt).trans v4⟩
                  clear hK K hHeld
                  have hHeld := hNew
                  clear hNew
                  try simp only [Act.put, pB, pC, pD]
                  refine wpAnyH_ready (rs := [8]) (by kernel_rfl) (by simp) ?_
                  refine AllReadyH.cons rfl (fun K hK => ?_) AllReadyH.nil
                  refine step_entry_nm _ (by rfl) _ _ 116 (by rfl) Tryz.underlying116 (zeroinC _) br ents (by rfl) HM.out ch.name (by rfl) (.slice Ad dl.length cd) HVE.out ?_; intro w6 st hg6 hm6 hst; have hG6 := blk_map VQ.out.vin.blk HM.out hg6; have hC6 := blk_map ZQ.out HM.out hg6; have HW6 := Lib.hid (own_map HOWN.out HM.out hg6); have HN6 := Lib.hid (own_map (show (wb.alloc (.cells #[.int .i64 l.length] 3)).drew.ownsRow 0 3 1 (.slice (some ⟨wb.heap.size, 0, none⟩) 1 1) 1 [.int .i64 l.length] from own_new wb 0 3 1 [.int .i64 l.length] rfl (Nat.zero_le _)) HM.out hg6); have HG6 := Lib.hid hg6; have HBG := Lib.hid hG6; have HBC := Lib.hid hC6; have HM6 := Lib.hid hm6; have HST := Lib.hid hst; have g6 := hG6.cell 5; have e0 := hC6.cell 0; have e1 := hC6.cell 1; have e2 := hC6.cell 2; have e3 := hC6.cell 3; have e4 := hC6.cell 4; (simp only [qB, qC, qD] at g6 e0 e1 e2 e3 e4); clear hg6 hm6 hst hG6 hC6
                  refine hK.out _ _ ?_ (fun hNew => ?_)
                  · exact ⟨g6, e0, e1, e2, e3, e4⟩
                  clear hK K hHeld
                  have hHeld := hNew
                  clear hNew
                  try simp only [Act.put, pB, pC, pD]
                  refine tk (v := ?_) 9 rfl (by kernel_rfl) (fun _ _ _ h => h) ?_ hHeld ?_
                  rotate_left
                  · (intro w h; (try dsimp only at h); go_simp; try with_reducible rfl)
                  try simp only [Act.put, pB, pC, pD]
                  refine tk (v := ?_) 11 rfl (by kernel_rfl) (fun _ _ _ h => h) ?_ hHeld ?_
                  rotate_left
                  · (intro w h; (try dsimp only at h); go_simp; try with_reducible rfl)
                  try simp only [Act.put, pB, pC, pD]
                  refine wpAnyH_ready (rs := [10]) (by kernel_rfl) (by simp) ?_
                  refine AllReadyH.cons rfl (fun K hK => ?_) AllReadyH.nil
                  refine step_append_w _ (by rfl) _ _ _ (by rfl) 0 3 i0 _ 1 8 Tryz.underlying33 hi hz0 hz1 hz2 rfl (by omega) (.slice Ad dl.length cd) dl.length (dl.flatMap inC) (by rfl) HW6.out (.slice (some ⟨wb.heap.size, 0, none⟩) 1 1) 1 [.int .i64 l.length] (by rfl) (Rd.of_own HN6.out) (by omega) (by rfl) (by simp [Value.oneCell']) (by unfold maxLen; omega) (by omega) (by omega) ?_; intro v7 w7 hown7 hg7 hat7; obtain ⟨A9, c9, rfl, _⟩ := own_len hown7; have hG7 := HBG.out.grown hg7 (fun e => own_blk_ne HW6.out HBG.out (by decide) e.symm); have hC7 := HBC.out.grown hg7 (fun e => own_blk_ne HW6.out HBC.out (by decide) e.symm); obtain ⟨es6, cl6, hm6⟩ := HM6.out; have hb7 : w7.heap[br]? = w6.heap[br]? := hg7.block br (Array.getElem?_eq_some_iff.1 hm6).1 (fun e => own_not_map HW6.out hm6 e.symm); obtain ⟨w8', hrun8, hm8, hg8⟩ := HST.out w7 (.slice A9 (dl.length + 1) c9) hb7; have HB7 := Lib.hid hb7; have HOW7 := Lib.hid hown7; have HG7 := Lib.hid hg7; have HAT7 := Lib.hid hat7; have HM8 := Lib.hid hm8; have HG8 := Lib.hid hg8; have HMM := Lib.hid hm6; have r6 := hG7.cell 5; have tt0 := hC7.cell 0; have tt1 := hC7.cell 1; have tt2 := hC7.cell 2; have tt3 := hC7.cell 3; have tt4 := hC7.cell 4; (simp only [qB, qC, qD] at r6 tt0 tt1 tt2 tt3 tt4); clear hown7 hg7 hat7 hG7 hC7 hm6 hb7 hm8 hg8
                  refine hK.out _ _ ?_ (fun hNew => ?_)
                  · exact ⟨r6, tt0, tt1, tt2, tt3, tt4⟩
                  clear hK K hHeld
                  have hHeld := hNew
                  clear hNew
                  try simp only [Act.put, pB, pC, pD]
                  refine wpAnyH_done (by kernel_rfl) ?_ _
                  refine lastQ_step rfl (fun K hK => ?_)
                  clear hHeld
                  go_simp
                  refine hK _ _ ?_
                  clear hK K
                  refine NoPanic.normal ?_
                  clear x4 g6 r6 v0 e0 tt0 v1 e1 tt1 v2 e2 tt2 v3 e3 tt3 v4 e4 tt4 hrun8
                  go_wp2_with fail
                  go_roundw
                  case rel =>
                    have h9 := HBACK.out w7 w8' (.slice A9 (dl.length + 1) c9) (x := (l.length : Int)) (((Chg.refl _ _ _).map_ HG6.out).row_ HG7.out) ⟨es6, cl6, HB7.out.trans HMM.out⟩ HOW7.out (by rcases HAT7.out with h | h; exact .inl h; exact .inr ⟨_, h, HG6.out.size⟩) HM8.out HG8.out
                    refine ⟨k + 1, by simp only; omega, by go_num, h9.data (fun n => ?_) (fun n => ?_)⟩
                    · rfl
                    · rw [rdrsT_take l rs k hk n, HCE.out, HDL.out]
                  case measure => simp [intOf]; omega
                · have HK2 := Lib.hid hk
                  have HI2 := Lib.hid (show k = rs.length by omega)
                  go_wp2
                  go_ret
                  have V11 := V9.out.data (Dw' := fun nm => vers nm 0 (l ++ [⟨⟨t, c, n, ln⟩, rs, ws⟩])) (Dr' := fun nm => rdrs nm 0 (l ++ [⟨⟨t, c, n, ln⟩, rs, ws⟩])) (fun n => rfl) (fun n => by
                    have := HI2.out
                    subst this
                    rw [List.take_length, ← rdrsT_all])
                  have hcw : w.heap.size ≤ W.heap.size := by rw [HCB.out]; exact Nat.le_of_lt hz
                  have hbw : Below w.heap.size w W := by rw [HCB.out]; exact HB0.out
                  refine ⟨by rw [HOK.out]; rfl, fun _ => ?_, fun h => absurd HOK.out h, ?_, ?_⟩
                  · have h := VIn.mono (G := Grow F w wr) V11.vin fun i hi => by
                      rcases hi with h | ⟨h1, h2⟩
                      · exact .inl h
                      · exact .inr ⟨Nat.le_trans hcw h1, h2⟩
                    rw [show appS (stS s0 l) ws = stS s0 (l ++ [⟨⟨t, c, n, ln⟩, rs, ws⟩]) from (stS_snoc s0 l ⟨⟨t, c, n, ln⟩, rs, ws⟩).symm] at h
                    exact ⟨_, _, _, _, _, _, h⟩
                  · exact (Outer.of_below hbw).trans (V11.out.mono fun i h => .inl h)
                  · exact (Kept.of_below LV hbw).trans V11.kept
end Go.Proofs.YtamjllakfgphnaaGreatDoor
namespace Go.Proofs.YtamjllakfgphnaaGreatDoor
open Go.RowKit
set_option linter.unusedSimpArgs false
set_option linter.unusedVariables false
attribute [local go_sem ↓] Go.wp_at_zero Go.wp_at_succ
def BldRel (w : World) (g : Nat) (s0 : St) (l : List Ac) (i : Value) (wr : World) : Prop := ∃ (k : Nat) (F : Nat → Prop), k ≤ l.length ∧ i = .int .i64 k ∧ VAt wr F g s0 (l.take k) ∧ (∀ i, F i → w.heap.size ≤ i ∧ i < wr.heap.size) ∧ (∀ j (hj : j < l.length), j < k → appR (l.take j) l[j] = 0) ∧ Below w.heap.size w wr
def BldP (s0 : St) (l : List Ac) (w : World) (e : Ending) (w' : World) : Prop :=
  Below w.heap.size w w' ∧ ((bldR [] l = 0 ∧ ∃ g F, e = .returned (.tuple #[.pointer (some ⟨g, 0, none⟩), .int .i64 0]) ∧ VAt w' F g s0 l ∧ ∀ i, F i → w.heap.size ≤ i ∧ i < w'.heap.size) ∨ (bldR [] l ≠ 0 ∧ e = .returned (.tuple #[.pointer none, .int .i64 (bldR [] l)])))
theorem vat_new {w : World} {p : Option Addr} {s0 : St} (h : StAt w p s0) : VAt (((w.alloc (.map #[] 0)).alloc (.map #[] 0)).alloc (.cells #[.pointer p, .slice none 0 0, .slice none 0 0, .pointer p, .map (some w.heap.size), .map (some (w.heap.size + 1))] 135)) (fun i => w.heap.size ≤ i ∧ i < w.heap.size + 3) (w.heap.size + 2) s0 [] := by
  have a1 := (Below.refl w.heap.size w).alloc (Nat.le_refl _) (.map #[] 0)
  have a2 := (Below.refl (w.alloc (.map #[] 0)).heap.size (w.alloc (.map #[] 0))).alloc (Nat.le_refl _) (.map #[] 0)
  have a3 := (Below.refl ((w.alloc (.map #[] 0)).alloc (.map #[] 0)).heap.size ((w.alloc (.map #[] 0)).alloc (.map #[] 0))).alloc (Nat.le_refl _) (.cells #[.pointer p, .slice none 0 0, .slice none 0 0, .pointer p, .map (some w.heap.size), .map (some (w.heap.size + 1))] 135)
  have hb := Blk.new ((w.alloc (.map #[] 0)).alloc (.map #[] 0)) 135 #[.pointer p, .slice none 0 0, .slice none 0 0, .pointer p, .map (some w.heap.size), .map (some (w.heap.size + 1))]
  have e2 : ((w.alloc (.map #[] 0)).alloc (.map #[] 0)).heap.size = w.heap.size + 2 := by simp
  have e1 : (w.alloc (.map #[] 0)).heap.size = w.heap.size + 1 := by simp
  rw [e2] at hb
  have m1 := MapRows.new (e := 68) (s := 3) (f := veC) w (fun i => w.heap.size ≤ i ∧ i < w.heap.size + 3) ⟨by omega, by omega⟩
  have m2 := MapRows.new (e := 3) (s := 1) (f := inC) (w.alloc (.map #[] 0)) (fun i => w.heap.size ≤ i ∧ i < w.heap.size + 3) ⟨by omega, by omega⟩
  rw [e1] at m2
  have hs := ((h.next a1).next a2).next a3
  exact ⟨p, .slice none 0 0, .slice none 0 0, p, w.heap.size, w.heap.size + 1, ⟨hb, ⟨by omega, by omega⟩, hs, hs, RowOwn.nil, fun g hg => (by cases hg), RowOwn.nil, fun g hg => (by cases hg), ((m1.next a2).next a3).data fun n => rfl, (m2.next a3).data fun n => rfl, by omega⟩⟩
set_option maxRecDepth 100000 in
set_option maxHeartbeats 4000000 in
theorem build_is {w : World} {p : Option Addr} {s0 : St} {v : Value} {l : List Ac} (hb : StAt w p s0) (hl : RdAc w v l) (hu : UseAt w) (ha : ∀ a ∈ l, AcR a) (hs : StV s0) (hlen : l.length ≤ 100) : Calls Tryz.prog 39 #[.pointer p, v] w (BldP s0 l w) := by
  obtain ⟨pB, rfl⟩ : ∃ B, p = some ⟨B, 0, none⟩ := by obtain ⟨B, _, _, e, _⟩ := id hb; exact ⟨B, e⟩
  obtain ⟨A, c, rfl, hc⟩ := RowRd.form hl
  have HV := Lib.hid (vat_new hb)
  have HL := Lib.hid hl
  have HU := Lib.hid hu
  have HA := Lib.hid ha
  have HS := Lib.hid hs
  have i1 : (l.length : Int) ≤ 100 := by omega
  have i2 : (0 : Int) ≤ (l.length : Int) := by omega
  have hb0 : Below w.heap.size w (((w.alloc (.map #[] 0)).alloc (.map #[] 0)).alloc (.cells #[.pointer (some ⟨pB, 0, none⟩), .slice none 0 0, .slice none 0 0, .pointer (some ⟨pB, 0, none⟩), .map (some w.heap.size), .map (some (w.heap.size + 1))] 135)) := (((Below.refl _ _).alloc (Nat.le_refl _) _).alloc (by simp) _).alloc (by simp; omega) _
  have H0 : Hid (BldRel w (w.heap.size + 2) s0 l (.int .i64 (0 : Nat)) (((w.alloc (.map #[] 0)).alloc (.map #[] 0)).alloc (.cells #[.pointer (some ⟨pB, 0, none⟩), .slice none 0 0, .slice none 0 0, .pointer (some ⟨pB, 0, none⟩), .map (some w.heap.size), .map (some (w.heap.size + 1))] 135))) :=
    Lib.hid ⟨0, _, Nat.zero_le _, rfl, HV.out, fun i hi => ⟨hi.1, by simp; omega⟩, fun j _ h => by omega, hb0⟩
  clear hb hl hu ha hs hb0 HV
  have hmm := @run_makeMap Tryz.prog
  go_enter Tryz.func39, Tryz.ntmps39
  go_wp2
  clear hmm
  go_loopw [20] (fun i wr => BldRel w (w.heap.size + 2) s0 l i wr) (fun i _ => l.length - (intOf i).toNat)
  case atStart => exact H0.out
  case round =>
    clear H0
    obtain ⟨k, F, hkl, rfl, hv, hF, hz, hbw⟩ := hrel
    have HV := Lib.hid hv
    have HF := Lib.hid hF
    have HZ := Lib.hid hz
    have HB := Lib.hid hbw
    clear hv hF hz hbw
    by_cases hk : k < l.length
    · have j1 : (0 : Int) ≤ (k : Int) := by omega
      have j2 : (k : Int) < (l.length : Int) := by omega
      have j3 : decide ((k : Int) < (l.length : Int)) = true := decide_eq_true j2
      obtain ⟨b, o, u1, u2, hbe, hbr, n1, n2, y0, y1, y2, y3, y4, y5⟩ := RdAc.piece (RdAc.next HL.out HB.out) hk
      subst hbe
      obtain ⟨a, hae⟩ : ∃ a, l[k] = a := ⟨_, rfl⟩
      rw [hae] at n1 n2 y0 y1 y2 y3
      have HAE := Lib.hid hae
      obtain ⟨A1, c1, rfl, hc1⟩ := RdP.form n1
      obtain ⟨A2, c2, rfl, hc2⟩ := RdP.form n2
      have N : Hid (NAc wr (.slice A1 a.reads.length c1, .slice A2 a.writes.length c2) a) := Lib.hid ⟨n1, n2⟩
      clear hae n1 n2
      go_upto_region 7 with (fail)
      have hbb := (Below.refl wr.heap.size wr).alloc (Nat.le_refl _) (.cells #[.int .i64 a.key.tick, .int .i64 a.key.cls, .int .i64 a.key.num, .string (bs a.key.lin), .slice A1 a.reads.length c1, .slice A2 a.writes.length c2] 77)
      have zb := Blk.new wr 77 #[.int .i64 a.key.tick, .int .i64 a.key.cls, .int .i64 a.key.num, .string (bs a.key.lin), .slice A1 a.reads.length c1, .slice A2 a.writes.length c2]
      have HBB := Lib.hid hbb
      have hsz := hbb.size
      have z0 := zb.cell 0
      have z1 := zb.cell 1
      have z2 := zb.cell 2
      have z3 := zb.cell 3
      have z4 := zb.cell 4
      have z5 := zb.cell 5
      simp only [qB, qC, qD] at z0 z1 z2 z3 z4 z5
      have HVn := Lib.hid (HV.out.next hbb)
      have HFn := Lib.hid (fun i (h : F i) => Nat.lt_of_lt_of_le (HF.out i h).2 hsz)
      have HBn := Lib.hid (HB.out.trans (hbb.mono HB.out.size))
      have HUn := Lib.hid (HU.out.next HBn.out HU.out.1)
      have HNn := Lib.hid (NAc.next hbb N.out)
      have HOK := Lib.hid (ok_take HZ.out)
      have HLT := Lib.hid (fun b (hb : b ∈ l.take k) => HA.out b (List.mem_of_mem_take hb))
      have HAA : Hid (AcR a) := Lib.hid (by rw [← HAE.out]; exact HA.out _ (List.getElem_mem hk))
      clear y0 y1 y2 y3 y4 y5 hbb zb hsz
      generalize wr.alloc (.cells #[.int .i64 a.key.tick, .int .i64 a.key.cls, .int .i64 a.key.num, .string (bs a.key.lin), .slice A1 a.reads.length c1, .slice A2 a.writes.length c2] 77) = wb at *
      go_wp2_with fail
      refine (append_is (a := a) (u := (.slice A1 a.reads.length c1, .slice A2 a.writes.length c2)) HVn.out HFn.out HUn.out HNn.out HAA.out HLT.out (stS_ok HS.out HOK.out) (by rw [List.length_take]; omega)).mono ?_
      rintro e w2 ⟨rfl, hp1, hp2, hp3, hp4⟩
      have HP1 := Lib.hid hp1
      have HP3 := Lib.hid hp3
      have HB2 := Lib.hid (HBn.out.trans (hp3.below HBn.out.size (fun i h => (HF.out i h).1)))
      clear hp1 hp2 hp3 hp4 z0 z1 z2 z3 z4 z5
      obtain ⟨r, hr⟩ : ∃ r, appR (l.take k) a = r := ⟨_, rfl⟩
      rw [hr]
      have HR := Lib.hid hr
      clear hr
      by_cases hr0 : r = 0
      · subst hr0
        go_wp2_with fail
        go_roundw
        case rel =>
          refine ⟨k + 1, Grow F wb w2, by omega, by go_num, ?_, fun i hi => ?_, fun j hj hjk => ?_, HB2.out⟩
          · have := HP1.out HR.out
            rw [List.take_succ_eq_append_getElem hk, HAE.out]
            exact this
          · rcases hi with h | ⟨h1, h2⟩
            · exact ⟨(HF.out i h).1, Nat.lt_of_lt_of_le (HFn.out i h) HP3.out.size⟩
            · exact ⟨Nat.le_trans HBn.out.size h1, h2⟩
          · by_cases e : j = k
            · subst e
              rw [HAE.out]; exact HR.out
            · exact HZ.out j hj (by omega)
        case measure => simp [intOf]; omega
      · have r1 : (r == 0) = false := by rw [beq_eq_false_iff_ne]; exact hr0
        have r2 : (r != 0) = true := by rw [bne_iff_ne]; exact hr0
        have HRN := Lib.hid hr0
        go_wp2_with fail
        go_ret2
        have e : bldR [] l = r := by
          have := bldR_stop (l := l) (d := []) (k := k) (fun j hj hjk => by simpa using HZ.out j hj hjk) hk (by simp only [List.nil_append]; rw [HAE.out, HR.out]; exact HRN.out)
          rw [this]
          simp only [List.nil_append]
          rw [HAE.out, HR.out]
        exact ⟨HB2.out, .inr ⟨by rw [e]; exact HRN.out, by rw [e]; rfl⟩⟩
    · have HI := Lib.hid (show k = l.length by omega)
      have HK := Lib.hid hk
      go_wp2
      go_ret2
      have e : bldR [] l = 0 := bldR_all fun j hj => by simpa using HZ.out j hj (by have := HI.out; omega)
      have hv := HV.out
      rw [HI.out, List.take_length] at hv
      exact ⟨HB.out, .inl ⟨e, _, F, rfl, hv, HF.out⟩⟩
structure VOk (l : List Ac) : Prop where
  ok : ∀ a ∈ l, okAc a = true
  r : ∀ a ∈ l, AcR a
  len : l.length ≤ 100
theorem VOk.inc {l : List Ac} (h : VOk l) (n : Nm) : Inc (vers n 0 l) := vers_inc n 0 l fun a ha => (ok_ch (h.ok a ha)).2
theorem VOk.vlen {l : List Ac} (h : VOk l) (n : Nm) : (vers n 0 l).length ≤ 1000 := by
  have := vers_len n 0 l fun a ha => (h.r a ha).2.2.2.2
  have := h.len
  omega
def VerP (v : Ver) (w : World) (e : Ending) (w' : World) : Prop := e = .returned (veV v) ∧ Below w.heap.size w w'
set_option maxRecDepth 100000 in
theorem first_is {w : World} {F : Nat → Prop} {g : Nat} {s0 : St} {l : List Ac} {n : Nm} (hv : VAt w F g s0 l) (hn : OwnE n) : Calls Tryz.prog 82 #[.pointer (some ⟨g, 0, none⟩), nmV n] w (VerP (ver0 s0 n) w) := by
  obtain ⟨pb, va, vk, pl, bw, br, hv⟩ := hv
  obtain ⟨B, rfl⟩ : ∃ B, pb = some ⟨B, 0, none⟩ := by obtain ⟨B, _, _, e, _⟩ := hv.base; exact ⟨B, e⟩
  have ha := ((Below.refl w.heap.size w).alloc (Nat.le_refl _) (.cells #[.int .i64 n.kind, .string (bs n.owner), .int .i64 n.num, .int .i64 n.idx, .string (bs n.text)] 26)).alloc (by simp) (.cells #[.int .i64 0, .string ⟨#[]⟩, .bool false] 68)
  have hz : w.heap.size < ((w.alloc (.cells #[.int .i64 n.kind, .string (bs n.owner), .int .i64 n.num, .int .i64 n.idx, .string (bs n.text)] 26)).alloc (.cells #[.int .i64 0, .string ⟨#[]⟩, .bool false] 68)).heap.size := by simp; omega
  have zb := (Blk.new w 26 #[.int .i64 n.kind, .string (bs n.owner), .int .i64 n.num, .int .i64 n.idx, .string (bs n.text)]).alloc (.cells #[.int .i64 0, .string ⟨#[]⟩, .bool false] 68)
  have rb := Blk.new (w.alloc (.cells #[.int .i64 n.kind, .string (bs n.owner), .int .i64 n.num, .int .i64 n.idx, .string (bs n.text)] 26)) 68 #[.int .i64 0, .string ⟨#[]⟩, .bool false]
  rw [World.size_alloc] at rb
  have VW := Lib.hid (hv.next ha)
  have HA := Lib.hid ha
  have HRB := Lib.hid rb
  have x0 := VW.out.blk.cell 0
  have x4 := VW.out.blk.cell 4
  have z0 := zb.cell 0
  have z1 := zb.cell 1
  have z2 := zb.cell 2
  have z3 := zb.cell 3
  have z4 := zb.cell 4
  simp only [qB, qC, qD] at x0 x4 z0 z1 z2 z3 z4
  clear hv ha zb rb
  obtain ⟨zz, hzz⟩ : ∃ z, look cmpN n s0 = z := ⟨_, rfl⟩
  have HZ := Lib.hid hzz
  clear hzz x4
  unfold ver0
  rw [HZ.out]
  go_enter Tryz.func82, Tryz.ntmps82
  simp only [nmV, nmA]
  go_upto_region 1 with (fail)
  generalize (w.alloc (.cells #[.int .i64 n.kind, .string (bs n.owner), .int .i64 n.num, .int .i64 n.idx, .string (bs n.text)] 26)).alloc (.cells #[.int .i64 0, .string ⟨#[]⟩, .bool false] 68) = W at *
  generalize hcb : w.heap.size = cb at *
  have HCB := Lib.hid hcb
  clear hcb
  refine wp_region_noPanic ?_
  refine wp_region_held_drew (S := (fun (w' : World) => w'.cell? ⟨g, 0, none⟩ = some (.pointer (some ⟨B, 0, none⟩)) ∧ w'.cell? ⟨cb, 0, none⟩ = some (.int .i64 n.kind) ∧ w'.cell? ⟨cb, 1, none⟩ = some (.string (bs n.owner)) ∧ w'.cell? ⟨cb, 2, none⟩ = some (.int .i64 n.num) ∧ w'.cell? ⟨cb, 3, none⟩ = some (.int .i64 n.idx) ∧ w'.cell? ⟨cb, 4, none⟩ = some (.string (bs n.text)))) (by kernel_rfl) ?_ (fun hHeld => ?_)
  · exact ⟨x0, z0, z1, z2, z3, z4⟩
  refine tk (v := ?_) 0 rfl (by kernel_rfl) (fun _ _ _ h => h) ?_ hHeld ?_
  rotate_left
  · (intro w h; (try dsimp only at h); go_simp; try with_reducible rfl)
  try simp only [Act.put, pB, pC, pD]
  refine tk (v := ?_) 1 rfl (by kernel_rfl) (fun _ _ _ h => h) ?_ hHeld ?_
  rotate_left
  · (intro w h; (try dsimp only at h); go_simp; try with_reducible rfl)
  try simp only [Act.put, pB, pC, pD]
  refine tk (v := ?_) 2 rfl (by kernel_rfl) (fun _ _ _ h => h) ?_ hHeld ?_
  rotate_left
  · (intro w h; (try dsimp only at h); go_simp; try with_reducible rfl)
  try simp only [Act.put, pB, pC, pD]
  refine tk (v := ?_) 3 rfl (by kernel_rfl) (fun _ _ _ h => h) ?_ hHeld ?_
  rotate_left
  · (intro w h; (try dsimp only at h); go_simp; try with_reducible rfl)
  try simp only [Act.put, pB, pC, pD]
  refine tk (v := ?_) 4 rfl (by kernel_rfl) (fun _ _ _ h => h) ?_ hHeld ?_
  rotate_left
  · (intro w h; (try dsimp only at h); go_simp; try with_reducible rfl)
  try simp only [Act.put, pB, pC, pD]
  refine wpAnyH_ready (rs := [5]) (by kernel_rfl) (by simp) ?_
  refine AllReadyH.cons rfl (fun K hK => ?_) AllReadyH.nil
  go_simp
  refine (get_is (n := n) (StAt.drew VW.out.base) hn).mono ?_; rintro e w2 ⟨rfl, hb2'⟩; have hb2 := (Below.refl W.heap.size W).drew.trans hb2'; have HB2 := Lib.hid hb2; (try rw [HZ.out]); clear hb2'
  try (go_wp2_with fail)
  refine hK.out _ _ ?_ (fun hNew => ?_)
  · exact ⟨(hb2.cell (p := ⟨g, 0, none⟩) VW.out.blk.lt).trans x0, (hb2.cell (p := ⟨cb, 0, none⟩) hz).trans z0, (hb2.cell (p := ⟨cb, 1, none⟩) hz).trans z1, (hb2.cell (p := ⟨cb, 2, none⟩) hz).trans z2, (hb2.cell (p := ⟨cb, 3, none⟩) hz).trans z3, (hb2.cell (p := ⟨cb, 4, none⟩) hz).trans z4⟩
  clear hK K hHeld
  have hHeld := hNew
  clear hNew
  try simp only [Act.put, pB, pC, pD]
  refine tk (v := ?_) 6 rfl (by kernel_rfl) (fun _ _ _ h => h) ?_ hHeld ?_
  rotate_left
  · (intro w h; (try dsimp only at h); go_simp; try with_reducible rfl)
  try simp only [Act.put, pB, pC, pD]
  refine tk (v := ?_) 7 rfl (by kernel_rfl) (fun _ _ _ h => h) ?_ hHeld ?_
  rotate_left
  · (intro w h; (try dsimp only at h); go_simp; try with_reducible rfl)
  try simp only [Act.put, pB, pC, pD]
  refine tk (v := ?_) 8 rfl (by kernel_rfl) (fun _ _ _ h => h) ?_ hHeld ?_
  rotate_left
  · (intro w h; (try dsimp only at h); go_simp; try with_reducible rfl)
  try simp only [Act.put, pB, pC, pD]
  refine tk (v := ?_) 9 rfl (by kernel_rfl) (fun _ _ _ h => h) ?_ hHeld ?_
  rotate_left
  · (intro w h; (try dsimp only at h); go_simp; try with_reducible rfl)
  try simp only [Act.put, pB, pC, pD]
  refine tk (v := ?_) 10 rfl (by kernel_rfl) (fun _ _ _ h => h) ?_ hHeld ?_
  rotate_left
  · (intro w h; (try dsimp only at h); go_simp; try with_reducible rfl)
  try simp only [Act.put, pB, pC, pD]
  refine wpAnyH_done (by kernel_rfl) ?_ _
  clear hHeld
  try simp only [List.getElem_toArray, List.getElem_cons_zero, List.getElem_cons_succ, Act.put, pB, pC, pD]
  refine NoPanic.normal ?_
  have r4 := HRB.out.next HB2.out HRB.out.lt
  have R4 := Lib.hid r4
  have q0 := r4.cell 0
  have q1 := r4.cell 1
  have q2 := r4.cell 2
  have f0 := r4.frozen 0
  have f1 := r4.frozen 1
  have f2 := r4.frozen 2
  simp only [qB, qC, qD] at q0 q1 q2
  clear r4 x0 z0 z1 z2 z3 z4
  have HBF := Lib.hid (HA.out.trans (HB2.out.mono (Nat.le_of_lt hz)))
  clear hb2
  cases zz with
  | none =>
    go_wp2_with fail
    exact bodyPost_ret (v := veV ⟨-1, [], true⟩) (by simp [results, Tryz.results82, go_sem, q0, q1, q2, veV, bs]) rfl ⟨rfl, by rw [HCB.out]; exact ((HBF.out.setCell (p := ⟨cb + 1, 0, none⟩) (by simp) _).setCell (p := ⟨cb + 1, 1, none⟩) (by simp) _).setCell (p := ⟨cb + 1, 2, none⟩) (by simp) _⟩
  | some x =>
    go_wp2_with fail
    exact bodyPost_ret (v := veV ⟨-1, x, false⟩) (by simp [results, Tryz.results82, go_sem, q0, q1, q2, veV]) rfl ⟨rfl, by rw [HCB.out]; exact ((HBF.out.setCell (p := ⟨cb + 1, 0, none⟩) (by simp) _).setCell (p := ⟨cb + 1, 1, none⟩) (by simp) _).setCell (p := ⟨cb + 1, 2, none⟩) (by simp) _⟩
theorem ve_one (l : List Ver) : ∀ u ∈ l.flatMap veC, u.oneCell' = true := by
  intro u hu
  obtain ⟨c, _, hc⟩ := List.mem_flatMap.1 hu
  simp only [veC, List.mem_cons, List.not_mem_nil, or_false] at hc
  rcases hc with rfl | rfl | rfl <;> rfl
theorem vlen_is {w : World} {F : Nat → Prop} {g : Nat} {s0 : St} {l : List Ac} (hv : VAt w F g s0 l) : Calls Tryz.prog 41 #[.pointer (some ⟨g, 0, none⟩)] w fun e w' => e = .returned (.int .i64 l.length) ∧ w = w' := by
  obtain ⟨pb, va, vk, pl, bw, br, hv⟩ := hv
  obtain ⟨B, rfl⟩ : ∃ B, pb = some ⟨B, 0, none⟩ := by obtain ⟨B, _, _, e, _⟩ := hv.base; exact ⟨B, e⟩
  obtain ⟨Aa, ca, rfl, hca⟩ : ∃ A c, va = .slice A l.length c ∧ l.length ≤ c := by obtain ⟨us, _, ho⟩ := hv.act; exact own_len ho
  have x0 := hv.blk.cell 0
  have x1 := hv.blk.cell 1
  simp only [qB, qC, qD] at x0 x1
  clear hv
  go_enter Tryz.func41, Tryz.ntmps41
  go_wp2_with (go_at_call 51; refine (none_is x0).mono ?_; rintro e w' ⟨rfl, rfl⟩)
  go_ret
  exact ⟨rfl, rfl⟩
def OfP (vs : List Ver) (w : World) (e : Ending) (w' : World) : Prop := ∃ v, e = .returned v ∧ OwnP 68 3 veC w' w.heap.size v vs ∧ Below w.heap.size w w'
set_option maxRecDepth 100000 in
theorem of_is {w : World} {F : Nat → Prop} {g : Nat} {s0 : St} {l : List Ac} {n : Nm} (hv : VAt w F g s0 l) (hn : OwnE n) (ho : VOk l) : Calls Tryz.prog 42 #[.pointer (some ⟨g, 0, none⟩), nmV n] w (OfP (verL s0 l n) w) := by
  have HFI := Lib.hid (fun (w' : World) (hb : Below w.heap.size w w') => first_is (n := n) (hv.next hb) hn)
  obtain ⟨pb, va, vk, pl, bw, br, hv⟩ := hv
  obtain ⟨B, rfl⟩ : ∃ B, pb = some ⟨B, 0, none⟩ := by obtain ⟨B, _, _, e, _⟩ := hv.base; exact ⟨B, e⟩
  have ha := (Below.refl w.heap.size w).alloc (Nat.le_refl _) (.cells #[.int .i64 n.kind, .string (bs n.owner), .int .i64 n.num, .int .i64 n.idx, .string (bs n.text)] 26)
  have hz : w.heap.size < (w.alloc (.cells #[.int .i64 n.kind, .string (bs n.owner), .int .i64 n.num, .int .i64 n.idx, .string (bs n.text)] 26)).heap.size := by simp
  have zb := Blk.new w 26 #[.int .i64 n.kind, .string (bs n.owner), .int .i64 n.num, .int .i64 n.idx, .string (bs n.text)]
  have VW := Lib.hid (hv.next ha)
  have HA := Lib.hid ha
  have x0 := VW.out.blk.cell 0
  have x4 := VW.out.blk.cell 4
  have z0 := zb.cell 0
  have z1 := zb.cell 1
  have z2 := zb.cell 2
  have z3 := zb.cell 3
  have z4 := zb.cell 4
  simp only [qB, qC, qD] at x0 x4 z0 z1 z2 z3 z4
  obtain ⟨ents, hm, hown⟩ := VW.out.wr.find n
  obtain ⟨A, c, hve, hc⟩ := own_len hown.1
  rw [hve] at hown
  have HM := Lib.hid hm
  have hvl := ho.vlen n
  have HVV := Lib.hid (show verL s0 l n = ver0 s0 n :: vers n 0 l from rfl)
  obtain ⟨vs, hvs⟩ : ∃ vs, vers n 0 l = vs := ⟨_, rfl⟩
  obtain ⟨vx, hvx⟩ : ∃ vx, ver0 s0 n = vx := ⟨_, rfl⟩
  rw [hvs, hvx] at HVV
  simp only [hvs] at hve hown hvl hc
  have HLK : Hid (∀ w', Below (w.alloc (.cells #[.int .i64 n.kind, .string (bs n.owner), .int .i64 n.num, .int .i64 n.idx, .string (bs n.text)] 26)).heap.size (w.alloc (.cells #[.int .i64 n.kind, .string (bs n.owner), .int .i64 n.num, .int .i64 n.idx, .string (bs n.text)] 26)) w' → (Instr.lookup 133 (.map (some bw)) (.agg #[.int .i64 n.kind, .string (bs n.owner), .int .i64 n.num, .int .i64 n.idx, .string (bs n.text)]) false).run Tryz.prog w' = .ok (.slice A vs.length c) w') := Lib.hid fun w' hb => by
    have := map_look (hm.next hb) n Tryz.underlying133 (zeroveC w')
    rw [hve] at this
    exact this
  have HRD := Lib.hid (show Rd 68 _ (.slice A vs.length c) vs.length (vs.flatMap veC) from Rd.of_own hown.1)
  have HVX := Lib.hid hvx
  clear hm hown hve hvs hvx ha zb hv
  obtain ⟨vi, vv, vb⟩ := vx
  obtain ⟨i0, hi, hz0, hz1, hz2⟩ := info_parts infoVe
  go_enter Tryz.func42, Tryz.ntmps42
  simp only [nmV, nmA]
  go_upto_region 3 with (go_at_call 51; refine (none_is x0).mono ?_; rintro e w' ⟨rfl, rfl⟩)
  generalize w.alloc (.cells #[.int .i64 n.kind, .string (bs n.owner), .int .i64 n.num, .int .i64 n.idx, .string (bs n.text)] 26) = W at *
  generalize hcb : w.heap.size = cb at *
  have HCB := Lib.hid hcb
  clear hcb x0
  refine wp_region_noPanic ?_
  refine wp_region_held_drew (S := (fun (w' : World) => w'.cell? ⟨g, 4, none⟩ = some (.map (some bw)) ∧ ((Instr.lookup 133 (.map (some bw)) (.agg #[.int .i64 n.kind, .string (bs n.owner), .int .i64 n.num, .int .i64 n.idx, .string (bs n.text)]) false).run Tryz.prog w' = .ok (.slice A vs.length c) w') ∧ w'.cell? ⟨cb, 0, none⟩ = some (.int .i64 n.kind) ∧ w'.cell? ⟨cb, 1, none⟩ = some (.string (bs n.owner)) ∧ w'.cell? ⟨cb, 2, none⟩ = some (.int .i64 n.num) ∧ w'.cell? ⟨cb, 3, none⟩ = some (.int .i64 n.idx) ∧ w'.cell? ⟨cb, 4, none⟩ = some (.string (bs n.text)))) (by kernel_rfl) ?_ (fun hHeld => ?_)
  · exact ⟨x4, HLK.out W.drew (Below.refl _ _).drew, z0, z1, z2, z3, z4⟩
  refine tk (v := ?_) 0 rfl (by kernel_rfl) (fun _ _ _ h => h) ?_ hHeld ?_
  rotate_left
  · (intro w h; (try dsimp only at h); go_simp; try with_reducible rfl)
  try simp only [Act.put, pB, pC, pD]
  refine tk (v := ?_) 1 rfl (by kernel_rfl) (fun _ _ _ h => h) ?_ hHeld ?_
  rotate_left
  · (intro w h; (try dsimp only at h); go_simp; try with_reducible rfl)
  try simp only [Act.put, pB, pC, pD]
  refine tk (v := ?_) 4 rfl (by kernel_rfl) (fun _ _ _ h => h) ?_ hHeld ?_
  rotate_left
  · (intro w h; (try dsimp only at h); go_simp; try with_reducible rfl)
  try simp only [Act.put, pB, pC, pD]
  refine tk (v := ?_) 5 rfl (by kernel_rfl) (fun _ _ _ h => h) ?_ hHeld ?_
  rotate_left
  · (intro w h; (try dsimp only at h); go_simp; try with_reducible rfl)
  try simp only [Act.put, pB, pC, pD]
  refine tk (v := ?_) 6 rfl (by kernel_rfl) (fun _ _ _ h => h) ?_ hHeld ?_
  rotate_left
  · (intro w h; (try dsimp only at h); go_simp; try with_reducible rfl)
  try simp only [Act.put, pB, pC, pD]
  refine tk (v := ?_) 7 rfl (by kernel_rfl) (fun _ _ _ h => h) ?_ hHeld ?_
  rotate_left
  · (intro w h; (try dsimp only at h); go_simp; try with_reducible rfl)
  try simp only [Act.put, pB, pC, pD]
  refine tk (v := ?_) 8 rfl (by kernel_rfl) (fun _ _ _ h => h) ?_ hHeld ?_
  rotate_left
  · (intro w h; (try dsimp only at h); go_simp; try with_reducible rfl)
  try simp only [Act.put, pB, pC, pD]
  refine tk (v := ?_) 9 rfl (by kernel_rfl) (fun _ _ _ h => h) ?_ hHeld ?_
  rotate_left
  · (intro w h; (try dsimp only at h); go_simp; try with_reducible rfl)
  try simp only [Act.put, pB, pC, pD]
  refine wpAnyH_ready (rs := [2]) (by kernel_rfl) (by simp) ?_
  refine AllReadyH.cons rfl (fun K hK => ?_) AllReadyH.nil
  go_simp
  refine (HFI.out W.drew (HA.out.trans ((Below.refl cb W).drew))).mono ?_; rintro e w2 ⟨rfl, hb2'⟩; rw [HVX.out]; have hb2 := (Below.refl W.heap.size W).drew.trans hb2'; have HB2 := Lib.hid hb2; have lk2 := HLK.out w2 hb2; simp only [veV]; clear hb2'
  try (go_wp2_with fail)
  refine hK.out _ _ ?_ (fun hNew => ?_)
  · exact ⟨(hb2.cell (p := ⟨g, 4, none⟩) VW.out.blk.lt).trans x4, lk2, (hb2.cell (p := ⟨cb, 0, none⟩) hz).trans z0, (hb2.cell (p := ⟨cb, 1, none⟩) hz).trans z1, (hb2.cell (p := ⟨cb, 2, none⟩) hz).trans z2, (hb2.cell (p := ⟨cb, 3, none⟩) hz).trans z3, (hb2.cell (p := ⟨cb, 4, none⟩) hz).trans z4⟩
  clear hK K hHeld
  have hHeld := hNew
  clear hNew
  try simp only [Act.put, pB, pC, pD]
  refine wpAnyH_ready (rs := [3]) (by kernel_rfl) (by simp) ?_
  refine AllReadyH.cons rfl (fun K hK => ?_) AllReadyH.nil
  go_simp
  refine hK.out _ _ ?_ (fun hNew => ?_)
  · exact ⟨(World.cell?_alloc_lt w2 _ _ (Nat.lt_of_lt_of_le VW.out.blk.lt HB2.out.size)).trans ((HB2.out.cell (p := ⟨g, 4, none⟩) VW.out.blk.lt).trans x4), HLK.out _ (HB2.out.trans ((Below.refl _ _).alloc HB2.out.size _)), (World.cell?_alloc_lt w2 _ _ (Nat.lt_of_lt_of_le hz HB2.out.size)).trans ((HB2.out.cell (p := ⟨cb, 0, none⟩) hz).trans z0), (World.cell?_alloc_lt w2 _ _ (Nat.lt_of_lt_of_le hz HB2.out.size)).trans ((HB2.out.cell (p := ⟨cb, 1, none⟩) hz).trans z1), (World.cell?_alloc_lt w2 _ _ (Nat.lt_of_lt_of_le hz HB2.out.size)).trans ((HB2.out.cell (p := ⟨cb, 2, none⟩) hz).trans z2), (World.cell?_alloc_lt w2 _ _ (Nat.lt_of_lt_of_le hz HB2.out.size)).trans ((HB2.out.cell (p := ⟨cb, 3, none⟩) hz).trans z3), (World.cell?_alloc_lt w2 _ _ (Nat.lt_of_lt_of_le hz HB2.out.size)).trans ((HB2.out.cell (p := ⟨cb, 4, none⟩) hz).trans z4)⟩
  clear hK K hHeld
  have hHeld := hNew
  clear hNew
  try simp only [Act.put, pB, pC, pD]
  refine wpAnyH_ready (rs := [10]) (by kernel_rfl) (by simp) ?_
  refine AllReadyH.cons rfl (fun K hK => ?_) AllReadyH.nil
  refine step_append_rd _ (by rfl) _ _ _ (by rfl) w2.heap.size 68 i0 _ 3 32 Tryz.underlying110 hi hz0 hz1 hz2 rfl (by omega) (.slice (some ⟨w2.heap.size, 0, none⟩) 1 1) 1 [.int .i64 vi, .string (bs vv), .bool vb] (by rfl) (own_new w2 w2.heap.size 68 3 [.int .i64 vi, .string (bs vv), .bool vb] rfl (Nat.le_refl _)) (.slice A vs.length c) vs.length (vs.flatMap veC) (by rfl) (Rd.next (Rd.next HRD.out HB2.out) ((Below.refl w2.heap.size w2).alloc (Nat.le_refl _) _)) (fm_len veC_len vs) (ve_one vs) (by unfold maxLen; omega) (by omega) (by simp) ?_; intro ao cap w5 hown5 hg5; have HOW5 := Lib.hid hown5; have HG5 := Lib.hid hg5; have hb5 : Below w2.heap.size w2 w5 := below_own ((Below.refl w2.heap.size w2).alloc (Nat.le_refl _) _) (own_new w2 w2.heap.size 68 3 [.int .i64 vi, .string (bs vv), .bool vb] rfl (Nat.le_refl _)) hg5 (Nat.le_refl _) (by simp); have HB5 := Lib.hid (HB2.out.trans (hb5.mono HB2.out.size)); clear hown5 hg5 hb5
  refine hK.out _ _ ?_ (fun hNew => ?_)
  · exact ⟨(HB5.out.cell (p := ⟨g, 4, none⟩) VW.out.blk.lt).trans x4, HLK.out w5 HB5.out, (HB5.out.cell (p := ⟨cb, 0, none⟩) hz).trans z0, (HB5.out.cell (p := ⟨cb, 1, none⟩) hz).trans z1, (HB5.out.cell (p := ⟨cb, 2, none⟩) hz).trans z2, (HB5.out.cell (p := ⟨cb, 3, none⟩) hz).trans z3, (HB5.out.cell (p := ⟨cb, 4, none⟩) hz).trans z4⟩
  clear hK K hHeld
  have hHeld := hNew
  clear hNew
  try simp only [Act.put, pB, pC, pD]
  refine tk (v := ?_) 11 rfl (by kernel_rfl) (fun _ _ _ h => h) ?_ hHeld ?_
  rotate_left
  · (intro w h; (try dsimp only at h); go_simp; try with_reducible rfl)
  try simp only [Act.put, pB, pC, pD]
  refine wpAnyH_done (by kernel_rfl) ?_ _
  clear hHeld
  try simp only [List.getElem_toArray, List.getElem_cons_zero, List.getElem_cons_succ, Act.put, pB, pC, pD]
  refine NoPanic.normal ?_
  go_wp2_with fail
  go_ret
  refine ⟨_, rfl, ?_, by rw [HCB.out]; exact HA.out.trans (HB5.out.mono (Nat.le_of_lt hz))⟩
  rw [HVV.out, HCB.out]
  have h5 := own_base HOW5.out (b0 := cb) (by have := HB2.out.size; omega)
  unfold OwnP
  rw [List.length_cons, Nat.add_comm vs.length 1, List.flatMap_cons]
  exact h5
end Go.Proofs.YtamjllakfgphnaaGreatDoor
namespace Go.Proofs.YtamjllakfgphnaaGreatDoor
set_option linter.unusedVariables false
def hasAt (a : Nat) (v : Ver) : Bool := !v.absent && decide (a < v.value.length)
def orgF (a : Nat) : Option (Int × UInt8) → List Ver → Option (Int × UInt8)
  | s, [] => s
  | none, v :: r => if hasAt a v = true then orgF a (some (v.idx, v.value.getD a 0)) r else none
  | some (o, b), v :: r => if hasAt a v = true ∧ v.value.getD a 0 = b then orgF a (some (v.idx, b)) r else some (o, b)
def backL (i : Int) (l : List Ver) : List Ver := l.reverse.filter fun v => decide (v.idx < i)
def orgR (N : Nat) (l : List Ver) (a i : Int) : Int × Int :=
  if i < 0 ∨ (N : Int) < i ∨ a < 0 then (0, 2) else
    match orgF a.toNat none (backL i l) with
    | none => (0, 8)
    | some (o, _) => (o, 0)
theorem orgF_nil (a : Nat) (s : Option (Int × UInt8)) : orgF a s [] = s := by cases s <;> rfl
theorem orgF_no (a : Nat) (s : Option (Int × UInt8)) {v : Ver} (h : hasAt a v = false) (r : List Ver) : orgF a s (v :: r) = s := by
  rcases s with _ | ⟨o, b⟩ <;> unfold orgF <;> simp [h]
theorem orgF_ne (a : Nat) {o : Int} {b : UInt8} {v : Ver} (h : v.value.getD a 0 ≠ b) (r : List Ver) : orgF a (some (o, b)) (v :: r) = some (o, b) := by
  unfold orgF
  rw [if_neg (fun e => h e.2)]
theorem orgF_first (a : Nat) {v : Ver} (h : hasAt a v = true) (r : List Ver) : orgF a none (v :: r) = orgF a (some (v.idx, v.value.getD a 0)) r := by
  rw [orgF, if_pos h]
theorem orgF_eq (a : Nat) {o : Int} {b : UInt8} {v : Ver} (h : hasAt a v = true) (hb : v.value.getD a 0 = b) (r : List Ver) : orgF a (some (o, b)) (v :: r) = orgF a (some (v.idx, b)) r := by
  rw [orgF, if_pos ⟨h, hb⟩]
theorem backL_mem {i : Int} {l : List Ver} {v : Ver} (h : v ∈ backL i l) : v ∈ l ∧ v.idx < i := by
  unfold backL at h
  rw [List.mem_filter] at h
  exact ⟨List.mem_reverse.1 h.1, of_decide_eq_true h.2⟩
theorem orgF_idx (a : Nat) : ∀ (l : List Ver) (s : Option (Int × UInt8)) (o : Int) (b : UInt8), orgF a s l = some (o, b) → (∃ v ∈ l, v.idx = o) ∨ s = some (o, b)
  | [], s, o, b, h => .inr h
  | v :: r, none, o, b, h => by
    unfold orgF at h
    split at h
    · rcases orgF_idx a r _ o b h with ⟨u, hu, e⟩ | e
      · exact .inl ⟨u, by simp [hu], e⟩
      · injection e with e
        injection e with e1 e2
        exact .inl ⟨v, by simp, e1⟩
    · cases h
  | v :: r, some (o', b'), o, b, h => by
    unfold orgF at h
    split at h
    · rcases orgF_idx a r _ o b h with ⟨u, hu, e⟩ | e
      · exact .inl ⟨u, by simp [hu], e⟩
      · injection e with e
        injection e with e1 e2
        exact .inl ⟨v, by simp, e1⟩
    · exact .inr h
end Go.Proofs.YtamjllakfgphnaaGreatDoor
namespace Go.Proofs.YtamjllakfgphnaaGreatDoor
open Go.RowKit Go.Shelf
set_option linter.unusedSimpArgs false
set_option linter.unusedVariables false
attribute [local go_sem] Oper.semAt_some
def upTo {α : Type} (f : Nat → α) (k : Nat) : List α := (List.range k).map f
theorem upTo_succ {α : Type} (f : Nat → α) (k : Nat) : upTo f (k + 1) = upTo f k ++ [f k] := by simp [upTo, List.range_succ]
theorem upTo_length {α : Type} (f : Nat → α) (k : Nat) : (upTo f k).length = k := by simp [upTo]
def bkF (vs : List Ver) (j : Nat) : Nat × Ver := (vs.length - 1 - j, vs.getD (vs.length - 1 - j) ⟨0, [], true⟩)
theorem bk_snd (vs : List Ver) (k : Nat) (hk : k ≤ vs.length) : (upTo (bkF vs) k).map Prod.snd = vs.reverse.take k := by
  apply List.ext_getElem
  · simp [upTo]; omega
  · intro i h1 h2
    simp only [upTo, List.length_map, List.length_range] at h1
    simp only [upTo, bkF, List.getElem_map, List.getElem_range, List.getElem_take, List.getElem_reverse]
    rw [List.getD_eq_getElem?_getD, List.getElem?_eq_getElem (by omega)]
    rfl
def selV (i : Int) (l : List (Nat × Ver)) : List Ver := (l.map Prod.snd).filter fun v => decide (v.idx < i)
theorem selV_all (i : Int) (vs : List Ver) : selV i (upTo (bkF vs) vs.length) = backL i vs := by
  unfold selV backL
  rw [bk_snd vs _ (Nat.le_refl _), List.take_of_length_le (by simp)]
theorem selV_prefix (i : Int) (vs : List Ver) (k : Nat) (hk : k ≤ vs.length) : selV i (upTo (bkF vs) k) <+: backL i vs := by
  unfold selV backL
  rw [bk_snd vs k hk]
  exact (List.take_prefix k _).filter _
theorem selV_yes (i : Int) (l : List (Nat × Ver)) (x : Nat × Ver) (h : decide (x.2.idx < i) = true) : selV i (l ++ [x]) = selV i l ++ [x.2] := by
  unfold selV
  rw [List.map_append, List.filter_append]
  simp [of_decide_eq_true h]
theorem selV_no (i : Int) (l : List (Nat × Ver)) (x : Nat × Ver) (h : decide (x.2.idx < i) = false) : selV i (l ++ [x]) = selV i l := by
  unfold selV
  rw [List.map_append, List.filter_append]
  have := of_decide_eq_false h
  simp; omega
theorem selV_len (i : Int) (l : List (Nat × Ver)) : (selV i l).length ≤ l.length := by
  unfold selV
  refine Nat.le_trans (List.length_filter_le _ _) ?_
  simp
set_option maxRecDepth 100000 in
set_option maxHeartbeats 2000000 in
theorem backward1_in (F : Fence) (n : Nat) (h7 : F.fn 139) (hro : F.round = none) (hn : 1 ≤ n) (l Bs b c : Nat) (cur : Array Value) (vs : List Ver) (hlen : vs.length ≤ 100000)
    (hcur : ∀ k (hk : k < vs.length), cur[k * 3]? = some (.int .i64 vs[k].idx) ∧ cur[k * 3 + 1]? = some (.string (bs vs[k].value)) ∧ cur[k * 3 + 2]? = some (.bool vs[k].absent))
    (Kp : World → World → Prop) (hK1 : ∀ {X Y : World}, Kp X Y → Blk X b 68 cur → Blk Y b 68 cur) (hK2 : ∀ {X Y : World}, Kp X Y → Blk X Bs 110 #[.slice (some ⟨b, 0, none⟩) vs.length c] → Blk Y Bs 110 #[.slice (some ⟨b, 0, none⟩) vs.length c])
    (J Jx : List (Nat × Ver) → World → Prop)
    (hY : ∀ pre x W, J pre W → pre.length < vs.length → YieldAt F (n - 1) Tryz.prog l #[.int .i64 (x.1 : Int), veV x.2] W fun e W' =>
      (e = .returned (.bool true) ∧ J (pre ++ [x]) W' ∧ Kp W W') ∨ (e = .returned (.bool false) ∧ Jx (pre ++ [x]) W'))
    (W : World) (hb : Blk W b 68 cur) (hs : Blk W Bs 110 #[.slice (some ⟨b, 0, none⟩) vs.length c]) (h0 : J [] W) :
    CallsIn F n Tryz.prog 139 #[.func (.yield l) #[] #[], .pointer (some ⟨Bs, 0, none⟩)] W fun e W' => (∃ v, e = .returned v) ∧
      ((∃ ys, ys = upTo (bkF vs) vs.length ∧ J ys W') ∨ (∃ pre, (∃ k, k ≤ vs.length ∧ pre = upTo (bkF vs) k) ∧ Jx pre W')) := by
  have x0 := hs.cell 0
  simp only [List.getElem?_toArray, List.getElem?_cons_zero] at x0
  have HB := Lib.hid hb
  have HS := Lib.hid hs
  have HC := Lib.hid hcur
  have H0 : Hid (∃ k : Nat, k ≤ vs.length ∧ Value.int .i64 ((vs.length : Int) - 1) = .int .i64 (((vs.length - k : Nat) : Int) - 1) ∧ J (upTo (bkF vs) k) W ∧ Blk W b 68 cur ∧ Blk W Bs 110 #[.slice (some ⟨b, 0, none⟩) vs.length c]) := Lib.hid ⟨0, Nat.zero_le _, rfl, h0, hb, hs⟩
  clear hb hs hcur h0
  refine callsIn_of_wp Tryz.func139 rfl h7 ?_ hro
  simp only [Tryz.ntmps139, List.size_toArray, List.length_cons, List.length_nil, Nat.reduceAdd, Nat.reduceSub, Array.replicate_succ, Array.replicate_zero, List.push_toArray, List.append_toArray, List.nil_append, List.cons_append]
  gi_wp2
  clear x0
  gi_loopw [3] (fun i wr => ∃ k : Nat, k ≤ vs.length ∧ i = .int .i64 (((vs.length - k : Nat) : Int) - 1) ∧ J (upTo (bkF vs) k) wr ∧ Blk wr b 68 cur ∧ Blk wr Bs 110 #[.slice (some ⟨b, 0, none⟩) vs.length c])
    (fun i _ => (intOf i + 1).toNat)
  case atStart => exact H0.out
  case round =>
    clear H0
    obtain ⟨k, hk, rfl, hJs, hb, hs⟩ := hrel
    have x0 := hs.cell 0
    simp only [List.getElem?_toArray, List.getElem?_cons_zero] at x0
    have HB2 := Lib.hid hb
    have HS2 := Lib.hid hs
    clear hs
    rcases Nat.eq_zero_or_pos (vs.length - k) with hm | hm
    · obtain rfl : k = vs.length := by omega
      rw [hm]
      clear hm hb
      gi_wp2
      go_end0
      exact ⟨⟨_, rfl⟩, .inl ⟨_, rfl, hJs⟩⟩
    · obtain ⟨m, hm1⟩ : ∃ m, vs.length - k = m + 1 := ⟨vs.length - k - 1, by omega⟩
      have hml : m < vs.length := by omega
      have hxe : Hid (bkF vs k = (m, vs[m])) := Lib.hid (by
        unfold bkF
        have e : vs.length - 1 - k = m := by omega
        rw [e, List.getD_eq_getElem?_getD, List.getElem?_eq_getElem hml]
        rfl)
      have hm3 : Hid (vs.length - (k + 1) = m) := Lib.hid (by omega)
      rw [hm1]
      have j0 : ((m + 1 : Nat) : Int) - 1 = (m : Int) := by omega
      rw [j0]
      have j1 : (0 : Int) ≤ (m : Int) := by omega
      have j2 : (m : Int) < (vs.length : Int) := by omega
      have hk1 : k + 1 ≤ vs.length := by omega
      obtain ⟨y0, y1, y2⟩ := HC.out m hml
      rw [← hb.cell] at y0 y1 y2
      obtain ⟨fn, tmps, assign, body, hy, hR⟩ := hY _ (m, vs[m]) wr hJs (by rw [upTo_length]; omega)
      dsimp only at hy
      simp only [veV] at hy
      clear hb j0 hm hm1
      gi_wp2
      refine hR.mono ?_
      rintro e W3 (⟨rfl, hJ3, hk3⟩ | ⟨rfl, hJx3⟩)
      · gi_wp2
        go_roundw
        case rel => exact ⟨k + 1, hk1, by rw [hm3.out], by rw [upTo_succ, hxe.out]; exact hJ3, hK1 hk3 HB2.out, hK2 hk3 HS2.out⟩
        case measure => simp [intOf]
      · gi_wp2
        refine bodyPost_ret (results_none rfl _ _ _) rfl ?_
        exact ⟨⟨_, rfl⟩, .inr ⟨_, ⟨k + 1, hk1, by rw [upTo_succ, hxe.out]⟩, hJx3⟩⟩
set_option maxHeartbeats 1000000 in
theorem backward_in (F : Fence) (n : Nat) (h5 : F.fn 104) (hro : F.round = none) (a : Option Addr) (len cap : Nat) (w : World) :
    CallsIn F n Tryz.prog 104 #[.slice a len cap] w fun e w' => e = .returned (.func (.func 139) #[] #[.pointer (some ⟨w.heap.size, 0, none⟩)]) ∧ w' = w.alloc (.cells #[.slice a len cap] 110) := by
  refine callsIn_of_wp Tryz.func104 rfl h5 ?_ hro
  simp only [Tryz.ntmps104, List.size_toArray, List.length_cons, List.length_nil, Nat.reduceAdd, Nat.reduceSub, Array.replicate_succ, Array.replicate_zero, List.push_toArray, List.append_toArray, List.nil_append, List.cons_append]
  gi_wp2
  go_ret
  exact ⟨rfl, rfl⟩
theorem backward_stops (F : Fence) (n : Nat) (h7 : F.fn 139) (hro : F.round = none) (hn : 1 ≤ n) (Bs b c : Nat) (cur : Array Value) (vs : List Ver) (hlen : vs.length ≤ 100000)
    (hcur : ∀ k (hk : k < vs.length), cur[k * 3]? = some (.int .i64 vs[k].idx) ∧ cur[k * 3 + 1]? = some (.string (bs vs[k].value)) ∧ cur[k * 3 + 2]? = some (.bool vs[k].absent))
    (Kp : World → World → Prop) (hK1 : ∀ {X Y : World}, Kp X Y → Blk X b 68 cur → Blk Y b 68 cur) (hK2 : ∀ {X Y : World}, Kp X Y → Blk X Bs 110 #[.slice (some ⟨b, 0, none⟩) vs.length c] → Blk Y Bs 110 #[.slice (some ⟨b, 0, none⟩) vs.length c])
    (w : World) (hb : Blk w b 68 cur) (hs : Blk w Bs 110 #[.slice (some ⟨b, 0, none⟩) vs.length c]) :
    SeqStopsK F n Tryz.prog 139 #[.pointer (some ⟨Bs, 0, none⟩)] (fun x : Nat × Ver => #[Value.int .i64 (x.1 : Int), veV x.2]) Kp (fun ys => ys = upTo (bkF vs) vs.length)
      (fun pre => ∃ k, k ≤ vs.length ∧ pre = upTo (bkF vs) k) vs.length w := fun l J Jx W hW _ _ hY h0 =>
  backward1_in F n h7 hro hn l Bs b c cur vs hlen hcur Kp hK1 hK2 J Jx hY W (hb.next hW hb.lt) (hs.next hW hs.lt) h0
theorem own_blkV {w : World} {base : Nat} {v : Value} {vs : List Ver} (h : w.ownsRow base 68 3 v vs.length (vs.flatMap veC)) (hp : 0 < vs.length) :
    ∃ g c cur, v = .slice (some ⟨g, 0, none⟩) vs.length c ∧ base ≤ g ∧ Blk w g 68 cur ∧ ∀ k (hk : k < vs.length), cur[k * 3]? = some (.int .i64 vs[k].idx) ∧ cur[k * 3 + 1]? = some (.string (bs vs[k].value)) ∧ cur[k * 3 + 2]? = some (.bool vs[k].absent) := by
  obtain ⟨_, ⟨_, h0⟩ | ⟨g, cap, cur, hv, hg, hh, h1, h2, h3, h4⟩⟩ := h
  · omega
  · refine ⟨g, cap, cur, hv, hg, hh, fun k hk => ?_⟩
    have hi : ∀ j (hj : j < 3), cur[k * 3 + j]? = (veC vs[k])[j]? := fun j hj => by
      rw [← fm_get veC_len vs k hk j hj, ← h4, List.getElem?_take_of_lt (by omega), Array.getElem?_toList]
    exact ⟨hi 0 (by omega), hi 1 (by omega), hi 2 (by omega)⟩
theorem J_below {α : Type} {B : Nat} {J : List α → World → Prop} (hJ : OwnFrom B J) {pre : List α} {W : World} {o : Obj} {w2 : World} (ha : Below W.heap.size W (W.alloc o)) (hb : Below (W.alloc o).heap.size (W.alloc o) w2) (h : J pre W) : J pre w2 :=
  hJ pre _ _ none (hJ.alloc o h) ⟨hb.os, hb.tape, hb.output, hb.size, fun k hk _ => hb.block k hk⟩ (fun r e => by cases e)
set_option maxHeartbeats 1000000 in
theorem backwards_is (x : Option Addr) (n : Nm) (i : Int) (w : World) :
    Calls Tryz.prog 59 #[.pointer x, nmV n, .int .i64 i] w fun e w' => e = .returned (.func (.func 103) #[] #[.pointer (some ⟨w.heap.size, 0, none⟩), .pointer (some ⟨w.heap.size + 1, 0, none⟩), .pointer (some ⟨w.heap.size + 2, 0, none⟩)]) ∧
      w' = ((w.alloc (.cells #[.pointer x] 46)).alloc (.cells #[.int .i64 n.kind, .string (bs n.owner), .int .i64 n.num, .int .i64 n.idx, .string (bs n.text)] 26)).alloc (.cells #[.int .i64 i] 3) := by
  go_enter Tryz.func59, Tryz.ntmps59
  simp only [nmV, nmA]
  go_wp2
  go_ret
  exact ⟨rfl, rfl⟩
set_option maxRecDepth 100000 in
set_option maxHeartbeats 4000000 in
theorem backwards_but {w : World} {F0 : Nat → Prop} {g : Nat} {s0 : St} {l : List Ac} {n : Nm} (i : Int) (hv : VAt w F0 g s0 l) (hn : OwnE n) (ho : VOk l) (b1 b2 b3 : Nat) (k1 : Blk w b1 46 #[.pointer (some ⟨g, 0, none⟩)])
    (k2 : Blk w b2 26 #[.int .i64 n.kind, .string (bs n.owner), .int .i64 n.num, .int .i64 n.idx, .string (bs n.text)]) (k3 : Blk w b3 3 #[.int .i64 i]) (nb : Nat) (Wr : Nat → Prop) (hWr : ∀ k, Wr k → k < w.heap.size) (h3 : ¬ Wr b3) (m : Nat) (hm : 4 ≤ m) :
    SeqBut Fence.wide m Tryz.prog 103 #[.pointer (some ⟨b1, 0, none⟩), .pointer (some ⟨b2, 0, none⟩), .pointer (some ⟨b3, 0, none⟩)] (fun v : Ver => #[veV v]) nb Wr (fun ys => ys = backL i (verL s0 l n)) (fun pre => pre <+: backL i (verL s0 l n)) (verL s0 l n).length w := by
  intro J Jx W hW hsz hJ hJx hY h0
  have hvl : (verL s0 l n).length ≤ 1001 := by
    have := ho.vlen n
    unfold verL; simp; omega
  have hvp : 0 < (verL s0 l n).length := by unfold verL; simp
  obtain ⟨vs, hvs⟩ : ∃ vs, verL s0 l n = vs := ⟨_, rfl⟩
  have HVS := Lib.hid hvs
  rw [hvs] at hY hvl hvp ⊢
  clear hvs
  obtain ⟨r, hr⟩ : ∃ r, w.heap.size + 1 = r := ⟨_, rfl⟩
  rw [hr] at hY ⊢
  have ha := (Below.refl W.heap.size W).alloc (Nat.le_refl _) (.cells #[.func (.yield r) #[] #[]] 190)
  have z0 := Blk.new W 190 #[.func (.yield r) #[] #[]]
  have hVW := Lib.hid ((hv.next hW).next ha)
  have K1 := (k1.next hW k1.lt).alloc (.cells #[.func (.yield r) #[] #[]] 190)
  have K2 := (k2.next hW k2.lt).alloc (.cells #[.func (.yield r) #[] #[]] 190)
  have K3 := (k3.next hW k3.lt).alloc (.cells #[.func (.yield r) #[] #[]] 190)
  have x1 := K1.cell 0
  have n0 := K2.cell 0
  have n1 := K2.cell 1
  have n2 := K2.cell 2
  have n3 := K2.cell 3
  have n4 := K2.cell 4
  simp only [qB, qC, qD] at x1 n0 n1 n2 n3 n4
  have h0' := h0
  have hJ1 : J [] (W.alloc (.cells #[.func (.yield r) #[] #[]] 190)) := hJ.alloc _ h0
  have HZ0 := Lib.hid z0
  have HK3 := Lib.hid K3
  have HN := Lib.hid hn
  have HO := Lib.hid ho
  have hb3 := k3.lt
  clear hv hW k1 k2 k3 h0 z0 K1 K2 K3 hn ho
  refine callsIn_of_wp_marks Tryz.func103 rfl trivial ?_ rfl
  simp only [Tryz.ntmps103, List.size_toArray, List.length_cons, List.length_nil, Nat.reduceAdd, Nat.reduceSub, Array.replicate_succ, Array.replicate_zero, List.push_toArray, List.append_toArray, List.nil_append, List.cons_append]
  gi_wp2_with fail
  refine ⟨trivial, fun _ => by omega, ?_⟩
  gi_at_call 42
  (refine (callsIn_wide.2 (of_is (n := n) hVW.out HN.out HO.out)).mono ?_; rintro e w2 ⟨v2, rfl, hov, hb2⟩)
  rw [HVS.out] at hov
  obtain ⟨gv, cv, cur, rfl, hgv, HBV, hcur⟩ := own_blkV hov hvp
  have hz1 : W.heap.size < w2.heap.size := Nat.lt_of_lt_of_le (show W.heap.size < _ by simp) hb2.size
  have hgv2 := HBV.lt
  have HBV2 := Lib.hid HBV
  have HJ2 := Lib.hid (J_below hJ ((Below.refl W.heap.size W).alloc (Nat.le_refl _) _) hb2 h0')
  gi_wp2_with fail
  refine ⟨trivial, fun _ => by omega, ?_⟩
  gi_at_call 104
  (refine (backward_in Fence.wide _ trivial rfl _ _ _ _).mono ?_; rintro e w3 ⟨rfl, rfl⟩)
  gi_wp2_with fail
  have hW3b := (Below.refl w2.heap.size w2).alloc (Nat.le_refl _) (.cells #[.slice (some ⟨gv, 0, none⟩) vs.length cv] 110)
  have KB3 := Lib.hid (HBV2.out.next hW3b hgv2)
  have KS3 := Lib.hid (Blk.new w2 110 #[.slice (some ⟨gv, 0, none⟩) vs.length cv])
  have KI3 := Lib.hid ((HK3.out.next hb2 HK3.out.lt).next hW3b (Nat.lt_of_lt_of_le HK3.out.lt hb2.size))
  have KY3 := Lib.hid ((HZ0.out.next hb2 HZ0.out.lt).next hW3b (Nat.lt_of_lt_of_le HZ0.out.lt hb2.size))
  have J3 := Lib.hid (show J [] (w2.alloc (.cells #[.slice (some ⟨gv, 0, none⟩) vs.length cv] 110)) from hJ.alloc _ HJ2.out)
  have hs3 : (w2.alloc (.cells #[.slice (some ⟨gv, 0, none⟩) vs.length cv] 110)).heap.size = w2.heap.size + 1 := by simp
  have hgw : W.heap.size < gv := by
    have : (W.alloc (.cells #[.func (.yield r) #[] #[]] 190)).heap.size ≤ gv := hgv
    simp at this
    omega
  clear hW3b HBV HBV2 HZ0 HK3 HJ2 hov hb2 hJ1 h0' x1 n0 n1 n2 n3 n4 hVW HN HO ha hgv
  generalize w2.alloc (.cells #[.slice (some ⟨gv, 0, none⟩) vs.length cv] 110) = W3 at *
  obtain ⟨bsl, hbsl⟩ : ∃ x, w2.heap.size = x := ⟨_, rfl⟩
  rw [hbsl] at KS3 hs3 hz1 hgv2 ⊢
  clear hbsl
  have hWn : ∀ k, W.heap.size ≤ k → ¬ Wr k ∧ k ≠ r := fun k hk => ⟨fun h => by have := hWr k h; omega, by omega⟩
  have keep : ∀ {X Y : World} {b : Nat} {t : TypeId} {cs : Array Value}, (∀ (k : Nat) (o : Obj), ¬ Wr k → k ≠ r → k < W3.heap.size → X.heap[k]? = some o → Y.heap[k]? = some o) → W.heap.size ≤ b → b < W3.heap.size → Blk X b t cs → Blk Y b t cs :=
    fun h h1 h2 h4 => h _ _ (hWn _ h1).1 (hWn _ h1).2 h2 h4
  refine wpIn_rangeFunc_ownH rfl (by omega) (gf := 139) (lb := #[.pointer (some ⟨bsl, 0, none⟩)]) rfl trivial (enters_of Tryz.func139 (by kernel_rfl) rfl)
    (backward_stops Fence.wide (m - 1) trivial rfl (by omega) bsl gv cv cur vs (by omega) hcur (fun X Y => ∀ (k : Nat) (o : Obj), ¬ Wr k → k ≠ r → k < W3.heap.size → X.heap[k]? = some o → Y.heap[k]? = some o)
      (fun h k => keep h (by omega) (by omega) k) (fun h k => keep h (by omega) (by omega) k) W3 KB3.out KS3.out)
    (fun h1 h2 k o a b c d => h2 k o a b c (h1 k o a b c d)) (fun X q o o' h1 h2 h3 h4 k o2 a b c d => (World.putObj_heap_other (by omega)).trans d) (Below.refl _ _) (fun _ => rfl)
    (fun pre X => J (selV i pre) X ∧ W3.heap.size ≤ X.heap.size ∧ ∀ (k : Nat) (o : Obj), ¬ Wr k → k ≠ r → W3.heap[k]? = some o → X.heap[k]? = some o)
    (fun c pre X => c = .ret ∧ Jx (selV i pre) X)
    (fun s X Y row h hg hr => ⟨hJ _ X Y row h.1 hg (fun q e => ⟨by have := (hr q e).1; omega, (hr q e).2⟩), Nat.le_trans h.2.1 hg.size, fun k o a b c => row_keeps hg (h.2.2 k o a b c) (fun q e => by have := (hr q e).1; have := (Array.getElem?_eq_some_iff.1 c).1; omega)⟩)
    (fun c s X Y row h hg hr => ⟨h.1, hJx _ X Y row h.2 hg (fun q e => ⟨by have := (hr q e).1; omega, (hr q e).2⟩)⟩)
    ⟨J3.out, Nat.le_refl _, fun _ _ _ _ h => h⟩
    (fun x a' X => ∃ Bx, W3.heap.size ≤ Bx ∧ Blk X Bx 68 #[.int .i64 x.2.idx, .string (bs x.2.value), .bool x.2.absent] ∧ a' = { tmps := #[.func (.yield r) #[] #[], .pointer (some ⟨b1, 0, none⟩), .pointer (some ⟨b2, 0, none⟩), .pointer (some ⟨b3, 0, none⟩), .pointer (some ⟨W.heap.size, 0, none⟩), undef, .pointer (some ⟨Bx, 0, none⟩), .pointer (some ⟨g, 0, none⟩), .agg #[.int .i64 n.kind, .string (bs n.owner), .int .i64 n.num, .int .i64 n.idx, .string (bs n.text)], .slice (some ⟨gv, 0, none⟩) vs.length cv, .func (.func 139) #[] #[.pointer (some ⟨bsl, 0, none⟩)], .int .i64 (x.1 : Int), .agg #[.int .i64 x.2.idx, .string (bs x.2.value), .bool x.2.absent], undef, undef, undef, undef, undef, undef, undef, undef, undef, undef], defers := [] })
    (fun x a' _ X Y row h hg hr => by
      obtain ⟨Bx, h1, h2, h3⟩ := h
      exact ⟨Bx, h1, h2.grown hg (fun e => by obtain ⟨_, o, ho, hc⟩ := hr Bx e.symm; rw [show X.heap[Bx]? = _ from h2] at ho; cases ho; cases hc), h3⟩) ?assign ?body ?done ?stop
  case assign =>
    rintro l' pre x X K ⟨hj, hsz, hk⟩ hK
    simp only [veV]
    gi_wp2
    have hb := (Below.refl X.heap.size X).alloc (Nat.le_refl _) (.cells #[.int .i64 x.2.idx, .string (bs x.2.value), .bool x.2.absent] 68)
    exact hK _ _ ((KeepsOthers.alloc _ _).from _) (fun k o _ _ _ h => (hb.block k (Array.getElem?_eq_some_iff.1 h).1).trans h)
      ⟨hJ.alloc _ hj, Nat.le_trans hsz hb.size, fun k o a b c => (hb.block k (Array.getElem?_eq_some_iff.1 (hk k o a b c)).1).trans (hk k o a b c)⟩ ⟨X.heap.size, hsz, Blk.new X _ _, rfl⟩
  case body =>
    rintro l' pre x a' X hl ⟨rr, hrr⟩ ⟨hj, hsz, hk⟩ ⟨Bx, hBx, bX, rfl⟩ hlt
    have hlp : (selV i pre).length < vs.length := Nat.lt_of_le_of_lt (selV_len i pre) hlt
    have c0 := bX.cell 0
    have c1 := bX.cell 1
    have c2 := bX.cell 2
    have ci := (show Blk X b3 3 #[.int .i64 i] from hk _ _ h3 (by omega) KI3.out).cell 0
    have cy := (show Blk X W.heap.size 190 #[.func (.yield r) #[] #[]] from hk _ _ (hWn _ (Nat.le_refl _)).1 (hWn _ (Nat.le_refl _)).2 KY3.out).cell 0
    simp only [qB, qC, qD] at c0 c1 c2 ci cy
    obtain ⟨bl, hbl⟩ : ∃ q, decide (x.2.idx < i) = q := ⟨_, rfl⟩
    have HBL := Lib.hid hbl
    have HJX := Lib.hid hj
    have HK := Lib.hid hk
    obtain ⟨fn, tmps, assign, body, hy, hR⟩ := YieldAt.anyDepth rfl (m - 1 - 1 - 1) (hY (selV i pre) x.2 X hj hlp)
    clear hY
    simp only [veV] at hy
    clear hj hk bX
    cases bl with
    | true =>
      gi_wp2
      refine ⟨fun _ => by omega, hR.mono ?_⟩
      rintro e X2 (⟨rfl, hj2, hk2⟩ | ⟨rfl, hjx2, hk2⟩)
      · gi_wp2
        exact ⟨⟨hk2.low.size, fun k o a b _ => hk2.high k o (by omega) (hWn k (by omega)).1 b⟩, fun k o a b _ d => hk2.high k o b a d, by rw [selV_yes _ _ _ HBL.out]; exact hj2, Nat.le_trans hsz hk2.low.size, fun k o a b c => hk2.high k o b a (HK.out k o a b c)⟩
      · gi_wp2
        exact ⟨⟨hk2.size, fun k o a b c => hk2.high k o (by omega) (by omega) b c⟩, rfl, by rw [selV_yes _ _ _ HBL.out]; exact hjx2⟩
    | false =>
      gi_wp2
      refine ⟨fun _ h => (by cases h), ?_⟩
      gi_wp2
      exact ⟨KeepsFrom.refl _ _, fun k o _ _ _ d => d, by rw [selV_no _ _ _ HBL.out]; exact HJX.out, hsz, HK.out⟩
  case done =>
    rintro D ys X hD rfl ⟨hj, hsz, hk⟩ hK
    gi_wp2
    refine ⟨by simp, .inl ⟨_, _, rfl, run_takeDeferred hK, ?_⟩⟩
    rw [selV_all] at hj
    exact ⟨_, results_none rfl _ _ _, ⟨_, rfl⟩, .inl ⟨_, rfl, hJ.putObj _ hj (by omega) hK rfl⟩⟩
  case stop =>
    rintro D c pre X hD ⟨k, hk, rfl⟩ ⟨rfl, hjx⟩ hK
    gi_wp2
    refine ⟨by simp, .inl ⟨_, _, rfl, run_takeDeferred hK, ?_⟩⟩
    exact ⟨_, results_none rfl _ _ _, ⟨_, rfl⟩, .inr ⟨_, selV_prefix i vs k hk, hJx.putObj _ hjx (by omega) hK rfl⟩⟩
end Go.Proofs.YtamjllakfgphnaaGreatDoor
namespace Go.Proofs.YtamjllakfgphnaaGreatDoor
open Go.RowKit Go.Shelf
set_option linter.unusedSimpArgs false
set_option linter.unusedVariables false
def noDefer (o : Oper) : Bool := match o.op with | .defer _ => false | _ => true
theorem noDefer_ne {o : Oper} (h : noDefer o = true) (c : Call) : o.op ≠ .defer c := fun e => by unfold noDefer at h; rw [e] at h; cases h
theorem Oper_wpIn_round {F : Fence} {n : Nat} {P : Program} {o : Oper} {a : Go.Act} {w : World} {K K' : Go.Act → World → Prop} {Q : Exit → Go.Act → World → Prop} (l : Nat) (hro : F.round = none) (hd : noDefer o = true) (hK : ∀ a w, K a w → K' a w)
    (h : o.wpIn F n P a w K Q) : o.wpIn (F.inRound l) n P a w K' Q := by
  have h := Oper.wpIn_mono hK h
  unfold Oper.wpIn at h ⊢
  refine ⟨h.1, ?_⟩
  have h2 := h.2
  rw [Oper.semAt_eq _ _ _ (noDefer_ne hd)] at h2 ⊢
  exact h2
theorem wpAnyIn_round {F : Fence} {n : Nat} {P : Program} {md : Region.Mode} {ops : Array Oper} {Q : Exit → Go.Act → World → Prop} (l : Nat) (hro : F.round = none) (hd : ∀ (i : Nat) (o : Oper), ops[i]? = some o → noDefer o = true) :
    ∀ (fuel : Nat) (listed : Array Bool) (a : Go.Act) (w : World), wpAnyIn F n P md ops Q fuel listed a w → wpAnyIn (F.inRound l) n P md ops Q fuel listed a w
  | 0, listed, a, w, h => h
  | fuel + 1, listed, a, w, h => by
    refine ⟨h.1, fun i hi => ?_⟩
    have h2 := h.2 i hi
    unfold wpOpIn at h2 ⊢
    cases ho : ops[i]? with
    | none => rw [ho] at h2; exact wpAnyIn_round l hro hd fuel _ _ _ h2
    | some o =>
      rw [ho] at h2
      simp only at h2 ⊢
      split
      · rename_i hw
        rw [if_pos hw] at h2
        exact Oper_wpIn_round l hro (hd i o ho) (fun a w => wpAnyIn_round l hro hd fuel _ a w) h2
      · rename_i hw
        rw [if_neg hw] at h2
        exact ⟨h2.1, wpAnyIn_round l hro hd fuel _ _ _ h2.2⟩
theorem noDefer_all {ops : Array Oper} (h : ops.toList.all noDefer = true) (i : Nat) (o : Oper) (hi : ops[i]? = some o) : noDefer o = true := by
  rw [List.all_eq_true] at h
  exact h o (by rw [← Array.getElem?_toList] at hi; exact List.mem_of_getElem? hi)
theorem wpIn_region_any_round {F : Fence} {n : Nat} {P : Program} {ops : Array Oper} {Q : Exit → Go.Act → World → Prop} {id l : Nat} {a : Go.Act} {w : World} (hro : F.round = none) (hd : ops.toList.all noDefer = true) (hm : P.follows .mixedOrders = true)
    (h : wpAnyIn F n P .any ops Q ops.size (Array.replicate ops.size false) a { w with drawn := w.drawn + 1 }) : (Code.region id ops true).wpIn (F.inRound l) n P Q a w :=
  wpIn_region_any hm (wpAnyIn_round l hro (fun i o => noDefer_all hd i o) _ _ _ _ h)
theorem wpIn_region_quiet_round {F : Fence} {n : Nat} {P : Program} {Q : Exit → Go.Act → World → Prop} {id l : Nat} {a : Go.Act} {w : World} {ls : List Oper} (hro : F.round = none) (hd : ls.all noDefer = true) (hm : P.follows .mixedOrders = true) (hB : Region.lexB .any ls.toArray = true)
    (h : wpQuietIn F n P ls.toArray (fun w' => ∃ n, w' = w.drewN n) (fun a' => ∀ w', (∃ n, w' = w.drewN n) → Q .normal a' w') ls a) : (Code.region id ls.toArray true).wpIn (F.inRound l) n P Q a w := by
  simp only [Region.lexB, Bool.and_eq_true] at hB
  refine wpIn_region_any_round hro (by simpa using hd) hm (wpAnyIn_of_quiet (C := fun w' => ∃ n, w' = w.drewN n) (Q := fun a' => ∀ w', (∃ n, w' = w.drewN n) → Q .normal a' w') hro (fun _ w' hw' h => h w' hw') _ _ _ _ ⟨1, rfl⟩ ?_)
  have := wpAnyQIn_lex (F := F) (n := n) (C := fun w' => ∃ n, w' = w.drewN n) (md := .any) hB.1 ls 0 (Array.replicate ls.toArray.size false) a (by simp) (by simpa using hB.2) h
  simpa using this
end Go.Proofs.YtamjllakfgphnaaGreatDoor
