/- Walks of layer 46: versions.orderly. -/
import Derived.Test.YtamjllakfgphnaaGreatDoorGB
import Derived.Test.YtamjllakfgphnaaGreatDoorGR
import Derived.Test.YtamjllakfgphnaaGreatDoorGV
import Derived.Test.YtamjllakfgphnaaGreatDoorGM
namespace Go.Proofs.YtamjllakfgphnaaGreatDoor
open Go.RowKit
set_option linter.unusedSimpArgs false
set_option linter.unusedVariables false
attribute [local go_sem ↓] Go.wp_at_zero Go.wp_at_succ
set_option maxRecDepth 100000 in
set_option maxHeartbeats 16000000 in
theorem orderly_is {w : World} {v : Value} {l : List Ch} (h : RdCh w v l) (hu : UseAt w) (hr : ∀ c ∈ l, ChR c) (hl : l.length ≤ 100000) : Calls Tryz.prog 168 #[v] w fun e w' => e = .returned (.bool (ordCh l)) ∧ Below w.heap.size w w' := by
  have HU := Lib.hid hu
  have HR := Lib.hid hr
  obtain ⟨A, c, rfl, hc⟩ := RdP.form h
  have HH := Lib.hid h
  clear h hu hr
  have H0 : Hid (ForRel l w (.int .i64 (0 : Nat)) w) := Lib.hid ⟨0, Nat.zero_le _, rfl, fun j _ h => by omega, Below.refl _ _⟩
  go_enter Tryz.func168, Tryz.ntmps168
  go_wp2
  go_loopw [7] (fun i wr => ForRel l w i wr) (fun i _ => l.length - (intOf i).toNat)
  case atStart => exact H0.out
  case round =>
    clear H0
    obtain ⟨k, hkl, rfl, ho, hb⟩ := hrel
    have HO := Lib.hid ho
    have HB := Lib.hid hb
    clear ho hb
    by_cases hk : k < l.length
    · obtain ⟨b, o, rfl, hbw, x0, x1, x2, x3, x4, x5, x6⟩ := RdCh.piece HH.out hk
      have hsz : w.heap.size ≤ wr.heap.size := HB.out.size
      have hbr : b < wr.heap.size := Nat.lt_of_lt_of_le hbw hsz
      have y0 := (HB.out.cell (p := ⟨b, o + k * 7, none⟩) hbw).trans x0
      have y1 := (HB.out.cell (p := ⟨b, o + k * 7 + 1, none⟩) hbw).trans x1
      have y2 := (HB.out.cell (p := ⟨b, o + k * 7 + 2, none⟩) hbw).trans x2
      have y3 := (HB.out.cell (p := ⟨b, o + k * 7 + 3, none⟩) hbw).trans x3
      have y4 := (HB.out.cell (p := ⟨b, o + k * 7 + 4, none⟩) hbw).trans x4
      have y5 := (HB.out.cell (p := ⟨b, o + k * 7 + 5, none⟩) hbw).trans x5
      have y6 := (HB.out.cell (p := ⟨b, o + k * 7 + 6, none⟩) hbw).trans x6
      clear x0 x1 x2 x3 x4 x5 x6
      have hcr := HR.out _ (List.getElem_mem hk)
      obtain ⟨ch, hch⟩ : ∃ ch, l[k] = ch := ⟨_, rfl⟩
      rw [hch] at hcr y0 y1 y2 y3 y4 y5 y6
      have HCE := Lib.hid hch
      have HCR := Lib.hid hcr
      clear hch hcr
      have i1 : (0 : Int) ≤ (k : Int) := by omega
      have i2 : (k : Int) < (l.length : Int) := by omega
      go_upto_region 4 with (fail)
      have hsz1 : wr.heap.size < (wr.alloc (.cells #[.int .i64 ch.name.kind, .string (bs ch.name.owner), .int .i64 ch.name.num, .int .i64 ch.name.idx, .string (bs ch.name.text), .string (bs ch.value), .bool ch.absent] 105)).heap.size := by simp
      have HUr := Lib.hid (UseAt.below (HU.out.next HB.out HU.out.1) ((Below.refl wr.heap.size wr).alloc (Nat.le_refl _) (.cells #[.int .i64 ch.name.kind, .string (bs ch.name.owner), .int .i64 ch.name.num, .int .i64 ch.name.idx, .string (bs ch.name.text), .string (bs ch.value), .bool ch.absent] 105)))
      have HA := Lib.hid ((Below.refl wr.heap.size wr).alloc (Nat.le_refl _) (.cells #[.int .i64 ch.name.kind, .string (bs ch.name.owner), .int .i64 ch.name.num, .int .i64 ch.name.idx, .string (bs ch.name.text), .string (bs ch.value), .bool ch.absent] 105))
      have zb := Blk.new wr 105 #[.int .i64 ch.name.kind, .string (bs ch.name.owner), .int .i64 ch.name.num, .int .i64 ch.name.idx, .string (bs ch.name.text), .string (bs ch.value), .bool ch.absent]
      have z0 : (wr.alloc (.cells #[.int .i64 ch.name.kind, .string (bs ch.name.owner), .int .i64 ch.name.num, .int .i64 ch.name.idx, .string (bs ch.name.text), .string (bs ch.value), .bool ch.absent] 105)).cell? ⟨wr.heap.size, 0, none⟩ = some (.int .i64 ch.name.kind) := zb.cell 0
      have z1 : (wr.alloc (.cells #[.int .i64 ch.name.kind, .string (bs ch.name.owner), .int .i64 ch.name.num, .int .i64 ch.name.idx, .string (bs ch.name.text), .string (bs ch.value), .bool ch.absent] 105)).cell? ⟨wr.heap.size, 1, none⟩ = some (.string (bs ch.name.owner)) := zb.cell 1
      have z2 : (wr.alloc (.cells #[.int .i64 ch.name.kind, .string (bs ch.name.owner), .int .i64 ch.name.num, .int .i64 ch.name.idx, .string (bs ch.name.text), .string (bs ch.value), .bool ch.absent] 105)).cell? ⟨wr.heap.size, 2, none⟩ = some (.int .i64 ch.name.num) := zb.cell 2
      have z3 : (wr.alloc (.cells #[.int .i64 ch.name.kind, .string (bs ch.name.owner), .int .i64 ch.name.num, .int .i64 ch.name.idx, .string (bs ch.name.text), .string (bs ch.value), .bool ch.absent] 105)).cell? ⟨wr.heap.size, 3, none⟩ = some (.int .i64 ch.name.idx) := zb.cell 3
      have z4 : (wr.alloc (.cells #[.int .i64 ch.name.kind, .string (bs ch.name.owner), .int .i64 ch.name.num, .int .i64 ch.name.idx, .string (bs ch.name.text), .string (bs ch.value), .bool ch.absent] 105)).cell? ⟨wr.heap.size, 4, none⟩ = some (.string (bs ch.name.text)) := zb.cell 4
      have z5 : (wr.alloc (.cells #[.int .i64 ch.name.kind, .string (bs ch.name.owner), .int .i64 ch.name.num, .int .i64 ch.name.idx, .string (bs ch.name.text), .string (bs ch.value), .bool ch.absent] 105)).cell? ⟨wr.heap.size, 5, none⟩ = some (.string (bs ch.value)) := zb.cell 5
      have z6 : (wr.alloc (.cells #[.int .i64 ch.name.kind, .string (bs ch.name.owner), .int .i64 ch.name.num, .int .i64 ch.name.idx, .string (bs ch.name.text), .string (bs ch.value), .bool ch.absent] 105)).cell? ⟨wr.heap.size, 6, none⟩ = some (.bool ch.absent) := zb.cell 6
      clear y0 y1 y2 y3 y4 y5 y6 zb
      have HAW := Lib.hid (fun i => HA.out.cell (p := ⟨b, i, none⟩) hbr)
      generalize wr.alloc (.cells #[.int .i64 ch.name.kind, .string (bs ch.name.owner), .int .i64 ch.name.num, .int .i64 ch.name.idx, .string (bs ch.name.text), .string (bs ch.value), .bool ch.absent] 105) = W at *
      generalize wr.heap.size = cb at *
      by_cases hob : IsOb ch.name
      · have HOB := Lib.hid hob
        clear hob
        by_cases h2 : 65536 < ch.value.length
        · have f2 : decide ((65536 : Int) < ((bs ch.value).size : Int)) = true := decide_eq_true (by rw [bs_size]; omega)
          have HBAD := Lib.hid (ordCh_bad hk (by rw [HCE.out]; exact okCh_no2 h2))
          clear h2
          go_wp2_with (go_at_call 76; refine (check_ob ch.name _ HOB.out HUr.out).mono ?_; rintro e w2 ⟨rfl, hb2⟩; obtain ⟨hc2, hf2⟩ := bcell hb2; have HB2 := Lib.hid (HA.out.trans (hb2.mono (Nat.le_of_lt hsz1))); have hsz2 : cb < w2.heap.size := Nat.lt_of_lt_of_le hsz1 hb2.size; clear hb2)
          go_ret
          exact ⟨by rw [HBAD.out]; rfl, HB.out.trans (HB2.out.mono hsz)⟩
        · have f2 : decide ((65536 : Int) < ((bs ch.value).size : Int)) = false := decide_eq_false (by rw [bs_size]; omega)
          have f2' : ¬ (65536 : Int) < ((bs ch.value).size : Int) := by rw [bs_size]; omega
          have H2 := Lib.hid (show ch.value.length ≤ 65536 by omega)
          clear h2
          cases hab : ch.absent with
          | true =>
            rw [hab] at z6
            by_cases h3 : ch.value = []
            · rw [h3] at z5
              have HOK := Lib.hid (okCh_parts HOB.out H2.out (fun _ => h3))
              have H3 := Lib.hid h3
              have HAB := Lib.hid hab
              clear h3 hab f2 f2'
              have f2 : decide ((65536 : Int) < ((bs ([] : Bs)).size : Int)) = false := by decide
              have f2' : ¬ (65536 : Int) < ((bs ([] : Bs)).size : Int) := by decide
              have t5 : (bs ([] : Bs)).toList = [] := bs_tl []
              have t6 : (bs ([] : Bs)).toList.isEmpty = true := by rw [t5]; rfl
              rcases Nat.eq_zero_or_pos k with hz | hz
              · have g0 : decide ((0 : Int) < (k : Int)) = false := decide_eq_false (by omega)
                have g0' : ¬ (0 : Int) < (k : Int) := by omega
                have gn : decide (0 < k) = false := decide_eq_false (by omega)
                have HZ := Lib.hid hz
                clear hz
                go_upto_region 6 with (first | (go_at_call 76; refine (check_ob ch.name _ HOB.out HUr.out).mono ?_; rintro e w2 ⟨rfl, hb2⟩; obtain ⟨hc2, hf2⟩ := bcell hb2; have HB2 := Lib.hid (HA.out.trans (hb2.mono (Nat.le_of_lt hsz1))); have hsz2 : cb < w2.heap.size := Nat.lt_of_lt_of_le hsz1 hb2.size; clear hb2))
                go_quiet (fail)
                go_wp2_with fail
                go_roundw
                case rel =>
                  refine ⟨k + 1, by omega, by go_num, HO.out.next hk (by rw [HCE.out]; exact HOK.out) (fun m e => by omega), HB.out.trans ((below_drewN (HB2.out.mono hsz) _))⟩
                case measure => simp [intOf]; omega
              · obtain ⟨m, hm⟩ : ∃ m, k = m + 1 := ⟨k - 1, by omega⟩
                have g0 : decide ((0 : Int) < (k : Int)) = true := decide_eq_true (by omega)
                have g1 : (k : Int) - 1 = (m : Int) := by omega
                have g2 : IntKind.i64.wrap (m : Int) = (m : Int) := IntWalk.i64_in _ (by omega)
                have j1 : (0 : Int) ≤ (m : Int) := by omega
                have j2 : (m : Int) < (l.length : Int) := by omega
                have hml : m < l.length := by omega
                obtain ⟨b', o', hbo, _, q0, q1, q2, q3, q4, _, _⟩ := RdCh.piece HH.out hml
                injection hbo with hbo
                injection hbo with hbo1 hbo2 _
                subst hbo1 hbo2
                obtain ⟨pv, hpv⟩ : ∃ pv, l[m].name = pv := ⟨_, rfl⟩
                rw [hpv] at q0 q1 q2 q3 q4
                have HPV := Lib.hid hpv
                have HOW := Lib.hid (show pv.owner = ch.name.owner by rw [← hpv, ← HCE.out, (HR.out _ (List.getElem_mem hml)).own, (HR.out _ (List.getElem_mem hk)).own])
                have p0 := (HB.out.cell (p := ⟨b, o + m * 7, none⟩) hbw).trans q0
                have p1 := (HB.out.cell (p := ⟨b, o + m * 7 + 1, none⟩) hbw).trans q1
                have p2 := (HB.out.cell (p := ⟨b, o + m * 7 + 2, none⟩) hbw).trans q2
                have p3 := (HB.out.cell (p := ⟨b, o + m * 7 + 3, none⟩) hbw).trans q3
                have p4 := (HB.out.cell (p := ⟨b, o + m * 7 + 4, none⟩) hbw).trans q4
                have HM := Lib.hid hm
                obtain ⟨bq, hbq⟩ : ∃ bq, decide (0 ≤ cmpN pv ch.name) = bq := ⟨_, rfl⟩
                clear hpv q0 q1 q2 q3 q4 hm
                have gn : decide (0 < k) = true := decide_eq_true hz
                have r0 := hbr
                go_upto_region 6 with (first | (go_at_call 76; refine (check_ob ch.name _ HOB.out HUr.out).mono ?_; rintro e w2 ⟨rfl, hb2⟩; obtain ⟨hc2, hf2⟩ := bcell hb2; have HB2 := Lib.hid (HA.out.trans (hb2.mono (Nat.le_of_lt hsz1))); have hsz2 : cb < w2.heap.size := Nat.lt_of_lt_of_le hsz1 hb2.size; clear hb2))
                have hbr2 : b < w2.heap.size := Nat.lt_of_lt_of_le hbr (by have := HB2.out.size; omega)
                have q0 := (hc2 cb 0 hsz1).trans z0
                have q1 := (hc2 cb 1 hsz1).trans z1
                have q2 := (hc2 cb 2 hsz1).trans z2
                have q3 := (hc2 cb 3 hsz1).trans z3
                have q4 := (hc2 cb 4 hsz1).trans z4
                have p0 := (HB2.out.cell (p := ⟨b, o + m * 7, none⟩) hbr).trans p0
                have p1 := (HB2.out.cell (p := ⟨b, o + m * 7 + 1, none⟩) hbr).trans p1
                have p2 := (HB2.out.cell (p := ⟨b, o + m * 7 + 2, none⟩) hbr).trans p2
                have p3 := (HB2.out.cell (p := ⟨b, o + m * 7 + 3, none⟩) hbr).trans p3
                have p4 := (HB2.out.cell (p := ⟨b, o + m * 7 + 4, none⟩) hbr).trans p4
                clear hc2 hf2 z0 z1 z2 z3 z4 z5 z6
                refine wp_region_noPanic ?_
                refine wp_region_held_drew (S := (fun (w' : World) => w'.cell? ⟨cb, 0, none⟩ = some (.int .i64 ch.name.kind) ∧ w'.cell? ⟨cb, 1, none⟩ = some (.string (bs ch.name.owner)) ∧ w'.cell? ⟨cb, 2, none⟩ = some (.int .i64 ch.name.num) ∧ w'.cell? ⟨cb, 3, none⟩ = some (.int .i64 ch.name.idx) ∧ w'.cell? ⟨cb, 4, none⟩ = some (.string (bs ch.name.text)) ∧ w'.cell? ⟨b, o + m * 7, none⟩ = some (.int .i64 pv.kind) ∧ w'.cell? ⟨b, o + m * 7 + 1, none⟩ = some (.string (bs pv.owner)) ∧ w'.cell? ⟨b, o + m * 7 + 2, none⟩ = some (.int .i64 pv.num) ∧ w'.cell? ⟨b, o + m * 7 + 3, none⟩ = some (.int .i64 pv.idx) ∧ w'.cell? ⟨b, o + m * 7 + 4, none⟩ = some (.string (bs pv.text)))) (by kernel_rfl) ?_ (fun hHeld => ?_)
                · exact ⟨q0, q1, q2, q3, q4, p0, p1, p2, p3, p4⟩
                refine wpAnyH_take (i := 0) (v := ?_) rfl (by kernel_rfl) (by kernel_rfl) (by kernel_rfl) (fun _ _ _ h => h) (Or.inl ⟨by kernel_rfl, ?_⟩) hHeld ?_
                rotate_left
                · (intro w hSw; (try dsimp only at hSw); go_simp; try with_reducible rfl)
                try simp only [Act.put, List.setIfInBounds_toArray, List.set_cons_zero, List.set_cons_succ]
                refine wpAnyH_take (i := 1) (v := ?_) rfl (by kernel_rfl) (by kernel_rfl) (by kernel_rfl) (fun _ _ _ h => h) (Or.inl ⟨by kernel_rfl, ?_⟩) hHeld ?_
                rotate_left
                · (intro w hSw; (try dsimp only at hSw); go_simp; try with_reducible rfl)
                try simp only [Act.put, List.setIfInBounds_toArray, List.set_cons_zero, List.set_cons_succ]
                refine wpAnyH_take (i := 2) (v := ?_) rfl (by kernel_rfl) (by kernel_rfl) (by kernel_rfl) (fun _ _ _ h => h) (Or.inl ⟨by kernel_rfl, ?_⟩) hHeld ?_
                rotate_left
                · (intro w hSw; (try dsimp only at hSw); go_simp; try with_reducible rfl)
                try simp only [Act.put, List.setIfInBounds_toArray, List.set_cons_zero, List.set_cons_succ]
                refine wpAnyH_take (i := 3) (v := ?_) rfl (by kernel_rfl) (by kernel_rfl) (by kernel_rfl) (fun _ _ _ h => h) (Or.inl ⟨by kernel_rfl, ?_⟩) hHeld ?_
                rotate_left
                · (intro w hSw; (try dsimp only at hSw); go_simp; try with_reducible rfl)
                try simp only [Act.put, List.setIfInBounds_toArray, List.set_cons_zero, List.set_cons_succ]
                refine wpAnyH_take (i := 4) (v := ?_) rfl (by kernel_rfl) (by kernel_rfl) (by kernel_rfl) (fun _ _ _ h => h) (Or.inl ⟨by kernel_rfl, ?_⟩) hHeld ?_
                rotate_left
                · (intro w hSw; (try dsimp only at hSw); go_simp; try with_reducible rfl)
                try simp only [Act.put, List.setIfInBounds_toArray, List.set_cons_zero, List.set_cons_succ]
                refine wpAnyH_take (i := 5) (v := ?_) rfl (by kernel_rfl) (by kernel_rfl) (by kernel_rfl) (fun _ _ _ h => h) (Or.inl ⟨by kernel_rfl, ?_⟩) hHeld ?_
                rotate_left
                · (intro w hSw; (try dsimp only at hSw); go_simp; try with_reducible rfl)
                try simp only [Act.put, List.setIfInBounds_toArray, List.set_cons_zero, List.set_cons_succ]
                refine wpAnyH_take (i := 6) (v := ?_) rfl (by kernel_rfl) (by kernel_rfl) (by kernel_rfl) (fun _ _ _ h => h) (Or.inl ⟨by kernel_rfl, ?_⟩) hHeld ?_
                rotate_left
                · (intro w hSw; (try dsimp only at hSw); go_simp; try with_reducible rfl)
                try simp only [Act.put, List.setIfInBounds_toArray, List.set_cons_zero, List.set_cons_succ]
                refine wpAnyH_take (i := 7) (v := ?_) rfl (by kernel_rfl) (by kernel_rfl) (by kernel_rfl) (fun _ _ _ h => h) (Or.inl ⟨by kernel_rfl, ?_⟩) hHeld ?_
                rotate_left
                · (intro w hSw; (try dsimp only at hSw); go_simp; try with_reducible rfl)
                try simp only [Act.put, List.setIfInBounds_toArray, List.set_cons_zero, List.set_cons_succ]
                refine wpAnyH_take (i := 8) (v := ?_) rfl (by kernel_rfl) (by kernel_rfl) (by kernel_rfl) (fun _ _ _ h => h) (Or.inl ⟨by kernel_rfl, ?_⟩) hHeld ?_
                rotate_left
                · (intro w hSw; (try dsimp only at hSw); go_simp; try with_reducible rfl)
                try simp only [Act.put, List.setIfInBounds_toArray, List.set_cons_zero, List.set_cons_succ]
                refine wpAnyH_take (i := 9) (v := ?_) rfl (by kernel_rfl) (by kernel_rfl) (by kernel_rfl) (fun _ _ _ h => h) (Or.inl ⟨by kernel_rfl, ?_⟩) hHeld ?_
                rotate_left
                · (intro w hSw; (try dsimp only at hSw); go_simp; try with_reducible rfl)
                try simp only [Act.put, List.setIfInBounds_toArray, List.set_cons_zero, List.set_cons_succ]
                refine wpAnyH_take (i := 10) (v := ?_) rfl (by kernel_rfl) (by kernel_rfl) (by kernel_rfl) (fun _ _ _ h => h) (Or.inl ⟨by kernel_rfl, ?_⟩) hHeld ?_
                rotate_left
                · (intro w hSw; (try dsimp only at hSw); go_simp; try with_reducible rfl)
                try simp only [Act.put, List.setIfInBounds_toArray, List.set_cons_zero, List.set_cons_succ]
                refine wpAnyH_ready (rs := [11]) (by kernel_rfl) (by simp) ?_
                refine AllReadyH.cons rfl (fun K hK => ?_) AllReadyH.nil
                go_simp
                refine (compare_is pv ch.name _ HOW.out).mono ?_; rintro e w3 ⟨rfl, hb3⟩; have HB3 := Lib.hid ((Below.refl w2.heap.size w2).drew.trans hb3); clear hb3
                try (go_wp2_with fail)
                refine hK.out _ _ ?_ (fun hNew => ?_)
                · exact ⟨(HB3.out.cell (p := ⟨cb, 0, none⟩) hsz2).trans q0, (HB3.out.cell (p := ⟨cb, 1, none⟩) hsz2).trans q1, (HB3.out.cell (p := ⟨cb, 2, none⟩) hsz2).trans q2, (HB3.out.cell (p := ⟨cb, 3, none⟩) hsz2).trans q3, (HB3.out.cell (p := ⟨cb, 4, none⟩) hsz2).trans q4, (HB3.out.cell (p := ⟨b, o + m * 7, none⟩) hbr2).trans p0, (HB3.out.cell (p := ⟨b, o + m * 7 + 1, none⟩) hbr2).trans p1, (HB3.out.cell (p := ⟨b, o + m * 7 + 2, none⟩) hbr2).trans p2, (HB3.out.cell (p := ⟨b, o + m * 7 + 3, none⟩) hbr2).trans p3, (HB3.out.cell (p := ⟨b, o + m * 7 + 4, none⟩) hbr2).trans p4⟩
                clear hK K hHeld
                have hHeld := hNew
                clear hNew
                try simp only [Act.put, List.setIfInBounds_toArray, List.set_cons_zero, List.set_cons_succ]
                refine wpAnyH_take (i := 12) (v := ?_) rfl (by kernel_rfl) (by kernel_rfl) (by kernel_rfl) (fun _ _ _ h => h) (Or.inl ⟨by kernel_rfl, ?_⟩) hHeld ?_
                rotate_left
                · (intro w hSw; (try dsimp only at hSw); go_simp; try with_reducible rfl)
                try simp only [Act.put, List.setIfInBounds_toArray, List.set_cons_zero, List.set_cons_succ]
                refine wpAnyH_take (i := 13) (v := ?_) rfl (by kernel_rfl) (by kernel_rfl) (by kernel_rfl) (fun _ _ _ h => h) (Or.inl ⟨by kernel_rfl, ?_⟩) hHeld ?_
                rotate_left
                · (intro w hSw; (try dsimp only at hSw); go_simp; try with_reducible rfl)
                try simp only [Act.put, List.setIfInBounds_toArray, List.set_cons_zero, List.set_cons_succ]
                refine wpAnyH_done (by kernel_rfl) ?_ _
                clear hHeld
                try simp only [List.getElem_toArray, List.getElem_cons_zero, List.getElem_cons_succ, Act.put, List.setIfInBounds_toArray, List.set_cons_zero, List.set_cons_succ]
                refine NoPanic.normal ?_
                cases bq with
                | true =>
                  have HQ := Lib.hid hbq
                  clear hbq
                  go_wp2_with fail
                  go_ret
                  have e : ordCh l = false := by
                    have hm := HM.out
                    subst hm
                    refine ordCh_bad2 hk ?_
                    rw [HPV.out, HCE.out]
                    exact of_decide_eq_true HQ.out
                  exact ⟨by rw [e]; rfl, HB.out.trans ((HB2.out.trans (HB3.out.mono (Nat.le_of_lt hsz2))).mono hsz)⟩
                | false =>
                  have HQ := Lib.hid hbq
                  clear hbq
                  go_wp2_with fail
                  go_roundw
                  case rel =>
                    refine ⟨k + 1, by omega, by go_num, HO.out.next hk (by rw [HCE.out]; exact HOK.out) (fun m' e => ?_), HB.out.trans ((HB2.out.trans (HB3.out.mono (Nat.le_of_lt hsz2))).mono hsz)⟩
                    have e2 : m' = m := by have := HM.out; omega
                    subst e2
                    rw [HPV.out, HCE.out]
                    have := of_decide_eq_false HQ.out
                    omega
                  case measure => simp [intOf]; omega
            · have HBAD := Lib.hid (ordCh_bad hk (by rw [HCE.out]; exact okCh_no3 hab h3))
              have f3' : ¬ (bs ch.value).toList = [] := by rw [bs_tl]; exact h3
              have f3 : (bs ch.value).toList.isEmpty = false := by rw [List.isEmpty_eq_false_iff]; exact f3'
              clear h3 hab
              go_wp2_with (go_at_call 76; refine (check_ob ch.name _ HOB.out HUr.out).mono ?_; rintro e w2 ⟨rfl, hb2⟩; obtain ⟨hc2, hf2⟩ := bcell hb2; have HB2 := Lib.hid (HA.out.trans (hb2.mono (Nat.le_of_lt hsz1))); have hsz2 : cb < w2.heap.size := Nat.lt_of_lt_of_le hsz1 hb2.size; clear hb2)
              go_ret
              exact ⟨by rw [HBAD.out]; rfl, HB.out.trans (HB2.out.mono hsz)⟩
          | false =>
            rw [hab] at z6
            have HOK := Lib.hid (okCh_parts HOB.out H2.out (fun h => by rw [hab] at h; cases h))
            have HAB := Lib.hid hab
            clear hab
            rcases Nat.eq_zero_or_pos k with hz | hz
            · have g0 : decide ((0 : Int) < (k : Int)) = false := decide_eq_false (by omega)
              have g0' : ¬ (0 : Int) < (k : Int) := by omega
              have gn : decide (0 < k) = false := decide_eq_false (by omega)
              have HZ := Lib.hid hz
              clear hz
              go_upto_region 6 with (first | (go_at_call 76; refine (check_ob ch.name _ HOB.out HUr.out).mono ?_; rintro e w2 ⟨rfl, hb2⟩; obtain ⟨hc2, hf2⟩ := bcell hb2; have HB2 := Lib.hid (HA.out.trans (hb2.mono (Nat.le_of_lt hsz1))); have hsz2 : cb < w2.heap.size := Nat.lt_of_lt_of_le hsz1 hb2.size; clear hb2))
              go_quiet (fail)
              go_wp2_with fail
              go_roundw
              case rel =>
                refine ⟨k + 1, by omega, by go_num, HO.out.next hk (by rw [HCE.out]; exact HOK.out) (fun m e => by omega), HB.out.trans ((below_drewN (HB2.out.mono hsz) _))⟩
              case measure => simp [intOf]; omega
            · obtain ⟨m, hm⟩ : ∃ m, k = m + 1 := ⟨k - 1, by omega⟩
              have g0 : decide ((0 : Int) < (k : Int)) = true := decide_eq_true (by omega)
              have g1 : (k : Int) - 1 = (m : Int) := by omega
              have g2 : IntKind.i64.wrap (m : Int) = (m : Int) := IntWalk.i64_in _ (by omega)
              have j1 : (0 : Int) ≤ (m : Int) := by omega
              have j2 : (m : Int) < (l.length : Int) := by omega
              have hml : m < l.length := by omega
              obtain ⟨b', o', hbo, _, q0, q1, q2, q3, q4, _, _⟩ := RdCh.piece HH.out hml
              injection hbo with hbo
              injection hbo with hbo1 hbo2 _
              subst hbo1 hbo2
              obtain ⟨pv, hpv⟩ : ∃ pv, l[m].name = pv := ⟨_, rfl⟩
              rw [hpv] at q0 q1 q2 q3 q4
              have HPV := Lib.hid hpv
              have HOW := Lib.hid (show pv.owner = ch.name.owner by rw [← hpv, ← HCE.out, (HR.out _ (List.getElem_mem hml)).own, (HR.out _ (List.getElem_mem hk)).own])
              have p0 := (HB.out.cell (p := ⟨b, o + m * 7, none⟩) hbw).trans q0
              have p1 := (HB.out.cell (p := ⟨b, o + m * 7 + 1, none⟩) hbw).trans q1
              have p2 := (HB.out.cell (p := ⟨b, o + m * 7 + 2, none⟩) hbw).trans q2
              have p3 := (HB.out.cell (p := ⟨b, o + m * 7 + 3, none⟩) hbw).trans q3
              have p4 := (HB.out.cell (p := ⟨b, o + m * 7 + 4, none⟩) hbw).trans q4
              have HM := Lib.hid hm
              obtain ⟨bq, hbq⟩ : ∃ bq, decide (0 ≤ cmpN pv ch.name) = bq := ⟨_, rfl⟩
              clear hpv q0 q1 q2 q3 q4 hm
              have gn : decide (0 < k) = true := decide_eq_true hz
              have r0 := hbr
              go_upto_region 6 with (first | (go_at_call 76; refine (check_ob ch.name _ HOB.out HUr.out).mono ?_; rintro e w2 ⟨rfl, hb2⟩; obtain ⟨hc2, hf2⟩ := bcell hb2; have HB2 := Lib.hid (HA.out.trans (hb2.mono (Nat.le_of_lt hsz1))); have hsz2 : cb < w2.heap.size := Nat.lt_of_lt_of_le hsz1 hb2.size; clear hb2))
              have hbr2 : b < w2.heap.size := Nat.lt_of_lt_of_le hbr (by have := HB2.out.size; omega)
              have q0 := (hc2 cb 0 hsz1).trans z0
              have q1 := (hc2 cb 1 hsz1).trans z1
              have q2 := (hc2 cb 2 hsz1).trans z2
              have q3 := (hc2 cb 3 hsz1).trans z3
              have q4 := (hc2 cb 4 hsz1).trans z4
              have p0 := (HB2.out.cell (p := ⟨b, o + m * 7, none⟩) hbr).trans p0
              have p1 := (HB2.out.cell (p := ⟨b, o + m * 7 + 1, none⟩) hbr).trans p1
              have p2 := (HB2.out.cell (p := ⟨b, o + m * 7 + 2, none⟩) hbr).trans p2
              have p3 := (HB2.out.cell (p := ⟨b, o + m * 7 + 3, none⟩) hbr).trans p3
              have p4 := (HB2.out.cell (p := ⟨b, o + m * 7 + 4, none⟩) hbr).trans p4
              clear hc2 hf2 z0 z1 z2 z3 z4 z5 z6
              refine wp_region_noPanic ?_
              refine wp_region_held_drew (S := (fun (w' : World) => w'.cell? ⟨cb, 0, none⟩ = some (.int .i64 ch.name.kind) ∧ w'.cell? ⟨cb, 1, none⟩ = some (.string (bs ch.name.owner)) ∧ w'.cell? ⟨cb, 2, none⟩ = some (.int .i64 ch.name.num) ∧ w'.cell? ⟨cb, 3, none⟩ = some (.int .i64 ch.name.idx) ∧ w'.cell? ⟨cb, 4, none⟩ = some (.string (bs ch.name.text)) ∧ w'.cell? ⟨b, o + m * 7, none⟩ = some (.int .i64 pv.kind) ∧ w'.cell? ⟨b, o + m * 7 + 1, none⟩ = some (.string (bs pv.owner)) ∧ w'.cell? ⟨b, o + m * 7 + 2, none⟩ = some (.int .i64 pv.num) ∧ w'.cell? ⟨b, o + m * 7 + 3, none⟩ = some (.int .i64 pv.idx) ∧ w'.cell? ⟨b, o + m * 7 + 4, none⟩ = some (.string (bs pv.text)))) (by kernel_rfl) ?_ (fun hHeld => ?_)
              · exact ⟨q0, q1, q2, q3, q4, p0, p1, p2, p3, p4⟩
              refine wpAnyH_take (i := 0) (v := ?_) rfl (by kernel_rfl) (by kernel_rfl) (by kernel_rfl) (fun _ _ _ h => h) (Or.inl ⟨by kernel_rfl, ?_⟩) hHeld ?_
              rotate_left
              · (intro w hSw; (try dsimp only at hSw); go_simp; try with_reducible rfl)
              try simp only [Act.put, List.setIfInBounds_toArray, List.set_cons_zero, List.set_cons_succ]
              refine wpAnyH_take (i := 1) (v := ?_) rfl (by kernel_rfl) (by kernel_rfl) (by kernel_rfl) (fun _ _ _ h => h) (Or.inl ⟨by kernel_rfl, ?_⟩) hHeld ?_
              rotate_left
              · (intro w hSw; (try dsimp only at hSw); go_simp; try with_reducible rfl)
              try simp only [Act.put, List.setIfInBounds_toArray, List.set_cons_zero, List.set_cons_succ]
              refine wpAnyH_take (i := 2) (v := ?_) rfl (by kernel_rfl) (by kernel_rfl) (by kernel_rfl) (fun _ _ _ h => h) (Or.inl ⟨by kernel_rfl, ?_⟩) hHeld ?_
              rotate_left
              · (intro w hSw; (try dsimp only at hSw); go_simp; try with_reducible rfl)
              try simp only [Act.put, List.setIfInBounds_toArray, List.set_cons_zero, List.set_cons_succ]
              refine wpAnyH_take (i := 3) (v := ?_) rfl (by kernel_rfl) (by kernel_rfl) (by kernel_rfl) (fun _ _ _ h => h) (Or.inl ⟨by kernel_rfl, ?_⟩) hHeld ?_
              rotate_left
              · (intro w hSw; (try dsimp only at hSw); go_simp; try with_reducible rfl)
              try simp only [Act.put, List.setIfInBounds_toArray, List.set_cons_zero, List.set_cons_succ]
              refine wpAnyH_take (i := 4) (v := ?_) rfl (by kernel_rfl) (by kernel_rfl) (by kernel_rfl) (fun _ _ _ h => h) (Or.inl ⟨by kernel_rfl, ?_⟩) hHeld ?_
              rotate_left
              · (intro w hSw; (try dsimp only at hSw); go_simp; try with_reducible rfl)
              try simp only [Act.put, List.setIfInBounds_toArray, List.set_cons_zero, List.set_cons_succ]
              refine wpAnyH_take (i := 5) (v := ?_) rfl (by kernel_rfl) (by kernel_rfl) (by kernel_rfl) (fun _ _ _ h => h) (Or.inl ⟨by kernel_rfl, ?_⟩) hHeld ?_
              rotate_left
              · (intro w hSw; (try dsimp only at hSw); go_simp; try with_reducible rfl)
              try simp only [Act.put, List.setIfInBounds_toArray, List.set_cons_zero, List.set_cons_succ]
              refine wpAnyH_take (i := 6) (v := ?_) rfl (by kernel_rfl) (by kernel_rfl) (by kernel_rfl) (fun _ _ _ h => h) (Or.inl ⟨by kernel_rfl, ?_⟩) hHeld ?_
              rotate_left
              · (intro w hSw; (try dsimp only at hSw); go_simp; try with_reducible rfl)
              try simp only [Act.put, List.setIfInBounds_toArray, List.set_cons_zero, List.set_cons_succ]
              refine wpAnyH_take (i := 7) (v := ?_) rfl (by kernel_rfl) (by kernel_rfl) (by kernel_rfl) (fun _ _ _ h => h) (Or.inl ⟨by kernel_rfl, ?_⟩) hHeld ?_
              rotate_left
              · (intro w hSw; (try dsimp only at hSw); go_simp; try with_reducible rfl)
              try simp only [Act.put, List.setIfInBounds_toArray, List.set_cons_zero, List.set_cons_succ]
              refine wpAnyH_take (i := 8) (v := ?_) rfl (by kernel_rfl) (by kernel_rfl) (by kernel_rfl) (fun _ _ _ h => h) (Or.inl ⟨by kernel_rfl, ?_⟩) hHeld ?_
              rotate_left
              · (intro w hSw; (try dsimp only at hSw); go_simp; try with_reducible rfl)
              try simp only [Act.put, List.setIfInBounds_toArray, List.set_cons_zero, List.set_cons_succ]
              refine wpAnyH_take (i := 9) (v := ?_) rfl (by kernel_rfl) (by kernel_rfl) (by kernel_rfl) (fun _ _ _ h => h) (Or.inl ⟨by kernel_rfl, ?_⟩) hHeld ?_
              rotate_left
              · (intro w hSw; (try dsimp only at hSw); go_simp; try with_reducible rfl)
              try simp only [Act.put, List.setIfInBounds_toArray, List.set_cons_zero, List.set_cons_succ]
              refine wpAnyH_take (i := 10) (v := ?_) rfl (by kernel_rfl) (by kernel_rfl) (by kernel_rfl) (fun _ _ _ h => h) (Or.inl ⟨by kernel_rfl, ?_⟩) hHeld ?_
              rotate_left
              · (intro w hSw; (try dsimp only at hSw); go_simp; try with_reducible rfl)
              try simp only [Act.put, List.setIfInBounds_toArray, List.set_cons_zero, List.set_cons_succ]
              refine wpAnyH_ready (rs := [11]) (by kernel_rfl) (by simp) ?_
              refine AllReadyH.cons rfl (fun K hK => ?_) AllReadyH.nil
              go_simp
              refine (compare_is pv ch.name _ HOW.out).mono ?_; rintro e w3 ⟨rfl, hb3⟩; have HB3 := Lib.hid ((Below.refl w2.heap.size w2).drew.trans hb3); clear hb3
              try (go_wp2_with fail)
              refine hK.out _ _ ?_ (fun hNew => ?_)
              · exact ⟨(HB3.out.cell (p := ⟨cb, 0, none⟩) hsz2).trans q0, (HB3.out.cell (p := ⟨cb, 1, none⟩) hsz2).trans q1, (HB3.out.cell (p := ⟨cb, 2, none⟩) hsz2).trans q2, (HB3.out.cell (p := ⟨cb, 3, none⟩) hsz2).trans q3, (HB3.out.cell (p := ⟨cb, 4, none⟩) hsz2).trans q4, (HB3.out.cell (p := ⟨b, o + m * 7, none⟩) hbr2).trans p0, (HB3.out.cell (p := ⟨b, o + m * 7 + 1, none⟩) hbr2).trans p1, (HB3.out.cell (p := ⟨b, o + m * 7 + 2, none⟩) hbr2).trans p2, (HB3.out.cell (p := ⟨b, o + m * 7 + 3, none⟩) hbr2).trans p3, (HB3.out.cell (p := ⟨b, o + m * 7 + 4, none⟩) hbr2).trans p4⟩
              clear hK K hHeld
              have hHeld := hNew
              clear hNew
              try simp only [Act.put, List.setIfInBounds_toArray, List.set_cons_zero, List.set_cons_succ]
              refine wpAnyH_take (i := 12) (v := ?_) rfl (by kernel_rfl) (by kernel_rfl) (by kernel_rfl) (fun _ _ _ h => h) (Or.inl ⟨by kernel_rfl, ?_⟩) hHeld ?_
              rotate_left
              · (intro w hSw; (try dsimp only at hSw); go_simp; try with_reducible rfl)
              try simp only [Act.put, List.setIfInBounds_toArray, List.set_cons_zero, List.set_cons_succ]
              refine wpAnyH_take (i := 13) (v := ?_) rfl (by kernel_rfl) (by kernel_rfl) (by kernel_rfl) (fun _ _ _ h => h) (Or.inl ⟨by kernel_rfl, ?_⟩) hHeld ?_
              rotate_left
              · (intro w hSw; (try dsimp only at hSw); go_simp; try with_reducible rfl)
              try simp only [Act.put, List.setIfInBounds_toArray, List.set_cons_zero, List.set_cons_succ]
              refine wpAnyH_done (by kernel_rfl) ?_ _
              clear hHeld
              try simp only [List.getElem_toArray, List.getElem_cons_zero, List.getElem_cons_succ, Act.put, List.setIfInBounds_toArray, List.set_cons_zero, List.set_cons_succ]
              refine NoPanic.normal ?_
              cases bq with
              | true =>
                have HQ := Lib.hid hbq
                clear hbq
                go_wp2_with fail
                go_ret
                have e : ordCh l = false := by
                  have hm := HM.out
                  subst hm
                  refine ordCh_bad2 hk ?_
                  rw [HPV.out, HCE.out]
                  exact of_decide_eq_true HQ.out
                exact ⟨by rw [e]; rfl, HB.out.trans ((HB2.out.trans (HB3.out.mono (Nat.le_of_lt hsz2))).mono hsz)⟩
              | false =>
                have HQ := Lib.hid hbq
                clear hbq
                go_wp2_with fail
                go_roundw
                case rel =>
                  refine ⟨k + 1, by omega, by go_num, HO.out.next hk (by rw [HCE.out]; exact HOK.out) (fun m' e => ?_), HB.out.trans ((HB2.out.trans (HB3.out.mono (Nat.le_of_lt hsz2))).mono hsz)⟩
                  have e2 : m' = m := by have := HM.out; omega
                  subst e2
                  rw [HPV.out, HCE.out]
                  have := of_decide_eq_false HQ.out
                  omega
                case measure => simp [intOf]; omega
      · have hbd : ch.name = badN := HCR.out.1.resolve_left hob
        have HBAD := Lib.hid (ordCh_bad hk (by rw [HCE.out]; exact okCh_no1 hob))
        rw [hbd] at z0 z1 z2 z3 z4
        clear hob hbd
        go_wp2_with (go_at_call 76; refine (check_bad _).mono ?_; rintro e w2 ⟨rfl, hb2⟩; obtain ⟨hc2, hf2⟩ := bcell hb2; have HB2 := Lib.hid (HA.out.trans (hb2.mono (Nat.le_of_lt hsz1))); have hsz2 : cb < w2.heap.size := Nat.lt_of_lt_of_le hsz1 hb2.size; clear hb2)
        go_ret
        exact ⟨by rw [HBAD.out]; rfl, HB.out.trans (HB2.out.mono hsz)⟩
    · have HI := Lib.hid (show k = l.length by omega)
      have HK := Lib.hid hk
      go_wp2
      go_ret
      have e := ordCh_of (HI.out ▸ HO.out)
      exact ⟨by rw [e]; rfl, HB.out⟩
end Go.Proofs.YtamjllakfgphnaaGreatDoor
/- Walks of layer 46: versions: none, Len, wellFormed. -/
namespace Go.Proofs.YtamjllakfgphnaaGreatDoor
open Go.RowKit
set_option linter.unusedSimpArgs false
set_option linter.unusedVariables false
attribute [local go_sem ↓] Go.wp_at_zero Go.wp_at_succ
theorem none_is {w : World} {g : Nat} {pb : Addr} (h0 : w.cell? ⟨g, 0, none⟩ = some (.pointer (some pb))) : Calls Tryz.prog 51 #[.pointer (some ⟨g, 0, none⟩)] w fun e w' => e = .returned (.bool false) ∧ w = w' := by
  go_enter Tryz.func51, Tryz.ntmps51
  go_wp2
  go_ret
  exact ⟨rfl, rfl⟩
theorem none_nil {w : World} : Calls Tryz.prog 51 #[.pointer none] w fun e w' => e = .returned (.bool true) ∧ w = w' := by
  go_enter Tryz.func51, Tryz.ntmps51
  go_wp2
  go_ret
  exact ⟨rfl, rfl⟩
/-- The value of an action. -/
def acV (a : Ac) (u : Value × Value) : Value := .agg #[.int .i64 a.key.tick, .int .i64 a.key.cls, .int .i64 a.key.num, .string (bs a.key.lin), u.1, u.2]
set_option maxRecDepth 100000 in
theorem wellFormed_is {w : World} {a : Ac} {u : Value × Value} (h : NAc w u a) (hr : AcR a) (hu : UseAt w) : Calls Tryz.prog 126 #[acV a u] w fun e w' => e = .returned (.bool (okAc a)) ∧ Below w.heap.size w w' := by
  obtain ⟨⟨t, c, n, ln⟩, rs, ws⟩ := a
  obtain ⟨u1, u2⟩ := u
  obtain ⟨hk, h1, h2, h3, h4⟩ := hr
  obtain ⟨n1, n2⟩ := h
  simp only at hk h1 h2 h3 h4 n1 n2
  have ha := (Below.refl w.heap.size w).alloc (Nat.le_refl _) (.cells #[.int .i64 t, .int .i64 c, .int .i64 n, .string (bs ln), u1, u2] 77)
  have hz : w.heap.size < (w.alloc (.cells #[.int .i64 t, .int .i64 c, .int .i64 n, .string (bs ln), u1, u2] 77)).heap.size := by simp
  have zb := Blk.new w 77 #[.int .i64 t, .int .i64 c, .int .i64 n, .string (bs ln), u1, u2]
  have HKY := Lib.hid (key_check ⟨t, c, n, ln⟩ (w.alloc (.cells #[.int .i64 t, .int .i64 c, .int .i64 n, .string (bs ln), u1, u2] 77)) hk)
  have HU := Lib.hid (hu.below ha)
  have N1 := Lib.hid (RdP.next n1 ha)
  have N2 := Lib.hid (RdP.next n2 ha)
  have HA := Lib.hid ha
  have H1 := Lib.hid h1
  have H2 := Lib.hid h2
  have H3 := Lib.hid h3
  have H4 := Lib.hid h4
  have HK := Lib.hid hk
  have z0 := zb.cell 0
  have z1 := zb.cell 1
  have z2 := zb.cell 2
  have z3 := zb.cell 3
  have z4 := zb.cell 4
  have z5 := zb.cell 5
  simp only [List.getElem?_toArray, List.getElem?_cons_zero, List.getElem?_cons_succ] at z0 z1 z2 z3 z4 z5
  clear zb n1 n2 hu hk h1 h2 h3 h4 ha
  unfold okAc okKy
  have HN : Hid ((decide (c = 2) || decide (1 ≤ n)) = true) := Lib.hid (by rcases HK.out.2.2 with h | h; exact Bool.or_eq_true_iff.2 (.inr (decide_eq_true h.2.1)); exact Bool.or_eq_true_iff.2 (.inl (decide_eq_true h.1)))
  simp only
  rw [HN.out, Bool.and_true]
  unfold kyV at HKY
  go_enter Tryz.func126, Tryz.ntmps126
  simp only [acV]
  go_upto_region 1 with (fail)
  generalize w.alloc (.cells #[.int .i64 t, .int .i64 c, .int .i64 n, .string (bs ln), u1, u2] 77) = W at *
  generalize hcb : w.heap.size = cb at *
  have HCB := Lib.hid hcb
  clear hcb
  by_cases ht : 0 ≤ t
  · have HT := Lib.hid ht
    have HI := Lib.hid (show (if 0 ≤ t then (0 : Int) else 2) = 0 from if_pos ht)
    clear ht
    go_wp2_with fail
    refine HKY.out.mono ?_
    rintro e w2 ⟨rfl, hb2⟩
    simp only
    rw [HI.out]
    obtain ⟨hc2, hf2⟩ := bcell hb2
    have HB2 := Lib.hid (HA.out.trans (hb2.mono (Nat.le_of_lt hz)))
    have U2 := Lib.hid (HU.out.below hb2)
    have M1 := Lib.hid (RdP.next N1.out hb2)
    have M2 := Lib.hid (RdP.next N2.out hb2)
    have hz2 : cb < w2.heap.size := Nat.lt_of_lt_of_le hz hb2.size
    have y5 := (hc2 cb 5 hz).trans z5
    have HHB := Lib.hid hb2
    obtain ⟨b1, hb1⟩ : ∃ b1, ordCh rs = b1 := ⟨_, rfl⟩
    have HB1 := Lib.hid hb1
    clear hb2 hb1
    cases b1 with
    | false =>
      go_wp2_with fail
      refine (orderly_is M1.out U2.out H1.out (Nat.le_trans H3.out (by decide))).mono ?_
      rintro e w3 ⟨rfl, hb3⟩
      rw [HB1.out]
      have HB3 := Lib.hid (HB2.out.trans (hb3.mono (by have := HB2.out.size; have := hb3.size; omega)))
      clear hb3 hc2 hf2
      go_wp2_with fail
      go_ret
      exact ⟨by rw [decide_eq_true HT.out, HB1.out]; rfl, by rw [HCB.out]; exact HB3.out⟩
    | true =>
      go_wp2_with fail
      refine (orderly_is M1.out U2.out H1.out (Nat.le_trans H3.out (by decide))).mono ?_
      rintro e w3 ⟨rfl, hb3⟩
      rw [HB1.out]
      have x5 := (hb3.cell (p := ⟨cb, 5, none⟩) hz2).trans y5
      have HB3 := Lib.hid (HB2.out.trans (hb3.mono (by have := HB2.out.size; have := hb3.size; omega)))
      have U3 := Lib.hid (U2.out.below hb3)
      have hz3 : cb < w3.heap.size := Nat.lt_of_lt_of_le hz2 hb3.size
      have M3 := Lib.hid (RdP.next M2.out hb3)
      clear hb3 hc2 hf2 z0 z1 z2 z3 z4 z5 y5
      obtain ⟨b2, hb2⟩ : ∃ b2, ordCh ws = b2 := ⟨_, rfl⟩
      have HBB := Lib.hid hb2
      clear hb2
      go_wp2_with fail
      refine (orderly_is M3.out U3.out H2.out (Nat.le_trans H4.out (by decide))).mono ?_
      rintro e w4 ⟨rfl, hb4⟩
      rw [HBB.out]
      have HB4 := Lib.hid (HB3.out.trans (hb4.mono (by omega)))
      clear hb4
      go_wp2_with fail
      go_ret
      exact ⟨by rw [decide_eq_true HT.out, HB1.out, HBB.out]; rfl, by rw [HCB.out]; exact HB4.out⟩
  · have HT := Lib.hid ht
    have HI := Lib.hid (show (if 0 ≤ t then (0 : Int) else 2) = 2 from if_neg ht)
    clear ht
    go_wp2_with fail
    refine HKY.out.mono ?_
    rintro e w2 ⟨rfl, hb2⟩
    simp only
    rw [HI.out]
    have HB2 := Lib.hid (HA.out.trans (hb2.mono (Nat.le_of_lt hz)))
    clear hb2
    go_wp2_with fail
    go_ret
    exact ⟨by rw [decide_eq_false (show ¬ 0 ≤ t by have := HT.out; omega)]; rfl, by rw [HCB.out]; exact HB2.out⟩
end Go.Proofs.YtamjllakfgphnaaGreatDoor
/- Walks of layer 46: versions.copied. -/
namespace Go.Proofs.YtamjllakfgphnaaGreatDoor
open Go.RowKit
set_option linter.unusedSimpArgs false
set_option linter.unusedVariables false
attribute [local go_sem ↓] Go.wp_at_zero Go.wp_at_succ
theorem ch_one (l : List Ch) : ∀ u ∈ l.flatMap chC, u.oneCell' = true := by
  intro u hu
  obtain ⟨c, _, hc⟩ := List.mem_flatMap.1 hu
  simp only [chC, List.mem_cons, List.not_mem_nil, or_false] at hc
  rcases hc with rfl | rfl | rfl | rfl | rfl | rfl | rfl <;> rfl
/-- A copy of an action. -/
def CopP (a : Ac) (w : World) (e : Ending) (w' : World) : Prop := ∃ u, e = .returned (acV a u) ∧ NAc w' u a ∧ Below w.heap.size w w'
set_option maxRecDepth 100000 in
set_option maxHeartbeats 1000000 in
theorem copied_is {w : World} {a : Ac} {u : Value × Value} (h : NAc w u a) (hr : a.reads.length ≤ 100) (hw : a.writes.length ≤ 100) : Calls Tryz.prog 83 #[acV a u] w (CopP a w) := by
  obtain ⟨⟨t, c, n, ln⟩, rs, ws⟩ := a
  obtain ⟨u1, u2⟩ := u
  obtain ⟨n1, n2⟩ := h
  simp only at hr hw n1 n2
  have ha := ((Below.refl w.heap.size w).alloc (Nat.le_refl _) (.cells #[.int .i64 t, .int .i64 c, .int .i64 n, .string (bs ln), u1, u2] 77)).alloc (by simp) (.cells #[.int .i64 0, .int .i64 0, .int .i64 0, .string ⟨#[]⟩, .slice none 0 0, .slice none 0 0] 77)
  have hz : w.heap.size < ((w.alloc (.cells #[.int .i64 t, .int .i64 c, .int .i64 n, .string (bs ln), u1, u2] 77)).alloc (.cells #[.int .i64 0, .int .i64 0, .int .i64 0, .string ⟨#[]⟩, .slice none 0 0, .slice none 0 0] 77)).heap.size := by simp; omega
  have hzr : w.heap.size + 1 < ((w.alloc (.cells #[.int .i64 t, .int .i64 c, .int .i64 n, .string (bs ln), u1, u2] 77)).alloc (.cells #[.int .i64 0, .int .i64 0, .int .i64 0, .string ⟨#[]⟩, .slice none 0 0, .slice none 0 0] 77)).heap.size := by simp
  have zb := (Blk.new w 77 #[.int .i64 t, .int .i64 c, .int .i64 n, .string (bs ln), u1, u2]).alloc (.cells #[.int .i64 0, .int .i64 0, .int .i64 0, .string ⟨#[]⟩, .slice none 0 0, .slice none 0 0] 77)
  have rb := Blk.new (w.alloc (.cells #[.int .i64 t, .int .i64 c, .int .i64 n, .string (bs ln), u1, u2] 77)) 77 #[.int .i64 0, .int .i64 0, .int .i64 0, .string ⟨#[]⟩, .slice none 0 0, .slice none 0 0]
  rw [World.size_alloc] at rb
  have N1 := Lib.hid (RdP.next n1 ha)
  have N2 := Lib.hid (RdP.next n2 ha)
  have HA := Lib.hid ha
  have HRB := Lib.hid rb
  have H3 := Lib.hid hr
  have H4 := Lib.hid hw
  have z0 := zb.cell 0
  have z1 := zb.cell 1
  have z2 := zb.cell 2
  have z3 := zb.cell 3
  have z4 := zb.cell 4
  have z5 := zb.cell 5
  simp only [List.getElem?_toArray, List.getElem?_cons_zero, List.getElem?_cons_succ] at z0 z1 z2 z3 z4 z5
  clear zb rb n1 n2 hr hw ha
  go_enter Tryz.func83, Tryz.ntmps83
  simp only [acV]
  go_upto_region 1 with (fail)
  generalize (w.alloc (.cells #[.int .i64 t, .int .i64 c, .int .i64 n, .string (bs ln), u1, u2] 77)).alloc (.cells #[.int .i64 0, .int .i64 0, .int .i64 0, .string ⟨#[]⟩, .slice none 0 0, .slice none 0 0] 77) = W at *
  generalize hcb : w.heap.size = cb at *
  have HCB := Lib.hid hcb
  clear hcb
  refine wp_region_noPanic ?_
  refine wp_region_last (S := (fun (w' : World) => w'.cell? ⟨cb, 0, none⟩ = some (.int .i64 t) ∧ w'.cell? ⟨cb, 1, none⟩ = some (.int .i64 c) ∧ w'.cell? ⟨cb, 2, none⟩ = some (.int .i64 n) ∧ w'.cell? ⟨cb, 3, none⟩ = some (.string (bs ln)) ∧ w'.cell? ⟨cb, 4, none⟩ = some (u1) ∧ w'.cell? ⟨cb, 5, none⟩ = some (u2))) 9 9 rfl (by kernel_rfl) (by kernel_rfl) ?_ (fun hHeld => ?_)
  · exact ⟨z0, z1, z2, z3, z4, z5⟩
  refine wpAnyH_take (i := 0) (v := ?_) rfl (by kernel_rfl) (by kernel_rfl) (by kernel_rfl) (fun _ _ _ h => h) (Or.inl ⟨by kernel_rfl, ?_⟩) hHeld ?_
  rotate_left
  · (intro w hSw; (try dsimp only at hSw); go_simp; try with_reducible rfl)
  try simp only [Act.put, List.setIfInBounds_toArray, List.set_cons_zero, List.set_cons_succ]
  refine wpAnyH_take (i := 1) (v := ?_) rfl (by kernel_rfl) (by kernel_rfl) (by kernel_rfl) (fun _ _ _ h => h) (Or.inl ⟨by kernel_rfl, ?_⟩) hHeld ?_
  rotate_left
  · (intro w hSw; (try dsimp only at hSw); go_simp; try with_reducible rfl)
  try simp only [Act.put, List.setIfInBounds_toArray, List.set_cons_zero, List.set_cons_succ]
  refine wpAnyH_take (i := 2) (v := ?_) rfl (by kernel_rfl) (by kernel_rfl) (by kernel_rfl) (fun _ _ _ h => h) (Or.inl ⟨by kernel_rfl, ?_⟩) hHeld ?_
  rotate_left
  · (intro w hSw; (try dsimp only at hSw); go_simp; try with_reducible rfl)
  try simp only [Act.put, List.setIfInBounds_toArray, List.set_cons_zero, List.set_cons_succ]
  refine wpAnyH_take (i := 3) (v := ?_) rfl (by kernel_rfl) (by kernel_rfl) (by kernel_rfl) (fun _ _ _ h => h) (Or.inl ⟨by kernel_rfl, ?_⟩) hHeld ?_
  rotate_left
  · (intro w hSw; (try dsimp only at hSw); go_simp; try with_reducible rfl)
  try simp only [Act.put, List.setIfInBounds_toArray, List.set_cons_zero, List.set_cons_succ]
  refine wpAnyH_take (i := 5) (v := ?_) rfl (by kernel_rfl) (by kernel_rfl) (by kernel_rfl) (fun _ _ _ h => h) (Or.inl ⟨by kernel_rfl, ?_⟩) hHeld ?_
  rotate_left
  · (intro w hSw; (try dsimp only at hSw); go_simp; try with_reducible rfl)
  try simp only [Act.put, List.setIfInBounds_toArray, List.set_cons_zero, List.set_cons_succ]
  refine wpAnyH_take (i := 6) (v := ?_) rfl (by kernel_rfl) (by kernel_rfl) (by kernel_rfl) (fun _ _ _ h => h) (Or.inl ⟨by kernel_rfl, ?_⟩) hHeld ?_
  rotate_left
  · (intro w hSw; (try dsimp only at hSw); go_simp; try with_reducible rfl)
  try simp only [Act.put, List.setIfInBounds_toArray, List.set_cons_zero, List.set_cons_succ]
  refine wpAnyH_ready (rs := [4]) (by kernel_rfl) (by simp) ?_
  refine AllReadyH.cons rfl (fun K hK => ?_) AllReadyH.nil
  go_simp
  refine (cloneCh (RdP.drew N1.out) (fm_len chC_len rs) (ch_one rs) (by have := H3.out; omega)).mono ?_
  rintro e w3 ⟨v1, rfl, ho1, hb3⟩
  obtain ⟨A1, k1, rfl, hk1⟩ := own_len ho1
  have HO1 := Lib.hid ho1
  have HB3 := Lib.hid ((Below.refl W.heap.size W).drew.trans hb3)
  have y0 := (HB3.out.cell (p := ⟨cb, 0, none⟩) hz).trans z0
  have y1 := (HB3.out.cell (p := ⟨cb, 1, none⟩) hz).trans z1
  have y2 := (HB3.out.cell (p := ⟨cb, 2, none⟩) hz).trans z2
  have y3 := (HB3.out.cell (p := ⟨cb, 3, none⟩) hz).trans z3
  have y4 := (HB3.out.cell (p := ⟨cb, 4, none⟩) hz).trans z4
  have y5 := (HB3.out.cell (p := ⟨cb, 5, none⟩) hz).trans z5
  have N3 := Lib.hid (RdP.next N2.out HB3.out)
  have hz3 : cb + 1 < w3.heap.size := Nat.lt_of_lt_of_le hzr hb3.size
  have hs3 : W.heap.size ≤ w3.heap.size := hb3.size
  clear ho1 hb3
  try (go_wp2_with fail)
  refine hK.out _ _ ?_ (fun hNew => ?_)
  · exact ⟨y0, y1, y2, y3, y4, y5⟩
  clear hK K hHeld
  have hHeld := hNew
  clear hNew
  try simp only [Act.put, List.setIfInBounds_toArray, List.set_cons_zero, List.set_cons_succ]
  refine wpAnyH_ready (rs := [7]) (by kernel_rfl) (by simp) ?_
  refine AllReadyH.cons rfl (fun K hK => ?_) AllReadyH.nil
  go_simp
  refine (cloneCh N3.out (fm_len chC_len ws) (ch_one ws) (by have := H4.out; omega)).mono ?_
  rintro e w4 ⟨v2, rfl, ho2, hb4⟩
  obtain ⟨A2, k2, rfl, hk2⟩ := own_len ho2
  have HO2 := Lib.hid ho2
  have HO1' := Lib.hid (own_next HO1.out hb4)
  have HB4 := Lib.hid (HB3.out.trans (hb4.mono hs3))
  have x0 := (HB4.out.cell (p := ⟨cb, 0, none⟩) hz).trans z0
  have x1 := (HB4.out.cell (p := ⟨cb, 1, none⟩) hz).trans z1
  have x2 := (HB4.out.cell (p := ⟨cb, 2, none⟩) hz).trans z2
  have x3 := (HB4.out.cell (p := ⟨cb, 3, none⟩) hz).trans z3
  have x4 := (HB4.out.cell (p := ⟨cb, 4, none⟩) hz).trans z4
  have x5 := (HB4.out.cell (p := ⟨cb, 5, none⟩) hz).trans z5
  have r4 := HRB.out.next HB4.out HRB.out.lt
  have R4 := Lib.hid r4
  have q0 := r4.cell 0
  have f0 := r4.frozen 0
  have q1 := r4.cell 1
  have f1 := r4.frozen 1
  have q2 := r4.cell 2
  have f2 := r4.frozen 2
  have q3 := r4.cell 3
  have f3 := r4.frozen 3
  have q4 := r4.cell 4
  have f4 := r4.frozen 4
  have q5 := r4.cell 5
  have f5 := r4.frozen 5
  simp only [List.getElem?_toArray, List.getElem?_cons_zero, List.getElem?_cons_succ] at q0 q1 q2 q3 q4 q5
  clear ho2 hb4 r4
  try (go_wp2_with fail)
  refine hK.out _ _ ?_ (fun hNew => ?_)
  · exact ⟨x0, x1, x2, x3, x4, x5⟩
  clear hK K hHeld
  have hHeld := hNew
  clear hNew
  try simp only [Act.put, List.setIfInBounds_toArray, List.set_cons_zero, List.set_cons_succ]
  refine wpAnyH_take (i := 8) (v := ?_) rfl (by kernel_rfl) (by kernel_rfl) (by kernel_rfl) (fun _ _ _ h => h) (Or.inl ⟨by kernel_rfl, ?_⟩) hHeld ?_
  rotate_left
  · (intro w hSw; (try dsimp only at hSw); go_simp; try with_reducible rfl)
  try simp only [Act.put, List.setIfInBounds_toArray, List.set_cons_zero, List.set_cons_succ]
  refine wpAnyH_done (by kernel_rfl) ?_ _
  refine lastQ_step rfl (fun K hK => ?_)
  clear hHeld
  go_simp
  refine hK _ _ ?_
  clear hK K
  refine NoPanic.normal ?_
  clear z0 z1 z2 z3 z4 z5 y0 y1 y2 y3 y4 y5
  go_wp2_with fail
  have hg := only_set6 w4 (cb + 1) (.int .i64 t) (.int .i64 c) (.int .i64 n) (.string (bs ln)) (.slice A1 rs.length k1) (.slice A2 ws.length k2)
  have hk := Kept.of_blk [77] R4.out hg rfl
  have hbe := below_set6 (B := cb) ((HA.out.trans (HB4.out.mono (Nat.le_of_lt hz)))) (g := cb + 1) (by omega) (.int .i64 t) (.int .i64 c) (.int .i64 n) (.string (bs ln)) (.slice A1 rs.length k1) (.slice A2 ws.length k2)
  exact bodyPost_ret (v := .agg #[.int .i64 t, .int .i64 c, .int .i64 n, .string (bs ln), (.slice A1 rs.length k1), (.slice A2 ws.length k2)]) (by simp [results, Tryz.results83, go_sem, q0, q1, q2, q3, q4, q5]) rfl ⟨((.slice A1 rs.length k1), (.slice A2 ws.length k2)), rfl, ⟨RdP.keep (show RdCh w4 (.slice A1 rs.length k1) rs from Rd.of_own HO1'.out) hk rfl, RdP.keep (show RdCh w4 (.slice A2 ws.length k2) ws from Rd.of_own HO2.out) hk rfl⟩, by rw [HCB.out]; exact hbe⟩
end Go.Proofs.YtamjllakfgphnaaGreatDoor
