/- Walks of layer 41: the reference's simple. -/
import Derived.Test.YtiddchpkmcncdaaG9
import Derived.Test.YtiddchpkmcncdaaG1
namespace Go.Proofs.Ytiddchpkmcncdaa
open Go.RowKit
set_option linter.unusedSimpArgs false
set_option linter.unusedVariables false
theorem info112r : (Try.prog.info? 112).map (fun i => (i.zero, i.size, i.bytes)) = some (some (.agg #[.string ⟨#[]⟩, .slice none 0 0]), 2, 40) := by kernel_rfl
theorem info39r : (Try.prog.info? 39).map (fun i => (i.zero, i.size, i.bytes)) = some (some (.slice none 0 0), 1, 24) := by kernel_rfl
theorem iseF {o : Bs} (h : o ≠ []) : (bs o).toList.isEmpty = false := by rw [bs_tl]; simpa using h
theorem neqF {o a : Bs} (h : o ≠ a) : ((bs o).toList == a) = false := by rw [bs_tl]; exact beq_false_of_ne h
set_option maxRecDepth 100000 in
set_option maxHeartbeats 16000000 in
theorem simple_ref (w : World) (v : Value) (ts : List Tk) (en : Nat) (h : RdK w v ts) (hl : ts.length ≤ 100000) (ht : ∀ t ∈ ts, TkOk 100000 t) :
    Calls Try.prog 81 #[.agg #[v, .int .i64 (en : Int)]] w (RsP w en (simS en ts smE)) := by
  obtain ⟨ja, hja, hja0, hja1, hja2⟩ := info_parts info112r
  obtain ⟨jw, hjw, hjw0, hjw1, hjw2⟩ := info_parts info39r
  obtain ⟨A, k, rfl, hk⟩ := RowRd.form h
  have h0 := RsRel.intro0 w _ ts en h hl ht
  generalize simS en ts smE = r at *
  generalize ts.length = n at *
  clear h ht
  go_enter Try.func81, Try.ntmps81
  go_wp2
  go_loopg [] (n + 1) (fun gk wr => RsRel w en r gk wr)
  case atStart => exact h0
  case round =>
    clear h0
    obtain ⟨v, ts, c, hs, hgk, hl, ht, hap, hca, hcw, hr⟩ := hrel
    have HS := Lib.hid hs
    have HR := Lib.hid hr
    have HT := Lib.hid ht
    have HAP := Lib.hid hap
    obtain ⟨A1, k1, rfl, hk1⟩ := hs.parts
    obtain ⟨Aa, ka, Ab, kb, Ai, ki, Ao, ko, x0, x1, fx0, fx1, y0, y1, y2, y3, y4, fy⟩ := hs.cells
    clear hs hr ht hap
    cases ts with
    | nil =>
      have z0 : wr.cell? ⟨w.heap.size + 1, 0, none⟩ = some (.slice none 0 0) := HS.out.2.2.2.1.cell 0
      have z1 : wr.cell? ⟨w.heap.size + 1, 1, none⟩ = some (.slice none 0 0) := HS.out.2.2.2.1.cell 1
      have z2 : wr.cell? ⟨w.heap.size + 1, 2, none⟩ = some (.slice none 0 0) := HS.out.2.2.2.1.cell 2
      have z3 : wr.cell? ⟨w.heap.size + 1, 3, none⟩ = some (.slice none 0 0) := HS.out.2.2.2.1.cell 3
      have z4 : wr.cell? ⟨w.heap.size + 1, 4, none⟩ = some (.bool false) := HS.out.2.2.2.1.cell 4
      have fz := HS.out.2.2.2.1.frozen
      have g0 : wr.cell? ⟨w.heap.size + 1 + 1, 0, none⟩ = some (.slice none 0 0) := HS.out.2.2.2.2.1.cell 0
      have g1 : wr.cell? ⟨w.heap.size + 1 + 1, 1, none⟩ = some (.int .i64 0) := HS.out.2.2.2.2.1.cell 1
      have fg := HS.out.2.2.2.2.1.frozen
      have fz0 := fz 0
      have fz1 := fz 1
      have fz2 := fz 2
      have fz3 := fz 3
      have fz4 := fz 4
      have fg0 := fg 0
      have fg1 := fg 1
      have L5 : IntKind.i64.wrap ((c.asg.length : Int) + (c.words.length : Int)) = (c.asg.length : Int) + (c.words.length : Int) := IntWalk.i64_in _ (by omega)
      cases hsn : smNone c with
      | true =>
        have HR2 := Lib.hid (HR.out.trans ((simS_nil en c).trans (if_pos hsn)))
        have e5 : ((c.asg.length : Int) + (c.words.length : Int) == 0) = true := by
          unfold smNone at hsn
          rw [Bool.and_eq_true, List.isEmpty_iff, List.isEmpty_iff] at hsn
          rw [hsn.1, hsn.2]; rfl
        clear hsn fz fg fy
        go_upto_region 25 with (fail)
        refine wp_region_noPanic ?_
        refine wp_region_held_drew (S := (fun w' => w'.cell? ⟨w.heap.size, 0, none⟩ = some (.slice A1 0 k1) ∧ w'.cell? ⟨w.heap.size, 1, none⟩ = some (.int .i64 (en : Int)) ∧ w'.cell? ⟨w.heap.size + 1 + 1 + 1, 0, none⟩ = some (.slice Aa c.asg.length ka) ∧ w'.cell? ⟨w.heap.size + 1 + 1 + 1, 1, none⟩ = some (.slice Ab c.words.length kb) ∧ w'.cell? ⟨w.heap.size + 1 + 1 + 1, 2, none⟩ = some (.slice Ai c.inn.length ki) ∧ w'.cell? ⟨w.heap.size + 1 + 1 + 1, 3, none⟩ = some (.slice Ao c.out.length ko) ∧ w'.cell? ⟨w.heap.size + 1 + 1 + 1, 4, none⟩ = some (.bool c.app))) (by kernel_rfl) ?_ (fun hHeld => ?_)
        · exact ⟨x0, x1, y0, y1, y2, y3, y4⟩
        refine wpAnyH_take (i := 0) (v := ?_) rfl (by kernel_rfl) (by kernel_rfl) (by kernel_rfl) (fun _ _ _ h => h) (Or.inl ⟨by kernel_rfl, ?_⟩) hHeld ?_
        rotate_left
        · (intro w hSw; (try dsimp only at hSw); go_simp; try with_reducible rfl)
        try simp only [Act.put, List.setIfInBounds_toArray, List.set_cons_zero, List.set_cons_succ]
        refine wpAnyH_take (i := 1) (v := ?_) rfl (by kernel_rfl) (by kernel_rfl) (by kernel_rfl) (fun _ _ _ h => h) (Or.inl ⟨by kernel_rfl, ?_⟩) hHeld ?_
        rotate_left
        · (intro w hSw; (try dsimp only at hSw); go_simp; try with_reducible rfl)
        try simp only [Act.put, List.setIfInBounds_toArray, List.set_cons_zero, List.set_cons_succ]
        refine wpAnyH_take (i := 2) (v := ?_) rfl (by kernel_rfl) (by kernel_rfl) (by kernel_rfl) (fun _ _ _ h => h) (Or.inl ⟨by kernel_rfl, ?_⟩) hHeld ?_
        rotate_left
        · (intro w hSw; (try dsimp only at hSw); go_simp; try with_reducible rfl)
        try simp only [Act.put, List.setIfInBounds_toArray, List.set_cons_zero, List.set_cons_succ]
        refine wpAnyH_ready (rs := [3]) (by kernel_rfl) (by simp) ?_
        refine AllReadyH.cons rfl (fun K hK => ?_) AllReadyH.nil
        go_simp
        go_at_call 47; refine (place_ref wr.drew (.slice A1 0 k1) ([]) en (show RdK wr.drew (.slice A1 0 k1) ([]) from HS.out.2.2.1)).mono ?_; rintro e wp ⟨rfl, kp0⟩; have kp : Below wr.heap.size wr wp := ((Below.refl wr.heap.size wr).drew).trans kp0; have HSp := Lib.hid (HS.out.next (w' := wp) kp); have bx := HSp.out.2.1; have xx0 : wp.cell? ⟨w.heap.size, 0, none⟩ = some (.slice A1 0 k1) := bx.cell 0; have xx1 : wp.cell? ⟨w.heap.size, 1, none⟩ = some (.int .i64 (en : Int)) := bx.cell 1; have hb3 := HS.out.2.2.2.2.2.lt; have yy0 := ((bcell kp).1 (w.heap.size + 1 + 1 + 1) 0 hb3).trans y0; have yy1 := ((bcell kp).1 (w.heap.size + 1 + 1 + 1) 1 hb3).trans y1; have yy2 := ((bcell kp).1 (w.heap.size + 1 + 1 + 1) 2 hb3).trans y2; have yy3 := ((bcell kp).1 (w.heap.size + 1 + 1 + 1) 3 hb3).trans y3; have yy4 := ((bcell kp).1 (w.heap.size + 1 + 1 + 1) 4 hb3).trans y4; have bz := HSp.out.2.2.2.1; have z0 := bz.cell 0; have z1 := bz.cell 1; have z2 := bz.cell 2; have z3 := bz.cell 3; have z4 := bz.cell 4; have fz0 := bz.frozen 0; have fz1 := bz.frozen 1; have fz2 := bz.frozen 2; have fz3 := bz.frozen 3; have fz4 := bz.frozen 4; have bg := HSp.out.2.2.2.2.1; have g0 := bg.cell 0; have g1 := bg.cell 1; have fg0 := bg.frozen 0; have fg1 := bg.frozen 1
        try (go_wp2_with fail)
        refine hK.out _ _ ?_ (fun hNew => ?_)
        · exact ⟨xx0, xx1, yy0, yy1, yy2, yy3, yy4⟩
        clear hK K hHeld
        have hHeld := hNew
        clear hNew
        try simp only [Act.put, List.setIfInBounds_toArray, List.set_cons_zero, List.set_cons_succ]
        refine wpAnyH_ready (rs := [4]) (by kernel_rfl) (by simp) ?_
        refine AllReadyH.cons rfl (fun K hK => ?_) AllReadyH.nil
        go_simp
        refine hK.out _ _ ?_ (fun hNew => ?_)
        · go_keep
        clear hK K hHeld
        have hHeld := hNew
        clear hNew
        try simp only [Act.put, List.setIfInBounds_toArray, List.set_cons_zero, List.set_cons_succ]
        refine wpAnyH_ready (rs := [5]) (by kernel_rfl) (by simp) ?_
        refine AllReadyH.cons rfl (fun K hK => ?_) AllReadyH.nil
        go_simp
        refine hK.out _ _ ?_ (fun hNew => ?_)
        · exact ⟨((cell_far (by dsimp only; omega)).trans (cell_far (by dsimp only; omega))).trans hHeld.1, ((cell_far (by dsimp only; omega)).trans (cell_far (by dsimp only; omega))).trans hHeld.2.1, ((cell_far (by dsimp only; omega)).trans (cell_far (by dsimp only; omega))).trans hHeld.2.2.1, ((cell_far (by dsimp only; omega)).trans (cell_far (by dsimp only; omega))).trans hHeld.2.2.2.1, ((cell_far (by dsimp only; omega)).trans (cell_far (by dsimp only; omega))).trans hHeld.2.2.2.2.1, ((cell_far (by dsimp only; omega)).trans (cell_far (by dsimp only; omega))).trans hHeld.2.2.2.2.2.1, ((cell_far (by dsimp only; omega)).trans (cell_far (by dsimp only; omega))).trans hHeld.2.2.2.2.2.2⟩
        clear hK K hHeld
        have hHeld := hNew
        clear hNew
        try simp only [Act.put, List.setIfInBounds_toArray, List.set_cons_zero, List.set_cons_succ]
        refine wpAnyH_take (i := 6) (v := ?_) rfl (by kernel_rfl) (by kernel_rfl) (by kernel_rfl) (fun _ _ _ h => h) (Or.inl ⟨by kernel_rfl, ?_⟩) hHeld ?_
        rotate_left
        · (intro w hSw; (try dsimp only at hSw); go_simp; try with_reducible rfl)
        try simp only [Act.put, List.setIfInBounds_toArray, List.set_cons_zero, List.set_cons_succ]
        refine wpAnyH_take (i := 7) (v := ?_) rfl (by kernel_rfl) (by kernel_rfl) (by kernel_rfl) (fun _ _ _ h => h) (Or.inl ⟨by kernel_rfl, ?_⟩) hHeld ?_
        rotate_left
        · (intro w hSw; (try dsimp only at hSw); go_simp; try with_reducible rfl)
        try simp only [Act.put, List.setIfInBounds_toArray, List.set_cons_zero, List.set_cons_succ]
        refine wpAnyH_done (by kernel_rfl) ?_ _
        clear hHeld
        simp only [List.getElem_toArray, List.getElem_cons_zero, List.getElem_cons_succ, Act.put, List.setIfInBounds_toArray, List.set_cons_zero, List.set_cons_succ]
        refine NoPanic.normal ?_
        have HS0 : RsS w en (.slice A1 0 k1) ([]) c wp := HSp.out
        obtain ⟨_, _, d6, d7, d8⟩ := HS0.done0 yy0 yy1 yy2 yy3
        generalize (((((((wp.setCell ⟨w.heap.size + 1, 0, none⟩ (.slice Aa c.asg.length ka)).setCell ⟨w.heap.size + 1, 1, none⟩ (.slice Ab c.words.length kb)).setCell ⟨w.heap.size + 1, 2, none⟩ (.slice Ai c.inn.length ki)).setCell ⟨w.heap.size + 1, 3, none⟩ (.slice Ao c.out.length ko)).setCell ⟨w.heap.size + 1, 4, none⟩ (.bool c.app)).setCell ⟨w.heap.size + 1 + 1, 0, none⟩ (.slice A1 0 k1)).setCell ⟨w.heap.size + 1 + 1, 1, none⟩ (.int .i64 (en : Int))) = wz at d6 d7 d8 ⊢
        have r0 := d7.cell 0
        have r1 := d7.cell 1
        have r2 := d7.cell 2
        have r3 := d7.cell 3
        have r4 := d7.cell 4
        have s0 := d8.cell 0
        have s1 := d8.cell 1
        simp at r0 r1 r2 r3 r4 s0 s1
        go_wp2
        refine bodyPost_ret (v := .tuple #[.agg #[.slice Aa c.asg.length ka, .slice Ab c.words.length kb, .slice Ai c.inn.length ki, .slice Ao c.out.length ko, .bool c.app], .agg #[.slice A1 0 k1, .int .i64 (en : Int)], .int .i64 30, .int .i64 ((placeS en ([]) : Nat) : Int)]) (by simp [results, Try.results81, go_sem, r0, r1, r2, r3, r4, s0, s1]) rfl ?_
        rw [HR2.out]
        exact ⟨_, _, _, _, _, _, _, _, _, _, _, _, _, _, _, _, rfl, by decide, d6⟩
      | false =>
        have HR2 := Lib.hid (HR.out.trans ((simS_nil en c).trans (if_neg (by rw [hsn]; simp))))
        have e5 : ((c.asg.length : Int) + (c.words.length : Int) == 0) = false := by
          refine beq_false_of_ne (fun h => ?_)
          have h1 : c.asg.length = 0 := by omega
          have h2 : c.words.length = 0 := by omega
          unfold smNone at hsn
          rw [List.length_eq_zero_iff.1 h1, List.length_eq_zero_iff.1 h2] at hsn
          simp at hsn
        clear hsn fz fg fy
        go_wp2
        go_region
        have HS0 : RsS w en (.slice A1 0 k1) ([]) c wr := HS.out
        obtain ⟨d1, d2, d3, d4, d5⟩ := HS0.done y0 y1 y2 y3
        generalize (((((((wr.setCell ⟨w.heap.size + 1, 0, none⟩ (.slice Aa c.asg.length ka)).setCell ⟨w.heap.size + 1, 1, none⟩ (.slice Ab c.words.length kb)).setCell ⟨w.heap.size + 1, 2, none⟩ (.slice Ai c.inn.length ki)).setCell ⟨w.heap.size + 1, 3, none⟩ (.slice Ao c.out.length ko)).setCell ⟨w.heap.size + 1, 4, none⟩ (.bool c.app)).setCell ⟨w.heap.size + 1 + 1, 0, none⟩ (.slice A1 0 k1)).setCell ⟨w.heap.size + 1 + 1, 1, none⟩ (.int .i64 (en : Int))).drew = wz at d1 d2 d3 d4 d5 ⊢
        have r0 := d4.cell 0
        have r1 := d4.cell 1
        have r2 := d4.cell 2
        have r3 := d4.cell 3
        have r4 := d4.cell 4
        have s0 := d5.cell 0
        have s1 := d5.cell 1
        simp at r0 r1 r2 r3 r4 s0 s1
        go_wp2
        refine bodyPost_ret (v := .tuple #[.agg #[.slice Aa c.asg.length ka, .slice Ab c.words.length kb, .slice Ai c.inn.length ki, .slice Ao c.out.length ko, .bool c.app], .agg #[.slice A1 0 k1, .int .i64 (en : Int)], .int .i64 0, .int .i64 0]) (by simp [results, Try.results81, go_sem, r0, r1, r2, r3, r4, s0, s1]) rfl ?_
        rw [HR2.out]
        exact ⟨⟨_, _, _, _⟩, _, rfl, d1, d2, d3⟩
    | cons t ts =>
      have e1 : (0 : Int) < (ts.length : Int) + 1 := by omega
      obtain ⟨p0, o0, w0, n0⟩ := t
      have ht0 := HT.out _ (List.mem_cons_self ..)
      by_cases h60 : o0 = [60]
      · subst h60
        by_cases hi : c.inn = []
        · have hil : c.inn.length = 0 := by rw [hi]; rfl
          rw [hil] at y2
          cases ts with
          | nil =>
            have HR2 := Lib.hid (HR.out.trans (simS_non en p0 w0 n0 [60] [] c (.inl ⟨rfl, hi⟩) (.inl rfl)))
            clear hi HR ht0
            go_upto_region 8 with (first | (go_at_call 45; refine (next_ref _ _ _ en HS.out.2.2.1).mono ?_; rintro e wa ⟨rfl, ka1⟩; rw [show bs (nextS (⟨p0, [60], w0, n0⟩ :: [])) = ⟨#[60]⟩ from rfl]; have HSa := Lib.hid (HS.out.next ka1); obtain ⟨Aa, ka, Ab, kb, Ai, ki, Ao, ko, x0, x1, fx0, fx1, y0, y1, y2, y3, y4, fy⟩ := HSa.out.cells) | (go_at_call 46; refine (rest_ref _ _ _ _ en HSa.out.2.2.1 (by first | (simp; done) | (simp at hl ⊢; omega))).mono ?_; rintro e wb ⟨v2, rfl, hv2, kb1⟩; obtain ⟨A2, k2, rfl, hk2⟩ := RowRd.form hv2; have HSb := Lib.hid (HSa.out.next kb1); have HSc := Lib.hid (HSb.out.box hv2); obtain ⟨Aa, ka, Ab, kb, Ai, ki, Ao, ko, x0, x1, fx0, fx1, y0, y1, y2, y3, y4, fy⟩ := HSb.out.cells))
            clear hil
            have HSc' := Lib.hid (show RsS w en (.slice A2 0 k2) ([]) c ((wb.setCell ⟨w.heap.size, 0, none⟩ (.slice A2 0 k2)).setCell ⟨w.heap.size, 1, none⟩ (.int .i64 (en : Int))) from HSc.out)
            clear HS HSa HSb HSc x0 x1 fx0 fx1 y0 y1 y2 y3 y4 fy hv2 kb1 ka1
            generalize ((wb.setCell ⟨w.heap.size, 0, none⟩ (.slice A2 0 k2)).setCell ⟨w.heap.size, 1, none⟩ (.int .i64 (en : Int))) = wc at *
            obtain ⟨Aa, ka, Ab, kb, Ai, ki, Ao, ko, x0, x1, fx0, fx1, y0, y1, y2, y3, y4, fy⟩ := HSc'.out.cells
            go_upto_region 9 with (fail)
            refine wp_region_noPanic ?_
            refine wp_region_held_drew (S := (fun w' => w'.cell? ⟨w.heap.size, 0, none⟩ = some (.slice A2 0 k2) ∧ w'.cell? ⟨w.heap.size, 1, none⟩ = some (.int .i64 (en : Int)) ∧ w'.cell? ⟨w.heap.size + 1 + 1 + 1, 0, none⟩ = some (.slice Aa c.asg.length ka) ∧ w'.cell? ⟨w.heap.size + 1 + 1 + 1, 1, none⟩ = some (.slice Ab c.words.length kb) ∧ w'.cell? ⟨w.heap.size + 1 + 1 + 1, 2, none⟩ = some (.slice Ai c.inn.length ki) ∧ w'.cell? ⟨w.heap.size + 1 + 1 + 1, 3, none⟩ = some (.slice Ao c.out.length ko) ∧ w'.cell? ⟨w.heap.size + 1 + 1 + 1, 4, none⟩ = some (.bool c.app))) (by kernel_rfl) ?_ (fun hHeld => ?_)
            · exact ⟨x0, x1, y0, y1, y2, y3, y4⟩
            refine wpAnyH_take (i := 0) (v := ?_) rfl (by kernel_rfl) (by kernel_rfl) (by kernel_rfl) (fun _ _ _ h => h) (Or.inl ⟨by kernel_rfl, ?_⟩) hHeld ?_
            rotate_left
            · (intro w hSw; (try dsimp only at hSw); go_simp; try with_reducible rfl)
            try simp only [Act.put, List.setIfInBounds_toArray, List.set_cons_zero, List.set_cons_succ]
            refine wpAnyH_take (i := 1) (v := ?_) rfl (by kernel_rfl) (by kernel_rfl) (by kernel_rfl) (fun _ _ _ h => h) (Or.inl ⟨by kernel_rfl, ?_⟩) hHeld ?_
            rotate_left
            · (intro w hSw; (try dsimp only at hSw); go_simp; try with_reducible rfl)
            try simp only [Act.put, List.setIfInBounds_toArray, List.set_cons_zero, List.set_cons_succ]
            refine wpAnyH_take (i := 2) (v := ?_) rfl (by kernel_rfl) (by kernel_rfl) (by kernel_rfl) (fun _ _ _ h => h) (Or.inl ⟨by kernel_rfl, ?_⟩) hHeld ?_
            rotate_left
            · (intro w hSw; (try dsimp only at hSw); go_simp; try with_reducible rfl)
            try simp only [Act.put, List.setIfInBounds_toArray, List.set_cons_zero, List.set_cons_succ]
            refine wpAnyH_ready (rs := [3]) (by kernel_rfl) (by simp) ?_
            refine AllReadyH.cons rfl (fun K hK => ?_) AllReadyH.nil
            go_simp
            go_at_call 47; refine (place_ref wc.drew (.slice A2 0 k2) ([]) en (show RdK wc.drew (.slice A2 0 k2) ([]) from HSc'.out.2.2.1)).mono ?_; rintro e wp ⟨rfl, kp0⟩; have kp : Below wc.heap.size wc wp := ((Below.refl wc.heap.size wc).drew).trans kp0; have HSp := Lib.hid (HSc'.out.next (w' := wp) kp); have bx := HSp.out.2.1; have xx0 : wp.cell? ⟨w.heap.size, 0, none⟩ = some (.slice A2 0 k2) := bx.cell 0; have xx1 : wp.cell? ⟨w.heap.size, 1, none⟩ = some (.int .i64 (en : Int)) := bx.cell 1; have hb3 := HSc'.out.2.2.2.2.2.lt; have yy0 := ((bcell kp).1 (w.heap.size + 1 + 1 + 1) 0 hb3).trans y0; have yy1 := ((bcell kp).1 (w.heap.size + 1 + 1 + 1) 1 hb3).trans y1; have yy2 := ((bcell kp).1 (w.heap.size + 1 + 1 + 1) 2 hb3).trans y2; have yy3 := ((bcell kp).1 (w.heap.size + 1 + 1 + 1) 3 hb3).trans y3; have yy4 := ((bcell kp).1 (w.heap.size + 1 + 1 + 1) 4 hb3).trans y4; have bz := HSp.out.2.2.2.1; have z0 := bz.cell 0; have z1 := bz.cell 1; have z2 := bz.cell 2; have z3 := bz.cell 3; have z4 := bz.cell 4; have fz0 := bz.frozen 0; have fz1 := bz.frozen 1; have fz2 := bz.frozen 2; have fz3 := bz.frozen 3; have fz4 := bz.frozen 4; have bg := HSp.out.2.2.2.2.1; have g0 := bg.cell 0; have g1 := bg.cell 1; have fg0 := bg.frozen 0; have fg1 := bg.frozen 1
            try (go_wp2_with fail)
            refine hK.out _ _ ?_ (fun hNew => ?_)
            · exact ⟨xx0, xx1, yy0, yy1, yy2, yy3, yy4⟩
            clear hK K hHeld
            have hHeld := hNew
            clear hNew
            try simp only [Act.put, List.setIfInBounds_toArray, List.set_cons_zero, List.set_cons_succ]
            refine wpAnyH_ready (rs := [4]) (by kernel_rfl) (by simp) ?_
            refine AllReadyH.cons rfl (fun K hK => ?_) AllReadyH.nil
            go_simp
            refine hK.out _ _ ?_ (fun hNew => ?_)
            · go_keep
            clear hK K hHeld
            have hHeld := hNew
            clear hNew
            try simp only [Act.put, List.setIfInBounds_toArray, List.set_cons_zero, List.set_cons_succ]
            refine wpAnyH_ready (rs := [5]) (by kernel_rfl) (by simp) ?_
            refine AllReadyH.cons rfl (fun K hK => ?_) AllReadyH.nil
            go_simp
            refine hK.out _ _ ?_ (fun hNew => ?_)
            · exact ⟨((cell_far (by dsimp only; omega)).trans (cell_far (by dsimp only; omega))).trans hHeld.1, ((cell_far (by dsimp only; omega)).trans (cell_far (by dsimp only; omega))).trans hHeld.2.1, ((cell_far (by dsimp only; omega)).trans (cell_far (by dsimp only; omega))).trans hHeld.2.2.1, ((cell_far (by dsimp only; omega)).trans (cell_far (by dsimp only; omega))).trans hHeld.2.2.2.1, ((cell_far (by dsimp only; omega)).trans (cell_far (by dsimp only; omega))).trans hHeld.2.2.2.2.1, ((cell_far (by dsimp only; omega)).trans (cell_far (by dsimp only; omega))).trans hHeld.2.2.2.2.2.1, ((cell_far (by dsimp only; omega)).trans (cell_far (by dsimp only; omega))).trans hHeld.2.2.2.2.2.2⟩
            clear hK K hHeld
            have hHeld := hNew
            clear hNew
            try simp only [Act.put, List.setIfInBounds_toArray, List.set_cons_zero, List.set_cons_succ]
            refine wpAnyH_take (i := 6) (v := ?_) rfl (by kernel_rfl) (by kernel_rfl) (by kernel_rfl) (fun _ _ _ h => h) (Or.inl ⟨by kernel_rfl, ?_⟩) hHeld ?_
            rotate_left
            · (intro w hSw; (try dsimp only at hSw); go_simp; try with_reducible rfl)
            try simp only [Act.put, List.setIfInBounds_toArray, List.set_cons_zero, List.set_cons_succ]
            refine wpAnyH_take (i := 7) (v := ?_) rfl (by kernel_rfl) (by kernel_rfl) (by kernel_rfl) (fun _ _ _ h => h) (Or.inl ⟨by kernel_rfl, ?_⟩) hHeld ?_
            rotate_left
            · (intro w hSw; (try dsimp only at hSw); go_simp; try with_reducible rfl)
            try simp only [Act.put, List.setIfInBounds_toArray, List.set_cons_zero, List.set_cons_succ]
            refine wpAnyH_done (by kernel_rfl) ?_ _
            clear hHeld
            simp only [List.getElem_toArray, List.getElem_cons_zero, List.getElem_cons_succ, Act.put, List.setIfInBounds_toArray, List.set_cons_zero, List.set_cons_succ]
            refine NoPanic.normal ?_
            have HS0 : RsS w en (.slice A2 0 k2) ([]) c wp := HSp.out
            obtain ⟨_, _, d6, d7, d8⟩ := HS0.done0 yy0 yy1 yy2 yy3
            generalize (((((((wp.setCell ⟨w.heap.size + 1, 0, none⟩ (.slice Aa c.asg.length ka)).setCell ⟨w.heap.size + 1, 1, none⟩ (.slice Ab c.words.length kb)).setCell ⟨w.heap.size + 1, 2, none⟩ (.slice Ai c.inn.length ki)).setCell ⟨w.heap.size + 1, 3, none⟩ (.slice Ao c.out.length ko)).setCell ⟨w.heap.size + 1, 4, none⟩ (.bool c.app)).setCell ⟨w.heap.size + 1 + 1, 0, none⟩ (.slice A2 0 k2)).setCell ⟨w.heap.size + 1 + 1, 1, none⟩ (.int .i64 (en : Int))) = wz at d6 d7 d8 ⊢
            have r0 := d7.cell 0
            have r1 := d7.cell 1
            have r2 := d7.cell 2
            have r3 := d7.cell 3
            have r4 := d7.cell 4
            have s0 := d8.cell 0
            have s1 := d8.cell 1
            simp at r0 r1 r2 r3 r4 s0 s1
            go_wp2
            refine bodyPost_ret (v := .tuple #[.agg #[.slice Aa c.asg.length ka, .slice Ab c.words.length kb, .slice Ai c.inn.length ki, .slice Ao c.out.length ko, .bool c.app], .agg #[.slice A2 0 k2, .int .i64 (en : Int)], .int .i64 30, .int .i64 ((placeS en ([]) : Nat) : Int)]) (by simp [results, Try.results81, go_sem, r0, r1, r2, r3, r4, s0, s1]) rfl ?_
            rw [HR2.out]
            exact ⟨_, _, _, _, _, _, _, _, _, _, _, _, _, _, _, _, rfl, by decide, d6⟩
          | cons u ts =>
            obtain ⟨p1, o1, w1, n1⟩ := u
            have hu0 := HT.out _ (List.mem_cons_of_mem _ (List.mem_cons_self ..))
            by_cases hw : w1 = []
            · subst hw
              have HR2 := Lib.hid (HR.out.trans (simS_non en p0 w0 n0 [60] (⟨p1, o1, [], n1⟩ :: ts) c (.inl ⟨rfl, hi⟩) (.inr ⟨_, _, rfl, rfl⟩)))
              obtain ⟨T, hT⟩ : ∃ T, bs o1 = T := ⟨_, rfl⟩
              have HTT := Lib.hid hT
              have tT : T.toList.isEmpty = false := by rw [← hT]; exact iseF (fun h => hu0.2.2.2.2 h rfl)
              clear hi HR ht0 hu0 hT
              go_upto_region 8 with (first | (go_at_call 45; refine (next_ref _ _ _ en HS.out.2.2.1).mono ?_; rintro e wa ⟨rfl, ka1⟩; rw [show bs (nextS (⟨p0, [60], w0, n0⟩ :: ⟨p1, o1, [], n1⟩ :: ts)) = ⟨#[60]⟩ from rfl]; have HSa := Lib.hid (HS.out.next ka1); obtain ⟨Aa, ka, Ab, kb, Ai, ki, Ao, ko, x0, x1, fx0, fx1, y0, y1, y2, y3, y4, fy⟩ := HSa.out.cells) | (go_at_call 46; refine (rest_ref _ _ _ _ en HSa.out.2.2.1 (by first | (simp; done) | (simp at hl ⊢; omega))).mono ?_; rintro e wb ⟨v2, rfl, hv2, kb1⟩; obtain ⟨A2, k2, rfl, hk2⟩ := RowRd.form hv2; have HSb := Lib.hid (HSa.out.next kb1); have HSc := Lib.hid (HSb.out.box hv2); obtain ⟨Aa, ka, Ab, kb, Ai, ki, Ao, ko, x0, x1, fx0, fx1, y0, y1, y2, y3, y4, fy⟩ := HSb.out.cells))
              clear hil
              have HSc' := Lib.hid (show RsS w en (.slice A2 (ts.length + 1) k2) (⟨p1, o1, [], n1⟩ :: ts) c ((wb.setCell ⟨w.heap.size, 0, none⟩ (.slice A2 (ts.length + 1) k2)).setCell ⟨w.heap.size, 1, none⟩ (.int .i64 (en : Int))) from HSc.out)
              clear HS HSa HSb HSc x0 x1 fx0 fx1 y0 y1 y2 y3 y4 fy hv2 kb1 ka1
              generalize ((wb.setCell ⟨w.heap.size, 0, none⟩ (.slice A2 (ts.length + 1) k2)).setCell ⟨w.heap.size, 1, none⟩ (.int .i64 (en : Int))) = wc at *
              obtain ⟨Aa, ka, Ab, kb, Ai, ki, Ao, ko, x0, x1, fx0, fx1, y0, y1, y2, y3, y4, fy⟩ := HSc'.out.cells
              go_upto_region 9 with (go_at_call 45; refine (next_ref _ _ _ en HSc'.out.2.2.1).mono ?_; rintro e wd ⟨rfl, kd1⟩; rw [show bs (nextS (⟨p1, o1, [], n1⟩ :: ts)) = T from HTT.out]; have HSd := Lib.hid (HSc'.out.next kd1); obtain ⟨Aa, ka, Ab, kb, Ai, ki, Ao, ko, x0, x1, fx0, fx1, y0, y1, y2, y3, y4, fy⟩ := HSd.out.cells)
              clear HSc' kd1
              refine wp_region_noPanic ?_
              refine wp_region_held_drew (S := (fun w' => w'.cell? ⟨w.heap.size, 0, none⟩ = some (.slice A2 (ts.length + 1) k2) ∧ w'.cell? ⟨w.heap.size, 1, none⟩ = some (.int .i64 (en : Int)) ∧ w'.cell? ⟨w.heap.size + 1 + 1 + 1, 0, none⟩ = some (.slice Aa c.asg.length ka) ∧ w'.cell? ⟨w.heap.size + 1 + 1 + 1, 1, none⟩ = some (.slice Ab c.words.length kb) ∧ w'.cell? ⟨w.heap.size + 1 + 1 + 1, 2, none⟩ = some (.slice Ai c.inn.length ki) ∧ w'.cell? ⟨w.heap.size + 1 + 1 + 1, 3, none⟩ = some (.slice Ao c.out.length ko) ∧ w'.cell? ⟨w.heap.size + 1 + 1 + 1, 4, none⟩ = some (.bool c.app))) (by kernel_rfl) ?_ (fun hHeld => ?_)
              · exact ⟨x0, x1, y0, y1, y2, y3, y4⟩
              refine wpAnyH_take (i := 0) (v := ?_) rfl (by kernel_rfl) (by kernel_rfl) (by kernel_rfl) (fun _ _ _ h => h) (Or.inl ⟨by kernel_rfl, ?_⟩) hHeld ?_
              rotate_left
              · (intro w hSw; (try dsimp only at hSw); go_simp; try with_reducible rfl)
              try simp only [Act.put, List.setIfInBounds_toArray, List.set_cons_zero, List.set_cons_succ]
              refine wpAnyH_take (i := 1) (v := ?_) rfl (by kernel_rfl) (by kernel_rfl) (by kernel_rfl) (fun _ _ _ h => h) (Or.inl ⟨by kernel_rfl, ?_⟩) hHeld ?_
              rotate_left
              · (intro w hSw; (try dsimp only at hSw); go_simp; try with_reducible rfl)
              try simp only [Act.put, List.setIfInBounds_toArray, List.set_cons_zero, List.set_cons_succ]
              refine wpAnyH_take (i := 2) (v := ?_) rfl (by kernel_rfl) (by kernel_rfl) (by kernel_rfl) (fun _ _ _ h => h) (Or.inl ⟨by kernel_rfl, ?_⟩) hHeld ?_
              rotate_left
              · (intro w hSw; (try dsimp only at hSw); go_simp; try with_reducible rfl)
              try simp only [Act.put, List.setIfInBounds_toArray, List.set_cons_zero, List.set_cons_succ]
              refine wpAnyH_ready (rs := [3]) (by kernel_rfl) (by simp) ?_
              refine AllReadyH.cons rfl (fun K hK => ?_) AllReadyH.nil
              go_simp
              go_at_call 47; refine (place_ref wd.drew (.slice A2 (ts.length + 1) k2) (⟨p1, o1, [], n1⟩ :: ts) en (show RdK wd.drew (.slice A2 (ts.length + 1) k2) (⟨p1, o1, [], n1⟩ :: ts) from HSd.out.2.2.1)).mono ?_; rintro e wp ⟨rfl, kp0⟩; have kp : Below wd.heap.size wd wp := ((Below.refl wd.heap.size wd).drew).trans kp0; have HSp := Lib.hid (HSd.out.next (w' := wp) kp); have bx := HSp.out.2.1; have xx0 : wp.cell? ⟨w.heap.size, 0, none⟩ = some (.slice A2 (ts.length + 1) k2) := bx.cell 0; have xx1 : wp.cell? ⟨w.heap.size, 1, none⟩ = some (.int .i64 (en : Int)) := bx.cell 1; have hb3 := HSd.out.2.2.2.2.2.lt; have yy0 := ((bcell kp).1 (w.heap.size + 1 + 1 + 1) 0 hb3).trans y0; have yy1 := ((bcell kp).1 (w.heap.size + 1 + 1 + 1) 1 hb3).trans y1; have yy2 := ((bcell kp).1 (w.heap.size + 1 + 1 + 1) 2 hb3).trans y2; have yy3 := ((bcell kp).1 (w.heap.size + 1 + 1 + 1) 3 hb3).trans y3; have yy4 := ((bcell kp).1 (w.heap.size + 1 + 1 + 1) 4 hb3).trans y4; have bz := HSp.out.2.2.2.1; have z0 := bz.cell 0; have z1 := bz.cell 1; have z2 := bz.cell 2; have z3 := bz.cell 3; have z4 := bz.cell 4; have fz0 := bz.frozen 0; have fz1 := bz.frozen 1; have fz2 := bz.frozen 2; have fz3 := bz.frozen 3; have fz4 := bz.frozen 4; have bg := HSp.out.2.2.2.2.1; have g0 := bg.cell 0; have g1 := bg.cell 1; have fg0 := bg.frozen 0; have fg1 := bg.frozen 1
              try (go_wp2_with fail)
              refine hK.out _ _ ?_ (fun hNew => ?_)
              · exact ⟨xx0, xx1, yy0, yy1, yy2, yy3, yy4⟩
              clear hK K hHeld
              have hHeld := hNew
              clear hNew
              try simp only [Act.put, List.setIfInBounds_toArray, List.set_cons_zero, List.set_cons_succ]
              refine wpAnyH_ready (rs := [4]) (by kernel_rfl) (by simp) ?_
              refine AllReadyH.cons rfl (fun K hK => ?_) AllReadyH.nil
              go_simp
              refine hK.out _ _ ?_ (fun hNew => ?_)
              · go_keep
              clear hK K hHeld
              have hHeld := hNew
              clear hNew
              try simp only [Act.put, List.setIfInBounds_toArray, List.set_cons_zero, List.set_cons_succ]
              refine wpAnyH_ready (rs := [5]) (by kernel_rfl) (by simp) ?_
              refine AllReadyH.cons rfl (fun K hK => ?_) AllReadyH.nil
              go_simp
              refine hK.out _ _ ?_ (fun hNew => ?_)
              · exact ⟨((cell_far (by dsimp only; omega)).trans (cell_far (by dsimp only; omega))).trans hHeld.1, ((cell_far (by dsimp only; omega)).trans (cell_far (by dsimp only; omega))).trans hHeld.2.1, ((cell_far (by dsimp only; omega)).trans (cell_far (by dsimp only; omega))).trans hHeld.2.2.1, ((cell_far (by dsimp only; omega)).trans (cell_far (by dsimp only; omega))).trans hHeld.2.2.2.1, ((cell_far (by dsimp only; omega)).trans (cell_far (by dsimp only; omega))).trans hHeld.2.2.2.2.1, ((cell_far (by dsimp only; omega)).trans (cell_far (by dsimp only; omega))).trans hHeld.2.2.2.2.2.1, ((cell_far (by dsimp only; omega)).trans (cell_far (by dsimp only; omega))).trans hHeld.2.2.2.2.2.2⟩
              clear hK K hHeld
              have hHeld := hNew
              clear hNew
              try simp only [Act.put, List.setIfInBounds_toArray, List.set_cons_zero, List.set_cons_succ]
              refine wpAnyH_take (i := 6) (v := ?_) rfl (by kernel_rfl) (by kernel_rfl) (by kernel_rfl) (fun _ _ _ h => h) (Or.inl ⟨by kernel_rfl, ?_⟩) hHeld ?_
              rotate_left
              · (intro w hSw; (try dsimp only at hSw); go_simp; try with_reducible rfl)
              try simp only [Act.put, List.setIfInBounds_toArray, List.set_cons_zero, List.set_cons_succ]
              refine wpAnyH_take (i := 7) (v := ?_) rfl (by kernel_rfl) (by kernel_rfl) (by kernel_rfl) (fun _ _ _ h => h) (Or.inl ⟨by kernel_rfl, ?_⟩) hHeld ?_
              rotate_left
              · (intro w hSw; (try dsimp only at hSw); go_simp; try with_reducible rfl)
              try simp only [Act.put, List.setIfInBounds_toArray, List.set_cons_zero, List.set_cons_succ]
              refine wpAnyH_done (by kernel_rfl) ?_ _
              clear hHeld
              simp only [List.getElem_toArray, List.getElem_cons_zero, List.getElem_cons_succ, Act.put, List.setIfInBounds_toArray, List.set_cons_zero, List.set_cons_succ]
              refine NoPanic.normal ?_
              have HS0 : RsS w en (.slice A2 (ts.length + 1) k2) (⟨p1, o1, [], n1⟩ :: ts) c wp := HSp.out
              obtain ⟨_, _, d6, d7, d8⟩ := HS0.done0 yy0 yy1 yy2 yy3
              generalize (((((((wp.setCell ⟨w.heap.size + 1, 0, none⟩ (.slice Aa c.asg.length ka)).setCell ⟨w.heap.size + 1, 1, none⟩ (.slice Ab c.words.length kb)).setCell ⟨w.heap.size + 1, 2, none⟩ (.slice Ai c.inn.length ki)).setCell ⟨w.heap.size + 1, 3, none⟩ (.slice Ao c.out.length ko)).setCell ⟨w.heap.size + 1, 4, none⟩ (.bool c.app)).setCell ⟨w.heap.size + 1 + 1, 0, none⟩ (.slice A2 (ts.length + 1) k2)).setCell ⟨w.heap.size + 1 + 1, 1, none⟩ (.int .i64 (en : Int))) = wz at d6 d7 d8 ⊢
              have r0 := d7.cell 0
              have r1 := d7.cell 1
              have r2 := d7.cell 2
              have r3 := d7.cell 3
              have r4 := d7.cell 4
              have s0 := d8.cell 0
              have s1 := d8.cell 1
              simp at r0 r1 r2 r3 r4 s0 s1
              go_wp2
              refine bodyPost_ret (v := .tuple #[.agg #[.slice Aa c.asg.length ka, .slice Ab c.words.length kb, .slice Ai c.inn.length ki, .slice Ao c.out.length ko, .bool c.app], .agg #[.slice A2 (ts.length + 1) k2, .int .i64 (en : Int)], .int .i64 30, .int .i64 ((placeS en (⟨p1, o1, [], n1⟩ :: ts) : Nat) : Int)]) (by simp [results, Try.results81, go_sem, r0, r1, r2, r3, r4, s0, s1]) rfl ?_
              rw [HR2.out]
              exact ⟨_, _, _, _, _, _, _, _, _, _, _, _, _, _, _, _, rfl, by decide, d6⟩
            ·
              have HWN := Lib.hid hw
              have ho1 : o1 = [] := by
                rcases Classical.em (o1 = []) with h | h
                · exact h
                · exact absurd (hu0.2.2.2.1 h).1 hw
              subst ho1
              have HR2 := Lib.hid (HR.out.trans (simS_lt en p0 p1 w0 w1 n0 n1 [] ts c hi hw))
              have HT2 := Lib.hid (show ∀ t ∈ ts, TkOk 100000 t from fun t h => HT.out t (List.mem_cons_of_mem _ (List.mem_cons_of_mem _ h)))
              clear hi HR ht0 hu0
              go_upto_region 8 with (first | (go_at_call 45; refine (next_ref _ _ _ en HS.out.2.2.1).mono ?_; rintro e wa ⟨rfl, ka1⟩; rw [show bs (nextS (⟨p0, [60], w0, n0⟩ :: ⟨p1, [], w1, n1⟩ :: ts)) = ⟨#[60]⟩ from rfl]; have HSa := Lib.hid (HS.out.next ka1); obtain ⟨Aa, ka, Ab, kb, Ai, ki, Ao, ko, x0, x1, fx0, fx1, y0, y1, y2, y3, y4, fy⟩ := HSa.out.cells) | (go_at_call 46; refine (rest_ref _ _ _ _ en HSa.out.2.2.1 (by first | (simp; done) | (simp at hl ⊢; omega))).mono ?_; rintro e wb ⟨v2, rfl, hv2, kb1⟩; obtain ⟨A2, k2, rfl, hk2⟩ := RowRd.form hv2; have HSb := Lib.hid (HSa.out.next kb1); have HSc := Lib.hid (HSb.out.box hv2); obtain ⟨Aa, ka, Ab, kb, Ai, ki, Ao, ko, x0, x1, fx0, fx1, y0, y1, y2, y3, y4, fy⟩ := HSb.out.cells))
              clear hil
              have HSc' := Lib.hid (show RsS w en (.slice A2 (ts.length + 1) k2) (⟨p1, [], w1, n1⟩ :: ts) c ((wb.setCell ⟨w.heap.size, 0, none⟩ (.slice A2 (ts.length + 1) k2)).setCell ⟨w.heap.size, 1, none⟩ (.int .i64 (en : Int))) from HSc.out)
              clear HS HSa HSb HSc x0 x1 fx0 fx1 y0 y1 y2 y3 y4 fy hv2 kb1 ka1
              generalize ((wb.setCell ⟨w.heap.size, 0, none⟩ (.slice A2 (ts.length + 1) k2)).setCell ⟨w.heap.size, 1, none⟩ (.int .i64 (en : Int))) = wc at *
              obtain ⟨Aa, ka, Ab, kb, Ai, ki, Ao, ko, x0, x1, fx0, fx1, y0, y1, y2, y3, y4, fy⟩ := HSc'.out.cells
              obtain ⟨b, o, kk, u1, u2, hv, hkk, hbl, hu1, hu2, q0, q1, q2, q3, q4⟩ := HSc'.out.2.2.1.hd
              injection hv with hA hn1 hk1
              subst hA hk1
              obtain ⟨Au, ku, rfl, hku⟩ := Rd.form hu1
              have HU1 := Lib.hid hu1
              clear hu2 q0 q1 q3 q4 hu1
              go_upto_region 13 with (go_at_call 45; refine (next_ref _ _ _ en HSc'.out.2.2.1).mono ?_; rintro e wd ⟨rfl, kd1⟩; rw [show bs (nextS (⟨p1, [], w1, n1⟩ :: ts)) = ⟨#[]⟩ from rfl]; have HSd := Lib.hid (HSc'.out.next kd1); obtain ⟨Aa, ka, Ab, kb, Ai, ki, Ao, ko, x0, x1, fx0, fx1, y0, y1, y2, y3, y4, fy⟩ := HSd.out.cells; have r2 := ((bcell kd1).1 b (o + 2) hbl).trans q2; have f2 := fy 2)
              have HSe := Lib.hid (HSd.out.inn (HU1.out.next kd1))
              clear HSd HSc' x0 x1 fx0 fx1 y0 y1 y2 y3 y4 fy r2 f2 q2 kd1 HU1
              generalize wd.setCell ⟨w.heap.size + 1 + 1 + 1, 2, none⟩ (.slice Au w1.length ku) = we at *
              obtain ⟨Aa, ka, Ab, kb, Ai, ki, Ao, ko, x0, x1, fx0, fx1, y0, y1, y2, y3, y4, fy⟩ := HSe.out.cells
              go_wp2_with (go_at_call 46; refine (rest_ref _ _ _ _ en HSe.out.2.2.1 (by first | (simp; done) | (simp at hl ⊢; omega))).mono ?_; rintro e wf ⟨v3, rfl, hv3, kf1⟩; obtain ⟨A3, k3, rfl, hk3⟩ := RowRd.form hv3; have HSf := Lib.hid (HSe.out.next kf1); have HSg := Lib.hid (HSf.out.box hv3); obtain ⟨Aa, ka, Ab, kb, Ai, ki, Ao, ko, x0, x1, fx0, fx1, y0, y1, y2, y3, y4, fy⟩ := HSf.out.cells)
              go_roundg (ts.length + 1)
              case rel => exact ⟨_, ts, _, HSg.out, rfl, by simp at hl; omega, HT2.out, HAP.out, hca, hcw, HR2.out⟩
              case measure => simp at hgk; omega
        ·
          have HR2 := Lib.hid (HR.out.trans (simS_dup en p0 w0 n0 [60] ts c (.inl ⟨rfl, hi⟩)))
          have e7 : (0 : Int) < (c.inn.length : Int) := by have := List.length_pos_iff.2 hi; omega
          have e7n : 0 < c.inn.length := List.length_pos_iff.2 hi
          clear hi ht0
          go_upto_region 6 with (go_at_call 45; refine (next_ref _ _ _ en HS.out.2.2.1).mono ?_; rintro e wa ⟨rfl, ka1⟩; rw [show bs (nextS (⟨p0, [60], w0, n0⟩ :: ts)) = ⟨#[60]⟩ from rfl]; have HSa := Lib.hid (HS.out.next ka1); obtain ⟨Aa, ka, Ab, kb, Ai, ki, Ao, ko, x0, x1, fx0, fx1, y0, y1, y2, y3, y4, fy⟩ := HSa.out.cells)
          clear HS ka1
          refine wp_region_noPanic ?_
          refine wp_region_held_drew (S := (fun w' => w'.cell? ⟨w.heap.size, 0, none⟩ = some (.slice A1 (ts.length + 1) k1) ∧ w'.cell? ⟨w.heap.size, 1, none⟩ = some (.int .i64 (en : Int)) ∧ w'.cell? ⟨w.heap.size + 1 + 1 + 1, 0, none⟩ = some (.slice Aa c.asg.length ka) ∧ w'.cell? ⟨w.heap.size + 1 + 1 + 1, 1, none⟩ = some (.slice Ab c.words.length kb) ∧ w'.cell? ⟨w.heap.size + 1 + 1 + 1, 2, none⟩ = some (.slice Ai c.inn.length ki) ∧ w'.cell? ⟨w.heap.size + 1 + 1 + 1, 3, none⟩ = some (.slice Ao c.out.length ko) ∧ w'.cell? ⟨w.heap.size + 1 + 1 + 1, 4, none⟩ = some (.bool c.app))) (by kernel_rfl) ?_ (fun hHeld => ?_)
          · exact ⟨x0, x1, y0, y1, y2, y3, y4⟩
          refine wpAnyH_take (i := 0) (v := ?_) rfl (by kernel_rfl) (by kernel_rfl) (by kernel_rfl) (fun _ _ _ h => h) (Or.inl ⟨by kernel_rfl, ?_⟩) hHeld ?_
          rotate_left
          · (intro w hSw; (try dsimp only at hSw); go_simp; try with_reducible rfl)
          try simp only [Act.put, List.setIfInBounds_toArray, List.set_cons_zero, List.set_cons_succ]
          refine wpAnyH_take (i := 1) (v := ?_) rfl (by kernel_rfl) (by kernel_rfl) (by kernel_rfl) (fun _ _ _ h => h) (Or.inl ⟨by kernel_rfl, ?_⟩) hHeld ?_
          rotate_left
          · (intro w hSw; (try dsimp only at hSw); go_simp; try with_reducible rfl)
          try simp only [Act.put, List.setIfInBounds_toArray, List.set_cons_zero, List.set_cons_succ]
          refine wpAnyH_take (i := 2) (v := ?_) rfl (by kernel_rfl) (by kernel_rfl) (by kernel_rfl) (fun _ _ _ h => h) (Or.inl ⟨by kernel_rfl, ?_⟩) hHeld ?_
          rotate_left
          · (intro w hSw; (try dsimp only at hSw); go_simp; try with_reducible rfl)
          try simp only [Act.put, List.setIfInBounds_toArray, List.set_cons_zero, List.set_cons_succ]
          refine wpAnyH_ready (rs := [3]) (by kernel_rfl) (by simp) ?_
          refine AllReadyH.cons rfl (fun K hK => ?_) AllReadyH.nil
          go_simp
          go_at_call 47; refine (place_ref wa.drew (.slice A1 (ts.length + 1) k1) (⟨p0, [60], w0, n0⟩ :: ts) en (show RdK wa.drew (.slice A1 (ts.length + 1) k1) (⟨p0, [60], w0, n0⟩ :: ts) from HSa.out.2.2.1)).mono ?_; rintro e wp ⟨rfl, kp0⟩; have kp : Below wa.heap.size wa wp := ((Below.refl wa.heap.size wa).drew).trans kp0; have HSp := Lib.hid (HSa.out.next (w' := wp) kp); have bx := HSp.out.2.1; have xx0 : wp.cell? ⟨w.heap.size, 0, none⟩ = some (.slice A1 (ts.length + 1) k1) := bx.cell 0; have xx1 : wp.cell? ⟨w.heap.size, 1, none⟩ = some (.int .i64 (en : Int)) := bx.cell 1; have hb3 := HSa.out.2.2.2.2.2.lt; have yy0 := ((bcell kp).1 (w.heap.size + 1 + 1 + 1) 0 hb3).trans y0; have yy1 := ((bcell kp).1 (w.heap.size + 1 + 1 + 1) 1 hb3).trans y1; have yy2 := ((bcell kp).1 (w.heap.size + 1 + 1 + 1) 2 hb3).trans y2; have yy3 := ((bcell kp).1 (w.heap.size + 1 + 1 + 1) 3 hb3).trans y3; have yy4 := ((bcell kp).1 (w.heap.size + 1 + 1 + 1) 4 hb3).trans y4; have bz := HSp.out.2.2.2.1; have z0 := bz.cell 0; have z1 := bz.cell 1; have z2 := bz.cell 2; have z3 := bz.cell 3; have z4 := bz.cell 4; have fz0 := bz.frozen 0; have fz1 := bz.frozen 1; have fz2 := bz.frozen 2; have fz3 := bz.frozen 3; have fz4 := bz.frozen 4; have bg := HSp.out.2.2.2.2.1; have g0 := bg.cell 0; have g1 := bg.cell 1; have fg0 := bg.frozen 0; have fg1 := bg.frozen 1
          try (go_wp2_with fail)
          refine hK.out _ _ ?_ (fun hNew => ?_)
          · exact ⟨xx0, xx1, yy0, yy1, yy2, yy3, yy4⟩
          clear hK K hHeld
          have hHeld := hNew
          clear hNew
          try simp only [Act.put, List.setIfInBounds_toArray, List.set_cons_zero, List.set_cons_succ]
          refine wpAnyH_ready (rs := [4]) (by kernel_rfl) (by simp) ?_
          refine AllReadyH.cons rfl (fun K hK => ?_) AllReadyH.nil
          go_simp
          refine hK.out _ _ ?_ (fun hNew => ?_)
          · go_keep
          clear hK K hHeld
          have hHeld := hNew
          clear hNew
          try simp only [Act.put, List.setIfInBounds_toArray, List.set_cons_zero, List.set_cons_succ]
          refine wpAnyH_ready (rs := [5]) (by kernel_rfl) (by simp) ?_
          refine AllReadyH.cons rfl (fun K hK => ?_) AllReadyH.nil
          go_simp
          refine hK.out _ _ ?_ (fun hNew => ?_)
          · exact ⟨((cell_far (by dsimp only; omega)).trans (cell_far (by dsimp only; omega))).trans hHeld.1, ((cell_far (by dsimp only; omega)).trans (cell_far (by dsimp only; omega))).trans hHeld.2.1, ((cell_far (by dsimp only; omega)).trans (cell_far (by dsimp only; omega))).trans hHeld.2.2.1, ((cell_far (by dsimp only; omega)).trans (cell_far (by dsimp only; omega))).trans hHeld.2.2.2.1, ((cell_far (by dsimp only; omega)).trans (cell_far (by dsimp only; omega))).trans hHeld.2.2.2.2.1, ((cell_far (by dsimp only; omega)).trans (cell_far (by dsimp only; omega))).trans hHeld.2.2.2.2.2.1, ((cell_far (by dsimp only; omega)).trans (cell_far (by dsimp only; omega))).trans hHeld.2.2.2.2.2.2⟩
          clear hK K hHeld
          have hHeld := hNew
          clear hNew
          try simp only [Act.put, List.setIfInBounds_toArray, List.set_cons_zero, List.set_cons_succ]
          refine wpAnyH_take (i := 6) (v := ?_) rfl (by kernel_rfl) (by kernel_rfl) (by kernel_rfl) (fun _ _ _ h => h) (Or.inl ⟨by kernel_rfl, ?_⟩) hHeld ?_
          rotate_left
          · (intro w hSw; (try dsimp only at hSw); go_simp; try with_reducible rfl)
          try simp only [Act.put, List.setIfInBounds_toArray, List.set_cons_zero, List.set_cons_succ]
          refine wpAnyH_take (i := 7) (v := ?_) rfl (by kernel_rfl) (by kernel_rfl) (by kernel_rfl) (fun _ _ _ h => h) (Or.inl ⟨by kernel_rfl, ?_⟩) hHeld ?_
          rotate_left
          · (intro w hSw; (try dsimp only at hSw); go_simp; try with_reducible rfl)
          try simp only [Act.put, List.setIfInBounds_toArray, List.set_cons_zero, List.set_cons_succ]
          refine wpAnyH_done (by kernel_rfl) ?_ _
          clear hHeld
          simp only [List.getElem_toArray, List.getElem_cons_zero, List.getElem_cons_succ, Act.put, List.setIfInBounds_toArray, List.set_cons_zero, List.set_cons_succ]
          refine NoPanic.normal ?_
          have HS0 : RsS w en (.slice A1 (ts.length + 1) k1) (⟨p0, [60], w0, n0⟩ :: ts) c wp := HSp.out
          obtain ⟨_, _, d6, d7, d8⟩ := HS0.done0 yy0 yy1 yy2 yy3
          generalize (((((((wp.setCell ⟨w.heap.size + 1, 0, none⟩ (.slice Aa c.asg.length ka)).setCell ⟨w.heap.size + 1, 1, none⟩ (.slice Ab c.words.length kb)).setCell ⟨w.heap.size + 1, 2, none⟩ (.slice Ai c.inn.length ki)).setCell ⟨w.heap.size + 1, 3, none⟩ (.slice Ao c.out.length ko)).setCell ⟨w.heap.size + 1, 4, none⟩ (.bool c.app)).setCell ⟨w.heap.size + 1 + 1, 0, none⟩ (.slice A1 (ts.length + 1) k1)).setCell ⟨w.heap.size + 1 + 1, 1, none⟩ (.int .i64 (en : Int))) = wz at d6 d7 d8 ⊢
          have r0 := d7.cell 0
          have r1 := d7.cell 1
          have r2 := d7.cell 2
          have r3 := d7.cell 3
          have r4 := d7.cell 4
          have s0 := d8.cell 0
          have s1 := d8.cell 1
          simp at r0 r1 r2 r3 r4 s0 s1
          go_wp2
          refine bodyPost_ret (v := .tuple #[.agg #[.slice Aa c.asg.length ka, .slice Ab c.words.length kb, .slice Ai c.inn.length ki, .slice Ao c.out.length ko, .bool c.app], .agg #[.slice A1 (ts.length + 1) k1, .int .i64 (en : Int)], .int .i64 7, .int .i64 ((placeS en (⟨p0, [60], w0, n0⟩ :: ts) : Nat) : Int)]) (by simp [results, Try.results81, go_sem, r0, r1, r2, r3, r4, s0, s1]) rfl ?_
          rw [HR2.out]
          exact ⟨_, _, _, _, _, _, _, _, _, _, _, _, _, _, _, _, rfl, by decide, d6⟩
      · by_cases h62 : o0 = [62]
        · subst h62
          by_cases hi : c.out = []
          · have hil : c.out.length = 0 := by rw [hi]; rfl
            rw [hil] at y3
            cases ts with
            | nil =>
              have HR2 := Lib.hid (HR.out.trans (simS_non en p0 w0 n0 [62] [] c (.inr ⟨.inl rfl, hi⟩) (.inl rfl)))
              clear hi HR ht0
              go_upto_region 8 with (first | (go_at_call 45; refine (next_ref _ _ _ en HS.out.2.2.1).mono ?_; rintro e wa ⟨rfl, ka1⟩; rw [show bs (nextS (⟨p0, [62], w0, n0⟩ :: [])) = ⟨#[62]⟩ from rfl]; have HSa := Lib.hid (HS.out.next ka1); obtain ⟨Aa, ka, Ab, kb, Ai, ki, Ao, ko, x0, x1, fx0, fx1, y0, y1, y2, y3, y4, fy⟩ := HSa.out.cells) | (go_at_call 46; refine (rest_ref _ _ _ _ en HSa.out.2.2.1 (by first | (simp; done) | (simp at hl ⊢; omega))).mono ?_; rintro e wb ⟨v2, rfl, hv2, kb1⟩; obtain ⟨A2, k2, rfl, hk2⟩ := RowRd.form hv2; have HSb := Lib.hid (HSa.out.next kb1); have HSc := Lib.hid (HSb.out.box hv2); obtain ⟨Aa, ka, Ab, kb, Ai, ki, Ao, ko, x0, x1, fx0, fx1, y0, y1, y2, y3, y4, fy⟩ := HSb.out.cells))
              clear hil
              have HSc' := Lib.hid (show RsS w en (.slice A2 0 k2) ([]) c ((wb.setCell ⟨w.heap.size, 0, none⟩ (.slice A2 0 k2)).setCell ⟨w.heap.size, 1, none⟩ (.int .i64 (en : Int))) from HSc.out)
              clear HS HSa HSb HSc x0 x1 fx0 fx1 y0 y1 y2 y3 y4 fy hv2 kb1 ka1
              generalize ((wb.setCell ⟨w.heap.size, 0, none⟩ (.slice A2 0 k2)).setCell ⟨w.heap.size, 1, none⟩ (.int .i64 (en : Int))) = wc at *
              obtain ⟨Aa, ka, Ab, kb, Ai, ki, Ao, ko, x0, x1, fx0, fx1, y0, y1, y2, y3, y4, fy⟩ := HSc'.out.cells
              go_upto_region 9 with (fail)
              refine wp_region_noPanic ?_
              refine wp_region_held_drew (S := (fun w' => w'.cell? ⟨w.heap.size, 0, none⟩ = some (.slice A2 0 k2) ∧ w'.cell? ⟨w.heap.size, 1, none⟩ = some (.int .i64 (en : Int)) ∧ w'.cell? ⟨w.heap.size + 1 + 1 + 1, 0, none⟩ = some (.slice Aa c.asg.length ka) ∧ w'.cell? ⟨w.heap.size + 1 + 1 + 1, 1, none⟩ = some (.slice Ab c.words.length kb) ∧ w'.cell? ⟨w.heap.size + 1 + 1 + 1, 2, none⟩ = some (.slice Ai c.inn.length ki) ∧ w'.cell? ⟨w.heap.size + 1 + 1 + 1, 3, none⟩ = some (.slice Ao c.out.length ko) ∧ w'.cell? ⟨w.heap.size + 1 + 1 + 1, 4, none⟩ = some (.bool c.app))) (by kernel_rfl) ?_ (fun hHeld => ?_)
              · exact ⟨x0, x1, y0, y1, y2, y3, y4⟩
              refine wpAnyH_take (i := 0) (v := ?_) rfl (by kernel_rfl) (by kernel_rfl) (by kernel_rfl) (fun _ _ _ h => h) (Or.inl ⟨by kernel_rfl, ?_⟩) hHeld ?_
              rotate_left
              · (intro w hSw; (try dsimp only at hSw); go_simp; try with_reducible rfl)
              try simp only [Act.put, List.setIfInBounds_toArray, List.set_cons_zero, List.set_cons_succ]
              refine wpAnyH_take (i := 1) (v := ?_) rfl (by kernel_rfl) (by kernel_rfl) (by kernel_rfl) (fun _ _ _ h => h) (Or.inl ⟨by kernel_rfl, ?_⟩) hHeld ?_
              rotate_left
              · (intro w hSw; (try dsimp only at hSw); go_simp; try with_reducible rfl)
              try simp only [Act.put, List.setIfInBounds_toArray, List.set_cons_zero, List.set_cons_succ]
              refine wpAnyH_take (i := 2) (v := ?_) rfl (by kernel_rfl) (by kernel_rfl) (by kernel_rfl) (fun _ _ _ h => h) (Or.inl ⟨by kernel_rfl, ?_⟩) hHeld ?_
              rotate_left
              · (intro w hSw; (try dsimp only at hSw); go_simp; try with_reducible rfl)
              try simp only [Act.put, List.setIfInBounds_toArray, List.set_cons_zero, List.set_cons_succ]
              refine wpAnyH_ready (rs := [3]) (by kernel_rfl) (by simp) ?_
              refine AllReadyH.cons rfl (fun K hK => ?_) AllReadyH.nil
              go_simp
              go_at_call 47; refine (place_ref wc.drew (.slice A2 0 k2) ([]) en (show RdK wc.drew (.slice A2 0 k2) ([]) from HSc'.out.2.2.1)).mono ?_; rintro e wp ⟨rfl, kp0⟩; have kp : Below wc.heap.size wc wp := ((Below.refl wc.heap.size wc).drew).trans kp0; have HSp := Lib.hid (HSc'.out.next (w' := wp) kp); have bx := HSp.out.2.1; have xx0 : wp.cell? ⟨w.heap.size, 0, none⟩ = some (.slice A2 0 k2) := bx.cell 0; have xx1 : wp.cell? ⟨w.heap.size, 1, none⟩ = some (.int .i64 (en : Int)) := bx.cell 1; have hb3 := HSc'.out.2.2.2.2.2.lt; have yy0 := ((bcell kp).1 (w.heap.size + 1 + 1 + 1) 0 hb3).trans y0; have yy1 := ((bcell kp).1 (w.heap.size + 1 + 1 + 1) 1 hb3).trans y1; have yy2 := ((bcell kp).1 (w.heap.size + 1 + 1 + 1) 2 hb3).trans y2; have yy3 := ((bcell kp).1 (w.heap.size + 1 + 1 + 1) 3 hb3).trans y3; have yy4 := ((bcell kp).1 (w.heap.size + 1 + 1 + 1) 4 hb3).trans y4; have bz := HSp.out.2.2.2.1; have z0 := bz.cell 0; have z1 := bz.cell 1; have z2 := bz.cell 2; have z3 := bz.cell 3; have z4 := bz.cell 4; have fz0 := bz.frozen 0; have fz1 := bz.frozen 1; have fz2 := bz.frozen 2; have fz3 := bz.frozen 3; have fz4 := bz.frozen 4; have bg := HSp.out.2.2.2.2.1; have g0 := bg.cell 0; have g1 := bg.cell 1; have fg0 := bg.frozen 0; have fg1 := bg.frozen 1
              try (go_wp2_with fail)
              refine hK.out _ _ ?_ (fun hNew => ?_)
              · exact ⟨xx0, xx1, yy0, yy1, yy2, yy3, yy4⟩
              clear hK K hHeld
              have hHeld := hNew
              clear hNew
              try simp only [Act.put, List.setIfInBounds_toArray, List.set_cons_zero, List.set_cons_succ]
              refine wpAnyH_ready (rs := [4]) (by kernel_rfl) (by simp) ?_
              refine AllReadyH.cons rfl (fun K hK => ?_) AllReadyH.nil
              go_simp
              refine hK.out _ _ ?_ (fun hNew => ?_)
              · go_keep
              clear hK K hHeld
              have hHeld := hNew
              clear hNew
              try simp only [Act.put, List.setIfInBounds_toArray, List.set_cons_zero, List.set_cons_succ]
              refine wpAnyH_ready (rs := [5]) (by kernel_rfl) (by simp) ?_
              refine AllReadyH.cons rfl (fun K hK => ?_) AllReadyH.nil
              go_simp
              refine hK.out _ _ ?_ (fun hNew => ?_)
              · exact ⟨((cell_far (by dsimp only; omega)).trans (cell_far (by dsimp only; omega))).trans hHeld.1, ((cell_far (by dsimp only; omega)).trans (cell_far (by dsimp only; omega))).trans hHeld.2.1, ((cell_far (by dsimp only; omega)).trans (cell_far (by dsimp only; omega))).trans hHeld.2.2.1, ((cell_far (by dsimp only; omega)).trans (cell_far (by dsimp only; omega))).trans hHeld.2.2.2.1, ((cell_far (by dsimp only; omega)).trans (cell_far (by dsimp only; omega))).trans hHeld.2.2.2.2.1, ((cell_far (by dsimp only; omega)).trans (cell_far (by dsimp only; omega))).trans hHeld.2.2.2.2.2.1, ((cell_far (by dsimp only; omega)).trans (cell_far (by dsimp only; omega))).trans hHeld.2.2.2.2.2.2⟩
              clear hK K hHeld
              have hHeld := hNew
              clear hNew
              try simp only [Act.put, List.setIfInBounds_toArray, List.set_cons_zero, List.set_cons_succ]
              refine wpAnyH_take (i := 6) (v := ?_) rfl (by kernel_rfl) (by kernel_rfl) (by kernel_rfl) (fun _ _ _ h => h) (Or.inl ⟨by kernel_rfl, ?_⟩) hHeld ?_
              rotate_left
              · (intro w hSw; (try dsimp only at hSw); go_simp; try with_reducible rfl)
              try simp only [Act.put, List.setIfInBounds_toArray, List.set_cons_zero, List.set_cons_succ]
              refine wpAnyH_take (i := 7) (v := ?_) rfl (by kernel_rfl) (by kernel_rfl) (by kernel_rfl) (fun _ _ _ h => h) (Or.inl ⟨by kernel_rfl, ?_⟩) hHeld ?_
              rotate_left
              · (intro w hSw; (try dsimp only at hSw); go_simp; try with_reducible rfl)
              try simp only [Act.put, List.setIfInBounds_toArray, List.set_cons_zero, List.set_cons_succ]
              refine wpAnyH_done (by kernel_rfl) ?_ _
              clear hHeld
              simp only [List.getElem_toArray, List.getElem_cons_zero, List.getElem_cons_succ, Act.put, List.setIfInBounds_toArray, List.set_cons_zero, List.set_cons_succ]
              refine NoPanic.normal ?_
              have HS0 : RsS w en (.slice A2 0 k2) ([]) c wp := HSp.out
              obtain ⟨_, _, d6, d7, d8⟩ := HS0.done0 yy0 yy1 yy2 yy3
              generalize (((((((wp.setCell ⟨w.heap.size + 1, 0, none⟩ (.slice Aa c.asg.length ka)).setCell ⟨w.heap.size + 1, 1, none⟩ (.slice Ab c.words.length kb)).setCell ⟨w.heap.size + 1, 2, none⟩ (.slice Ai c.inn.length ki)).setCell ⟨w.heap.size + 1, 3, none⟩ (.slice Ao c.out.length ko)).setCell ⟨w.heap.size + 1, 4, none⟩ (.bool c.app)).setCell ⟨w.heap.size + 1 + 1, 0, none⟩ (.slice A2 0 k2)).setCell ⟨w.heap.size + 1 + 1, 1, none⟩ (.int .i64 (en : Int))) = wz at d6 d7 d8 ⊢
              have r0 := d7.cell 0
              have r1 := d7.cell 1
              have r2 := d7.cell 2
              have r3 := d7.cell 3
              have r4 := d7.cell 4
              have s0 := d8.cell 0
              have s1 := d8.cell 1
              simp at r0 r1 r2 r3 r4 s0 s1
              go_wp2
              refine bodyPost_ret (v := .tuple #[.agg #[.slice Aa c.asg.length ka, .slice Ab c.words.length kb, .slice Ai c.inn.length ki, .slice Ao c.out.length ko, .bool c.app], .agg #[.slice A2 0 k2, .int .i64 (en : Int)], .int .i64 30, .int .i64 ((placeS en ([]) : Nat) : Int)]) (by simp [results, Try.results81, go_sem, r0, r1, r2, r3, r4, s0, s1]) rfl ?_
              rw [HR2.out]
              exact ⟨_, _, _, _, _, _, _, _, _, _, _, _, _, _, _, _, rfl, by decide, d6⟩
            | cons u ts =>
              obtain ⟨p1, o1, w1, n1⟩ := u
              have hu0 := HT.out _ (List.mem_cons_of_mem _ (List.mem_cons_self ..))
              by_cases hw : w1 = []
              · subst hw
                have HR2 := Lib.hid (HR.out.trans (simS_non en p0 w0 n0 [62] (⟨p1, o1, [], n1⟩ :: ts) c (.inr ⟨.inl rfl, hi⟩) (.inr ⟨_, _, rfl, rfl⟩)))
                obtain ⟨T, hT⟩ : ∃ T, bs o1 = T := ⟨_, rfl⟩
                have HTT := Lib.hid hT
                have tT : T.toList.isEmpty = false := by rw [← hT]; exact iseF (fun h => hu0.2.2.2.2 h rfl)
                clear hi HR ht0 hu0 hT
                go_upto_region 8 with (first | (go_at_call 45; refine (next_ref _ _ _ en HS.out.2.2.1).mono ?_; rintro e wa ⟨rfl, ka1⟩; rw [show bs (nextS (⟨p0, [62], w0, n0⟩ :: ⟨p1, o1, [], n1⟩ :: ts)) = ⟨#[62]⟩ from rfl]; have HSa := Lib.hid (HS.out.next ka1); obtain ⟨Aa, ka, Ab, kb, Ai, ki, Ao, ko, x0, x1, fx0, fx1, y0, y1, y2, y3, y4, fy⟩ := HSa.out.cells) | (go_at_call 46; refine (rest_ref _ _ _ _ en HSa.out.2.2.1 (by first | (simp; done) | (simp at hl ⊢; omega))).mono ?_; rintro e wb ⟨v2, rfl, hv2, kb1⟩; obtain ⟨A2, k2, rfl, hk2⟩ := RowRd.form hv2; have HSb := Lib.hid (HSa.out.next kb1); have HSc := Lib.hid (HSb.out.box hv2); obtain ⟨Aa, ka, Ab, kb, Ai, ki, Ao, ko, x0, x1, fx0, fx1, y0, y1, y2, y3, y4, fy⟩ := HSb.out.cells))
                clear hil
                have HSc' := Lib.hid (show RsS w en (.slice A2 (ts.length + 1) k2) (⟨p1, o1, [], n1⟩ :: ts) c ((wb.setCell ⟨w.heap.size, 0, none⟩ (.slice A2 (ts.length + 1) k2)).setCell ⟨w.heap.size, 1, none⟩ (.int .i64 (en : Int))) from HSc.out)
                clear HS HSa HSb HSc x0 x1 fx0 fx1 y0 y1 y2 y3 y4 fy hv2 kb1 ka1
                generalize ((wb.setCell ⟨w.heap.size, 0, none⟩ (.slice A2 (ts.length + 1) k2)).setCell ⟨w.heap.size, 1, none⟩ (.int .i64 (en : Int))) = wc at *
                obtain ⟨Aa, ka, Ab, kb, Ai, ki, Ao, ko, x0, x1, fx0, fx1, y0, y1, y2, y3, y4, fy⟩ := HSc'.out.cells
                go_upto_region 9 with (go_at_call 45; refine (next_ref _ _ _ en HSc'.out.2.2.1).mono ?_; rintro e wd ⟨rfl, kd1⟩; rw [show bs (nextS (⟨p1, o1, [], n1⟩ :: ts)) = T from HTT.out]; have HSd := Lib.hid (HSc'.out.next kd1); obtain ⟨Aa, ka, Ab, kb, Ai, ki, Ao, ko, x0, x1, fx0, fx1, y0, y1, y2, y3, y4, fy⟩ := HSd.out.cells)
                clear HSc' kd1
                refine wp_region_noPanic ?_
                refine wp_region_held_drew (S := (fun w' => w'.cell? ⟨w.heap.size, 0, none⟩ = some (.slice A2 (ts.length + 1) k2) ∧ w'.cell? ⟨w.heap.size, 1, none⟩ = some (.int .i64 (en : Int)) ∧ w'.cell? ⟨w.heap.size + 1 + 1 + 1, 0, none⟩ = some (.slice Aa c.asg.length ka) ∧ w'.cell? ⟨w.heap.size + 1 + 1 + 1, 1, none⟩ = some (.slice Ab c.words.length kb) ∧ w'.cell? ⟨w.heap.size + 1 + 1 + 1, 2, none⟩ = some (.slice Ai c.inn.length ki) ∧ w'.cell? ⟨w.heap.size + 1 + 1 + 1, 3, none⟩ = some (.slice Ao c.out.length ko) ∧ w'.cell? ⟨w.heap.size + 1 + 1 + 1, 4, none⟩ = some (.bool c.app))) (by kernel_rfl) ?_ (fun hHeld => ?_)
                · exact ⟨x0, x1, y0, y1, y2, y3, y4⟩
                refine wpAnyH_take (i := 0) (v := ?_) rfl (by kernel_rfl) (by kernel_rfl) (by kernel_rfl) (fun _ _ _ h => h) (Or.inl ⟨by kernel_rfl, ?_⟩) hHeld ?_
                rotate_left
                · (intro w hSw; (try dsimp only at hSw); go_simp; try with_reducible rfl)
                try simp only [Act.put, List.setIfInBounds_toArray, List.set_cons_zero, List.set_cons_succ]
                refine wpAnyH_take (i := 1) (v := ?_) rfl (by kernel_rfl) (by kernel_rfl) (by kernel_rfl) (fun _ _ _ h => h) (Or.inl ⟨by kernel_rfl, ?_⟩) hHeld ?_
                rotate_left
                · (intro w hSw; (try dsimp only at hSw); go_simp; try with_reducible rfl)
                try simp only [Act.put, List.setIfInBounds_toArray, List.set_cons_zero, List.set_cons_succ]
                refine wpAnyH_take (i := 2) (v := ?_) rfl (by kernel_rfl) (by kernel_rfl) (by kernel_rfl) (fun _ _ _ h => h) (Or.inl ⟨by kernel_rfl, ?_⟩) hHeld ?_
                rotate_left
                · (intro w hSw; (try dsimp only at hSw); go_simp; try with_reducible rfl)
                try simp only [Act.put, List.setIfInBounds_toArray, List.set_cons_zero, List.set_cons_succ]
                refine wpAnyH_ready (rs := [3]) (by kernel_rfl) (by simp) ?_
                refine AllReadyH.cons rfl (fun K hK => ?_) AllReadyH.nil
                go_simp
                go_at_call 47; refine (place_ref wd.drew (.slice A2 (ts.length + 1) k2) (⟨p1, o1, [], n1⟩ :: ts) en (show RdK wd.drew (.slice A2 (ts.length + 1) k2) (⟨p1, o1, [], n1⟩ :: ts) from HSd.out.2.2.1)).mono ?_; rintro e wp ⟨rfl, kp0⟩; have kp : Below wd.heap.size wd wp := ((Below.refl wd.heap.size wd).drew).trans kp0; have HSp := Lib.hid (HSd.out.next (w' := wp) kp); have bx := HSp.out.2.1; have xx0 : wp.cell? ⟨w.heap.size, 0, none⟩ = some (.slice A2 (ts.length + 1) k2) := bx.cell 0; have xx1 : wp.cell? ⟨w.heap.size, 1, none⟩ = some (.int .i64 (en : Int)) := bx.cell 1; have hb3 := HSd.out.2.2.2.2.2.lt; have yy0 := ((bcell kp).1 (w.heap.size + 1 + 1 + 1) 0 hb3).trans y0; have yy1 := ((bcell kp).1 (w.heap.size + 1 + 1 + 1) 1 hb3).trans y1; have yy2 := ((bcell kp).1 (w.heap.size + 1 + 1 + 1) 2 hb3).trans y2; have yy3 := ((bcell kp).1 (w.heap.size + 1 + 1 + 1) 3 hb3).trans y3; have yy4 := ((bcell kp).1 (w.heap.size + 1 + 1 + 1) 4 hb3).trans y4; have bz := HSp.out.2.2.2.1; have z0 := bz.cell 0; have z1 := bz.cell 1; have z2 := bz.cell 2; have z3 := bz.cell 3; have z4 := bz.cell 4; have fz0 := bz.frozen 0; have fz1 := bz.frozen 1; have fz2 := bz.frozen 2; have fz3 := bz.frozen 3; have fz4 := bz.frozen 4; have bg := HSp.out.2.2.2.2.1; have g0 := bg.cell 0; have g1 := bg.cell 1; have fg0 := bg.frozen 0; have fg1 := bg.frozen 1
                try (go_wp2_with fail)
                refine hK.out _ _ ?_ (fun hNew => ?_)
                · exact ⟨xx0, xx1, yy0, yy1, yy2, yy3, yy4⟩
                clear hK K hHeld
                have hHeld := hNew
                clear hNew
                try simp only [Act.put, List.setIfInBounds_toArray, List.set_cons_zero, List.set_cons_succ]
                refine wpAnyH_ready (rs := [4]) (by kernel_rfl) (by simp) ?_
                refine AllReadyH.cons rfl (fun K hK => ?_) AllReadyH.nil
                go_simp
                refine hK.out _ _ ?_ (fun hNew => ?_)
                · go_keep
                clear hK K hHeld
                have hHeld := hNew
                clear hNew
                try simp only [Act.put, List.setIfInBounds_toArray, List.set_cons_zero, List.set_cons_succ]
                refine wpAnyH_ready (rs := [5]) (by kernel_rfl) (by simp) ?_
                refine AllReadyH.cons rfl (fun K hK => ?_) AllReadyH.nil
                go_simp
                refine hK.out _ _ ?_ (fun hNew => ?_)
                · exact ⟨((cell_far (by dsimp only; omega)).trans (cell_far (by dsimp only; omega))).trans hHeld.1, ((cell_far (by dsimp only; omega)).trans (cell_far (by dsimp only; omega))).trans hHeld.2.1, ((cell_far (by dsimp only; omega)).trans (cell_far (by dsimp only; omega))).trans hHeld.2.2.1, ((cell_far (by dsimp only; omega)).trans (cell_far (by dsimp only; omega))).trans hHeld.2.2.2.1, ((cell_far (by dsimp only; omega)).trans (cell_far (by dsimp only; omega))).trans hHeld.2.2.2.2.1, ((cell_far (by dsimp only; omega)).trans (cell_far (by dsimp only; omega))).trans hHeld.2.2.2.2.2.1, ((cell_far (by dsimp only; omega)).trans (cell_far (by dsimp only; omega))).trans hHeld.2.2.2.2.2.2⟩
                clear hK K hHeld
                have hHeld := hNew
                clear hNew
                try simp only [Act.put, List.setIfInBounds_toArray, List.set_cons_zero, List.set_cons_succ]
                refine wpAnyH_take (i := 6) (v := ?_) rfl (by kernel_rfl) (by kernel_rfl) (by kernel_rfl) (fun _ _ _ h => h) (Or.inl ⟨by kernel_rfl, ?_⟩) hHeld ?_
                rotate_left
                · (intro w hSw; (try dsimp only at hSw); go_simp; try with_reducible rfl)
                try simp only [Act.put, List.setIfInBounds_toArray, List.set_cons_zero, List.set_cons_succ]
                refine wpAnyH_take (i := 7) (v := ?_) rfl (by kernel_rfl) (by kernel_rfl) (by kernel_rfl) (fun _ _ _ h => h) (Or.inl ⟨by kernel_rfl, ?_⟩) hHeld ?_
                rotate_left
                · (intro w hSw; (try dsimp only at hSw); go_simp; try with_reducible rfl)
                try simp only [Act.put, List.setIfInBounds_toArray, List.set_cons_zero, List.set_cons_succ]
                refine wpAnyH_done (by kernel_rfl) ?_ _
                clear hHeld
                simp only [List.getElem_toArray, List.getElem_cons_zero, List.getElem_cons_succ, Act.put, List.setIfInBounds_toArray, List.set_cons_zero, List.set_cons_succ]
                refine NoPanic.normal ?_
                have HS0 : RsS w en (.slice A2 (ts.length + 1) k2) (⟨p1, o1, [], n1⟩ :: ts) c wp := HSp.out
                obtain ⟨_, _, d6, d7, d8⟩ := HS0.done0 yy0 yy1 yy2 yy3
                generalize (((((((wp.setCell ⟨w.heap.size + 1, 0, none⟩ (.slice Aa c.asg.length ka)).setCell ⟨w.heap.size + 1, 1, none⟩ (.slice Ab c.words.length kb)).setCell ⟨w.heap.size + 1, 2, none⟩ (.slice Ai c.inn.length ki)).setCell ⟨w.heap.size + 1, 3, none⟩ (.slice Ao c.out.length ko)).setCell ⟨w.heap.size + 1, 4, none⟩ (.bool c.app)).setCell ⟨w.heap.size + 1 + 1, 0, none⟩ (.slice A2 (ts.length + 1) k2)).setCell ⟨w.heap.size + 1 + 1, 1, none⟩ (.int .i64 (en : Int))) = wz at d6 d7 d8 ⊢
                have r0 := d7.cell 0
                have r1 := d7.cell 1
                have r2 := d7.cell 2
                have r3 := d7.cell 3
                have r4 := d7.cell 4
                have s0 := d8.cell 0
                have s1 := d8.cell 1
                simp at r0 r1 r2 r3 r4 s0 s1
                go_wp2
                refine bodyPost_ret (v := .tuple #[.agg #[.slice Aa c.asg.length ka, .slice Ab c.words.length kb, .slice Ai c.inn.length ki, .slice Ao c.out.length ko, .bool c.app], .agg #[.slice A2 (ts.length + 1) k2, .int .i64 (en : Int)], .int .i64 30, .int .i64 ((placeS en (⟨p1, o1, [], n1⟩ :: ts) : Nat) : Int)]) (by simp [results, Try.results81, go_sem, r0, r1, r2, r3, r4, s0, s1]) rfl ?_
                rw [HR2.out]
                exact ⟨_, _, _, _, _, _, _, _, _, _, _, _, _, _, _, _, rfl, by decide, d6⟩
              ·
                have HWN := Lib.hid hw
                have ho1 : o1 = [] := by
                  rcases Classical.em (o1 = []) with h | h
                  · exact h
                  · exact absurd (hu0.2.2.2.1 h).1 hw
                subst ho1
                have HR2 := Lib.hid (HR.out.trans (simS_gt en p0 p1 _ false (.inl ⟨rfl, rfl⟩) w0 w1 n0 n1 [] ts c hi (HAP.out hi) hw))
                have HT2 := Lib.hid (show ∀ t ∈ ts, TkOk 100000 t from fun t h => HT.out t (List.mem_cons_of_mem _ (List.mem_cons_of_mem _ h)))
                clear hi HR ht0 hu0
                go_upto_region 8 with (first | (go_at_call 45; refine (next_ref _ _ _ en HS.out.2.2.1).mono ?_; rintro e wa ⟨rfl, ka1⟩; rw [show bs (nextS (⟨p0, [62], w0, n0⟩ :: ⟨p1, [], w1, n1⟩ :: ts)) = ⟨#[62]⟩ from rfl]; have HSa := Lib.hid (HS.out.next ka1); obtain ⟨Aa, ka, Ab, kb, Ai, ki, Ao, ko, x0, x1, fx0, fx1, y0, y1, y2, y3, y4, fy⟩ := HSa.out.cells) | (go_at_call 46; refine (rest_ref _ _ _ _ en HSa.out.2.2.1 (by first | (simp; done) | (simp at hl ⊢; omega))).mono ?_; rintro e wb ⟨v2, rfl, hv2, kb1⟩; obtain ⟨A2, k2, rfl, hk2⟩ := RowRd.form hv2; have HSb := Lib.hid (HSa.out.next kb1); have HSc := Lib.hid (HSb.out.box hv2); obtain ⟨Aa, ka, Ab, kb, Ai, ki, Ao, ko, x0, x1, fx0, fx1, y0, y1, y2, y3, y4, fy⟩ := HSb.out.cells))
                clear hil
                have HSc' := Lib.hid (show RsS w en (.slice A2 (ts.length + 1) k2) (⟨p1, [], w1, n1⟩ :: ts) c ((wb.setCell ⟨w.heap.size, 0, none⟩ (.slice A2 (ts.length + 1) k2)).setCell ⟨w.heap.size, 1, none⟩ (.int .i64 (en : Int))) from HSc.out)
                clear HS HSa HSb HSc x0 x1 fx0 fx1 y0 y1 y2 y3 y4 fy hv2 kb1 ka1
                generalize ((wb.setCell ⟨w.heap.size, 0, none⟩ (.slice A2 (ts.length + 1) k2)).setCell ⟨w.heap.size, 1, none⟩ (.int .i64 (en : Int))) = wc at *
                obtain ⟨Aa, ka, Ab, kb, Ai, ki, Ao, ko, x0, x1, fx0, fx1, y0, y1, y2, y3, y4, fy⟩ := HSc'.out.cells
                obtain ⟨b, o, kk, u1, u2, hv, hkk, hbl, hu1, hu2, q0, q1, q2, q3, q4⟩ := HSc'.out.2.2.1.hd
                injection hv with hA hn1 hk1
                subst hA hk1
                obtain ⟨Au, ku, rfl, hku⟩ := Rd.form hu1
                have HU1 := Lib.hid hu1
                clear hu2 q0 q1 q3 q4 hu1
                go_upto_region 13 with (go_at_call 45; refine (next_ref _ _ _ en HSc'.out.2.2.1).mono ?_; rintro e wd ⟨rfl, kd1⟩; rw [show bs (nextS (⟨p1, [], w1, n1⟩ :: ts)) = ⟨#[]⟩ from rfl]; have HSd := Lib.hid (HSc'.out.next kd1); obtain ⟨Aa, ka, Ab, kb, Ai, ki, Ao, ko, x0, x1, fx0, fx1, y0, y1, y2, y3, y4, fy⟩ := HSd.out.cells; have r2 := ((bcell kd1).1 b (o + 2) hbl).trans q2; have f2 := fy 3; have f5 := fy 4)
                have HSe := Lib.hid (HSd.out.outt false (HU1.out.next kd1))
                clear HSd HSc' x0 x1 fx0 fx1 y0 y1 y2 y3 y4 fy r2 f2 f5 q2 kd1 HU1
                generalize (wd.setCell ⟨w.heap.size + 1 + 1 + 1, 3, none⟩ (.slice Au w1.length ku)).setCell ⟨w.heap.size + 1 + 1 + 1, 4, none⟩ (.bool false) = we at *
                obtain ⟨Aa, ka, Ab, kb, Ai, ki, Ao, ko, x0, x1, fx0, fx1, y0, y1, y2, y3, y4, fy⟩ := HSe.out.cells
                go_wp2_with (go_at_call 46; refine (rest_ref _ _ _ _ en HSe.out.2.2.1 (by first | (simp; done) | (simp at hl ⊢; omega))).mono ?_; rintro e wf ⟨v3, rfl, hv3, kf1⟩; obtain ⟨A3, k3, rfl, hk3⟩ := RowRd.form hv3; have HSf := Lib.hid (HSe.out.next kf1); have HSg := Lib.hid (HSf.out.box hv3); obtain ⟨Aa, ka, Ab, kb, Ai, ki, Ao, ko, x0, x1, fx0, fx1, y0, y1, y2, y3, y4, fy⟩ := HSf.out.cells)
                go_roundg (ts.length + 1)
                case rel => exact ⟨_, ts, _, HSg.out, rfl, by simp at hl; omega, HT2.out, (fun h => absurd h HWN.out), hca, hcw, HR2.out⟩
                case measure => simp at hgk; omega
          ·
            have HR2 := Lib.hid (HR.out.trans (simS_dup en p0 w0 n0 [62] ts c (.inr ⟨.inl rfl, hi⟩)))
            have e7 : (0 : Int) < (c.out.length : Int) := by have := List.length_pos_iff.2 hi; omega
            have e7n : 0 < c.out.length := List.length_pos_iff.2 hi
            clear hi ht0
            go_upto_region 6 with (go_at_call 45; refine (next_ref _ _ _ en HS.out.2.2.1).mono ?_; rintro e wa ⟨rfl, ka1⟩; rw [show bs (nextS (⟨p0, [62], w0, n0⟩ :: ts)) = ⟨#[62]⟩ from rfl]; have HSa := Lib.hid (HS.out.next ka1); obtain ⟨Aa, ka, Ab, kb, Ai, ki, Ao, ko, x0, x1, fx0, fx1, y0, y1, y2, y3, y4, fy⟩ := HSa.out.cells)
            clear HS ka1
            refine wp_region_noPanic ?_
            refine wp_region_held_drew (S := (fun w' => w'.cell? ⟨w.heap.size, 0, none⟩ = some (.slice A1 (ts.length + 1) k1) ∧ w'.cell? ⟨w.heap.size, 1, none⟩ = some (.int .i64 (en : Int)) ∧ w'.cell? ⟨w.heap.size + 1 + 1 + 1, 0, none⟩ = some (.slice Aa c.asg.length ka) ∧ w'.cell? ⟨w.heap.size + 1 + 1 + 1, 1, none⟩ = some (.slice Ab c.words.length kb) ∧ w'.cell? ⟨w.heap.size + 1 + 1 + 1, 2, none⟩ = some (.slice Ai c.inn.length ki) ∧ w'.cell? ⟨w.heap.size + 1 + 1 + 1, 3, none⟩ = some (.slice Ao c.out.length ko) ∧ w'.cell? ⟨w.heap.size + 1 + 1 + 1, 4, none⟩ = some (.bool c.app))) (by kernel_rfl) ?_ (fun hHeld => ?_)
            · exact ⟨x0, x1, y0, y1, y2, y3, y4⟩
            refine wpAnyH_take (i := 0) (v := ?_) rfl (by kernel_rfl) (by kernel_rfl) (by kernel_rfl) (fun _ _ _ h => h) (Or.inl ⟨by kernel_rfl, ?_⟩) hHeld ?_
            rotate_left
            · (intro w hSw; (try dsimp only at hSw); go_simp; try with_reducible rfl)
            try simp only [Act.put, List.setIfInBounds_toArray, List.set_cons_zero, List.set_cons_succ]
            refine wpAnyH_take (i := 1) (v := ?_) rfl (by kernel_rfl) (by kernel_rfl) (by kernel_rfl) (fun _ _ _ h => h) (Or.inl ⟨by kernel_rfl, ?_⟩) hHeld ?_
            rotate_left
            · (intro w hSw; (try dsimp only at hSw); go_simp; try with_reducible rfl)
            try simp only [Act.put, List.setIfInBounds_toArray, List.set_cons_zero, List.set_cons_succ]
            refine wpAnyH_take (i := 2) (v := ?_) rfl (by kernel_rfl) (by kernel_rfl) (by kernel_rfl) (fun _ _ _ h => h) (Or.inl ⟨by kernel_rfl, ?_⟩) hHeld ?_
            rotate_left
            · (intro w hSw; (try dsimp only at hSw); go_simp; try with_reducible rfl)
            try simp only [Act.put, List.setIfInBounds_toArray, List.set_cons_zero, List.set_cons_succ]
            refine wpAnyH_ready (rs := [3]) (by kernel_rfl) (by simp) ?_
            refine AllReadyH.cons rfl (fun K hK => ?_) AllReadyH.nil
            go_simp
            go_at_call 47; refine (place_ref wa.drew (.slice A1 (ts.length + 1) k1) (⟨p0, [62], w0, n0⟩ :: ts) en (show RdK wa.drew (.slice A1 (ts.length + 1) k1) (⟨p0, [62], w0, n0⟩ :: ts) from HSa.out.2.2.1)).mono ?_; rintro e wp ⟨rfl, kp0⟩; have kp : Below wa.heap.size wa wp := ((Below.refl wa.heap.size wa).drew).trans kp0; have HSp := Lib.hid (HSa.out.next (w' := wp) kp); have bx := HSp.out.2.1; have xx0 : wp.cell? ⟨w.heap.size, 0, none⟩ = some (.slice A1 (ts.length + 1) k1) := bx.cell 0; have xx1 : wp.cell? ⟨w.heap.size, 1, none⟩ = some (.int .i64 (en : Int)) := bx.cell 1; have hb3 := HSa.out.2.2.2.2.2.lt; have yy0 := ((bcell kp).1 (w.heap.size + 1 + 1 + 1) 0 hb3).trans y0; have yy1 := ((bcell kp).1 (w.heap.size + 1 + 1 + 1) 1 hb3).trans y1; have yy2 := ((bcell kp).1 (w.heap.size + 1 + 1 + 1) 2 hb3).trans y2; have yy3 := ((bcell kp).1 (w.heap.size + 1 + 1 + 1) 3 hb3).trans y3; have yy4 := ((bcell kp).1 (w.heap.size + 1 + 1 + 1) 4 hb3).trans y4; have bz := HSp.out.2.2.2.1; have z0 := bz.cell 0; have z1 := bz.cell 1; have z2 := bz.cell 2; have z3 := bz.cell 3; have z4 := bz.cell 4; have fz0 := bz.frozen 0; have fz1 := bz.frozen 1; have fz2 := bz.frozen 2; have fz3 := bz.frozen 3; have fz4 := bz.frozen 4; have bg := HSp.out.2.2.2.2.1; have g0 := bg.cell 0; have g1 := bg.cell 1; have fg0 := bg.frozen 0; have fg1 := bg.frozen 1
            try (go_wp2_with fail)
            refine hK.out _ _ ?_ (fun hNew => ?_)
            · exact ⟨xx0, xx1, yy0, yy1, yy2, yy3, yy4⟩
            clear hK K hHeld
            have hHeld := hNew
            clear hNew
            try simp only [Act.put, List.setIfInBounds_toArray, List.set_cons_zero, List.set_cons_succ]
            refine wpAnyH_ready (rs := [4]) (by kernel_rfl) (by simp) ?_
            refine AllReadyH.cons rfl (fun K hK => ?_) AllReadyH.nil
            go_simp
            refine hK.out _ _ ?_ (fun hNew => ?_)
            · go_keep
            clear hK K hHeld
            have hHeld := hNew
            clear hNew
            try simp only [Act.put, List.setIfInBounds_toArray, List.set_cons_zero, List.set_cons_succ]
            refine wpAnyH_ready (rs := [5]) (by kernel_rfl) (by simp) ?_
            refine AllReadyH.cons rfl (fun K hK => ?_) AllReadyH.nil
            go_simp
            refine hK.out _ _ ?_ (fun hNew => ?_)
            · exact ⟨((cell_far (by dsimp only; omega)).trans (cell_far (by dsimp only; omega))).trans hHeld.1, ((cell_far (by dsimp only; omega)).trans (cell_far (by dsimp only; omega))).trans hHeld.2.1, ((cell_far (by dsimp only; omega)).trans (cell_far (by dsimp only; omega))).trans hHeld.2.2.1, ((cell_far (by dsimp only; omega)).trans (cell_far (by dsimp only; omega))).trans hHeld.2.2.2.1, ((cell_far (by dsimp only; omega)).trans (cell_far (by dsimp only; omega))).trans hHeld.2.2.2.2.1, ((cell_far (by dsimp only; omega)).trans (cell_far (by dsimp only; omega))).trans hHeld.2.2.2.2.2.1, ((cell_far (by dsimp only; omega)).trans (cell_far (by dsimp only; omega))).trans hHeld.2.2.2.2.2.2⟩
            clear hK K hHeld
            have hHeld := hNew
            clear hNew
            try simp only [Act.put, List.setIfInBounds_toArray, List.set_cons_zero, List.set_cons_succ]
            refine wpAnyH_take (i := 6) (v := ?_) rfl (by kernel_rfl) (by kernel_rfl) (by kernel_rfl) (fun _ _ _ h => h) (Or.inl ⟨by kernel_rfl, ?_⟩) hHeld ?_
            rotate_left
            · (intro w hSw; (try dsimp only at hSw); go_simp; try with_reducible rfl)
            try simp only [Act.put, List.setIfInBounds_toArray, List.set_cons_zero, List.set_cons_succ]
            refine wpAnyH_take (i := 7) (v := ?_) rfl (by kernel_rfl) (by kernel_rfl) (by kernel_rfl) (fun _ _ _ h => h) (Or.inl ⟨by kernel_rfl, ?_⟩) hHeld ?_
            rotate_left
            · (intro w hSw; (try dsimp only at hSw); go_simp; try with_reducible rfl)
            try simp only [Act.put, List.setIfInBounds_toArray, List.set_cons_zero, List.set_cons_succ]
            refine wpAnyH_done (by kernel_rfl) ?_ _
            clear hHeld
            simp only [List.getElem_toArray, List.getElem_cons_zero, List.getElem_cons_succ, Act.put, List.setIfInBounds_toArray, List.set_cons_zero, List.set_cons_succ]
            refine NoPanic.normal ?_
            have HS0 : RsS w en (.slice A1 (ts.length + 1) k1) (⟨p0, [62], w0, n0⟩ :: ts) c wp := HSp.out
            obtain ⟨_, _, d6, d7, d8⟩ := HS0.done0 yy0 yy1 yy2 yy3
            generalize (((((((wp.setCell ⟨w.heap.size + 1, 0, none⟩ (.slice Aa c.asg.length ka)).setCell ⟨w.heap.size + 1, 1, none⟩ (.slice Ab c.words.length kb)).setCell ⟨w.heap.size + 1, 2, none⟩ (.slice Ai c.inn.length ki)).setCell ⟨w.heap.size + 1, 3, none⟩ (.slice Ao c.out.length ko)).setCell ⟨w.heap.size + 1, 4, none⟩ (.bool c.app)).setCell ⟨w.heap.size + 1 + 1, 0, none⟩ (.slice A1 (ts.length + 1) k1)).setCell ⟨w.heap.size + 1 + 1, 1, none⟩ (.int .i64 (en : Int))) = wz at d6 d7 d8 ⊢
            have r0 := d7.cell 0
            have r1 := d7.cell 1
            have r2 := d7.cell 2
            have r3 := d7.cell 3
            have r4 := d7.cell 4
            have s0 := d8.cell 0
            have s1 := d8.cell 1
            simp at r0 r1 r2 r3 r4 s0 s1
            go_wp2
            refine bodyPost_ret (v := .tuple #[.agg #[.slice Aa c.asg.length ka, .slice Ab c.words.length kb, .slice Ai c.inn.length ki, .slice Ao c.out.length ko, .bool c.app], .agg #[.slice A1 (ts.length + 1) k1, .int .i64 (en : Int)], .int .i64 7, .int .i64 ((placeS en (⟨p0, [62], w0, n0⟩ :: ts) : Nat) : Int)]) (by simp [results, Try.results81, go_sem, r0, r1, r2, r3, r4, s0, s1]) rfl ?_
            rw [HR2.out]
            exact ⟨_, _, _, _, _, _, _, _, _, _, _, _, _, _, _, _, rfl, by decide, d6⟩
        · by_cases h6262 : o0 = [62, 62]
          · subst h6262
            by_cases hi : c.out = []
            · have hil : c.out.length = 0 := by rw [hi]; rfl
              rw [hil] at y3
              cases ts with
              | nil =>
                have HR2 := Lib.hid (HR.out.trans (simS_non en p0 w0 n0 [62, 62] [] c (.inr ⟨.inr rfl, hi⟩) (.inl rfl)))
                clear hi HR ht0
                go_upto_region 8 with (first | (go_at_call 45; refine (next_ref _ _ _ en HS.out.2.2.1).mono ?_; rintro e wa ⟨rfl, ka1⟩; rw [show bs (nextS (⟨p0, [62, 62], w0, n0⟩ :: [])) = ⟨#[62, 62]⟩ from rfl]; have HSa := Lib.hid (HS.out.next ka1); obtain ⟨Aa, ka, Ab, kb, Ai, ki, Ao, ko, x0, x1, fx0, fx1, y0, y1, y2, y3, y4, fy⟩ := HSa.out.cells) | (go_at_call 46; refine (rest_ref _ _ _ _ en HSa.out.2.2.1 (by first | (simp; done) | (simp at hl ⊢; omega))).mono ?_; rintro e wb ⟨v2, rfl, hv2, kb1⟩; obtain ⟨A2, k2, rfl, hk2⟩ := RowRd.form hv2; have HSb := Lib.hid (HSa.out.next kb1); have HSc := Lib.hid (HSb.out.box hv2); obtain ⟨Aa, ka, Ab, kb, Ai, ki, Ao, ko, x0, x1, fx0, fx1, y0, y1, y2, y3, y4, fy⟩ := HSb.out.cells))
                clear hil
                have HSc' := Lib.hid (show RsS w en (.slice A2 0 k2) ([]) c ((wb.setCell ⟨w.heap.size, 0, none⟩ (.slice A2 0 k2)).setCell ⟨w.heap.size, 1, none⟩ (.int .i64 (en : Int))) from HSc.out)
                clear HS HSa HSb HSc x0 x1 fx0 fx1 y0 y1 y2 y3 y4 fy hv2 kb1 ka1
                generalize ((wb.setCell ⟨w.heap.size, 0, none⟩ (.slice A2 0 k2)).setCell ⟨w.heap.size, 1, none⟩ (.int .i64 (en : Int))) = wc at *
                obtain ⟨Aa, ka, Ab, kb, Ai, ki, Ao, ko, x0, x1, fx0, fx1, y0, y1, y2, y3, y4, fy⟩ := HSc'.out.cells
                go_upto_region 9 with (fail)
                refine wp_region_noPanic ?_
                refine wp_region_held_drew (S := (fun w' => w'.cell? ⟨w.heap.size, 0, none⟩ = some (.slice A2 0 k2) ∧ w'.cell? ⟨w.heap.size, 1, none⟩ = some (.int .i64 (en : Int)) ∧ w'.cell? ⟨w.heap.size + 1 + 1 + 1, 0, none⟩ = some (.slice Aa c.asg.length ka) ∧ w'.cell? ⟨w.heap.size + 1 + 1 + 1, 1, none⟩ = some (.slice Ab c.words.length kb) ∧ w'.cell? ⟨w.heap.size + 1 + 1 + 1, 2, none⟩ = some (.slice Ai c.inn.length ki) ∧ w'.cell? ⟨w.heap.size + 1 + 1 + 1, 3, none⟩ = some (.slice Ao c.out.length ko) ∧ w'.cell? ⟨w.heap.size + 1 + 1 + 1, 4, none⟩ = some (.bool c.app))) (by kernel_rfl) ?_ (fun hHeld => ?_)
                · exact ⟨x0, x1, y0, y1, y2, y3, y4⟩
                refine wpAnyH_take (i := 0) (v := ?_) rfl (by kernel_rfl) (by kernel_rfl) (by kernel_rfl) (fun _ _ _ h => h) (Or.inl ⟨by kernel_rfl, ?_⟩) hHeld ?_
                rotate_left
                · (intro w hSw; (try dsimp only at hSw); go_simp; try with_reducible rfl)
                try simp only [Act.put, List.setIfInBounds_toArray, List.set_cons_zero, List.set_cons_succ]
                refine wpAnyH_take (i := 1) (v := ?_) rfl (by kernel_rfl) (by kernel_rfl) (by kernel_rfl) (fun _ _ _ h => h) (Or.inl ⟨by kernel_rfl, ?_⟩) hHeld ?_
                rotate_left
                · (intro w hSw; (try dsimp only at hSw); go_simp; try with_reducible rfl)
                try simp only [Act.put, List.setIfInBounds_toArray, List.set_cons_zero, List.set_cons_succ]
                refine wpAnyH_take (i := 2) (v := ?_) rfl (by kernel_rfl) (by kernel_rfl) (by kernel_rfl) (fun _ _ _ h => h) (Or.inl ⟨by kernel_rfl, ?_⟩) hHeld ?_
                rotate_left
                · (intro w hSw; (try dsimp only at hSw); go_simp; try with_reducible rfl)
                try simp only [Act.put, List.setIfInBounds_toArray, List.set_cons_zero, List.set_cons_succ]
                refine wpAnyH_ready (rs := [3]) (by kernel_rfl) (by simp) ?_
                refine AllReadyH.cons rfl (fun K hK => ?_) AllReadyH.nil
                go_simp
                go_at_call 47; refine (place_ref wc.drew (.slice A2 0 k2) ([]) en (show RdK wc.drew (.slice A2 0 k2) ([]) from HSc'.out.2.2.1)).mono ?_; rintro e wp ⟨rfl, kp0⟩; have kp : Below wc.heap.size wc wp := ((Below.refl wc.heap.size wc).drew).trans kp0; have HSp := Lib.hid (HSc'.out.next (w' := wp) kp); have bx := HSp.out.2.1; have xx0 : wp.cell? ⟨w.heap.size, 0, none⟩ = some (.slice A2 0 k2) := bx.cell 0; have xx1 : wp.cell? ⟨w.heap.size, 1, none⟩ = some (.int .i64 (en : Int)) := bx.cell 1; have hb3 := HSc'.out.2.2.2.2.2.lt; have yy0 := ((bcell kp).1 (w.heap.size + 1 + 1 + 1) 0 hb3).trans y0; have yy1 := ((bcell kp).1 (w.heap.size + 1 + 1 + 1) 1 hb3).trans y1; have yy2 := ((bcell kp).1 (w.heap.size + 1 + 1 + 1) 2 hb3).trans y2; have yy3 := ((bcell kp).1 (w.heap.size + 1 + 1 + 1) 3 hb3).trans y3; have yy4 := ((bcell kp).1 (w.heap.size + 1 + 1 + 1) 4 hb3).trans y4; have bz := HSp.out.2.2.2.1; have z0 := bz.cell 0; have z1 := bz.cell 1; have z2 := bz.cell 2; have z3 := bz.cell 3; have z4 := bz.cell 4; have fz0 := bz.frozen 0; have fz1 := bz.frozen 1; have fz2 := bz.frozen 2; have fz3 := bz.frozen 3; have fz4 := bz.frozen 4; have bg := HSp.out.2.2.2.2.1; have g0 := bg.cell 0; have g1 := bg.cell 1; have fg0 := bg.frozen 0; have fg1 := bg.frozen 1
                try (go_wp2_with fail)
                refine hK.out _ _ ?_ (fun hNew => ?_)
                · exact ⟨xx0, xx1, yy0, yy1, yy2, yy3, yy4⟩
                clear hK K hHeld
                have hHeld := hNew
                clear hNew
                try simp only [Act.put, List.setIfInBounds_toArray, List.set_cons_zero, List.set_cons_succ]
                refine wpAnyH_ready (rs := [4]) (by kernel_rfl) (by simp) ?_
                refine AllReadyH.cons rfl (fun K hK => ?_) AllReadyH.nil
                go_simp
                refine hK.out _ _ ?_ (fun hNew => ?_)
                · go_keep
                clear hK K hHeld
                have hHeld := hNew
                clear hNew
                try simp only [Act.put, List.setIfInBounds_toArray, List.set_cons_zero, List.set_cons_succ]
                refine wpAnyH_ready (rs := [5]) (by kernel_rfl) (by simp) ?_
                refine AllReadyH.cons rfl (fun K hK => ?_) AllReadyH.nil
                go_simp
                refine hK.out _ _ ?_ (fun hNew => ?_)
                · exact ⟨((cell_far (by dsimp only; omega)).trans (cell_far (by dsimp only; omega))).trans hHeld.1, ((cell_far (by dsimp only; omega)).trans (cell_far (by dsimp only; omega))).trans hHeld.2.1, ((cell_far (by dsimp only; omega)).trans (cell_far (by dsimp only; omega))).trans hHeld.2.2.1, ((cell_far (by dsimp only; omega)).trans (cell_far (by dsimp only; omega))).trans hHeld.2.2.2.1, ((cell_far (by dsimp only; omega)).trans (cell_far (by dsimp only; omega))).trans hHeld.2.2.2.2.1, ((cell_far (by dsimp only; omega)).trans (cell_far (by dsimp only; omega))).trans hHeld.2.2.2.2.2.1, ((cell_far (by dsimp only; omega)).trans (cell_far (by dsimp only; omega))).trans hHeld.2.2.2.2.2.2⟩
                clear hK K hHeld
                have hHeld := hNew
                clear hNew
                try simp only [Act.put, List.setIfInBounds_toArray, List.set_cons_zero, List.set_cons_succ]
                refine wpAnyH_take (i := 6) (v := ?_) rfl (by kernel_rfl) (by kernel_rfl) (by kernel_rfl) (fun _ _ _ h => h) (Or.inl ⟨by kernel_rfl, ?_⟩) hHeld ?_
                rotate_left
                · (intro w hSw; (try dsimp only at hSw); go_simp; try with_reducible rfl)
                try simp only [Act.put, List.setIfInBounds_toArray, List.set_cons_zero, List.set_cons_succ]
                refine wpAnyH_take (i := 7) (v := ?_) rfl (by kernel_rfl) (by kernel_rfl) (by kernel_rfl) (fun _ _ _ h => h) (Or.inl ⟨by kernel_rfl, ?_⟩) hHeld ?_
                rotate_left
                · (intro w hSw; (try dsimp only at hSw); go_simp; try with_reducible rfl)
                try simp only [Act.put, List.setIfInBounds_toArray, List.set_cons_zero, List.set_cons_succ]
                refine wpAnyH_done (by kernel_rfl) ?_ _
                clear hHeld
                simp only [List.getElem_toArray, List.getElem_cons_zero, List.getElem_cons_succ, Act.put, List.setIfInBounds_toArray, List.set_cons_zero, List.set_cons_succ]
                refine NoPanic.normal ?_
                have HS0 : RsS w en (.slice A2 0 k2) ([]) c wp := HSp.out
                obtain ⟨_, _, d6, d7, d8⟩ := HS0.done0 yy0 yy1 yy2 yy3
                generalize (((((((wp.setCell ⟨w.heap.size + 1, 0, none⟩ (.slice Aa c.asg.length ka)).setCell ⟨w.heap.size + 1, 1, none⟩ (.slice Ab c.words.length kb)).setCell ⟨w.heap.size + 1, 2, none⟩ (.slice Ai c.inn.length ki)).setCell ⟨w.heap.size + 1, 3, none⟩ (.slice Ao c.out.length ko)).setCell ⟨w.heap.size + 1, 4, none⟩ (.bool c.app)).setCell ⟨w.heap.size + 1 + 1, 0, none⟩ (.slice A2 0 k2)).setCell ⟨w.heap.size + 1 + 1, 1, none⟩ (.int .i64 (en : Int))) = wz at d6 d7 d8 ⊢
                have r0 := d7.cell 0
                have r1 := d7.cell 1
                have r2 := d7.cell 2
                have r3 := d7.cell 3
                have r4 := d7.cell 4
                have s0 := d8.cell 0
                have s1 := d8.cell 1
                simp at r0 r1 r2 r3 r4 s0 s1
                go_wp2
                refine bodyPost_ret (v := .tuple #[.agg #[.slice Aa c.asg.length ka, .slice Ab c.words.length kb, .slice Ai c.inn.length ki, .slice Ao c.out.length ko, .bool c.app], .agg #[.slice A2 0 k2, .int .i64 (en : Int)], .int .i64 30, .int .i64 ((placeS en ([]) : Nat) : Int)]) (by simp [results, Try.results81, go_sem, r0, r1, r2, r3, r4, s0, s1]) rfl ?_
                rw [HR2.out]
                exact ⟨_, _, _, _, _, _, _, _, _, _, _, _, _, _, _, _, rfl, by decide, d6⟩
              | cons u ts =>
                obtain ⟨p1, o1, w1, n1⟩ := u
                have hu0 := HT.out _ (List.mem_cons_of_mem _ (List.mem_cons_self ..))
                by_cases hw : w1 = []
                · subst hw
                  have HR2 := Lib.hid (HR.out.trans (simS_non en p0 w0 n0 [62, 62] (⟨p1, o1, [], n1⟩ :: ts) c (.inr ⟨.inr rfl, hi⟩) (.inr ⟨_, _, rfl, rfl⟩)))
                  obtain ⟨T, hT⟩ : ∃ T, bs o1 = T := ⟨_, rfl⟩
                  have HTT := Lib.hid hT
                  have tT : T.toList.isEmpty = false := by rw [← hT]; exact iseF (fun h => hu0.2.2.2.2 h rfl)
                  clear hi HR ht0 hu0 hT
                  go_upto_region 8 with (first | (go_at_call 45; refine (next_ref _ _ _ en HS.out.2.2.1).mono ?_; rintro e wa ⟨rfl, ka1⟩; rw [show bs (nextS (⟨p0, [62, 62], w0, n0⟩ :: ⟨p1, o1, [], n1⟩ :: ts)) = ⟨#[62, 62]⟩ from rfl]; have HSa := Lib.hid (HS.out.next ka1); obtain ⟨Aa, ka, Ab, kb, Ai, ki, Ao, ko, x0, x1, fx0, fx1, y0, y1, y2, y3, y4, fy⟩ := HSa.out.cells) | (go_at_call 46; refine (rest_ref _ _ _ _ en HSa.out.2.2.1 (by first | (simp; done) | (simp at hl ⊢; omega))).mono ?_; rintro e wb ⟨v2, rfl, hv2, kb1⟩; obtain ⟨A2, k2, rfl, hk2⟩ := RowRd.form hv2; have HSb := Lib.hid (HSa.out.next kb1); have HSc := Lib.hid (HSb.out.box hv2); obtain ⟨Aa, ka, Ab, kb, Ai, ki, Ao, ko, x0, x1, fx0, fx1, y0, y1, y2, y3, y4, fy⟩ := HSb.out.cells))
                  clear hil
                  have HSc' := Lib.hid (show RsS w en (.slice A2 (ts.length + 1) k2) (⟨p1, o1, [], n1⟩ :: ts) c ((wb.setCell ⟨w.heap.size, 0, none⟩ (.slice A2 (ts.length + 1) k2)).setCell ⟨w.heap.size, 1, none⟩ (.int .i64 (en : Int))) from HSc.out)
                  clear HS HSa HSb HSc x0 x1 fx0 fx1 y0 y1 y2 y3 y4 fy hv2 kb1 ka1
                  generalize ((wb.setCell ⟨w.heap.size, 0, none⟩ (.slice A2 (ts.length + 1) k2)).setCell ⟨w.heap.size, 1, none⟩ (.int .i64 (en : Int))) = wc at *
                  obtain ⟨Aa, ka, Ab, kb, Ai, ki, Ao, ko, x0, x1, fx0, fx1, y0, y1, y2, y3, y4, fy⟩ := HSc'.out.cells
                  go_upto_region 9 with (go_at_call 45; refine (next_ref _ _ _ en HSc'.out.2.2.1).mono ?_; rintro e wd ⟨rfl, kd1⟩; rw [show bs (nextS (⟨p1, o1, [], n1⟩ :: ts)) = T from HTT.out]; have HSd := Lib.hid (HSc'.out.next kd1); obtain ⟨Aa, ka, Ab, kb, Ai, ki, Ao, ko, x0, x1, fx0, fx1, y0, y1, y2, y3, y4, fy⟩ := HSd.out.cells)
                  clear HSc' kd1
                  refine wp_region_noPanic ?_
                  refine wp_region_held_drew (S := (fun w' => w'.cell? ⟨w.heap.size, 0, none⟩ = some (.slice A2 (ts.length + 1) k2) ∧ w'.cell? ⟨w.heap.size, 1, none⟩ = some (.int .i64 (en : Int)) ∧ w'.cell? ⟨w.heap.size + 1 + 1 + 1, 0, none⟩ = some (.slice Aa c.asg.length ka) ∧ w'.cell? ⟨w.heap.size + 1 + 1 + 1, 1, none⟩ = some (.slice Ab c.words.length kb) ∧ w'.cell? ⟨w.heap.size + 1 + 1 + 1, 2, none⟩ = some (.slice Ai c.inn.length ki) ∧ w'.cell? ⟨w.heap.size + 1 + 1 + 1, 3, none⟩ = some (.slice Ao c.out.length ko) ∧ w'.cell? ⟨w.heap.size + 1 + 1 + 1, 4, none⟩ = some (.bool c.app))) (by kernel_rfl) ?_ (fun hHeld => ?_)
                  · exact ⟨x0, x1, y0, y1, y2, y3, y4⟩
                  refine wpAnyH_take (i := 0) (v := ?_) rfl (by kernel_rfl) (by kernel_rfl) (by kernel_rfl) (fun _ _ _ h => h) (Or.inl ⟨by kernel_rfl, ?_⟩) hHeld ?_
                  rotate_left
                  · (intro w hSw; (try dsimp only at hSw); go_simp; try with_reducible rfl)
                  try simp only [Act.put, List.setIfInBounds_toArray, List.set_cons_zero, List.set_cons_succ]
                  refine wpAnyH_take (i := 1) (v := ?_) rfl (by kernel_rfl) (by kernel_rfl) (by kernel_rfl) (fun _ _ _ h => h) (Or.inl ⟨by kernel_rfl, ?_⟩) hHeld ?_
                  rotate_left
                  · (intro w hSw; (try dsimp only at hSw); go_simp; try with_reducible rfl)
                  try simp only [Act.put, List.setIfInBounds_toArray, List.set_cons_zero, List.set_cons_succ]
                  refine wpAnyH_take (i := 2) (v := ?_) rfl (by kernel_rfl) (by kernel_rfl) (by kernel_rfl) (fun _ _ _ h => h) (Or.inl ⟨by kernel_rfl, ?_⟩) hHeld ?_
                  rotate_left
                  · (intro w hSw; (try dsimp only at hSw); go_simp; try with_reducible rfl)
                  try simp only [Act.put, List.setIfInBounds_toArray, List.set_cons_zero, List.set_cons_succ]
                  refine wpAnyH_ready (rs := [3]) (by kernel_rfl) (by simp) ?_
                  refine AllReadyH.cons rfl (fun K hK => ?_) AllReadyH.nil
                  go_simp
                  go_at_call 47; refine (place_ref wd.drew (.slice A2 (ts.length + 1) k2) (⟨p1, o1, [], n1⟩ :: ts) en (show RdK wd.drew (.slice A2 (ts.length + 1) k2) (⟨p1, o1, [], n1⟩ :: ts) from HSd.out.2.2.1)).mono ?_; rintro e wp ⟨rfl, kp0⟩; have kp : Below wd.heap.size wd wp := ((Below.refl wd.heap.size wd).drew).trans kp0; have HSp := Lib.hid (HSd.out.next (w' := wp) kp); have bx := HSp.out.2.1; have xx0 : wp.cell? ⟨w.heap.size, 0, none⟩ = some (.slice A2 (ts.length + 1) k2) := bx.cell 0; have xx1 : wp.cell? ⟨w.heap.size, 1, none⟩ = some (.int .i64 (en : Int)) := bx.cell 1; have hb3 := HSd.out.2.2.2.2.2.lt; have yy0 := ((bcell kp).1 (w.heap.size + 1 + 1 + 1) 0 hb3).trans y0; have yy1 := ((bcell kp).1 (w.heap.size + 1 + 1 + 1) 1 hb3).trans y1; have yy2 := ((bcell kp).1 (w.heap.size + 1 + 1 + 1) 2 hb3).trans y2; have yy3 := ((bcell kp).1 (w.heap.size + 1 + 1 + 1) 3 hb3).trans y3; have yy4 := ((bcell kp).1 (w.heap.size + 1 + 1 + 1) 4 hb3).trans y4; have bz := HSp.out.2.2.2.1; have z0 := bz.cell 0; have z1 := bz.cell 1; have z2 := bz.cell 2; have z3 := bz.cell 3; have z4 := bz.cell 4; have fz0 := bz.frozen 0; have fz1 := bz.frozen 1; have fz2 := bz.frozen 2; have fz3 := bz.frozen 3; have fz4 := bz.frozen 4; have bg := HSp.out.2.2.2.2.1; have g0 := bg.cell 0; have g1 := bg.cell 1; have fg0 := bg.frozen 0; have fg1 := bg.frozen 1
                  try (go_wp2_with fail)
                  refine hK.out _ _ ?_ (fun hNew => ?_)
                  · exact ⟨xx0, xx1, yy0, yy1, yy2, yy3, yy4⟩
                  clear hK K hHeld
                  have hHeld := hNew
                  clear hNew
                  try simp only [Act.put, List.setIfInBounds_toArray, List.set_cons_zero, List.set_cons_succ]
                  refine wpAnyH_ready (rs := [4]) (by kernel_rfl) (by simp) ?_
                  refine AllReadyH.cons rfl (fun K hK => ?_) AllReadyH.nil
                  go_simp
                  refine hK.out _ _ ?_ (fun hNew => ?_)
                  · go_keep
                  clear hK K hHeld
                  have hHeld := hNew
                  clear hNew
                  try simp only [Act.put, List.setIfInBounds_toArray, List.set_cons_zero, List.set_cons_succ]
                  refine wpAnyH_ready (rs := [5]) (by kernel_rfl) (by simp) ?_
                  refine AllReadyH.cons rfl (fun K hK => ?_) AllReadyH.nil
                  go_simp
                  refine hK.out _ _ ?_ (fun hNew => ?_)
                  · exact ⟨((cell_far (by dsimp only; omega)).trans (cell_far (by dsimp only; omega))).trans hHeld.1, ((cell_far (by dsimp only; omega)).trans (cell_far (by dsimp only; omega))).trans hHeld.2.1, ((cell_far (by dsimp only; omega)).trans (cell_far (by dsimp only; omega))).trans hHeld.2.2.1, ((cell_far (by dsimp only; omega)).trans (cell_far (by dsimp only; omega))).trans hHeld.2.2.2.1, ((cell_far (by dsimp only; omega)).trans (cell_far (by dsimp only; omega))).trans hHeld.2.2.2.2.1, ((cell_far (by dsimp only; omega)).trans (cell_far (by dsimp only; omega))).trans hHeld.2.2.2.2.2.1, ((cell_far (by dsimp only; omega)).trans (cell_far (by dsimp only; omega))).trans hHeld.2.2.2.2.2.2⟩
                  clear hK K hHeld
                  have hHeld := hNew
                  clear hNew
                  try simp only [Act.put, List.setIfInBounds_toArray, List.set_cons_zero, List.set_cons_succ]
                  refine wpAnyH_take (i := 6) (v := ?_) rfl (by kernel_rfl) (by kernel_rfl) (by kernel_rfl) (fun _ _ _ h => h) (Or.inl ⟨by kernel_rfl, ?_⟩) hHeld ?_
                  rotate_left
                  · (intro w hSw; (try dsimp only at hSw); go_simp; try with_reducible rfl)
                  try simp only [Act.put, List.setIfInBounds_toArray, List.set_cons_zero, List.set_cons_succ]
                  refine wpAnyH_take (i := 7) (v := ?_) rfl (by kernel_rfl) (by kernel_rfl) (by kernel_rfl) (fun _ _ _ h => h) (Or.inl ⟨by kernel_rfl, ?_⟩) hHeld ?_
                  rotate_left
                  · (intro w hSw; (try dsimp only at hSw); go_simp; try with_reducible rfl)
                  try simp only [Act.put, List.setIfInBounds_toArray, List.set_cons_zero, List.set_cons_succ]
                  refine wpAnyH_done (by kernel_rfl) ?_ _
                  clear hHeld
                  simp only [List.getElem_toArray, List.getElem_cons_zero, List.getElem_cons_succ, Act.put, List.setIfInBounds_toArray, List.set_cons_zero, List.set_cons_succ]
                  refine NoPanic.normal ?_
                  have HS0 : RsS w en (.slice A2 (ts.length + 1) k2) (⟨p1, o1, [], n1⟩ :: ts) c wp := HSp.out
                  obtain ⟨_, _, d6, d7, d8⟩ := HS0.done0 yy0 yy1 yy2 yy3
                  generalize (((((((wp.setCell ⟨w.heap.size + 1, 0, none⟩ (.slice Aa c.asg.length ka)).setCell ⟨w.heap.size + 1, 1, none⟩ (.slice Ab c.words.length kb)).setCell ⟨w.heap.size + 1, 2, none⟩ (.slice Ai c.inn.length ki)).setCell ⟨w.heap.size + 1, 3, none⟩ (.slice Ao c.out.length ko)).setCell ⟨w.heap.size + 1, 4, none⟩ (.bool c.app)).setCell ⟨w.heap.size + 1 + 1, 0, none⟩ (.slice A2 (ts.length + 1) k2)).setCell ⟨w.heap.size + 1 + 1, 1, none⟩ (.int .i64 (en : Int))) = wz at d6 d7 d8 ⊢
                  have r0 := d7.cell 0
                  have r1 := d7.cell 1
                  have r2 := d7.cell 2
                  have r3 := d7.cell 3
                  have r4 := d7.cell 4
                  have s0 := d8.cell 0
                  have s1 := d8.cell 1
                  simp at r0 r1 r2 r3 r4 s0 s1
                  go_wp2
                  refine bodyPost_ret (v := .tuple #[.agg #[.slice Aa c.asg.length ka, .slice Ab c.words.length kb, .slice Ai c.inn.length ki, .slice Ao c.out.length ko, .bool c.app], .agg #[.slice A2 (ts.length + 1) k2, .int .i64 (en : Int)], .int .i64 30, .int .i64 ((placeS en (⟨p1, o1, [], n1⟩ :: ts) : Nat) : Int)]) (by simp [results, Try.results81, go_sem, r0, r1, r2, r3, r4, s0, s1]) rfl ?_
                  rw [HR2.out]
                  exact ⟨_, _, _, _, _, _, _, _, _, _, _, _, _, _, _, _, rfl, by decide, d6⟩
                ·
                  have HWN := Lib.hid hw
                  have ho1 : o1 = [] := by
                    rcases Classical.em (o1 = []) with h | h
                    · exact h
                    · exact absurd (hu0.2.2.2.1 h).1 hw
                  subst ho1
                  have HR2 := Lib.hid (HR.out.trans (simS_gt en p0 p1 _ true (.inr ⟨rfl, rfl⟩) w0 w1 n0 n1 [] ts c hi (HAP.out hi) hw))
                  have HT2 := Lib.hid (show ∀ t ∈ ts, TkOk 100000 t from fun t h => HT.out t (List.mem_cons_of_mem _ (List.mem_cons_of_mem _ h)))
                  clear hi HR ht0 hu0
                  go_upto_region 8 with (first | (go_at_call 45; refine (next_ref _ _ _ en HS.out.2.2.1).mono ?_; rintro e wa ⟨rfl, ka1⟩; rw [show bs (nextS (⟨p0, [62, 62], w0, n0⟩ :: ⟨p1, [], w1, n1⟩ :: ts)) = ⟨#[62, 62]⟩ from rfl]; have HSa := Lib.hid (HS.out.next ka1); obtain ⟨Aa, ka, Ab, kb, Ai, ki, Ao, ko, x0, x1, fx0, fx1, y0, y1, y2, y3, y4, fy⟩ := HSa.out.cells) | (go_at_call 46; refine (rest_ref _ _ _ _ en HSa.out.2.2.1 (by first | (simp; done) | (simp at hl ⊢; omega))).mono ?_; rintro e wb ⟨v2, rfl, hv2, kb1⟩; obtain ⟨A2, k2, rfl, hk2⟩ := RowRd.form hv2; have HSb := Lib.hid (HSa.out.next kb1); have HSc := Lib.hid (HSb.out.box hv2); obtain ⟨Aa, ka, Ab, kb, Ai, ki, Ao, ko, x0, x1, fx0, fx1, y0, y1, y2, y3, y4, fy⟩ := HSb.out.cells))
                  clear hil
                  have HSc' := Lib.hid (show RsS w en (.slice A2 (ts.length + 1) k2) (⟨p1, [], w1, n1⟩ :: ts) c ((wb.setCell ⟨w.heap.size, 0, none⟩ (.slice A2 (ts.length + 1) k2)).setCell ⟨w.heap.size, 1, none⟩ (.int .i64 (en : Int))) from HSc.out)
                  clear HS HSa HSb HSc x0 x1 fx0 fx1 y0 y1 y2 y3 y4 fy hv2 kb1 ka1
                  generalize ((wb.setCell ⟨w.heap.size, 0, none⟩ (.slice A2 (ts.length + 1) k2)).setCell ⟨w.heap.size, 1, none⟩ (.int .i64 (en : Int))) = wc at *
                  obtain ⟨Aa, ka, Ab, kb, Ai, ki, Ao, ko, x0, x1, fx0, fx1, y0, y1, y2, y3, y4, fy⟩ := HSc'.out.cells
                  obtain ⟨b, o, kk, u1, u2, hv, hkk, hbl, hu1, hu2, q0, q1, q2, q3, q4⟩ := HSc'.out.2.2.1.hd
                  injection hv with hA hn1 hk1
                  subst hA hk1
                  obtain ⟨Au, ku, rfl, hku⟩ := Rd.form hu1
                  have HU1 := Lib.hid hu1
                  clear hu2 q0 q1 q3 q4 hu1
                  go_upto_region 13 with (go_at_call 45; refine (next_ref _ _ _ en HSc'.out.2.2.1).mono ?_; rintro e wd ⟨rfl, kd1⟩; rw [show bs (nextS (⟨p1, [], w1, n1⟩ :: ts)) = ⟨#[]⟩ from rfl]; have HSd := Lib.hid (HSc'.out.next kd1); obtain ⟨Aa, ka, Ab, kb, Ai, ki, Ao, ko, x0, x1, fx0, fx1, y0, y1, y2, y3, y4, fy⟩ := HSd.out.cells; have r2 := ((bcell kd1).1 b (o + 2) hbl).trans q2; have f2 := fy 3; have f5 := fy 4)
                  have HSe := Lib.hid (HSd.out.outt true (HU1.out.next kd1))
                  clear HSd HSc' x0 x1 fx0 fx1 y0 y1 y2 y3 y4 fy r2 f2 f5 q2 kd1 HU1
                  generalize (wd.setCell ⟨w.heap.size + 1 + 1 + 1, 3, none⟩ (.slice Au w1.length ku)).setCell ⟨w.heap.size + 1 + 1 + 1, 4, none⟩ (.bool true) = we at *
                  obtain ⟨Aa, ka, Ab, kb, Ai, ki, Ao, ko, x0, x1, fx0, fx1, y0, y1, y2, y3, y4, fy⟩ := HSe.out.cells
                  go_wp2_with (go_at_call 46; refine (rest_ref _ _ _ _ en HSe.out.2.2.1 (by first | (simp; done) | (simp at hl ⊢; omega))).mono ?_; rintro e wf ⟨v3, rfl, hv3, kf1⟩; obtain ⟨A3, k3, rfl, hk3⟩ := RowRd.form hv3; have HSf := Lib.hid (HSe.out.next kf1); have HSg := Lib.hid (HSf.out.box hv3); obtain ⟨Aa, ka, Ab, kb, Ai, ki, Ao, ko, x0, x1, fx0, fx1, y0, y1, y2, y3, y4, fy⟩ := HSf.out.cells)
                  go_roundg (ts.length + 1)
                  case rel => exact ⟨_, ts, _, HSg.out, rfl, by simp at hl; omega, HT2.out, (fun h => absurd h HWN.out), hca, hcw, HR2.out⟩
                  case measure => simp at hgk; omega
            ·
              have HR2 := Lib.hid (HR.out.trans (simS_dup en p0 w0 n0 [62, 62] ts c (.inr ⟨.inr rfl, hi⟩)))
              have e7 : (0 : Int) < (c.out.length : Int) := by have := List.length_pos_iff.2 hi; omega
              have e7n : 0 < c.out.length := List.length_pos_iff.2 hi
              clear hi ht0
              go_upto_region 6 with (go_at_call 45; refine (next_ref _ _ _ en HS.out.2.2.1).mono ?_; rintro e wa ⟨rfl, ka1⟩; rw [show bs (nextS (⟨p0, [62, 62], w0, n0⟩ :: ts)) = ⟨#[62, 62]⟩ from rfl]; have HSa := Lib.hid (HS.out.next ka1); obtain ⟨Aa, ka, Ab, kb, Ai, ki, Ao, ko, x0, x1, fx0, fx1, y0, y1, y2, y3, y4, fy⟩ := HSa.out.cells)
              clear HS ka1
              refine wp_region_noPanic ?_
              refine wp_region_held_drew (S := (fun w' => w'.cell? ⟨w.heap.size, 0, none⟩ = some (.slice A1 (ts.length + 1) k1) ∧ w'.cell? ⟨w.heap.size, 1, none⟩ = some (.int .i64 (en : Int)) ∧ w'.cell? ⟨w.heap.size + 1 + 1 + 1, 0, none⟩ = some (.slice Aa c.asg.length ka) ∧ w'.cell? ⟨w.heap.size + 1 + 1 + 1, 1, none⟩ = some (.slice Ab c.words.length kb) ∧ w'.cell? ⟨w.heap.size + 1 + 1 + 1, 2, none⟩ = some (.slice Ai c.inn.length ki) ∧ w'.cell? ⟨w.heap.size + 1 + 1 + 1, 3, none⟩ = some (.slice Ao c.out.length ko) ∧ w'.cell? ⟨w.heap.size + 1 + 1 + 1, 4, none⟩ = some (.bool c.app))) (by kernel_rfl) ?_ (fun hHeld => ?_)
              · exact ⟨x0, x1, y0, y1, y2, y3, y4⟩
              refine wpAnyH_take (i := 0) (v := ?_) rfl (by kernel_rfl) (by kernel_rfl) (by kernel_rfl) (fun _ _ _ h => h) (Or.inl ⟨by kernel_rfl, ?_⟩) hHeld ?_
              rotate_left
              · (intro w hSw; (try dsimp only at hSw); go_simp; try with_reducible rfl)
              try simp only [Act.put, List.setIfInBounds_toArray, List.set_cons_zero, List.set_cons_succ]
              refine wpAnyH_take (i := 1) (v := ?_) rfl (by kernel_rfl) (by kernel_rfl) (by kernel_rfl) (fun _ _ _ h => h) (Or.inl ⟨by kernel_rfl, ?_⟩) hHeld ?_
              rotate_left
              · (intro w hSw; (try dsimp only at hSw); go_simp; try with_reducible rfl)
              try simp only [Act.put, List.setIfInBounds_toArray, List.set_cons_zero, List.set_cons_succ]
              refine wpAnyH_take (i := 2) (v := ?_) rfl (by kernel_rfl) (by kernel_rfl) (by kernel_rfl) (fun _ _ _ h => h) (Or.inl ⟨by kernel_rfl, ?_⟩) hHeld ?_
              rotate_left
              · (intro w hSw; (try dsimp only at hSw); go_simp; try with_reducible rfl)
              try simp only [Act.put, List.setIfInBounds_toArray, List.set_cons_zero, List.set_cons_succ]
              refine wpAnyH_ready (rs := [3]) (by kernel_rfl) (by simp) ?_
              refine AllReadyH.cons rfl (fun K hK => ?_) AllReadyH.nil
              go_simp
              go_at_call 47; refine (place_ref wa.drew (.slice A1 (ts.length + 1) k1) (⟨p0, [62, 62], w0, n0⟩ :: ts) en (show RdK wa.drew (.slice A1 (ts.length + 1) k1) (⟨p0, [62, 62], w0, n0⟩ :: ts) from HSa.out.2.2.1)).mono ?_; rintro e wp ⟨rfl, kp0⟩; have kp : Below wa.heap.size wa wp := ((Below.refl wa.heap.size wa).drew).trans kp0; have HSp := Lib.hid (HSa.out.next (w' := wp) kp); have bx := HSp.out.2.1; have xx0 : wp.cell? ⟨w.heap.size, 0, none⟩ = some (.slice A1 (ts.length + 1) k1) := bx.cell 0; have xx1 : wp.cell? ⟨w.heap.size, 1, none⟩ = some (.int .i64 (en : Int)) := bx.cell 1; have hb3 := HSa.out.2.2.2.2.2.lt; have yy0 := ((bcell kp).1 (w.heap.size + 1 + 1 + 1) 0 hb3).trans y0; have yy1 := ((bcell kp).1 (w.heap.size + 1 + 1 + 1) 1 hb3).trans y1; have yy2 := ((bcell kp).1 (w.heap.size + 1 + 1 + 1) 2 hb3).trans y2; have yy3 := ((bcell kp).1 (w.heap.size + 1 + 1 + 1) 3 hb3).trans y3; have yy4 := ((bcell kp).1 (w.heap.size + 1 + 1 + 1) 4 hb3).trans y4; have bz := HSp.out.2.2.2.1; have z0 := bz.cell 0; have z1 := bz.cell 1; have z2 := bz.cell 2; have z3 := bz.cell 3; have z4 := bz.cell 4; have fz0 := bz.frozen 0; have fz1 := bz.frozen 1; have fz2 := bz.frozen 2; have fz3 := bz.frozen 3; have fz4 := bz.frozen 4; have bg := HSp.out.2.2.2.2.1; have g0 := bg.cell 0; have g1 := bg.cell 1; have fg0 := bg.frozen 0; have fg1 := bg.frozen 1
              try (go_wp2_with fail)
              refine hK.out _ _ ?_ (fun hNew => ?_)
              · exact ⟨xx0, xx1, yy0, yy1, yy2, yy3, yy4⟩
              clear hK K hHeld
              have hHeld := hNew
              clear hNew
              try simp only [Act.put, List.setIfInBounds_toArray, List.set_cons_zero, List.set_cons_succ]
              refine wpAnyH_ready (rs := [4]) (by kernel_rfl) (by simp) ?_
              refine AllReadyH.cons rfl (fun K hK => ?_) AllReadyH.nil
              go_simp
              refine hK.out _ _ ?_ (fun hNew => ?_)
              · go_keep
              clear hK K hHeld
              have hHeld := hNew
              clear hNew
              try simp only [Act.put, List.setIfInBounds_toArray, List.set_cons_zero, List.set_cons_succ]
              refine wpAnyH_ready (rs := [5]) (by kernel_rfl) (by simp) ?_
              refine AllReadyH.cons rfl (fun K hK => ?_) AllReadyH.nil
              go_simp
              refine hK.out _ _ ?_ (fun hNew => ?_)
              · exact ⟨((cell_far (by dsimp only; omega)).trans (cell_far (by dsimp only; omega))).trans hHeld.1, ((cell_far (by dsimp only; omega)).trans (cell_far (by dsimp only; omega))).trans hHeld.2.1, ((cell_far (by dsimp only; omega)).trans (cell_far (by dsimp only; omega))).trans hHeld.2.2.1, ((cell_far (by dsimp only; omega)).trans (cell_far (by dsimp only; omega))).trans hHeld.2.2.2.1, ((cell_far (by dsimp only; omega)).trans (cell_far (by dsimp only; omega))).trans hHeld.2.2.2.2.1, ((cell_far (by dsimp only; omega)).trans (cell_far (by dsimp only; omega))).trans hHeld.2.2.2.2.2.1, ((cell_far (by dsimp only; omega)).trans (cell_far (by dsimp only; omega))).trans hHeld.2.2.2.2.2.2⟩
              clear hK K hHeld
              have hHeld := hNew
              clear hNew
              try simp only [Act.put, List.setIfInBounds_toArray, List.set_cons_zero, List.set_cons_succ]
              refine wpAnyH_take (i := 6) (v := ?_) rfl (by kernel_rfl) (by kernel_rfl) (by kernel_rfl) (fun _ _ _ h => h) (Or.inl ⟨by kernel_rfl, ?_⟩) hHeld ?_
              rotate_left
              · (intro w hSw; (try dsimp only at hSw); go_simp; try with_reducible rfl)
              try simp only [Act.put, List.setIfInBounds_toArray, List.set_cons_zero, List.set_cons_succ]
              refine wpAnyH_take (i := 7) (v := ?_) rfl (by kernel_rfl) (by kernel_rfl) (by kernel_rfl) (fun _ _ _ h => h) (Or.inl ⟨by kernel_rfl, ?_⟩) hHeld ?_
              rotate_left
              · (intro w hSw; (try dsimp only at hSw); go_simp; try with_reducible rfl)
              try simp only [Act.put, List.setIfInBounds_toArray, List.set_cons_zero, List.set_cons_succ]
              refine wpAnyH_done (by kernel_rfl) ?_ _
              clear hHeld
              simp only [List.getElem_toArray, List.getElem_cons_zero, List.getElem_cons_succ, Act.put, List.setIfInBounds_toArray, List.set_cons_zero, List.set_cons_succ]
              refine NoPanic.normal ?_
              have HS0 : RsS w en (.slice A1 (ts.length + 1) k1) (⟨p0, [62, 62], w0, n0⟩ :: ts) c wp := HSp.out
              obtain ⟨_, _, d6, d7, d8⟩ := HS0.done0 yy0 yy1 yy2 yy3
              generalize (((((((wp.setCell ⟨w.heap.size + 1, 0, none⟩ (.slice Aa c.asg.length ka)).setCell ⟨w.heap.size + 1, 1, none⟩ (.slice Ab c.words.length kb)).setCell ⟨w.heap.size + 1, 2, none⟩ (.slice Ai c.inn.length ki)).setCell ⟨w.heap.size + 1, 3, none⟩ (.slice Ao c.out.length ko)).setCell ⟨w.heap.size + 1, 4, none⟩ (.bool c.app)).setCell ⟨w.heap.size + 1 + 1, 0, none⟩ (.slice A1 (ts.length + 1) k1)).setCell ⟨w.heap.size + 1 + 1, 1, none⟩ (.int .i64 (en : Int))) = wz at d6 d7 d8 ⊢
              have r0 := d7.cell 0
              have r1 := d7.cell 1
              have r2 := d7.cell 2
              have r3 := d7.cell 3
              have r4 := d7.cell 4
              have s0 := d8.cell 0
              have s1 := d8.cell 1
              simp at r0 r1 r2 r3 r4 s0 s1
              go_wp2
              refine bodyPost_ret (v := .tuple #[.agg #[.slice Aa c.asg.length ka, .slice Ab c.words.length kb, .slice Ai c.inn.length ki, .slice Ao c.out.length ko, .bool c.app], .agg #[.slice A1 (ts.length + 1) k1, .int .i64 (en : Int)], .int .i64 7, .int .i64 ((placeS en (⟨p0, [62, 62], w0, n0⟩ :: ts) : Nat) : Int)]) (by simp [results, Try.results81, go_sem, r0, r1, r2, r3, r4, s0, s1]) rfl ?_
              rw [HR2.out]
              exact ⟨_, _, _, _, _, _, _, _, _, _, _, _, _, _, _, _, rfl, by decide, d6⟩
          · by_cases hoe : o0 = []
            · subst hoe
              by_cases hn0 : n0 = []
              · subst hn0
                have HWD := Lib.hid (ht0.2.2.2.2 rfl)
                have HT2 := Lib.hid (show ∀ t ∈ ts, TkOk 100000 t from fun t h => HT.out t (List.mem_cons_of_mem _ h))
                obtain ⟨b, o, kk, u1, u2, hv, hkk, hbl, hu1, hu2, q0, q1, q2, q3, q4⟩ := HS.out.2.2.1.hd
                injection hv with hA hn1 hk1
                subst hA hk1
                dsimp only at q1 q3
                rw [show bs ([] : Bs) = ⟨#[]⟩ from rfl] at q1 q3
                obtain ⟨Au, ku, rfl, hku⟩ := Rd.form hu1
                obtain ⟨Av, kv, rfl, hkv⟩ := Rd.form hu2
                have HU1 := Lib.hid hu1
                have HU2 := Lib.hid hu2
                clear ht0 hu1 hu2 hn1
                go_upto_region 16 with (go_at_call 45; refine (next_ref _ _ _ en HS.out.2.2.1).mono ?_; rintro e wa ⟨rfl, ka1⟩; rw [show bs (nextS (⟨p0, [], w0, []⟩ :: ts)) = ⟨#[]⟩ from rfl]; have HSa := Lib.hid (HS.out.next ka1); obtain ⟨Aa, ka, Ab, kb, Ai, ki, Ao, ko, x0, x1, fx0, fx1, y0, y1, y2, y3, y4, fy⟩ := HSa.out.cells; have r0 := ((bcell ka1).1 b o hbl).trans q0; have r1 := ((bcell ka1).1 b (o + 1) hbl).trans q1; have r2 := ((bcell ka1).1 b (o + 2) hbl).trans q2; have r3 := ((bcell ka1).1 b (o + 3) hbl).trans q3; have r4 := ((bcell ka1).1 b (o + 4) hbl).trans q4)
                have HBa := Lib.hid ((Below.refl wa.heap.size wa).alloc (Nat.le_refl _) (.cells #[.int .i64 (p0 : Int), .string ⟨#[]⟩, .slice Au w0.length ku, .string ⟨#[]⟩, .slice Av (valT ⟨p0, [], w0, []⟩).length kv] 134))
                have HSb := Lib.hid (HSa.out.next HBa.out)
                have HV1 := Lib.hid ((HU1.out.next ka1).next HBa.out)
                have HV2 := Lib.hid ((HU2.out.next ka1).next HBa.out)
                have HTB := Lib.hid (Blk.new wa 134 #[.int .i64 (p0 : Int), .string ⟨#[]⟩, .slice Au w0.length ku, .string ⟨#[]⟩, .slice Av (valT ⟨p0, [], w0, []⟩).length kv])
                have htb : w.heap.size + 1 + 1 + 1 < wa.heap.size := HSa.out.2.2.2.2.2.lt
                clear HS HSa HU1 HU2 HBa x0 x1 fx0 fx1 y0 y1 y2 y3 y4 fy q0 q1 q2 q3 q4 r0 r1 r2 r3 r4 ka1
                generalize (wa.alloc (.cells #[.int .i64 (p0 : Int), .string ⟨#[]⟩, .slice Au w0.length ku, .string ⟨#[]⟩, .slice Av (valT ⟨p0, [], w0, []⟩).length kv] 134)) = wb at *
                generalize wa.heap.size = tb at *
                have t0 : wb.cell? ⟨tb, 0, none⟩ = some (.int .i64 (p0 : Int)) := HTB.out.cell 0
                have t2 : wb.cell? ⟨tb, 2, none⟩ = some (.slice Au w0.length ku) := HTB.out.cell 2
                have t3 : wb.cell? ⟨tb, 3, none⟩ = some (.string ⟨#[]⟩) := HTB.out.cell 3
                have t4 : wb.cell? ⟨tb, 4, none⟩ = some (.slice Av (valT ⟨p0, [], w0, []⟩).length kv) := HTB.out.cell 4
                obtain ⟨Aa, ka, Ab, kb, Ai, ki, Ao, ko, x0, x1, fx0, fx1, y0, y1, y2, y3, y4, fy⟩ := HSb.out.cells
                by_cases h32 : c.words.length = 32
                · have HR2 := Lib.hid (HR.out.trans ((simS_wd en p0 w0 [] ts c HWD.out (.inl rfl)).trans (if_pos h32)))
                  have e32 : ((c.words.length : Int) == 32) = true := by rw [h32]; rfl
                  clear h32
                  have z0 : wb.cell? ⟨w.heap.size + 1, 0, none⟩ = some (.slice none 0 0) := HSb.out.2.2.2.1.cell 0
                  have z1 : wb.cell? ⟨w.heap.size + 1, 1, none⟩ = some (.slice none 0 0) := HSb.out.2.2.2.1.cell 1
                  have z2 : wb.cell? ⟨w.heap.size + 1, 2, none⟩ = some (.slice none 0 0) := HSb.out.2.2.2.1.cell 2
                  have z3 : wb.cell? ⟨w.heap.size + 1, 3, none⟩ = some (.slice none 0 0) := HSb.out.2.2.2.1.cell 3
                  have z4 : wb.cell? ⟨w.heap.size + 1, 4, none⟩ = some (.bool false) := HSb.out.2.2.2.1.cell 4
                  have fz := HSb.out.2.2.2.1.frozen
                  have g0 : wb.cell? ⟨w.heap.size + 1 + 1, 0, none⟩ = some (.slice none 0 0) := HSb.out.2.2.2.2.1.cell 0
                  have g1 : wb.cell? ⟨w.heap.size + 1 + 1, 1, none⟩ = some (.int .i64 0) := HSb.out.2.2.2.2.1.cell 1
                  have fg := HSb.out.2.2.2.2.1.frozen
                  have fz0 := fz 0
                  have fz1 := fz 1
                  have fz2 := fz 2
                  have fz3 := fz 3
                  have fz4 := fz 4
                  have fg0 := fg 0
                  have fg1 := fg 1
                  have n1 : ¬ tb = w.heap.size + 1 := by omega
                  have n2 : ¬ w.heap.size + 1 = tb := by omega
                  have n3 : ¬ tb = w.heap.size + 1 + 1 := by omega
                  have n4 : ¬ w.heap.size + 1 + 1 = tb := by omega
                  clear fz fg fy
                  go_wp2
                  go_region
                  have HS0 : RsS w en (.slice (some ⟨b, o, none⟩) (ts.length + 1) k1) (⟨p0, [], w0, []⟩ :: ts) c wb := HSb.out
                  obtain ⟨d1, d2, d3, d4, d5⟩ := HS0.done y0 y1 y2 y3
                  generalize (((((((wb.setCell ⟨w.heap.size + 1, 0, none⟩ (.slice Aa c.asg.length ka)).setCell ⟨w.heap.size + 1, 1, none⟩ (.slice Ab c.words.length kb)).setCell ⟨w.heap.size + 1, 2, none⟩ (.slice Ai c.inn.length ki)).setCell ⟨w.heap.size + 1, 3, none⟩ (.slice Ao c.out.length ko)).setCell ⟨w.heap.size + 1, 4, none⟩ (.bool c.app)).setCell ⟨w.heap.size + 1 + 1, 0, none⟩ (.slice (some ⟨b, o, none⟩) (ts.length + 1) k1)).setCell ⟨w.heap.size + 1 + 1, 1, none⟩ (.int .i64 (en : Int))).drew = wz at d1 d2 d3 d4 d5 ⊢
                  have r0 := d4.cell 0
                  have r1 := d4.cell 1
                  have r2 := d4.cell 2
                  have r3 := d4.cell 3
                  have r4 := d4.cell 4
                  have s0 := d5.cell 0
                  have s1 := d5.cell 1
                  simp at r0 r1 r2 r3 r4 s0 s1
                  go_wp2
                  refine bodyPost_ret (v := .tuple #[.agg #[.slice Aa c.asg.length ka, .slice Ab c.words.length kb, .slice Ai c.inn.length ki, .slice Ao c.out.length ko, .bool c.app], .agg #[.slice (some ⟨b, o, none⟩) (ts.length + 1) k1, .int .i64 (en : Int)], .int .i64 9, .int .i64 (p0 : Int)]) (by simp [results, Try.results81, go_sem, r0, r1, r2, r3, r4, s0, s1]) rfl ?_
                  rw [HR2.out]
                  exact ⟨_, _, _, _, _, _, _, _, _, _, _, _, _, _, _, _, rfl, by decide, d3⟩
                · have HR2 := Lib.hid (HR.out.trans ((simS_wd en p0 w0 [] ts c HWD.out (.inl rfl)).trans (if_neg h32)))
                  have e32 : ((c.words.length : Int) == 32) = false := beq_false_of_ne (by omega)
                  clear x0 x1 fx0 fx1 y0 y1 y2 y3 y4 fy
                  obtain ⟨va, vb, vi, vo, B, ra, rb, ri, ro⟩ := HSb.out.2.2.2.2.2
                  obtain ⟨Aa, ka, rfl, _⟩ := RowRd.form ra.rd
                  obtain ⟨vs, hvs, hown⟩ := rb
                  obtain ⟨Ga, ca, rfl, hca2⟩ := own_len hown
                  have y1 := B.cell 1
                  have fy1 := B.frozen 1
                  have y0 := B.cell 0
                  simp only [List.getElem?_toArray, List.getElem?_cons_zero, List.getElem?_cons_succ] at y0 y1
                  have HBn := Lib.hid ((Below.refl wb.heap.size wb).alloc (Nat.le_refl _) (.cells #[.slice Au w0.length ku] 39))
                  have HHU := Lib.hid (HV1.out.next HBn.out)
                  have HPU := Lib.hid (fun (v' : Value) (w1 : World) (hk : (wb.alloc (.cells #[.slice Au w0.length ku] 39)).grownBy w1 (.slice Ga c.words.length ca : Value).ownBlock) (ho : w1.ownsRow w.heap.size 39 1 v' (c.words.length + 1) (rowC wdV c.words vs ++ [.slice Au w0.length ku])) => SmB.pushW (by decide) (by decide) (by decide) (by decide) (by decide) B hvs hown ra ri ro HBn.out hk ho HHU.out)
                  have HHO := Lib.hid hown
                  have hwz : w.heap.size ≤ wb.heap.size := HSb.out.1.size
                  clear B hvs ra ri ro hown
                  go_upto_region 23 with (at_builtin; refine wpList_append_lies _ rfl _ _ _ rfl w.heap.size 39 jw _ 1 24 Try.underlying107 hjw hjw0 hjw1 hjw2 rfl (by omega) _ c.words.length (rowC wdV c.words vs) (by rfl) (HHO.out.alloc _) ⟨wb.heap.size, 0, none⟩ 1 1 [.slice Au w0.length ku] rfl rfl (World.news_of_block (cs := #[.slice Au w0.length ku]) (t := 39) (fr := (0, 0)) (heap_alloc_new wb _)) (by simp [Value.oneCell']) (by omega) (by unfold maxLen; omega) (by omega) (by simp; omega) (wb.heap.size + 1) (by simp) ?_; intro gg cap w3 hown3 hgrow3 hat hlt3; have HP3 := Lib.hid (HPU.out _ _ hgrow3 hown3); have HG3 := Lib.hid hgrow3; have y1 := HP3.out.2.cell 1; have fy1 := HP3.out.2.frozen 1; simp only [List.getElem?_toArray, List.getElem?_cons_zero, List.getElem?_cons_succ] at y1; clear hown3 hgrow3 hat hlt3)
                  have HSe := Lib.hid (RsS.push HSb.out (.inr rfl) HHO.out HBn.out HG3.out HP3.out.2 HP3.out.1)
                  clear HSb HHO HBn HG3 HP3 HPU HHU y1 fy1 t0 t2 t3 t4
                  have HSe' := HSe.out
                  generalize (w3.setCell ⟨w.heap.size + 1 + 1 + 1, 1, none⟩ _) = we at *
                  have HSe := Lib.hid HSe'
                  clear HSe'
                  obtain ⟨Aa, ka, Ab, kb, Ai, ki, Ao, ko, x0, x1, fx0, fx1, y0, y1, y2, y3, y4, fy⟩ := HSe.out.cells
                  go_wp2_with (go_at_call 46; refine (rest_ref _ _ _ _ en HSe.out.2.2.1 (by first | (simp; done) | (simp at hl ⊢; omega))).mono ?_; rintro e wf ⟨v3, rfl, hv3, kf1⟩; obtain ⟨A3, k3, rfl, hk3⟩ := RowRd.form hv3; have HSf := Lib.hid (HSe.out.next kf1); have HSg := Lib.hid (HSf.out.box hv3); obtain ⟨Aa, ka, Ab, kb, Ai, ki, Ao, ko, x0, x1, fx0, fx1, y0, y1, y2, y3, y4, fy⟩ := HSf.out.cells)
                  go_roundg (ts.length + 1)
                  case rel => exact ⟨_, ts, _, HSg.out, rfl, by simp at hl; omega, HT2.out, HAP.out, hca, by simp; omega, HR2.out⟩
                  case measure => simp at hgk; omega
              · by_cases hcw0 : c.words = []
                · have HCW := Lib.hid hcw0
                  have ecw : ((c.words.length : Int) == 0) = true := by rw [hcw0]; rfl
                  clear hcw0
                  obtain ⟨T, hT⟩ : ∃ T, bs n0 = T := ⟨_, rfl⟩
                  have tT : T.toList.isEmpty = false := by rw [← hT]; exact iseF hn0
                  have HTT := Lib.hid hT
                  have HN0 := Lib.hid hn0
                  have HWD := Lib.hid (ht0.2.2.2.2 rfl)
                  have HT2 := Lib.hid (show ∀ t ∈ ts, TkOk 100000 t from fun t h => HT.out t (List.mem_cons_of_mem _ h))
                  obtain ⟨b, o, kk, u1, u2, hv, hkk, hbl, hu1, hu2, q0, q1, q2, q3, q4⟩ := HS.out.2.2.1.hd
                  dsimp only at q3
                  rw [hT] at q3
                  clear hT
                  injection hv with hA hn1 hk1
                  subst hA hk1
                  dsimp only at q1 q3
                  rw [show bs ([] : Bs) = ⟨#[]⟩ from rfl] at q1
                  obtain ⟨Au, ku, rfl, hku⟩ := Rd.form hu1
                  obtain ⟨Av, kv, rfl, hkv⟩ := Rd.form hu2
                  have HU1 := Lib.hid hu1
                  have HU2 := Lib.hid hu2
                  clear ht0 hu1 hu2 hn1
                  go_upto_region 16 with (go_at_call 45; refine (next_ref _ _ _ en HS.out.2.2.1).mono ?_; rintro e wa ⟨rfl, ka1⟩; rw [show bs (nextS (⟨p0, [], w0, n0⟩ :: ts)) = ⟨#[]⟩ from rfl]; have HSa := Lib.hid (HS.out.next ka1); obtain ⟨Aa, ka, Ab, kb, Ai, ki, Ao, ko, x0, x1, fx0, fx1, y0, y1, y2, y3, y4, fy⟩ := HSa.out.cells; have r0 := ((bcell ka1).1 b o hbl).trans q0; have r1 := ((bcell ka1).1 b (o + 1) hbl).trans q1; have r2 := ((bcell ka1).1 b (o + 2) hbl).trans q2; have r3 := ((bcell ka1).1 b (o + 3) hbl).trans q3; have r4 := ((bcell ka1).1 b (o + 4) hbl).trans q4)
                  have HBa := Lib.hid ((Below.refl wa.heap.size wa).alloc (Nat.le_refl _) (.cells #[.int .i64 (p0 : Int), .string ⟨#[]⟩, .slice Au w0.length ku, .string T, .slice Av (valT ⟨p0, [], w0, n0⟩).length kv] 134))
                  have HSb := Lib.hid (HSa.out.next HBa.out)
                  have HV1 := Lib.hid ((HU1.out.next ka1).next HBa.out)
                  have HV2 := Lib.hid ((HU2.out.next ka1).next HBa.out)
                  have HTB := Lib.hid (Blk.new wa 134 #[.int .i64 (p0 : Int), .string ⟨#[]⟩, .slice Au w0.length ku, .string T, .slice Av (valT ⟨p0, [], w0, n0⟩).length kv])
                  have htb : w.heap.size + 1 + 1 + 1 < wa.heap.size := HSa.out.2.2.2.2.2.lt
                  clear HS HSa HU1 HU2 HBa x0 x1 fx0 fx1 y0 y1 y2 y3 y4 fy q0 q1 q2 q3 q4 r0 r1 r2 r3 r4 ka1
                  generalize (wa.alloc (.cells #[.int .i64 (p0 : Int), .string ⟨#[]⟩, .slice Au w0.length ku, .string T, .slice Av (valT ⟨p0, [], w0, n0⟩).length kv] 134)) = wb at *
                  generalize wa.heap.size = tb at *
                  have t0 : wb.cell? ⟨tb, 0, none⟩ = some (.int .i64 (p0 : Int)) := HTB.out.cell 0
                  have t2 : wb.cell? ⟨tb, 2, none⟩ = some (.slice Au w0.length ku) := HTB.out.cell 2
                  have t3 : wb.cell? ⟨tb, 3, none⟩ = some (.string T) := HTB.out.cell 3
                  have t4 : wb.cell? ⟨tb, 4, none⟩ = some (.slice Av (valT ⟨p0, [], w0, n0⟩).length kv) := HTB.out.cell 4
                  obtain ⟨Aa, ka, Ab, kb, Ai, ki, Ao, ko, x0, x1, fx0, fx1, y0, y1, y2, y3, y4, fy⟩ := HSb.out.cells
                  by_cases h32 : c.asg.length = 32
                  · have HR2 := Lib.hid (HR.out.trans ((simS_asg en p0 w0 n0 ts c HWD.out HN0.out HCW.out).trans (if_pos h32)))
                    have e32 : ((c.asg.length : Int) == 32) = true := by rw [h32]; rfl
                    clear h32
                    have z0 : wb.cell? ⟨w.heap.size + 1, 0, none⟩ = some (.slice none 0 0) := HSb.out.2.2.2.1.cell 0
                    have z1 : wb.cell? ⟨w.heap.size + 1, 1, none⟩ = some (.slice none 0 0) := HSb.out.2.2.2.1.cell 1
                    have z2 : wb.cell? ⟨w.heap.size + 1, 2, none⟩ = some (.slice none 0 0) := HSb.out.2.2.2.1.cell 2
                    have z3 : wb.cell? ⟨w.heap.size + 1, 3, none⟩ = some (.slice none 0 0) := HSb.out.2.2.2.1.cell 3
                    have z4 : wb.cell? ⟨w.heap.size + 1, 4, none⟩ = some (.bool false) := HSb.out.2.2.2.1.cell 4
                    have fz := HSb.out.2.2.2.1.frozen
                    have g0 : wb.cell? ⟨w.heap.size + 1 + 1, 0, none⟩ = some (.slice none 0 0) := HSb.out.2.2.2.2.1.cell 0
                    have g1 : wb.cell? ⟨w.heap.size + 1 + 1, 1, none⟩ = some (.int .i64 0) := HSb.out.2.2.2.2.1.cell 1
                    have fg := HSb.out.2.2.2.2.1.frozen
                    have fz0 := fz 0
                    have fz1 := fz 1
                    have fz2 := fz 2
                    have fz3 := fz 3
                    have fz4 := fz 4
                    have fg0 := fg 0
                    have fg1 := fg 1
                    have n1 : ¬ tb = w.heap.size + 1 := by omega
                    have n2 : ¬ w.heap.size + 1 = tb := by omega
                    have n3 : ¬ tb = w.heap.size + 1 + 1 := by omega
                    have n4 : ¬ w.heap.size + 1 + 1 = tb := by omega
                    clear fz fg fy
                    go_wp2
                    go_region
                    have HS0 : RsS w en (.slice (some ⟨b, o, none⟩) (ts.length + 1) k1) (⟨p0, [], w0, n0⟩ :: ts) c wb := HSb.out
                    obtain ⟨d1, d2, d3, d4, d5⟩ := HS0.done y0 y1 y2 y3
                    generalize (((((((wb.setCell ⟨w.heap.size + 1, 0, none⟩ (.slice Aa c.asg.length ka)).setCell ⟨w.heap.size + 1, 1, none⟩ (.slice Ab c.words.length kb)).setCell ⟨w.heap.size + 1, 2, none⟩ (.slice Ai c.inn.length ki)).setCell ⟨w.heap.size + 1, 3, none⟩ (.slice Ao c.out.length ko)).setCell ⟨w.heap.size + 1, 4, none⟩ (.bool c.app)).setCell ⟨w.heap.size + 1 + 1, 0, none⟩ (.slice (some ⟨b, o, none⟩) (ts.length + 1) k1)).setCell ⟨w.heap.size + 1 + 1, 1, none⟩ (.int .i64 (en : Int))).drew = wz at d1 d2 d3 d4 d5 ⊢
                    have r0 := d4.cell 0
                    have r1 := d4.cell 1
                    have r2 := d4.cell 2
                    have r3 := d4.cell 3
                    have r4 := d4.cell 4
                    have s0 := d5.cell 0
                    have s1 := d5.cell 1
                    simp at r0 r1 r2 r3 r4 s0 s1
                    go_wp2
                    refine bodyPost_ret (v := .tuple #[.agg #[.slice Aa c.asg.length ka, .slice Ab c.words.length kb, .slice Ai c.inn.length ki, .slice Ao c.out.length ko, .bool c.app], .agg #[.slice (some ⟨b, o, none⟩) (ts.length + 1) k1, .int .i64 (en : Int)], .int .i64 9, .int .i64 (p0 : Int)]) (by simp [results, Try.results81, go_sem, r0, r1, r2, r3, r4, s0, s1]) rfl ?_
                    rw [HR2.out]
                    exact ⟨_, _, _, _, _, _, _, _, _, _, _, _, _, _, _, _, rfl, by decide, d3⟩
                  · have HR2 := Lib.hid (HR.out.trans ((simS_asg en p0 w0 n0 ts c HWD.out HN0.out HCW.out).trans (if_neg h32)))
                    have e32 : ((c.asg.length : Int) == 32) = false := beq_false_of_ne (by omega)
                    clear x0 x1 fx0 fx1 y0 y1 y2 y3 y4 fy
                    obtain ⟨va, vb, vi, vo, B, ra, rb, ri, ro⟩ := HSb.out.2.2.2.2.2
                    obtain ⟨Ab, kb, rfl, _⟩ := RowRd.form rb.rd
                    obtain ⟨vs, hvs, hown⟩ := ra
                    obtain ⟨Ga, ca, rfl, hca2⟩ := own_len hown
                    have y0 := B.cell 0
                    have fy0 := B.frozen 0
                    have y1 := B.cell 1
                    simp only [List.getElem?_toArray, List.getElem?_cons_zero, List.getElem?_cons_succ] at y0 y1
                    have HBn := Lib.hid ((Below.refl wb.heap.size wb).alloc (Nat.le_refl _) (.cells #[.string T, .slice Av (valT ⟨p0, [], w0, n0⟩).length kv] 112))
                    have HHU := Lib.hid (HV2.out.next HBn.out)
                    have HPU := Lib.hid (fun (v' : Value) (w1 : World) (hk : (wb.alloc (.cells #[.string T, .slice Av (valT ⟨p0, [], w0, n0⟩).length kv] 112)).grownBy w1 (.slice Ga c.asg.length ca : Value).ownBlock) (ho : w1.ownsRow w.heap.size 112 2 v' (c.asg.length + 1) (rowC asgV c.asg vs ++ [.string T, .slice Av (valT ⟨p0, [], w0, n0⟩).length kv])) => SmB.pushA (nm := n0) (by decide) (by decide) (by decide) (by decide) (by decide) B hvs hown rb ri ro HBn.out hk (by rw [HTT.out]; exact ho) HHU.out)
                    have HHO := Lib.hid hown
                    have hwz : w.heap.size ≤ wb.heap.size := HSb.out.1.size
                    clear B hvs rb ri ro hown
                    go_upto_region 23 with (at_builtin; refine wpList_append_lies _ rfl _ _ _ rfl w.heap.size 112 ja _ 2 40 Try.underlying106 hja hja0 hja1 hja2 rfl (by omega) _ c.asg.length (rowC asgV c.asg vs) (by rfl) (HHO.out.alloc _) ⟨wb.heap.size, 0, none⟩ 1 1 [.string T, .slice Av (valT ⟨p0, [], w0, n0⟩).length kv] rfl rfl (World.news_of_block (cs := #[.string T, .slice Av (valT ⟨p0, [], w0, n0⟩).length kv]) (t := 112) (fr := (0, 0)) (heap_alloc_new wb _)) (by simp [Value.oneCell']) (by omega) (by unfold maxLen; omega) (by omega) (by simp; omega) (wb.heap.size + 1) (by simp) ?_; intro gg cap w3 hown3 hgrow3 hat hlt3; have HP3 := Lib.hid (HPU.out _ _ hgrow3 hown3); have HG3 := Lib.hid hgrow3; have y0 := HP3.out.2.cell 0; have fy0 := HP3.out.2.frozen 0; simp only [List.getElem?_toArray, List.getElem?_cons_zero, List.getElem?_cons_succ] at y0; clear hown3 hgrow3 hat hlt3)
                    have HSe := Lib.hid (RsS.push HSb.out (.inl rfl) HHO.out HBn.out HG3.out HP3.out.2 HP3.out.1)
                    clear HSb HHO HBn HG3 HP3 HPU HHU y0 fy0 t0 t2 t3 t4
                    have HSe' := HSe.out
                    generalize (w3.setCell ⟨w.heap.size + 1 + 1 + 1, 0, none⟩ _) = we at *
                    have HSe := Lib.hid HSe'
                    clear HSe'
                    obtain ⟨Aa, ka, Ab, kb, Ai, ki, Ao, ko, x0, x1, fx0, fx1, y0, y1, y2, y3, y4, fy⟩ := HSe.out.cells
                    go_wp2_with (go_at_call 46; refine (rest_ref _ _ _ _ en HSe.out.2.2.1 (by first | (simp; done) | (simp at hl ⊢; omega))).mono ?_; rintro e wf ⟨v3, rfl, hv3, kf1⟩; obtain ⟨A3, k3, rfl, hk3⟩ := RowRd.form hv3; have HSf := Lib.hid (HSe.out.next kf1); have HSg := Lib.hid (HSf.out.box hv3); obtain ⟨Aa, ka, Ab, kb, Ai, ki, Ao, ko, x0, x1, fx0, fx1, y0, y1, y2, y3, y4, fy⟩ := HSf.out.cells)
                    go_roundg (ts.length + 1)
                    case rel => exact ⟨_, ts, _, HSg.out, rfl, by simp at hl; omega, HT2.out, HAP.out, by simp; omega, hcw, HR2.out⟩
                    case measure => simp at hgk; omega
                · have HCW := Lib.hid hcw0
                  have ecw : ((c.words.length : Int) == 0) = false := beq_false_of_ne (by have := List.length_pos_iff.2 hcw0; omega)
                  clear hcw0
                  obtain ⟨T, hT⟩ : ∃ T, bs n0 = T := ⟨_, rfl⟩
                  have tT : T.toList.isEmpty = false := by rw [← hT]; exact iseF hn0
                  have HTT := Lib.hid hT
                  have HN0 := Lib.hid hn0
                  have HWD := Lib.hid (ht0.2.2.2.2 rfl)
                  have HT2 := Lib.hid (show ∀ t ∈ ts, TkOk 100000 t from fun t h => HT.out t (List.mem_cons_of_mem _ h))
                  obtain ⟨b, o, kk, u1, u2, hv, hkk, hbl, hu1, hu2, q0, q1, q2, q3, q4⟩ := HS.out.2.2.1.hd
                  dsimp only at q3
                  rw [hT] at q3
                  clear hT
                  injection hv with hA hn1 hk1
                  subst hA hk1
                  dsimp only at q1 q3
                  rw [show bs ([] : Bs) = ⟨#[]⟩ from rfl] at q1
                  obtain ⟨Au, ku, rfl, hku⟩ := Rd.form hu1
                  obtain ⟨Av, kv, rfl, hkv⟩ := Rd.form hu2
                  have HU1 := Lib.hid hu1
                  have HU2 := Lib.hid hu2
                  clear ht0 hu1 hu2 hn1
                  go_upto_region 16 with (go_at_call 45; refine (next_ref _ _ _ en HS.out.2.2.1).mono ?_; rintro e wa ⟨rfl, ka1⟩; rw [show bs (nextS (⟨p0, [], w0, n0⟩ :: ts)) = ⟨#[]⟩ from rfl]; have HSa := Lib.hid (HS.out.next ka1); obtain ⟨Aa, ka, Ab, kb, Ai, ki, Ao, ko, x0, x1, fx0, fx1, y0, y1, y2, y3, y4, fy⟩ := HSa.out.cells; have r0 := ((bcell ka1).1 b o hbl).trans q0; have r1 := ((bcell ka1).1 b (o + 1) hbl).trans q1; have r2 := ((bcell ka1).1 b (o + 2) hbl).trans q2; have r3 := ((bcell ka1).1 b (o + 3) hbl).trans q3; have r4 := ((bcell ka1).1 b (o + 4) hbl).trans q4)
                  have HBa := Lib.hid ((Below.refl wa.heap.size wa).alloc (Nat.le_refl _) (.cells #[.int .i64 (p0 : Int), .string ⟨#[]⟩, .slice Au w0.length ku, .string T, .slice Av (valT ⟨p0, [], w0, n0⟩).length kv] 134))
                  have HSb := Lib.hid (HSa.out.next HBa.out)
                  have HV1 := Lib.hid ((HU1.out.next ka1).next HBa.out)
                  have HV2 := Lib.hid ((HU2.out.next ka1).next HBa.out)
                  have HTB := Lib.hid (Blk.new wa 134 #[.int .i64 (p0 : Int), .string ⟨#[]⟩, .slice Au w0.length ku, .string T, .slice Av (valT ⟨p0, [], w0, n0⟩).length kv])
                  have htb : w.heap.size + 1 + 1 + 1 < wa.heap.size := HSa.out.2.2.2.2.2.lt
                  clear HS HSa HU1 HU2 HBa x0 x1 fx0 fx1 y0 y1 y2 y3 y4 fy q0 q1 q2 q3 q4 r0 r1 r2 r3 r4 ka1
                  generalize (wa.alloc (.cells #[.int .i64 (p0 : Int), .string ⟨#[]⟩, .slice Au w0.length ku, .string T, .slice Av (valT ⟨p0, [], w0, n0⟩).length kv] 134)) = wb at *
                  generalize wa.heap.size = tb at *
                  have t0 : wb.cell? ⟨tb, 0, none⟩ = some (.int .i64 (p0 : Int)) := HTB.out.cell 0
                  have t2 : wb.cell? ⟨tb, 2, none⟩ = some (.slice Au w0.length ku) := HTB.out.cell 2
                  have t3 : wb.cell? ⟨tb, 3, none⟩ = some (.string T) := HTB.out.cell 3
                  have t4 : wb.cell? ⟨tb, 4, none⟩ = some (.slice Av (valT ⟨p0, [], w0, n0⟩).length kv) := HTB.out.cell 4
                  obtain ⟨Aa, ka, Ab, kb, Ai, ki, Ao, ko, x0, x1, fx0, fx1, y0, y1, y2, y3, y4, fy⟩ := HSb.out.cells
                  by_cases h32 : c.words.length = 32
                  · have HR2 := Lib.hid (HR.out.trans ((simS_wd en p0 w0 n0 ts c HWD.out (.inr HCW.out)).trans (if_pos h32)))
                    have e32 : ((c.words.length : Int) == 32) = true := by rw [h32]; rfl
                    clear h32
                    have z0 : wb.cell? ⟨w.heap.size + 1, 0, none⟩ = some (.slice none 0 0) := HSb.out.2.2.2.1.cell 0
                    have z1 : wb.cell? ⟨w.heap.size + 1, 1, none⟩ = some (.slice none 0 0) := HSb.out.2.2.2.1.cell 1
                    have z2 : wb.cell? ⟨w.heap.size + 1, 2, none⟩ = some (.slice none 0 0) := HSb.out.2.2.2.1.cell 2
                    have z3 : wb.cell? ⟨w.heap.size + 1, 3, none⟩ = some (.slice none 0 0) := HSb.out.2.2.2.1.cell 3
                    have z4 : wb.cell? ⟨w.heap.size + 1, 4, none⟩ = some (.bool false) := HSb.out.2.2.2.1.cell 4
                    have fz := HSb.out.2.2.2.1.frozen
                    have g0 : wb.cell? ⟨w.heap.size + 1 + 1, 0, none⟩ = some (.slice none 0 0) := HSb.out.2.2.2.2.1.cell 0
                    have g1 : wb.cell? ⟨w.heap.size + 1 + 1, 1, none⟩ = some (.int .i64 0) := HSb.out.2.2.2.2.1.cell 1
                    have fg := HSb.out.2.2.2.2.1.frozen
                    have fz0 := fz 0
                    have fz1 := fz 1
                    have fz2 := fz 2
                    have fz3 := fz 3
                    have fz4 := fz 4
                    have fg0 := fg 0
                    have fg1 := fg 1
                    have n1 : ¬ tb = w.heap.size + 1 := by omega
                    have n2 : ¬ w.heap.size + 1 = tb := by omega
                    have n3 : ¬ tb = w.heap.size + 1 + 1 := by omega
                    have n4 : ¬ w.heap.size + 1 + 1 = tb := by omega
                    clear fz fg fy
                    go_wp2
                    go_region
                    have HS0 : RsS w en (.slice (some ⟨b, o, none⟩) (ts.length + 1) k1) (⟨p0, [], w0, n0⟩ :: ts) c wb := HSb.out
                    obtain ⟨d1, d2, d3, d4, d5⟩ := HS0.done y0 y1 y2 y3
                    generalize (((((((wb.setCell ⟨w.heap.size + 1, 0, none⟩ (.slice Aa c.asg.length ka)).setCell ⟨w.heap.size + 1, 1, none⟩ (.slice Ab c.words.length kb)).setCell ⟨w.heap.size + 1, 2, none⟩ (.slice Ai c.inn.length ki)).setCell ⟨w.heap.size + 1, 3, none⟩ (.slice Ao c.out.length ko)).setCell ⟨w.heap.size + 1, 4, none⟩ (.bool c.app)).setCell ⟨w.heap.size + 1 + 1, 0, none⟩ (.slice (some ⟨b, o, none⟩) (ts.length + 1) k1)).setCell ⟨w.heap.size + 1 + 1, 1, none⟩ (.int .i64 (en : Int))).drew = wz at d1 d2 d3 d4 d5 ⊢
                    have r0 := d4.cell 0
                    have r1 := d4.cell 1
                    have r2 := d4.cell 2
                    have r3 := d4.cell 3
                    have r4 := d4.cell 4
                    have s0 := d5.cell 0
                    have s1 := d5.cell 1
                    simp at r0 r1 r2 r3 r4 s0 s1
                    go_wp2
                    refine bodyPost_ret (v := .tuple #[.agg #[.slice Aa c.asg.length ka, .slice Ab c.words.length kb, .slice Ai c.inn.length ki, .slice Ao c.out.length ko, .bool c.app], .agg #[.slice (some ⟨b, o, none⟩) (ts.length + 1) k1, .int .i64 (en : Int)], .int .i64 9, .int .i64 (p0 : Int)]) (by simp [results, Try.results81, go_sem, r0, r1, r2, r3, r4, s0, s1]) rfl ?_
                    rw [HR2.out]
                    exact ⟨_, _, _, _, _, _, _, _, _, _, _, _, _, _, _, _, rfl, by decide, d3⟩
                  · have HR2 := Lib.hid (HR.out.trans ((simS_wd en p0 w0 n0 ts c HWD.out (.inr HCW.out)).trans (if_neg h32)))
                    have e32 : ((c.words.length : Int) == 32) = false := beq_false_of_ne (by omega)
                    clear x0 x1 fx0 fx1 y0 y1 y2 y3 y4 fy
                    obtain ⟨va, vb, vi, vo, B, ra, rb, ri, ro⟩ := HSb.out.2.2.2.2.2
                    obtain ⟨Aa, ka, rfl, _⟩ := RowRd.form ra.rd
                    obtain ⟨vs, hvs, hown⟩ := rb
                    obtain ⟨Ga, ca, rfl, hca2⟩ := own_len hown
                    have y1 := B.cell 1
                    have fy1 := B.frozen 1
                    have y0 := B.cell 0
                    simp only [List.getElem?_toArray, List.getElem?_cons_zero, List.getElem?_cons_succ] at y0 y1
                    have HBn := Lib.hid ((Below.refl wb.heap.size wb).alloc (Nat.le_refl _) (.cells #[.slice Au w0.length ku] 39))
                    have HHU := Lib.hid (HV1.out.next HBn.out)
                    have HPU := Lib.hid (fun (v' : Value) (w1 : World) (hk : (wb.alloc (.cells #[.slice Au w0.length ku] 39)).grownBy w1 (.slice Ga c.words.length ca : Value).ownBlock) (ho : w1.ownsRow w.heap.size 39 1 v' (c.words.length + 1) (rowC wdV c.words vs ++ [.slice Au w0.length ku])) => SmB.pushW (by decide) (by decide) (by decide) (by decide) (by decide) B hvs hown ra ri ro HBn.out hk ho HHU.out)
                    have HHO := Lib.hid hown
                    have hwz : w.heap.size ≤ wb.heap.size := HSb.out.1.size
                    clear B hvs ra ri ro hown
                    go_upto_region 23 with (at_builtin; refine wpList_append_lies _ rfl _ _ _ rfl w.heap.size 39 jw _ 1 24 Try.underlying107 hjw hjw0 hjw1 hjw2 rfl (by omega) _ c.words.length (rowC wdV c.words vs) (by rfl) (HHO.out.alloc _) ⟨wb.heap.size, 0, none⟩ 1 1 [.slice Au w0.length ku] rfl rfl (World.news_of_block (cs := #[.slice Au w0.length ku]) (t := 39) (fr := (0, 0)) (heap_alloc_new wb _)) (by simp [Value.oneCell']) (by omega) (by unfold maxLen; omega) (by omega) (by simp; omega) (wb.heap.size + 1) (by simp) ?_; intro gg cap w3 hown3 hgrow3 hat hlt3; have HP3 := Lib.hid (HPU.out _ _ hgrow3 hown3); have HG3 := Lib.hid hgrow3; have y1 := HP3.out.2.cell 1; have fy1 := HP3.out.2.frozen 1; simp only [List.getElem?_toArray, List.getElem?_cons_zero, List.getElem?_cons_succ] at y1; clear hown3 hgrow3 hat hlt3)
                    have HSe := Lib.hid (RsS.push HSb.out (.inr rfl) HHO.out HBn.out HG3.out HP3.out.2 HP3.out.1)
                    clear HSb HHO HBn HG3 HP3 HPU HHU y1 fy1 t0 t2 t3 t4
                    have HSe' := HSe.out
                    generalize (w3.setCell ⟨w.heap.size + 1 + 1 + 1, 1, none⟩ _) = we at *
                    have HSe := Lib.hid HSe'
                    clear HSe'
                    obtain ⟨Aa, ka, Ab, kb, Ai, ki, Ao, ko, x0, x1, fx0, fx1, y0, y1, y2, y3, y4, fy⟩ := HSe.out.cells
                    go_wp2_with (go_at_call 46; refine (rest_ref _ _ _ _ en HSe.out.2.2.1 (by first | (simp; done) | (simp at hl ⊢; omega))).mono ?_; rintro e wf ⟨v3, rfl, hv3, kf1⟩; obtain ⟨A3, k3, rfl, hk3⟩ := RowRd.form hv3; have HSf := Lib.hid (HSe.out.next kf1); have HSg := Lib.hid (HSf.out.box hv3); obtain ⟨Aa, ka, Ab, kb, Ai, ki, Ao, ko, x0, x1, fx0, fx1, y0, y1, y2, y3, y4, fy⟩ := HSf.out.cells)
                    go_roundg (ts.length + 1)
                    case rel => exact ⟨_, ts, _, HSg.out, rfl, by simp at hl; omega, HT2.out, HAP.out, hca, by simp; omega, HR2.out⟩
                    case measure => simp at hgk; omega
            ·
              have hw0 := (ht0.2.2.2.1 hoe).1
              obtain ⟨T, hT⟩ : ∃ T, bs o0 = T := ⟨_, rfl⟩
              have HTT := Lib.hid hT
              have tT : T.toList.isEmpty = false := by rw [← hT]; exact iseF hoe
              have t60 : (T.toList == [60]) = false := by rw [← hT]; exact neqF h60
              have t62 : (T.toList == [62]) = false := by rw [← hT]; exact neqF h62
              have t66 : (T.toList == [62, 62]) = false := by rw [← hT]; exact neqF h6262
              have HBRK := Lib.hid (simS_brk en p0 o0 w0 n0 ts c h60 h62 h6262 hw0)
              clear hT hw0 h60 h62 h6262 hoe ht0
              go_upto_region 24 with (go_at_call 45; refine (next_ref _ _ _ en HS.out.2.2.1).mono ?_; rintro e wa ⟨rfl, ka1⟩; rw [show bs (nextS (⟨p0, o0, w0, n0⟩ :: ts)) = T from HTT.out]; have HSa := Lib.hid (HS.out.next ka1); obtain ⟨Aa, ka, Ab, kb, Ai, ki, Ao, ko, x0, x1, fx0, fx1, y0, y1, y2, y3, y4, fy⟩ := HSa.out.cells)
              clear HS ka1
              have z0 : wa.cell? ⟨w.heap.size + 1, 0, none⟩ = some (.slice none 0 0) := HSa.out.2.2.2.1.cell 0
              have z1 : wa.cell? ⟨w.heap.size + 1, 1, none⟩ = some (.slice none 0 0) := HSa.out.2.2.2.1.cell 1
              have z2 : wa.cell? ⟨w.heap.size + 1, 2, none⟩ = some (.slice none 0 0) := HSa.out.2.2.2.1.cell 2
              have z3 : wa.cell? ⟨w.heap.size + 1, 3, none⟩ = some (.slice none 0 0) := HSa.out.2.2.2.1.cell 3
              have z4 : wa.cell? ⟨w.heap.size + 1, 4, none⟩ = some (.bool false) := HSa.out.2.2.2.1.cell 4
              have fz := HSa.out.2.2.2.1.frozen
              have g0 : wa.cell? ⟨w.heap.size + 1 + 1, 0, none⟩ = some (.slice none 0 0) := HSa.out.2.2.2.2.1.cell 0
              have g1 : wa.cell? ⟨w.heap.size + 1 + 1, 1, none⟩ = some (.int .i64 0) := HSa.out.2.2.2.2.1.cell 1
              have fg := HSa.out.2.2.2.2.1.frozen
              have fz0 := fz 0
              have fz1 := fz 1
              have fz2 := fz 2
              have fz3 := fz 3
              have fz4 := fz 4
              have fg0 := fg 0
              have fg1 := fg 1
              have L5 : IntKind.i64.wrap ((c.asg.length : Int) + (c.words.length : Int)) = (c.asg.length : Int) + (c.words.length : Int) := IntWalk.i64_in _ (by omega)
              cases hsn : smNone c with
              | true =>
                have HR2 := Lib.hid (HR.out.trans (HBRK.out.trans (if_pos hsn)))
                have e5 : ((c.asg.length : Int) + (c.words.length : Int) == 0) = true := by
                  unfold smNone at hsn
                  rw [Bool.and_eq_true, List.isEmpty_iff, List.isEmpty_iff] at hsn
                  rw [hsn.1, hsn.2]; rfl
                clear hsn fz fg fy
                go_upto_region 25 with (fail)
                refine wp_region_noPanic ?_
                refine wp_region_held_drew (S := (fun w' => w'.cell? ⟨w.heap.size, 0, none⟩ = some (.slice A1 (ts.length + 1) k1) ∧ w'.cell? ⟨w.heap.size, 1, none⟩ = some (.int .i64 (en : Int)) ∧ w'.cell? ⟨w.heap.size + 1 + 1 + 1, 0, none⟩ = some (.slice Aa c.asg.length ka) ∧ w'.cell? ⟨w.heap.size + 1 + 1 + 1, 1, none⟩ = some (.slice Ab c.words.length kb) ∧ w'.cell? ⟨w.heap.size + 1 + 1 + 1, 2, none⟩ = some (.slice Ai c.inn.length ki) ∧ w'.cell? ⟨w.heap.size + 1 + 1 + 1, 3, none⟩ = some (.slice Ao c.out.length ko) ∧ w'.cell? ⟨w.heap.size + 1 + 1 + 1, 4, none⟩ = some (.bool c.app))) (by kernel_rfl) ?_ (fun hHeld => ?_)
                · exact ⟨x0, x1, y0, y1, y2, y3, y4⟩
                refine wpAnyH_take (i := 0) (v := ?_) rfl (by kernel_rfl) (by kernel_rfl) (by kernel_rfl) (fun _ _ _ h => h) (Or.inl ⟨by kernel_rfl, ?_⟩) hHeld ?_
                rotate_left
                · (intro w hSw; (try dsimp only at hSw); go_simp; try with_reducible rfl)
                try simp only [Act.put, List.setIfInBounds_toArray, List.set_cons_zero, List.set_cons_succ]
                refine wpAnyH_take (i := 1) (v := ?_) rfl (by kernel_rfl) (by kernel_rfl) (by kernel_rfl) (fun _ _ _ h => h) (Or.inl ⟨by kernel_rfl, ?_⟩) hHeld ?_
                rotate_left
                · (intro w hSw; (try dsimp only at hSw); go_simp; try with_reducible rfl)
                try simp only [Act.put, List.setIfInBounds_toArray, List.set_cons_zero, List.set_cons_succ]
                refine wpAnyH_take (i := 2) (v := ?_) rfl (by kernel_rfl) (by kernel_rfl) (by kernel_rfl) (fun _ _ _ h => h) (Or.inl ⟨by kernel_rfl, ?_⟩) hHeld ?_
                rotate_left
                · (intro w hSw; (try dsimp only at hSw); go_simp; try with_reducible rfl)
                try simp only [Act.put, List.setIfInBounds_toArray, List.set_cons_zero, List.set_cons_succ]
                refine wpAnyH_ready (rs := [3]) (by kernel_rfl) (by simp) ?_
                refine AllReadyH.cons rfl (fun K hK => ?_) AllReadyH.nil
                go_simp
                go_at_call 47; refine (place_ref wa.drew (.slice A1 (ts.length + 1) k1) (⟨p0, o0, w0, n0⟩ :: ts) en (show RdK wa.drew (.slice A1 (ts.length + 1) k1) (⟨p0, o0, w0, n0⟩ :: ts) from HSa.out.2.2.1)).mono ?_; rintro e wp ⟨rfl, kp0⟩; have kp : Below wa.heap.size wa wp := ((Below.refl wa.heap.size wa).drew).trans kp0; have HSp := Lib.hid (HSa.out.next (w' := wp) kp); have bx := HSp.out.2.1; have xx0 : wp.cell? ⟨w.heap.size, 0, none⟩ = some (.slice A1 (ts.length + 1) k1) := bx.cell 0; have xx1 : wp.cell? ⟨w.heap.size, 1, none⟩ = some (.int .i64 (en : Int)) := bx.cell 1; have hb3 := HSa.out.2.2.2.2.2.lt; have yy0 := ((bcell kp).1 (w.heap.size + 1 + 1 + 1) 0 hb3).trans y0; have yy1 := ((bcell kp).1 (w.heap.size + 1 + 1 + 1) 1 hb3).trans y1; have yy2 := ((bcell kp).1 (w.heap.size + 1 + 1 + 1) 2 hb3).trans y2; have yy3 := ((bcell kp).1 (w.heap.size + 1 + 1 + 1) 3 hb3).trans y3; have yy4 := ((bcell kp).1 (w.heap.size + 1 + 1 + 1) 4 hb3).trans y4; have bz := HSp.out.2.2.2.1; have z0 := bz.cell 0; have z1 := bz.cell 1; have z2 := bz.cell 2; have z3 := bz.cell 3; have z4 := bz.cell 4; have fz0 := bz.frozen 0; have fz1 := bz.frozen 1; have fz2 := bz.frozen 2; have fz3 := bz.frozen 3; have fz4 := bz.frozen 4; have bg := HSp.out.2.2.2.2.1; have g0 := bg.cell 0; have g1 := bg.cell 1; have fg0 := bg.frozen 0; have fg1 := bg.frozen 1
                try (go_wp2_with fail)
                refine hK.out _ _ ?_ (fun hNew => ?_)
                · exact ⟨xx0, xx1, yy0, yy1, yy2, yy3, yy4⟩
                clear hK K hHeld
                have hHeld := hNew
                clear hNew
                try simp only [Act.put, List.setIfInBounds_toArray, List.set_cons_zero, List.set_cons_succ]
                refine wpAnyH_ready (rs := [4]) (by kernel_rfl) (by simp) ?_
                refine AllReadyH.cons rfl (fun K hK => ?_) AllReadyH.nil
                go_simp
                refine hK.out _ _ ?_ (fun hNew => ?_)
                · go_keep
                clear hK K hHeld
                have hHeld := hNew
                clear hNew
                try simp only [Act.put, List.setIfInBounds_toArray, List.set_cons_zero, List.set_cons_succ]
                refine wpAnyH_ready (rs := [5]) (by kernel_rfl) (by simp) ?_
                refine AllReadyH.cons rfl (fun K hK => ?_) AllReadyH.nil
                go_simp
                refine hK.out _ _ ?_ (fun hNew => ?_)
                · exact ⟨((cell_far (by dsimp only; omega)).trans (cell_far (by dsimp only; omega))).trans hHeld.1, ((cell_far (by dsimp only; omega)).trans (cell_far (by dsimp only; omega))).trans hHeld.2.1, ((cell_far (by dsimp only; omega)).trans (cell_far (by dsimp only; omega))).trans hHeld.2.2.1, ((cell_far (by dsimp only; omega)).trans (cell_far (by dsimp only; omega))).trans hHeld.2.2.2.1, ((cell_far (by dsimp only; omega)).trans (cell_far (by dsimp only; omega))).trans hHeld.2.2.2.2.1, ((cell_far (by dsimp only; omega)).trans (cell_far (by dsimp only; omega))).trans hHeld.2.2.2.2.2.1, ((cell_far (by dsimp only; omega)).trans (cell_far (by dsimp only; omega))).trans hHeld.2.2.2.2.2.2⟩
                clear hK K hHeld
                have hHeld := hNew
                clear hNew
                try simp only [Act.put, List.setIfInBounds_toArray, List.set_cons_zero, List.set_cons_succ]
                refine wpAnyH_take (i := 6) (v := ?_) rfl (by kernel_rfl) (by kernel_rfl) (by kernel_rfl) (fun _ _ _ h => h) (Or.inl ⟨by kernel_rfl, ?_⟩) hHeld ?_
                rotate_left
                · (intro w hSw; (try dsimp only at hSw); go_simp; try with_reducible rfl)
                try simp only [Act.put, List.setIfInBounds_toArray, List.set_cons_zero, List.set_cons_succ]
                refine wpAnyH_take (i := 7) (v := ?_) rfl (by kernel_rfl) (by kernel_rfl) (by kernel_rfl) (fun _ _ _ h => h) (Or.inl ⟨by kernel_rfl, ?_⟩) hHeld ?_
                rotate_left
                · (intro w hSw; (try dsimp only at hSw); go_simp; try with_reducible rfl)
                try simp only [Act.put, List.setIfInBounds_toArray, List.set_cons_zero, List.set_cons_succ]
                refine wpAnyH_done (by kernel_rfl) ?_ _
                clear hHeld
                simp only [List.getElem_toArray, List.getElem_cons_zero, List.getElem_cons_succ, Act.put, List.setIfInBounds_toArray, List.set_cons_zero, List.set_cons_succ]
                refine NoPanic.normal ?_
                have HS0 : RsS w en (.slice A1 (ts.length + 1) k1) (⟨p0, o0, w0, n0⟩ :: ts) c wp := HSp.out
                obtain ⟨_, _, d6, d7, d8⟩ := HS0.done0 yy0 yy1 yy2 yy3
                generalize (((((((wp.setCell ⟨w.heap.size + 1, 0, none⟩ (.slice Aa c.asg.length ka)).setCell ⟨w.heap.size + 1, 1, none⟩ (.slice Ab c.words.length kb)).setCell ⟨w.heap.size + 1, 2, none⟩ (.slice Ai c.inn.length ki)).setCell ⟨w.heap.size + 1, 3, none⟩ (.slice Ao c.out.length ko)).setCell ⟨w.heap.size + 1, 4, none⟩ (.bool c.app)).setCell ⟨w.heap.size + 1 + 1, 0, none⟩ (.slice A1 (ts.length + 1) k1)).setCell ⟨w.heap.size + 1 + 1, 1, none⟩ (.int .i64 (en : Int))) = wz at d6 d7 d8 ⊢
                have r0 := d7.cell 0
                have r1 := d7.cell 1
                have r2 := d7.cell 2
                have r3 := d7.cell 3
                have r4 := d7.cell 4
                have s0 := d8.cell 0
                have s1 := d8.cell 1
                simp at r0 r1 r2 r3 r4 s0 s1
                go_wp2
                refine bodyPost_ret (v := .tuple #[.agg #[.slice Aa c.asg.length ka, .slice Ab c.words.length kb, .slice Ai c.inn.length ki, .slice Ao c.out.length ko, .bool c.app], .agg #[.slice A1 (ts.length + 1) k1, .int .i64 (en : Int)], .int .i64 30, .int .i64 ((placeS en (⟨p0, o0, w0, n0⟩ :: ts) : Nat) : Int)]) (by simp [results, Try.results81, go_sem, r0, r1, r2, r3, r4, s0, s1]) rfl ?_
                rw [HR2.out]
                exact ⟨_, _, _, _, _, _, _, _, _, _, _, _, _, _, _, _, rfl, by decide, d6⟩
              | false =>
                have HR2 := Lib.hid (HR.out.trans (HBRK.out.trans (if_neg (by rw [hsn]; simp))))
                have e5 : ((c.asg.length : Int) + (c.words.length : Int) == 0) = false := by
                  refine beq_false_of_ne (fun h => ?_)
                  have h1 : c.asg.length = 0 := by omega
                  have h2 : c.words.length = 0 := by omega
                  unfold smNone at hsn
                  rw [List.length_eq_zero_iff.1 h1, List.length_eq_zero_iff.1 h2] at hsn
                  simp at hsn
                clear hsn fz fg fy
                go_wp2
                go_region
                have HS0 : RsS w en (.slice A1 (ts.length + 1) k1) (⟨p0, o0, w0, n0⟩ :: ts) c wa := HSa.out
                obtain ⟨d1, d2, d3, d4, d5⟩ := HS0.done y0 y1 y2 y3
                generalize (((((((wa.setCell ⟨w.heap.size + 1, 0, none⟩ (.slice Aa c.asg.length ka)).setCell ⟨w.heap.size + 1, 1, none⟩ (.slice Ab c.words.length kb)).setCell ⟨w.heap.size + 1, 2, none⟩ (.slice Ai c.inn.length ki)).setCell ⟨w.heap.size + 1, 3, none⟩ (.slice Ao c.out.length ko)).setCell ⟨w.heap.size + 1, 4, none⟩ (.bool c.app)).setCell ⟨w.heap.size + 1 + 1, 0, none⟩ (.slice A1 (ts.length + 1) k1)).setCell ⟨w.heap.size + 1 + 1, 1, none⟩ (.int .i64 (en : Int))).drew = wz at d1 d2 d3 d4 d5 ⊢
                have r0 := d4.cell 0
                have r1 := d4.cell 1
                have r2 := d4.cell 2
                have r3 := d4.cell 3
                have r4 := d4.cell 4
                have s0 := d5.cell 0
                have s1 := d5.cell 1
                simp at r0 r1 r2 r3 r4 s0 s1
                go_wp2
                refine bodyPost_ret (v := .tuple #[.agg #[.slice Aa c.asg.length ka, .slice Ab c.words.length kb, .slice Ai c.inn.length ki, .slice Ao c.out.length ko, .bool c.app], .agg #[.slice A1 (ts.length + 1) k1, .int .i64 (en : Int)], .int .i64 0, .int .i64 0]) (by simp [results, Try.results81, go_sem, r0, r1, r2, r3, r4, s0, s1]) rfl ?_
                rw [HR2.out]
                exact ⟨⟨_, _, _, _⟩, _, rfl, d1, d2, d3⟩
end Go.Proofs.Ytiddchpkmcncdaa
