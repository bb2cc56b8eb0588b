/- Walks of layer 41: line. -/
import Derived.Test.YtiddchpkmcncdaaX20
namespace Go.Proofs.Ytiddchpkmcncdaa
open Go.RowKit
set_option linter.unusedSimpArgs false
set_option linter.unusedVariables false
/-- What the loop of line keeps. -/
def LRel (w : World) (pb en N : Nat) (ts : List Tk) (gk : Nat) (v : Value) (wr : World) : Prop :=
  ∃ ps ts1 wh, v = .int .i64 wh ∧ LSt (w.alloc zL) pb (w.heap.size + 1) ts1 en 0 0 ps false wr ∧ (∀ t ∈ ts1, TkOk N t) ∧ ts1.length ≤ 90000 ∧ gk + ps.length = 17 ∧ ps.length < 16 ∧ linS en 16 ts 0 [] = linS en (16 - ps.length) ts1 wh ps
set_option maxRecDepth 100000 in
set_option maxHeartbeats 16000000 in
theorem line_any (w : World) (pb en N : Nat) (ts : List Tk) (h : PAt w pb ts en 0 0) (hne : 0 < ts.length) (hok : ∀ t ∈ ts, TkOk N t) (hN : N ≤ 90000) (hlen : ts.length ≤ 90000) :
    Calls Try.prog 41 #[ptr pb] w fun r w' => LinP w pb en ts r w' := by
  obtain ⟨i0, hi, hz0, hz1, hz2⟩ := info_parts info49
  have hf0 := field128_0
  have H0 := Lib.hid (lst_begin h)
  have HOK0 := Lib.hid hok
  have hpb := h.lt
  obtain ⟨tv, hB0, hR0⟩ := h
  obtain ⟨A0, c0, rfl, _⟩ := hR0.form
  have p0 : w.cell? ⟨pb, 0, none⟩ = some (.slice A0 ts.length c0) := hB0.cell 0
  have hn0 : ((ts.length : Int) == 0) = false := beq_false_of_ne (by omega)
  clear hok hB0 hR0
  go_enter Try.func41, Try.ntmps41
  go_wp2
  clear p0 hn0
  go_loopg [4] 17 (fun gk v wr => LRel w pb en N ts gk v wr)
  case atStart => exact ⟨[], ts, 0, rfl, H0.out, HOK0.out, hlen, rfl, by simp, rfl⟩
  case round =>
    obtain ⟨ps, ts1, wh, rfl, hL, hok1, hl1, hgk, hps16, hr⟩ := hrel
    have HOK := Lib.hid hok1
    obtain ⟨m, hm⟩ : ∃ m, 16 - ps.length = m + 1 := ⟨15 - ps.length, by omega⟩
    rw [hm] at hr
    have hm' : m + ps.length = 15 := by omega
    have HM := Lib.hid hm'
    have hgk' : gk = m + 2 := by omega
    subst hgk'
    have HRR := Lib.hid hr
    obtain ⟨hP, ⟨vp, hB, ⟨vs, hvs, hrow⟩⟩, hgr, hpl, hll⟩ := hL
    obtain ⟨Ap, cp, rfl, _⟩ := own_len hrow
    have HP := Lib.hid hP
    have HB := Lib.hid hB
    have HVS := Lib.hid hvs
    have b0 : wr.cell? ⟨w.heap.size + 1, 0, none⟩ = some (.slice Ap ps.length cp) := hB.cell 0
    have bf0 := hB.frozen 0
    have hlb0 : w.heap.size + 1 < wr.heap.size := hB.lt
    clear hok1 hr hm hgk hm' H0 HOK0 hP hB hvs
    go_upto_region 5 with (fail)
    go_region_law (first | (refine step_append_lies _ (by rfl) _ _ _ (by rfl) (w.alloc zL).heap.size 49 i0 _ 2 32 Try.underlying22 hi hz0 hz1 hz2 rfl (by omega) (.slice Ap ps.length cp) ps.length (rowC plV ps vs) (by rfl) (O2.out.alloc _) ⟨w2.heap.size, 0, none⟩ 1 1 [.int .i64 wh, .slice Aq q.length cq] (by rfl) (by rfl) (World.news_of_block (cs := #[.int .i64 wh, .slice Aq q.length cq]) (t := 49) (fr := (0, 0)) (heap_alloc_new w2 _)) (by simp [Value.oneCell']) (by omega) (by unfold maxLen; omega) (by omega) (by simp; omega) (w2.heap.size + 1) (by simp) ?_; intro gg cap w3 hown1 hgrow hat hlt1; have B3 := Lib.hid (Blk.grown (Blk.alloc B2.out _) hgrow (Ne.symm (own_blk_ne O2.out B2.out (by decide)))); have d0 : w3.cell? ⟨w.heap.size + 1, 0, none⟩ = some (.slice Ap ps.length cp) := B3.out.cell 0; have f0' := B3.out.frozen 0; have hlb3 : w.heap.size + 1 < w3.heap.size := B3.out.lt) | (go_simp; go_at_call 74; refine (pipeline_any _ pb en N ts1 (show PAt wr.drew pb ts1 en 0 0 from HP.out) HOK.out hN hl1).mono ?_; rintro e w2 ⟨vq, q, rfl, hrd, hg2, halt⟩; have HALT := Lib.hid halt; have HRD := Lib.hid hrd; have K2 := Lib.hid (PAt.kept (show PAt wr.drew pb ts1 en 0 0 from HP.out) hg2); have B2 := Lib.hid (Blk.keep (Blk.drew HB.out) K2.out rfl); have O2 := Lib.hid (own_keep hrow.drew K2.out rfl); have hgr2 := grown_trans (only_drew hgr) hg2; have x0 : w2.cell? ⟨w.heap.size + 1, 0, none⟩ = some (.slice Ap ps.length cp) := B2.out.cell 0; have xf0 := B2.out.frozen 0; have hlb2 : w.heap.size + 1 < w2.heap.size := B2.out.lt; obtain ⟨Aq, cq, rfl, _⟩ := hrd.form; clear halt hrd hg2))
    all_goals
      rcases HALT.out with ⟨ts2, hps, hp2⟩ | ⟨qq, e0, hps, he0, hp2⟩
      · have HPS := Lib.hid hps
        have hlt := pip_suf en 8 ts1 [] q ts2 hps
        have HOK2 := Lib.hid (fun x hx => HOK.out x (hlt.1.mem hx) : ∀ x ∈ ts2, TkOk N x)
        have hl2 : ts2.length ≤ 90000 := by have := hlt.2; omega
        clear hps hlt HOK
        obtain ⟨u, hu⟩ : ∃ u : Tk, hdT en ts2 = u := ⟨_, rfl⟩
        have HU := Lib.hid hu
        clear hu
        have HL := Lib.hid (LSt.push (q := ⟨wh, q⟩) hp2 B2.out (RowW.imp HVS.out (fun _ _ h => NP.keep (w := wr.drew) h K2.out rfl rfl rfl rfl)) O2.out hgr2 hpl hll ((Below.refl _ _).alloc (Nat.le_refl _) _) hgrow hown1 HRD.out)
        clear hown1 hgrow b0 bf0 x0 xf0 d0 f0' hp2 B2 O2 K2 HRD HALT HB HP HVS hrow hgr hgr2 B3 hlb2
        go_upto_region 6 with (fail)
        have HL1 := Lib.hid HL.out.1
        clear HL
        generalize w3.setCell ⟨w.heap.size + 1, 0, none⟩ (.slice (some ⟨gg, 0, none⟩) (ps.length + 1) cap) = wb at *
        clear hlb3 hlt1 hat
        go_wp2_with fail
        refine (take_hd _ pb ts2 en _ _ u HU.out HL1.out.1 (Nat.le_trans hl2 (by decide))).mono ?_
        rintro e w4 ⟨v4, rfl, hv4, hp4, hg4⟩
        unfold tokA
        obtain ⟨A4, c4, rfl, _⟩ := Rd.form hv4
        have HL4 := Lib.hid ((HL1.out.par hg4 hp4).next ((Below.refl _ _).alloc (Nat.le_refl _) (.cells #[.int .i64 (u.pos : Int), .string (bs u.op), .slice A4 u.word.length c4, .string (bs u.name)] 128)))
        have HT4 := Lib.hid (Blk.new w4 128 #[.int .i64 (u.pos : Int), .string (bs u.op), .slice A4 u.word.length c4, .string (bs u.name)])
        clear hv4 hp4 hg4 HL1
        go_upto_region 7 with (fail)
        generalize (w4.alloc (.cells #[.int .i64 (u.pos : Int), .string (bs u.op), .slice A4 u.word.length c4, .string (bs u.name)] 128)) = wc at *
        generalize w4.heap.size = tb at *
        have t0 : wc.cell? ⟨tb, 0, none⟩ = some (.int .i64 (u.pos : Int)) := HT4.out.cell 0
        have t1 : wc.cell? ⟨tb, 1, none⟩ = some (.string (bs u.op)) := HT4.out.cell 1
        have htb : tb < wc.heap.size := HT4.out.lt
        by_cases o0 : u.op = [59]
        · have k0 : ((bs u.op).toList == [59]) = true := by rw [bs_tl]; simpa using o0
          obtain ⟨t, r, ht, hto⟩ := hd_bar en ts2 [59] (by simp) (by rw [HU.out]; exact o0)
          subst ht
          obtain rfl : t = u := HU.out
          have HSEP := Lib.hid (show isSep t.op from .inl hto)
          have HWO := Lib.hid (show whOf t.op = 0 by rw [hto]; rfl)
          clear hto o0
          obtain ⟨Al, cl, hB, hN4⟩ := ln_cells HL4.out
          have HB := Lib.hid hB
          have HN4 := Lib.hid hN4
          have hR := ln_res HL4.out hpb
          have HR := Lib.hid hR
          have b0 := hB.cell 0
          have b1 := hB.cell 1
          simp only [List.getElem?_toArray, List.getElem?_cons_zero, List.getElem?_cons_succ, List.length_append, List.length_cons, List.length_nil, Nat.zero_add] at b0 b1
          have bf0 := hB.frozen 0
          have bf1 := hB.frozen 1
          have r0 : wc.cell? ⟨w.heap.size, 0, none⟩ = some (.slice none 0 0) := hR.cell 0
          have r1 : wc.cell? ⟨w.heap.size, 1, none⟩ = some (.bool false) := hR.cell 1
          have rf0 := hR.frozen 0
          have rf1 := hR.frozen 1
          have hlb : w.heap.size + 1 < wc.heap.size := hB.lt
          have hrb : w.heap.size < wc.heap.size := hR.lt
          clear hB hN4 hR
          by_cases hm0 : m = 0
          · subst hm0
            have HRE := Lib.hid (HRR.out.trans (lin_full en ts1 wh ps q t r HPS.out HSEP.out))
            have hl16 : ((ps.length : Int) + 1 == 16) = true := beq_iff_eq.2 (by have := HM.out; omega)
            go_wp2_with fail
            refine (pfail_first _ pb r en 0 t.pos 9 HL4.out.1).mono ?_
            rintro e w6 ⟨rfl, hp6, hg6⟩
            have HL6 := Lib.hid (HL4.out.par hg6 hp6)
            clear hp6 hg6 HB HN4 HR b0 b1 bf0 bf1 r0 r1 rf0 rf1 hlb hrb t0 t1 htb
            obtain ⟨Al, cl, hB, hN4⟩ := ln_cells HL6.out
            have HB := Lib.hid hB
            have HN4 := Lib.hid hN4
            have hR := ln_res HL6.out hpb
            have HR := Lib.hid hR
            have b0 := hB.cell 0
            have b1 := hB.cell 1
            simp only [List.getElem?_toArray, List.getElem?_cons_zero, List.getElem?_cons_succ, List.length_append, List.length_cons, List.length_nil, Nat.zero_add] at b0 b1
            have bf0 := hB.frozen 0
            have bf1 := hB.frozen 1
            have r0 : w6.cell? ⟨w.heap.size, 0, none⟩ = some (.slice none 0 0) := hR.cell 0
            have r1 : w6.cell? ⟨w.heap.size, 1, none⟩ = some (.bool false) := hR.cell 1
            have rf0 := hR.frozen 0
            have rf1 := hR.frozen 1
            have hlb : w.heap.size + 1 < w6.heap.size := hB.lt
            have hrb : w.heap.size < w6.heap.size := hR.lt
            clear hB hN4 hR
            go_wp2
            refine bodyPost_ret (v := .agg #[.slice Al (ps.length + 1) cl, .bool false]) (by simp [results, Try.results41, go_sem, hrb, r0, r1]) rfl ?_
            refine line_bad (e := 9) HRE.out (by decide) HL6.out (by have h9 := HN4.out; simp only [List.length_append, List.length_cons, List.length_nil, Nat.zero_add] at h9; exact h9) HR.out ?_
            repeat' first | with_reducible exact World.grownBy.refl _ _ | (refine only_setCell ?_ (.inl rfl) _)
          · have HRE := Lib.hid (HRR.out.trans (lin_more en m ts1 wh ps q t r HPS.out HSEP.out hm0))
            have hl16 : ((ps.length : Int) + 1 == 16) = false := beq_false_of_ne (by have := HM.out; omega)
            go_wp2
            go_roundg (m + 1)
            case rel => exact ⟨ps ++ [(⟨wh, q⟩ : Pl)], r, _, rfl, HL4.out, fun x hx => HOK2.out x (List.mem_cons_of_mem _ hx), by simp at hl2; omega, by simp; have := HM.out; omega, by simp; have := HM.out; omega, by rw [HRE.out, HWO.out]; congr 1; simp; have := HM.out; omega⟩
            case measure => omega
        by_cases o1 : u.op = [38, 38]
        · have k0 : ((bs u.op).toList == [59]) = false := by rw [bs_tl]; simpa using o0
          have k1 : ((bs u.op).toList == [38, 38]) = true := by rw [bs_tl]; simpa using o1
          obtain ⟨t, r, ht, hto⟩ := hd_bar en ts2 [38, 38] (by simp) (by rw [HU.out]; exact o1)
          subst ht
          obtain rfl : t = u := HU.out
          have HSEP := Lib.hid (show isSep t.op from .inr (.inl hto))
          have HWO := Lib.hid (show whOf t.op = 1 by rw [hto]; rfl)
          clear hto o0 o1
          obtain ⟨Al, cl, hB, hN4⟩ := ln_cells HL4.out
          have HB := Lib.hid hB
          have HN4 := Lib.hid hN4
          have hR := ln_res HL4.out hpb
          have HR := Lib.hid hR
          have b0 := hB.cell 0
          have b1 := hB.cell 1
          simp only [List.getElem?_toArray, List.getElem?_cons_zero, List.getElem?_cons_succ, List.length_append, List.length_cons, List.length_nil, Nat.zero_add] at b0 b1
          have bf0 := hB.frozen 0
          have bf1 := hB.frozen 1
          have r0 : wc.cell? ⟨w.heap.size, 0, none⟩ = some (.slice none 0 0) := hR.cell 0
          have r1 : wc.cell? ⟨w.heap.size, 1, none⟩ = some (.bool false) := hR.cell 1
          have rf0 := hR.frozen 0
          have rf1 := hR.frozen 1
          have hlb : w.heap.size + 1 < wc.heap.size := hB.lt
          have hrb : w.heap.size < wc.heap.size := hR.lt
          clear hB hN4 hR
          by_cases hm0 : m = 0
          · subst hm0
            have HRE := Lib.hid (HRR.out.trans (lin_full en ts1 wh ps q t r HPS.out HSEP.out))
            have hl16 : ((ps.length : Int) + 1 == 16) = true := beq_iff_eq.2 (by have := HM.out; omega)
            go_wp2_with fail
            refine (pfail_first _ pb r en 0 t.pos 9 HL4.out.1).mono ?_
            rintro e w6 ⟨rfl, hp6, hg6⟩
            have HL6 := Lib.hid (HL4.out.par hg6 hp6)
            clear hp6 hg6 HB HN4 HR b0 b1 bf0 bf1 r0 r1 rf0 rf1 hlb hrb t0 t1 htb
            obtain ⟨Al, cl, hB, hN4⟩ := ln_cells HL6.out
            have HB := Lib.hid hB
            have HN4 := Lib.hid hN4
            have hR := ln_res HL6.out hpb
            have HR := Lib.hid hR
            have b0 := hB.cell 0
            have b1 := hB.cell 1
            simp only [List.getElem?_toArray, List.getElem?_cons_zero, List.getElem?_cons_succ, List.length_append, List.length_cons, List.length_nil, Nat.zero_add] at b0 b1
            have bf0 := hB.frozen 0
            have bf1 := hB.frozen 1
            have r0 : w6.cell? ⟨w.heap.size, 0, none⟩ = some (.slice none 0 0) := hR.cell 0
            have r1 : w6.cell? ⟨w.heap.size, 1, none⟩ = some (.bool false) := hR.cell 1
            have rf0 := hR.frozen 0
            have rf1 := hR.frozen 1
            have hlb : w.heap.size + 1 < w6.heap.size := hB.lt
            have hrb : w.heap.size < w6.heap.size := hR.lt
            clear hB hN4 hR
            go_wp2
            refine bodyPost_ret (v := .agg #[.slice Al (ps.length + 1) cl, .bool false]) (by simp [results, Try.results41, go_sem, hrb, r0, r1]) rfl ?_
            refine line_bad (e := 9) HRE.out (by decide) HL6.out (by have h9 := HN4.out; simp only [List.length_append, List.length_cons, List.length_nil, Nat.zero_add] at h9; exact h9) HR.out ?_
            repeat' first | with_reducible exact World.grownBy.refl _ _ | (refine only_setCell ?_ (.inl rfl) _)
          · have HRE := Lib.hid (HRR.out.trans (lin_more en m ts1 wh ps q t r HPS.out HSEP.out hm0))
            have hl16 : ((ps.length : Int) + 1 == 16) = false := beq_false_of_ne (by have := HM.out; omega)
            go_wp2
            go_roundg (m + 1)
            case rel => exact ⟨ps ++ [(⟨wh, q⟩ : Pl)], r, _, rfl, HL4.out, fun x hx => HOK2.out x (List.mem_cons_of_mem _ hx), by simp at hl2; omega, by simp; have := HM.out; omega, by simp; have := HM.out; omega, by rw [HRE.out, HWO.out]; congr 1; simp; have := HM.out; omega⟩
            case measure => omega
        by_cases o2 : u.op = [124, 124]
        · have k0 : ((bs u.op).toList == [59]) = false := by rw [bs_tl]; simpa using o0
          have k1 : ((bs u.op).toList == [38, 38]) = false := by rw [bs_tl]; simpa using o1
          have k2 : ((bs u.op).toList == [124, 124]) = true := by rw [bs_tl]; simpa using o2
          obtain ⟨t, r, ht, hto⟩ := hd_bar en ts2 [124, 124] (by simp) (by rw [HU.out]; exact o2)
          subst ht
          obtain rfl : t = u := HU.out
          have HSEP := Lib.hid (show isSep t.op from .inr (.inr hto))
          have HWO := Lib.hid (show whOf t.op = 2 by rw [hto]; rfl)
          clear hto o0 o1 o2
          obtain ⟨Al, cl, hB, hN4⟩ := ln_cells HL4.out
          have HB := Lib.hid hB
          have HN4 := Lib.hid hN4
          have hR := ln_res HL4.out hpb
          have HR := Lib.hid hR
          have b0 := hB.cell 0
          have b1 := hB.cell 1
          simp only [List.getElem?_toArray, List.getElem?_cons_zero, List.getElem?_cons_succ, List.length_append, List.length_cons, List.length_nil, Nat.zero_add] at b0 b1
          have bf0 := hB.frozen 0
          have bf1 := hB.frozen 1
          have r0 : wc.cell? ⟨w.heap.size, 0, none⟩ = some (.slice none 0 0) := hR.cell 0
          have r1 : wc.cell? ⟨w.heap.size, 1, none⟩ = some (.bool false) := hR.cell 1
          have rf0 := hR.frozen 0
          have rf1 := hR.frozen 1
          have hlb : w.heap.size + 1 < wc.heap.size := hB.lt
          have hrb : w.heap.size < wc.heap.size := hR.lt
          clear hB hN4 hR
          by_cases hm0 : m = 0
          · subst hm0
            have HRE := Lib.hid (HRR.out.trans (lin_full en ts1 wh ps q t r HPS.out HSEP.out))
            have hl16 : ((ps.length : Int) + 1 == 16) = true := beq_iff_eq.2 (by have := HM.out; omega)
            go_wp2_with fail
            refine (pfail_first _ pb r en 0 t.pos 9 HL4.out.1).mono ?_
            rintro e w6 ⟨rfl, hp6, hg6⟩
            have HL6 := Lib.hid (HL4.out.par hg6 hp6)
            clear hp6 hg6 HB HN4 HR b0 b1 bf0 bf1 r0 r1 rf0 rf1 hlb hrb t0 t1 htb
            obtain ⟨Al, cl, hB, hN4⟩ := ln_cells HL6.out
            have HB := Lib.hid hB
            have HN4 := Lib.hid hN4
            have hR := ln_res HL6.out hpb
            have HR := Lib.hid hR
            have b0 := hB.cell 0
            have b1 := hB.cell 1
            simp only [List.getElem?_toArray, List.getElem?_cons_zero, List.getElem?_cons_succ, List.length_append, List.length_cons, List.length_nil, Nat.zero_add] at b0 b1
            have bf0 := hB.frozen 0
            have bf1 := hB.frozen 1
            have r0 : w6.cell? ⟨w.heap.size, 0, none⟩ = some (.slice none 0 0) := hR.cell 0
            have r1 : w6.cell? ⟨w.heap.size, 1, none⟩ = some (.bool false) := hR.cell 1
            have rf0 := hR.frozen 0
            have rf1 := hR.frozen 1
            have hlb : w.heap.size + 1 < w6.heap.size := hB.lt
            have hrb : w.heap.size < w6.heap.size := hR.lt
            clear hB hN4 hR
            go_wp2
            refine bodyPost_ret (v := .agg #[.slice Al (ps.length + 1) cl, .bool false]) (by simp [results, Try.results41, go_sem, hrb, r0, r1]) rfl ?_
            refine line_bad (e := 9) HRE.out (by decide) HL6.out (by have h9 := HN4.out; simp only [List.length_append, List.length_cons, List.length_nil, Nat.zero_add] at h9; exact h9) HR.out ?_
            repeat' first | with_reducible exact World.grownBy.refl _ _ | (refine only_setCell ?_ (.inl rfl) _)
          · have HRE := Lib.hid (HRR.out.trans (lin_more en m ts1 wh ps q t r HPS.out HSEP.out hm0))
            have hl16 : ((ps.length : Int) + 1 == 16) = false := beq_false_of_ne (by have := HM.out; omega)
            go_wp2
            go_roundg (m + 1)
            case rel => exact ⟨ps ++ [(⟨wh, q⟩ : Pl)], r, _, rfl, HL4.out, fun x hx => HOK2.out x (List.mem_cons_of_mem _ hx), by simp at hl2; omega, by simp; have := HM.out; omega, by simp; have := HM.out; omega, by rw [HRE.out, HWO.out]; congr 1; simp; have := HM.out; omega⟩
            case measure => omega
        by_cases o3 : u.op = [38]
        · have k0 : ((bs u.op).toList == [59]) = false := by rw [bs_tl]; simpa using o0
          have k1 : ((bs u.op).toList == [38, 38]) = false := by rw [bs_tl]; simpa using o1
          have k2 : ((bs u.op).toList == [124, 124]) = false := by rw [bs_tl]; simpa using o2
          have k3 : ((bs u.op).toList == [38]) = true := by rw [bs_tl]; simpa using o3
          obtain ⟨t, r, ht, hto⟩ := hd_bar en ts2 [38] (by simp) (by rw [HU.out]; exact o3)
          subst ht
          obtain rfl : t = u := HU.out
          have HTO := Lib.hid hto
          clear hto o0 o1 o2 o3
          obtain ⟨Al, cl, hB, hN4⟩ := ln_cells HL4.out
          have HB := Lib.hid hB
          have HN4 := Lib.hid hN4
          have hR := ln_res HL4.out hpb
          have HR := Lib.hid hR
          have b0 := hB.cell 0
          have b1 := hB.cell 1
          simp only [List.getElem?_toArray, List.getElem?_cons_zero, List.getElem?_cons_succ, List.length_append, List.length_cons, List.length_nil, Nat.zero_add] at b0 b1
          have bf0 := hB.frozen 0
          have bf1 := hB.frozen 1
          have r0 : wc.cell? ⟨w.heap.size, 0, none⟩ = some (.slice none 0 0) := hR.cell 0
          have r1 : wc.cell? ⟨w.heap.size, 1, none⟩ = some (.bool false) := hR.cell 1
          have rf0 := hR.frozen 0
          have rf1 := hR.frozen 1
          have hlb : w.heap.size + 1 < wc.heap.size := hB.lt
          have hrb : w.heap.size < wc.heap.size := hR.lt
          clear hB hN4 hR
          go_upto_region 17 with (fail)
          have HL5 := Lib.hid HL4.out.bgr
          clear HL4 HB HN4 HR b0 b1 bf0 bf1 r0 r1 rf0 rf1 hlb hrb t0 t1 htb HT4
          generalize wc.setCell ⟨w.heap.size + 1, 1, none⟩ (.bool true) = wd at *
          obtain ⟨⟨tv, hpB, hpR⟩, _⟩ := HL5.out
          obtain ⟨Ar, cr, rfl, _⟩ := hpR.form
          simp only [List.tail_cons] at hpB hpR
          have p0 : wd.cell? ⟨pb, 0, none⟩ = some (.slice Ar r.length cr) := hpB.cell 0
          have hpd : pb < wd.heap.size := hpB.lt
          clear hpB hpR
          cases r with
          | nil =>
            have HRE := Lib.hid (HRR.out.trans (lin_bg en m ts1 wh ps q t HPS.out HTO.out))
            obtain ⟨Al, cl, hB, hN4⟩ := ln_cells HL5.out
            have HB := Lib.hid hB
            have HN4 := Lib.hid hN4
            have hR := ln_res HL5.out hpb
            have HR := Lib.hid hR
            have b0 := hB.cell 0
            have b1 := hB.cell 1
            simp only [List.getElem?_toArray, List.getElem?_cons_zero, List.getElem?_cons_succ, List.length_append, List.length_cons, List.length_nil, Nat.zero_add] at b0 b1
            have bf0 := hB.frozen 0
            have bf1 := hB.frozen 1
            have r0 : wd.cell? ⟨w.heap.size, 0, none⟩ = some (.slice none 0 0) := hR.cell 0
            have r1 : wd.cell? ⟨w.heap.size, 1, none⟩ = some (.bool false) := hR.cell 1
            have rf0 := hR.frozen 0
            have rf1 := hR.frozen 1
            have hlb : w.heap.size + 1 < wd.heap.size := hB.lt
            have hrb : w.heap.size < wd.heap.size := hR.lt
            clear hB hN4 hR
            go_wp2
            refine bodyPost_ret (v := .agg #[.slice Al (ps.length + 1) cl, .bool true]) (by simp [results, Try.results41, go_sem, hrb, r0, r1]) rfl ?_
            refine line_ok HRE.out HL5.out (by have h9 := HN4.out; simp only [List.length_append, List.length_cons, List.length_nil, Nat.zero_add] at h9; exact h9) HR.out ?_
            repeat' first | with_reducible exact World.grownBy.refl _ _ | (refine only_setCell ?_ (.inl rfl) _)
          | cons u2 r2 =>
            have HRE := Lib.hid (HRR.out.trans (lin_bgno en m ts1 wh ps q t u2 r2 HPS.out HTO.out))
            have hpos : (0 : Int) < (((u2 :: r2).length : Nat) : Int) := by simp
            have hpos2 : decide (0 < (u2 :: r2).length) = true := by simp
            have hl3 : (u2 :: r2).length ≤ 90000 := by simp at hl2 ⊢; omega
            go_wp2_with fail
            refine (next_hd _ pb (u2 :: r2) en 0 0 u2 rfl HL5.out.1 (Nat.le_trans hl3 (by decide))).mono ?_
            rintro e w6 ⟨v6, rfl, hv6, hb6⟩
            unfold tokA
            obtain ⟨A6, c6, rfl, _⟩ := Rd.form hv6
            have HL6 := Lib.hid (HL5.out.next hb6)
            clear hv6 hb6 p0 hpd HL5
            go_wp2_with fail
            refine (pfail_first _ pb (u2 :: r2) en 0 u2.pos 30 HL6.out.1).mono ?_
            rintro e w7 ⟨rfl, hp7, hg7⟩
            have HL7 := Lib.hid (HL6.out.par hg7 hp7)
            clear hp7 hg7 HL6
            obtain ⟨Al, cl, hB, hN4⟩ := ln_cells HL7.out
            have HB := Lib.hid hB
            have HN4 := Lib.hid hN4
            have hR := ln_res HL7.out hpb
            have HR := Lib.hid hR
            have b0 := hB.cell 0
            have b1 := hB.cell 1
            simp only [List.getElem?_toArray, List.getElem?_cons_zero, List.getElem?_cons_succ, List.length_append, List.length_cons, List.length_nil, Nat.zero_add] at b0 b1
            have bf0 := hB.frozen 0
            have bf1 := hB.frozen 1
            have r0 : w7.cell? ⟨w.heap.size, 0, none⟩ = some (.slice none 0 0) := hR.cell 0
            have r1 : w7.cell? ⟨w.heap.size, 1, none⟩ = some (.bool false) := hR.cell 1
            have rf0 := hR.frozen 0
            have rf1 := hR.frozen 1
            have hlb : w.heap.size + 1 < w7.heap.size := hB.lt
            have hrb : w.heap.size < w7.heap.size := hR.lt
            clear hB hN4 hR
            go_wp2
            refine bodyPost_ret (v := .agg #[.slice Al (ps.length + 1) cl, .bool true]) (by simp [results, Try.results41, go_sem, hrb, r0, r1]) rfl ?_
            refine line_bad (e := 30) HRE.out (by decide) HL7.out (by have h9 := HN4.out; simp only [List.length_append, List.length_cons, List.length_nil, Nat.zero_add] at h9; exact h9) HR.out ?_
            repeat' first | with_reducible exact World.grownBy.refl _ _ | (refine only_setCell ?_ (.inl rfl) _)
        have k0 : ((bs u.op).toList == [59]) = false := by rw [bs_tl]; simpa using o0
        have k1 : ((bs u.op).toList == [38, 38]) = false := by rw [bs_tl]; simpa using o1
        have k2 : ((bs u.op).toList == [124, 124]) = false := by rw [bs_tl]; simpa using o2
        have k3 : ((bs u.op).toList == [38]) = false := by rw [bs_tl]; simpa using o3
        have HRE := Lib.hid (HRR.out.trans (lin_end en m ts1 wh ps q ts2 HPS.out (by rw [HU.out]; exact o0) (by rw [HU.out]; exact o1) (by rw [HU.out]; exact o2) (by rw [HU.out]; exact o3)))
        clear o0 o1 o2 o3
        obtain ⟨Al, cl, hB, hN4⟩ := ln_cells HL4.out
        have HB := Lib.hid hB
        have HN4 := Lib.hid hN4
        have hR := ln_res HL4.out hpb
        have HR := Lib.hid hR
        have b0 := hB.cell 0
        have b1 := hB.cell 1
        simp only [List.getElem?_toArray, List.getElem?_cons_zero, List.getElem?_cons_succ, List.length_append, List.length_cons, List.length_nil, Nat.zero_add] at b0 b1
        have bf0 := hB.frozen 0
        have bf1 := hB.frozen 1
        have r0 : wc.cell? ⟨w.heap.size, 0, none⟩ = some (.slice none 0 0) := hR.cell 0
        have r1 : wc.cell? ⟨w.heap.size, 1, none⟩ = some (.bool false) := hR.cell 1
        have rf0 := hR.frozen 0
        have rf1 := hR.frozen 1
        have hlb : w.heap.size + 1 < wc.heap.size := hB.lt
        have hrb : w.heap.size < wc.heap.size := hR.lt
        clear hB hN4 hR
        go_wp2
        refine bodyPost_ret (v := .agg #[.slice Al (ps.length + 1) cl, .bool false]) (by simp [results, Try.results41, go_sem, hrb, r0, r1]) rfl ?_
        refine line_ok HRE.out HL4.out (by have h9 := HN4.out; simp only [List.length_append, List.length_cons, List.length_nil, Nat.zero_add] at h9; exact h9) HR.out ?_
        repeat' first | with_reducible exact World.grownBy.refl _ _ | (refine only_setCell ?_ (.inl rfl) _)
      · have HRE := Lib.hid (HRR.out.trans (lin_bad en m ts1 wh ps qq e0 hps))
        have HE0 := Lib.hid he0
        clear hps he0
        obtain ⟨u, hu⟩ : ∃ u : Tk, hdT en [] = u := ⟨_, rfl⟩
        have HU := Lib.hid hu
        have k0 : ((bs u.op).toList == [59]) = false := by rw [bs_tl, ← hu]; rfl
        have k1 : ((bs u.op).toList == [38, 38]) = false := by rw [bs_tl, ← hu]; rfl
        have k2 : ((bs u.op).toList == [124, 124]) = false := by rw [bs_tl, ← hu]; rfl
        have k3 : ((bs u.op).toList == [38]) = false := by rw [bs_tl, ← hu]; rfl
        clear hu
        have HL := Lib.hid (LSt.push (q := ⟨wh, q⟩) hp2 B2.out (RowW.imp HVS.out (fun _ _ h => NP.keep (w := wr.drew) h K2.out rfl rfl rfl rfl)) O2.out hgr2 hpl hll ((Below.refl _ _).alloc (Nat.le_refl _) _) hgrow hown1 HRD.out)
        clear hown1 hgrow b0 bf0 x0 xf0 d0 f0' hp2 B2 O2 K2 HRD HALT HB HP HVS hrow hgr hgr2 B3 hlb2
        go_upto_region 6 with (fail)
        have HL1 := Lib.hid HL.out.1
        clear HL
        generalize w3.setCell ⟨w.heap.size + 1, 0, none⟩ (.slice (some ⟨gg, 0, none⟩) (ps.length + 1) cap) = wb at *
        clear hlb3 hlt1 hat
        go_wp2_with fail
        refine (take_hd _ pb [] en _ _ u HU.out HL1.out.1 (by simp)).mono ?_
        rintro e w4 ⟨v4, rfl, hv4, hp4, hg4⟩
        unfold tokA
        obtain ⟨A4, c4, rfl, _⟩ := Rd.form hv4
        have HL4 := Lib.hid ((HL1.out.par hg4 hp4).next ((Below.refl _ _).alloc (Nat.le_refl _) (.cells #[.int .i64 (u.pos : Int), .string (bs u.op), .slice A4 u.word.length c4, .string (bs u.name)] 128)))
        have HT4 := Lib.hid (Blk.new w4 128 #[.int .i64 (u.pos : Int), .string (bs u.op), .slice A4 u.word.length c4, .string (bs u.name)])
        clear hv4 hp4 hg4 HL1
        go_upto_region 7 with (fail)
        generalize (w4.alloc (.cells #[.int .i64 (u.pos : Int), .string (bs u.op), .slice A4 u.word.length c4, .string (bs u.name)] 128)) = wc at *
        generalize w4.heap.size = tb at *
        have t0 : wc.cell? ⟨tb, 0, none⟩ = some (.int .i64 (u.pos : Int)) := HT4.out.cell 0
        have t1 : wc.cell? ⟨tb, 1, none⟩ = some (.string (bs u.op)) := HT4.out.cell 1
        have htb : tb < wc.heap.size := HT4.out.lt
        obtain ⟨Al, cl, hB, hN4⟩ := ln_cells HL4.out
        have HB := Lib.hid hB
        have HN4 := Lib.hid hN4
        have hR := ln_res HL4.out hpb
        have HR := Lib.hid hR
        have b0 := hB.cell 0
        have b1 := hB.cell 1
        simp only [List.getElem?_toArray, List.getElem?_cons_zero, List.getElem?_cons_succ, List.length_append, List.length_cons, List.length_nil, Nat.zero_add] at b0 b1
        have bf0 := hB.frozen 0
        have bf1 := hB.frozen 1
        have r0 : wc.cell? ⟨w.heap.size, 0, none⟩ = some (.slice none 0 0) := hR.cell 0
        have r1 : wc.cell? ⟨w.heap.size, 1, none⟩ = some (.bool false) := hR.cell 1
        have rf0 := hR.frozen 0
        have rf1 := hR.frozen 1
        have hlb : w.heap.size + 1 < wc.heap.size := hB.lt
        have hrb : w.heap.size < wc.heap.size := hR.lt
        clear hB hN4 hR
        go_wp2
        refine bodyPost_ret (v := .agg #[.slice Al (ps.length + 1) cl, .bool false]) (by simp [results, Try.results41, go_sem, hrb, r0, r1]) rfl ?_
        refine line_bad HRE.out HE0.out HL4.out (by have h9 := HN4.out; simp only [List.length_append, List.length_cons, List.length_nil, Nat.zero_add] at h9; exact h9) HR.out ?_
        repeat' first | with_reducible exact World.grownBy.refl _ _ | (refine only_setCell ?_ (.inl rfl) _)
end Go.Proofs.Ytiddchpkmcncdaa
