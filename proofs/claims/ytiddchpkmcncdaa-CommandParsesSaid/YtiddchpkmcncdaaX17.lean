/- Walks of layer 41: word (of the parser), an assignment. -/
import Derived.Test.YtiddchpkmcncdaaX16
namespace Go.Proofs.Ytiddchpkmcncdaa
open Go.RowKit
set_option linter.unusedSimpArgs false
set_option linter.unusedVariables false
set_option maxRecDepth 100000 in
set_option maxHeartbeats 2000000 in
theorem word_asg (w0 w : World) (pb cb : Nat) (t : Tk) (ts : List Tk) (en : Nat) (c : Sm) (h : SSt w0 pb cb (t :: ts) en 0 0 c w) (hlen : (t :: ts).length ≤ 100000) (hnm : 0 < t.name.length) (hw : c.words.length = 0) (ha : c.asg.length < 32) (f : Pc) (r : Wd) (hw0 : t.word = f :: r) (htl : t.name.length + 1 ≤ f.text.length) (hl : t.name.length ≤ 100000) (hr0 : r.length ≤ 100000) :
    Calls Try.prog 114 #[ptr pb, ptr cb] w fun r w' => r = .returned (.tuple #[]) ∧ SSt w0 pb cb ts en 0 0 { c with asg := c.asg ++ [⟨t.name, valS t⟩] } w' := by
  obtain ⟨i0, hi, hz0, hz1, hz2⟩ := info_parts info140
  have HW0 := Lib.hid hw0
  have HTL := Lib.hid htl
  clear hw0 htl
  have n1 : (bs t.name).toList.isEmpty = false := isEmpty_of _ (by rw [bs_size]; omega)
  have m1 : ((c.words.length : Int) == 0) = true := beq_iff_eq.2 (by omega)
  have m2 : ((c.asg.length : Int) == 32) = false := beq_false_of_ne (by omega)
  have HW := Lib.hid hw
  clear hw
  have HS := Lib.hid h
  clear h
  go_enter Try.func114, Try.ntmps114
  go_wp2_with fail
  refine (take_one _ pb t _ en 0 0 HS.out.1 hlen).mono ?_
  rintro e w1 ⟨v1, rfl, hv1, hp1, hg1⟩
  unfold tokA
  have HS1 := Lib.hid ((HS.out.par hg1 hp1).next ((Below.refl _ _).alloc (Nat.le_refl _) (.cells #[.int .i64 (t.pos : Int), .string (bs t.op), v1, .string (bs t.name)] 128)))
  have HT1 := Lib.hid (Blk.new w1 128 #[.int .i64 (t.pos : Int), .string (bs t.op), v1, .string (bs t.name)])
  have HV1 := Lib.hid (Rd.next hv1 ((Below.refl _ _).alloc (Nat.le_refl _) (.cells #[.int .i64 (t.pos : Int), .string (bs t.op), v1, .string (bs t.name)] 128)))
  obtain ⟨A1, c1, rfl, _⟩ := Rd.form hv1
  clear hv1 hp1 hg1 HS
  go_upto_region 1 with (fail)
  generalize (w1.alloc (.cells #[.int .i64 (t.pos : Int), .string (bs t.op), .slice A1 t.word.length c1, .string (bs t.name)] 128)) = wa at *
  generalize w1.heap.size = tb at *
  have t0 : wa.cell? ⟨tb, 0, none⟩ = some (.int .i64 (t.pos : Int)) := HT1.out.cell 0
  have t1 : wa.cell? ⟨tb, 1, none⟩ = some (.string (bs t.op)) := HT1.out.cell 1
  have t2 : wa.cell? ⟨tb, 2, none⟩ = some (.slice A1 t.word.length c1) := HT1.out.cell 2
  have t3 : wa.cell? ⟨tb, 3, none⟩ = some (.string (bs t.name)) := HT1.out.cell 3
  have htb : tb < wa.heap.size := HT1.out.lt
  obtain ⟨hP, ⟨va, vb, vi, vo, B, ⟨vsa, hwa, hoa⟩, ⟨vsb, hwb, hob⟩, ri, ro⟩, hgr, hpl, hcl⟩ := HS1.out
  have HP := Lib.hid hP
  have HWA := Lib.hid hwa
  have HWB := Lib.hid hwb
  have HRI := Lib.hid ri
  have HRO := Lib.hid ro
  have HB := Lib.hid B
  obtain ⟨Aa, ca, rfl, _⟩ := own_len hoa
  obtain ⟨Ab, cb', rfl, _⟩ := own_len hob
  have b0 : wa.cell? ⟨cb, 0, none⟩ = some (.slice Aa c.asg.length ca) := B.cell 0
  have b1 : wa.cell? ⟨cb, 1, none⟩ = some (.slice Ab c.words.length cb') := B.cell 1
  have bf0 := B.frozen 0
  have bf1 := B.frozen 1
  have bcb := B.lt
  clear B hP hwa hwb ri ro
  have hne := Lib.hid (own_blk_ne hoa HB.out (by decide))
  have hbase : w0.heap.size ≤ wa.heap.size := hgr.size
  go_upto_region 4 with (fail)
  go_region_law (first | (refine step_append_lies _ (by rfl) _ _ _ (by rfl) w0.heap.size 140 i0 _ 2 40 Try.underlying43 hi hz0 hz1 hz2 rfl (by omega) (.slice Aa c.asg.length ca) c.asg.length (rowC asgV c.asg vsa) (by rfl) ((own_next hoa.drew HB2.out).alloc _) ⟨w2.heap.size, 0, none⟩ 1 1 [.string (bs t.name), .slice Av (valS t).length cv] (by rfl) (by rfl) (World.news_of_block (cs := #[.string (bs t.name), .slice Av (valS t).length cv]) (t := 140) (fr := (0, 0)) (heap_alloc_new w2 _)) (by simp [Value.oneCell']) (by omega) (by unfold maxLen; omega) (by omega) (by simp; omega) (w2.heap.size + 1) (by simp) ?_; intro gg cap w3 hown1 hgrow hat hlt1; have B3 := Lib.hid (Blk.grown (Blk.alloc B2.out _) hgrow (Ne.symm hne.out)); have d0 : w3.cell? ⟨cb, 0, none⟩ = some (.slice Aa c.asg.length ca) := B3.out.cell 0; have f0' := B3.out.frozen 0) | (go_simp; go_at_call 122; refine (value_any _ t _ f r (Rd.drew HV1.out) HW0.out HTL.out hl hr0).mono ?_; rintro e w2 ⟨vv, rfl, hvv, hb2⟩; have HVV := Lib.hid hvv; have HB2 := Lib.hid hb2; obtain ⟨Av, cv, rfl, _⟩ := Rd.form hvv; have B2 := Lib.hid (HB.out.drew.next hb2 bcb); have x0 : w2.cell? ⟨cb, 0, none⟩ = some (.slice Aa c.asg.length ca) := B2.out.cell 0; have T2 := Lib.hid (HT1.out.drew.next hb2 htb); have y3 : w2.cell? ⟨tb, 3, none⟩ = some (.string (bs t.name)) := T2.out.cell 3; have xf0 := B2.out.frozen 0; have hcb2 : cb < w2.heap.size := B2.out.lt; have htb2 : tb < w2.heap.size := T2.out.lt; have hs2 : w0.heap.size ≤ w2.heap.size := Nat.le_trans hbase hb2.size; clear hvv hb2))
  all_goals
    have HX := Lib.hid (SSt.pushA (nm := t.name) (val := valS t) (PAt.next (w := wa.drew) HP.out HB2.out) B2.out (RowW.imp HWA.out (fun _ _ h => Rd.next (w := wa.drew) h HB2.out)) (own_next hoa.drew HB2.out) (RowOwn.keep (w := wa.drew) (⟨vsb, HWB.out, hob⟩ : RowOwn 42 1 wdV NW wa w0.heap.size _ c.words) (Kept.of_below [] HB2.out) rfl (fun _ _ h => Rd.next (w := wa.drew) h HB2.out)) (Rd.next (w := wa.drew) HRI.out HB2.out) (Rd.next (w := wa.drew) HRO.out HB2.out) (grown_trans (only_drew hgr) (only_of_below HB2.out _)) hpl hcl ((Below.refl _ _).alloc (Nat.le_refl _) _) hgrow hown1 HVV.out)
    clear hown1 hgrow b0 b1 bf0 bf1 t0 t1 t2 t3 x0 y3 xf0 d0 f0'
    go_wp2
    refine bodyPost_ret (results_none rfl _ _ _) rfl ?_
    exact ⟨rfl, HX.out.1⟩
end Go.Proofs.Ytiddchpkmcncdaa
