/- Walks of layer 41: word (of the parser). -/
import Derived.Test.YtiddchpkmcncdaaX15
import Derived.Test.YtiddchpkmcncdaaK4
namespace Go.Proofs.Ytiddchpkmcncdaa
open Go.RowKit
set_option linter.unusedSimpArgs false
set_option linter.unusedVariables false
/-- An element is appended to a simple command. -/
theorem SSt.pushA {w0 W W' w1 : World} {pb cb en : Nat} {ts : List Tk} {wh er : Int} {c : Sm} {va vb vi vo v' u : Value} {vs : List Value} {val : Wd} {nm : Bs}
    (hP : PAt W pb ts en wh er) (B : Blk W cb 46 #[va, vb, vi, vo, .bool c.app]) (h2 : RowW NA W c.asg vs) (h3 : W.ownsRow w0.heap.size 140 2 va c.asg.length (rowC asgV c.asg vs)) (rb : RowOwn 42 1 wdV NW W w0.heap.size vb c.words) (ri : RdW W vi c.inn) (ro : RdW W vo c.out) (hg : w0.grownBy W (some pb)) (hp : pb < w0.heap.size) (hc : w0.heap.size ≤ cb)
    (hb : Below W.heap.size W W') (hk : W'.grownBy w1 va.ownBlock) (hown : w1.ownsRow w0.heap.size 140 2 v' (c.asg.length + 1) (rowC asgV c.asg vs ++ [.string (bs nm), u])) (hu : RdW W u val) :
    SSt w0 pb cb ts en wh er { c with asg := c.asg ++ [⟨nm, val⟩] } (w1.setCell ⟨cb, 0, none⟩ v') ∧ Blk w1 cb 46 #[va, vb, vi, vo, .bool c.app] := by
  have K : Kept [140] W w1 := (Kept.of_below _ hb).trans (Kept.of_own [140] (own_next h3 hb) hk rfl)
  have B1 := B.keep K rfl
  have g1 : w1.grownBy (w1.setCell ⟨cb, 0, none⟩ v') (some cb) := only_setCell (p := ⟨cb, 0, none⟩) (World.grownBy.refl _ _) (.inl rfl) _
  have K2 : Kept [46] w1 (w1.setCell ⟨cb, 0, none⟩ v') := Kept.of_blk [46] B1 g1 rfl
  have a1 : w0.grownBy w1 (some pb) := only_row (grown_trans hg (only_of_below hb _)) hk (fun i e => own_ge h3 e)
  have rA := RowOwn.keep (RowOwn.push (x := (⟨nm, val⟩ : Asg)) (u := u) h2 hown (fun _ _ h => NA.keep h K rfl) (show NA w1 u (⟨nm, val⟩ : Asg) from hu.keep K rfl)) K2 rfl (fun _ _ h => NA.keep h K2 rfl)
  have rB := (rb.keep K rfl (fun _ _ h => NW.keep h K rfl)).keep K2 rfl (fun _ _ h => NW.keep h K2 rfl)
  exact ⟨⟨(hP.keep K rfl rfl rfl).keep K2 rfl rfl rfl, ⟨v', vb, vi, vo, blk_cast (B1.set_ 0 v') rfl, rA, rB, (ri.keep K rfl).keep K2 rfl, (ro.keep K rfl).keep K2 rfl⟩, only_setCell (p := ⟨cb, 0, none⟩) a1 (.inr hc) _, hp, hc⟩, B1⟩
/-- An element is appended to a simple command. -/
theorem SSt.pushW {w0 W W' w1 : World} {pb cb en : Nat} {ts : List Tk} {wh er : Int} {c : Sm} {va vb vi vo v' u : Value} {vs : List Value} {val : Wd}
    (hP : PAt W pb ts en wh er) (B : Blk W cb 46 #[va, vb, vi, vo, .bool c.app]) (h2 : RowW NW W c.words vs) (h3 : W.ownsRow w0.heap.size 42 1 vb c.words.length (rowC wdV c.words vs)) (rb : RowOwn 140 2 asgV NA W w0.heap.size va c.asg) (ri : RdW W vi c.inn) (ro : RdW W vo c.out) (hg : w0.grownBy W (some pb)) (hp : pb < w0.heap.size) (hc : w0.heap.size ≤ cb)
    (hb : Below W.heap.size W W') (hk : W'.grownBy w1 vb.ownBlock) (hown : w1.ownsRow w0.heap.size 42 1 v' (c.words.length + 1) (rowC wdV c.words vs ++ [u])) (hu : RdW W u val) :
    SSt w0 pb cb ts en wh er { c with words := c.words ++ [val] } (w1.setCell ⟨cb, 1, none⟩ v') ∧ Blk w1 cb 46 #[va, vb, vi, vo, .bool c.app] := by
  have K : Kept [42] W w1 := (Kept.of_below _ hb).trans (Kept.of_own [42] (own_next h3 hb) hk rfl)
  have B1 := B.keep K rfl
  have g1 : w1.grownBy (w1.setCell ⟨cb, 1, none⟩ v') (some cb) := only_setCell (p := ⟨cb, 1, none⟩) (World.grownBy.refl _ _) (.inl rfl) _
  have K2 : Kept [46] w1 (w1.setCell ⟨cb, 1, none⟩ v') := Kept.of_blk [46] B1 g1 rfl
  have a1 : w0.grownBy w1 (some pb) := only_row (grown_trans hg (only_of_below hb _)) hk (fun i e => own_ge h3 e)
  have rA := RowOwn.keep (RowOwn.push (x := (val : Wd)) (u := u) h2 hown (fun _ _ h => NW.keep h K rfl) (show NW w1 u (val : Wd) from hu.keep K rfl)) K2 rfl (fun _ _ h => NW.keep h K2 rfl)
  have rB := (rb.keep K rfl (fun _ _ h => NA.keep h K rfl)).keep K2 rfl (fun _ _ h => NA.keep h K2 rfl)
  exact ⟨⟨(hP.keep K rfl rfl rfl).keep K2 rfl rfl rfl, ⟨va, v', vi, vo, blk_cast (B1.set_ 1 v') rfl, rB, rA, (ri.keep K rfl).keep K2 rfl, (ro.keep K rfl).keep K2 rfl⟩, only_setCell (p := ⟨cb, 1, none⟩) a1 (.inr hc) _, hp, hc⟩, B1⟩
set_option maxRecDepth 100000 in
set_option maxHeartbeats 2000000 in
theorem word_asg_full (w0 w : World) (pb cb : Nat) (t : Tk) (ts : List Tk) (en : Nat) (c : Sm) (h : SSt w0 pb cb (t :: ts) en 0 0 c w) (hlen : (t :: ts).length ≤ 100000) (hnm : 0 < t.name.length) (hw : c.words.length = 0) (ha : c.asg.length = 32) :
    Calls Try.prog 114 #[ptr pb, ptr cb] w fun r w' => r = .returned (.tuple #[]) ∧ SSt w0 pb cb [] en t.pos 9 c w' := by
  have n1 : (bs t.name).toList.isEmpty = false := isEmpty_of _ (by rw [bs_size]; omega)
  have m1 : ((c.words.length : Int) == 0) = true := beq_iff_eq.2 (by omega)
  have m2 : ((c.asg.length : Int) == 32) = true := beq_iff_eq.2 (by omega)
  have HW := Lib.hid hw
  have HA := Lib.hid ha
  clear hw ha
  have HS := Lib.hid h
  clear h
  go_enter Try.func114, Try.ntmps114
  go_wp2_with fail
  refine (take_one _ pb t _ en 0 0 HS.out.1 hlen).mono ?_
  rintro e w1 ⟨v1, rfl, hv1, hp1, hg1⟩
  unfold tokA
  have HS1 := Lib.hid ((HS.out.par hg1 hp1).next ((Below.refl _ _).alloc (Nat.le_refl _) (.cells #[.int .i64 (t.pos : Int), .string (bs t.op), v1, .string (bs t.name)] 128)))
  have HT1 := Lib.hid (Blk.new w1 128 #[.int .i64 (t.pos : Int), .string (bs t.op), v1, .string (bs t.name)])
  have HV1 := Lib.hid (Rd.next hv1 ((Below.refl _ _).alloc (Nat.le_refl _) (.cells #[.int .i64 (t.pos : Int), .string (bs t.op), v1, .string (bs t.name)] 128)))
  obtain ⟨A1, c1, rfl, _⟩ := Rd.form hv1
  clear hv1 hp1 hg1 HS
  go_upto_region 1 with (fail)
  generalize (w1.alloc (.cells #[.int .i64 (t.pos : Int), .string (bs t.op), .slice A1 t.word.length c1, .string (bs t.name)] 128)) = wa at *
  generalize w1.heap.size = tb at *
  have t0 : wa.cell? ⟨tb, 0, none⟩ = some (.int .i64 (t.pos : Int)) := HT1.out.cell 0
  have t1 : wa.cell? ⟨tb, 1, none⟩ = some (.string (bs t.op)) := HT1.out.cell 1
  have t2 : wa.cell? ⟨tb, 2, none⟩ = some (.slice A1 t.word.length c1) := HT1.out.cell 2
  have t3 : wa.cell? ⟨tb, 3, none⟩ = some (.string (bs t.name)) := HT1.out.cell 3
  have htb : tb < wa.heap.size := HT1.out.lt
  obtain ⟨hP, ⟨va, vb, vi, vo, B, ⟨vsa, hwa, hoa⟩, ⟨vsb, hwb, hob⟩, ri, ro⟩, hgr, hpl, hcl⟩ := HS1.out
  have HP := Lib.hid hP
  have HWA := Lib.hid hwa
  have HWB := Lib.hid hwb
  have HRI := Lib.hid ri
  have HRO := Lib.hid ro
  have HB := Lib.hid B
  obtain ⟨Aa, ca, rfl, _⟩ := own_len hoa
  obtain ⟨Ab, cb', rfl, _⟩ := own_len hob
  have b0 : wa.cell? ⟨cb, 0, none⟩ = some (.slice Aa c.asg.length ca) := B.cell 0
  have b1 : wa.cell? ⟨cb, 1, none⟩ = some (.slice Ab c.words.length cb') := B.cell 1
  have bf0 := B.frozen 0
  have bf1 := B.frozen 1
  have bcb := B.lt
  clear B hP hwa hwb ri ro
  go_wp2_with fail
  refine (pfail_first _ pb ts en 0 t.pos 9 HP.out).mono ?_
  rintro e w2 ⟨rfl, hp2, hg2⟩
  have HF := Lib.hid (HS1.out.par hg2 hp2)
  clear hp2 hg2 b0 b1 bf0 bf1 t0 t1 t2 t3
  go_wp2
  refine bodyPost_ret (results_none rfl _ _ _) rfl ?_
  exact ⟨rfl, HF.out⟩
set_option maxRecDepth 100000 in
set_option maxHeartbeats 2000000 in
theorem word_full (w0 w : World) (pb cb : Nat) (t : Tk) (ts : List Tk) (en : Nat) (c : Sm) (h : SSt w0 pb cb (t :: ts) en 0 0 c w) (hlen : (t :: ts).length ≤ 100000) (hw : c.words.length = 32) :
    Calls Try.prog 114 #[ptr pb, ptr cb] w fun r w' => r = .returned (.tuple #[]) ∧ SSt w0 pb cb [] en t.pos 9 c w' := by
  have m1 : ((c.words.length : Int) == 0) = false := beq_false_of_ne (by omega)
  have m2 : ((c.words.length : Int) == 32) = true := beq_iff_eq.2 (by omega)
  have HW := Lib.hid hw
  clear hw
  by_cases hnm : t.name.length = 0
  · have n1 : (bs t.name).toList.isEmpty = true := empty_list _ (by rw [bs_size]; exact hnm)
    have HN := Lib.hid hnm
    clear hnm
    have HS := Lib.hid h
    clear h
    go_enter Try.func114, Try.ntmps114
    go_wp2_with fail
    refine (take_one _ pb t _ en 0 0 HS.out.1 hlen).mono ?_
    rintro e w1 ⟨v1, rfl, hv1, hp1, hg1⟩
    unfold tokA
    have HS1 := Lib.hid ((HS.out.par hg1 hp1).next ((Below.refl _ _).alloc (Nat.le_refl _) (.cells #[.int .i64 (t.pos : Int), .string (bs t.op), v1, .string (bs t.name)] 128)))
    have HT1 := Lib.hid (Blk.new w1 128 #[.int .i64 (t.pos : Int), .string (bs t.op), v1, .string (bs t.name)])
    have HV1 := Lib.hid (Rd.next hv1 ((Below.refl _ _).alloc (Nat.le_refl _) (.cells #[.int .i64 (t.pos : Int), .string (bs t.op), v1, .string (bs t.name)] 128)))
    obtain ⟨A1, c1, rfl, _⟩ := Rd.form hv1
    clear hv1 hp1 hg1 HS
    go_upto_region 1 with (fail)
    generalize (w1.alloc (.cells #[.int .i64 (t.pos : Int), .string (bs t.op), .slice A1 t.word.length c1, .string (bs t.name)] 128)) = wa at *
    generalize w1.heap.size = tb at *
    have t0 : wa.cell? ⟨tb, 0, none⟩ = some (.int .i64 (t.pos : Int)) := HT1.out.cell 0
    have t1 : wa.cell? ⟨tb, 1, none⟩ = some (.string (bs t.op)) := HT1.out.cell 1
    have t2 : wa.cell? ⟨tb, 2, none⟩ = some (.slice A1 t.word.length c1) := HT1.out.cell 2
    have t3 : wa.cell? ⟨tb, 3, none⟩ = some (.string (bs t.name)) := HT1.out.cell 3
    have htb : tb < wa.heap.size := HT1.out.lt
    obtain ⟨hP, ⟨va, vb, vi, vo, B, ⟨vsa, hwa, hoa⟩, ⟨vsb, hwb, hob⟩, ri, ro⟩, hgr, hpl, hcl⟩ := HS1.out
    have HP := Lib.hid hP
    have HWA := Lib.hid hwa
    have HWB := Lib.hid hwb
    have HRI := Lib.hid ri
    have HRO := Lib.hid ro
    have HB := Lib.hid B
    obtain ⟨Aa, ca, rfl, _⟩ := own_len hoa
    obtain ⟨Ab, cb', rfl, _⟩ := own_len hob
    have b0 : wa.cell? ⟨cb, 0, none⟩ = some (.slice Aa c.asg.length ca) := B.cell 0
    have b1 : wa.cell? ⟨cb, 1, none⟩ = some (.slice Ab c.words.length cb') := B.cell 1
    have bf0 := B.frozen 0
    have bf1 := B.frozen 1
    have bcb := B.lt
    clear B hP hwa hwb ri ro
    go_wp2_with fail
    refine (pfail_first _ pb ts en 0 t.pos 9 HP.out).mono ?_
    rintro e w2 ⟨rfl, hp2, hg2⟩
    have HF := Lib.hid (HS1.out.par hg2 hp2)
    clear hp2 hg2 b0 b1 bf0 bf1 t0 t1 t2 t3
    go_wp2
    refine bodyPost_ret (results_none rfl _ _ _) rfl ?_
    exact ⟨rfl, HF.out⟩
  · have n1 : (bs t.name).toList.isEmpty = false := isEmpty_of _ (by rw [bs_size]; omega)
    clear hnm
    have HS := Lib.hid h
    clear h
    go_enter Try.func114, Try.ntmps114
    go_wp2_with fail
    refine (take_one _ pb t _ en 0 0 HS.out.1 hlen).mono ?_
    rintro e w1 ⟨v1, rfl, hv1, hp1, hg1⟩
    unfold tokA
    have HS1 := Lib.hid ((HS.out.par hg1 hp1).next ((Below.refl _ _).alloc (Nat.le_refl _) (.cells #[.int .i64 (t.pos : Int), .string (bs t.op), v1, .string (bs t.name)] 128)))
    have HT1 := Lib.hid (Blk.new w1 128 #[.int .i64 (t.pos : Int), .string (bs t.op), v1, .string (bs t.name)])
    have HV1 := Lib.hid (Rd.next hv1 ((Below.refl _ _).alloc (Nat.le_refl _) (.cells #[.int .i64 (t.pos : Int), .string (bs t.op), v1, .string (bs t.name)] 128)))
    obtain ⟨A1, c1, rfl, _⟩ := Rd.form hv1
    clear hv1 hp1 hg1 HS
    go_upto_region 1 with (fail)
    generalize (w1.alloc (.cells #[.int .i64 (t.pos : Int), .string (bs t.op), .slice A1 t.word.length c1, .string (bs t.name)] 128)) = wa at *
    generalize w1.heap.size = tb at *
    have t0 : wa.cell? ⟨tb, 0, none⟩ = some (.int .i64 (t.pos : Int)) := HT1.out.cell 0
    have t1 : wa.cell? ⟨tb, 1, none⟩ = some (.string (bs t.op)) := HT1.out.cell 1
    have t2 : wa.cell? ⟨tb, 2, none⟩ = some (.slice A1 t.word.length c1) := HT1.out.cell 2
    have t3 : wa.cell? ⟨tb, 3, none⟩ = some (.string (bs t.name)) := HT1.out.cell 3
    have htb : tb < wa.heap.size := HT1.out.lt
    obtain ⟨hP, ⟨va, vb, vi, vo, B, ⟨vsa, hwa, hoa⟩, ⟨vsb, hwb, hob⟩, ri, ro⟩, hgr, hpl, hcl⟩ := HS1.out
    have HP := Lib.hid hP
    have HWA := Lib.hid hwa
    have HWB := Lib.hid hwb
    have HRI := Lib.hid ri
    have HRO := Lib.hid ro
    have HB := Lib.hid B
    obtain ⟨Aa, ca, rfl, _⟩ := own_len hoa
    obtain ⟨Ab, cb', rfl, _⟩ := own_len hob
    have b0 : wa.cell? ⟨cb, 0, none⟩ = some (.slice Aa c.asg.length ca) := B.cell 0
    have b1 : wa.cell? ⟨cb, 1, none⟩ = some (.slice Ab c.words.length cb') := B.cell 1
    have bf0 := B.frozen 0
    have bf1 := B.frozen 1
    have bcb := B.lt
    clear B hP hwa hwb ri ro
    go_wp2_with fail
    refine (pfail_first _ pb ts en 0 t.pos 9 HP.out).mono ?_
    rintro e w2 ⟨rfl, hp2, hg2⟩
    have HF := Lib.hid (HS1.out.par hg2 hp2)
    clear hp2 hg2 b0 b1 bf0 bf1 t0 t1 t2 t3
    go_wp2
    refine bodyPost_ret (results_none rfl _ _ _) rfl ?_
    exact ⟨rfl, HF.out⟩
set_option maxRecDepth 100000 in
set_option maxHeartbeats 2000000 in
theorem word_push0 (w0 w : World) (pb cb : Nat) (t : Tk) (ts : List Tk) (en : Nat) (c : Sm) (h : SSt w0 pb cb (t :: ts) en 0 0 c w) (hlen : (t :: ts).length ≤ 100000) (hnm : t.name.length = 0) (hw : c.words.length < 32) :
    Calls Try.prog 114 #[ptr pb, ptr cb] w fun r w' => r = .returned (.tuple #[]) ∧ SSt w0 pb cb ts en 0 0 { c with words := c.words ++ [t.word] } w' := by
  obtain ⟨i0, hi, hz0, hz1, hz2⟩ := info_parts info42
  have n1 : (bs t.name).toList.isEmpty = true := empty_list _ (by rw [bs_size]; exact hnm)
  have HN := Lib.hid hnm
  clear hnm
  have m2 : ((c.words.length : Int) == 32) = false := beq_false_of_ne (by omega)
  have HS := Lib.hid h
  clear h
  go_enter Try.func114, Try.ntmps114
  go_wp2_with fail
  refine (take_one _ pb t _ en 0 0 HS.out.1 hlen).mono ?_
  rintro e w1 ⟨v1, rfl, hv1, hp1, hg1⟩
  unfold tokA
  have HS1 := Lib.hid ((HS.out.par hg1 hp1).next ((Below.refl _ _).alloc (Nat.le_refl _) (.cells #[.int .i64 (t.pos : Int), .string (bs t.op), v1, .string (bs t.name)] 128)))
  have HT1 := Lib.hid (Blk.new w1 128 #[.int .i64 (t.pos : Int), .string (bs t.op), v1, .string (bs t.name)])
  have HV1 := Lib.hid (Rd.next hv1 ((Below.refl _ _).alloc (Nat.le_refl _) (.cells #[.int .i64 (t.pos : Int), .string (bs t.op), v1, .string (bs t.name)] 128)))
  obtain ⟨A1, c1, rfl, _⟩ := Rd.form hv1
  clear hv1 hp1 hg1 HS
  go_upto_region 1 with (fail)
  generalize (w1.alloc (.cells #[.int .i64 (t.pos : Int), .string (bs t.op), .slice A1 t.word.length c1, .string (bs t.name)] 128)) = wa at *
  generalize w1.heap.size = tb at *
  have t0 : wa.cell? ⟨tb, 0, none⟩ = some (.int .i64 (t.pos : Int)) := HT1.out.cell 0
  have t1 : wa.cell? ⟨tb, 1, none⟩ = some (.string (bs t.op)) := HT1.out.cell 1
  have t2 : wa.cell? ⟨tb, 2, none⟩ = some (.slice A1 t.word.length c1) := HT1.out.cell 2
  have t3 : wa.cell? ⟨tb, 3, none⟩ = some (.string (bs t.name)) := HT1.out.cell 3
  have htb : tb < wa.heap.size := HT1.out.lt
  obtain ⟨hP, ⟨va, vb, vi, vo, B, ⟨vsa, hwa, hoa⟩, ⟨vsb, hwb, hob⟩, ri, ro⟩, hgr, hpl, hcl⟩ := HS1.out
  have HP := Lib.hid hP
  have HWA := Lib.hid hwa
  have HWB := Lib.hid hwb
  have HRI := Lib.hid ri
  have HRO := Lib.hid ro
  have HB := Lib.hid B
  obtain ⟨Aa, ca, rfl, _⟩ := own_len hoa
  obtain ⟨Ab, cb', rfl, _⟩ := own_len hob
  have b0 : wa.cell? ⟨cb, 0, none⟩ = some (.slice Aa c.asg.length ca) := B.cell 0
  have b1 : wa.cell? ⟨cb, 1, none⟩ = some (.slice Ab c.words.length cb') := B.cell 1
  have bf0 := B.frozen 0
  have bf1 := B.frozen 1
  have bcb := B.lt
  clear B hP hwa hwb ri ro
  have hne := Lib.hid (own_blk_ne hob HB.out (by decide))
  have hbase : w0.heap.size ≤ wa.heap.size + 1 := by have := hgr.size; omega
  go_upto_region 7 with (fail)
  go_region_law ((refine step_append_lies _ (by rfl) _ _ _ (by rfl) w0.heap.size 42 i0 _ 1 24 Try.underlying44 hi hz0 hz1 hz2 rfl (by omega) (.slice Ab c.words.length cb') c.words.length (rowC wdV c.words vsb) (by rfl) ((hob.alloc _).drew) ⟨wa.heap.size, 0, none⟩ 1 1 [.slice A1 t.word.length c1] (by rfl) (by rfl) (World.news_of_block (cs := #[.slice A1 t.word.length c1]) (t := 42) (fr := (0, 0)) (heap_alloc_new wa _)) (by simp [Value.oneCell']) (by omega) (by unfold maxLen; omega) (by omega) (by simp; omega) (wa.heap.size + 1) (by simp) ?_; intro gg cap w2 hown1 hgrow hat hlt1; have B1 := Lib.hid (Blk.grown (Blk.drew (Blk.alloc HB.out _)) hgrow (Ne.symm hne.out)); have d1 : w2.cell? ⟨cb, 1, none⟩ = some (.slice Ab c.words.length cb') := B1.out.cell 1; have f1' := B1.out.frozen 1))
  all_goals
    have HX := Lib.hid (SSt.pushW HP.out HB.out HWB.out hob (⟨vsa, HWA.out, hoa⟩ : RowOwn 140 2 asgV NA wa w0.heap.size _ c.asg) HRI.out HRO.out hgr hpl hcl (((Below.refl _ _).alloc (Nat.le_refl _) _).drew) hgrow hown1 HV1.out)
    clear hown1 hgrow b0 b1 bf0 bf1 t0 t1 t2 t3
    go_wp2
    go_end0
    exact ⟨rfl, HX.out.1⟩
set_option maxRecDepth 100000 in
set_option maxHeartbeats 2000000 in
theorem word_push1 (w0 w : World) (pb cb : Nat) (t : Tk) (ts : List Tk) (en : Nat) (c : Sm) (h : SSt w0 pb cb (t :: ts) en 0 0 c w) (hlen : (t :: ts).length ≤ 100000) (hnm : 0 < t.name.length) (hw0 : 0 < c.words.length) (hw : c.words.length < 32) :
    Calls Try.prog 114 #[ptr pb, ptr cb] w fun r w' => r = .returned (.tuple #[]) ∧ SSt w0 pb cb ts en 0 0 { c with words := c.words ++ [t.word] } w' := by
  obtain ⟨i0, hi, hz0, hz1, hz2⟩ := info_parts info42
  have n1 : (bs t.name).toList.isEmpty = false := isEmpty_of _ (by rw [bs_size]; omega)
  have m1 : ((c.words.length : Int) == 0) = false := beq_false_of_ne (by omega)
  have m2 : ((c.words.length : Int) == 32) = false := beq_false_of_ne (by omega)
  have HS := Lib.hid h
  clear h
  go_enter Try.func114, Try.ntmps114
  go_wp2_with fail
  refine (take_one _ pb t _ en 0 0 HS.out.1 hlen).mono ?_
  rintro e w1 ⟨v1, rfl, hv1, hp1, hg1⟩
  unfold tokA
  have HS1 := Lib.hid ((HS.out.par hg1 hp1).next ((Below.refl _ _).alloc (Nat.le_refl _) (.cells #[.int .i64 (t.pos : Int), .string (bs t.op), v1, .string (bs t.name)] 128)))
  have HT1 := Lib.hid (Blk.new w1 128 #[.int .i64 (t.pos : Int), .string (bs t.op), v1, .string (bs t.name)])
  have HV1 := Lib.hid (Rd.next hv1 ((Below.refl _ _).alloc (Nat.le_refl _) (.cells #[.int .i64 (t.pos : Int), .string (bs t.op), v1, .string (bs t.name)] 128)))
  obtain ⟨A1, c1, rfl, _⟩ := Rd.form hv1
  clear hv1 hp1 hg1 HS
  go_upto_region 1 with (fail)
  generalize (w1.alloc (.cells #[.int .i64 (t.pos : Int), .string (bs t.op), .slice A1 t.word.length c1, .string (bs t.name)] 128)) = wa at *
  generalize w1.heap.size = tb at *
  have t0 : wa.cell? ⟨tb, 0, none⟩ = some (.int .i64 (t.pos : Int)) := HT1.out.cell 0
  have t1 : wa.cell? ⟨tb, 1, none⟩ = some (.string (bs t.op)) := HT1.out.cell 1
  have t2 : wa.cell? ⟨tb, 2, none⟩ = some (.slice A1 t.word.length c1) := HT1.out.cell 2
  have t3 : wa.cell? ⟨tb, 3, none⟩ = some (.string (bs t.name)) := HT1.out.cell 3
  have htb : tb < wa.heap.size := HT1.out.lt
  obtain ⟨hP, ⟨va, vb, vi, vo, B, ⟨vsa, hwa, hoa⟩, ⟨vsb, hwb, hob⟩, ri, ro⟩, hgr, hpl, hcl⟩ := HS1.out
  have HP := Lib.hid hP
  have HWA := Lib.hid hwa
  have HWB := Lib.hid hwb
  have HRI := Lib.hid ri
  have HRO := Lib.hid ro
  have HB := Lib.hid B
  obtain ⟨Aa, ca, rfl, _⟩ := own_len hoa
  obtain ⟨Ab, cb', rfl, _⟩ := own_len hob
  have b0 : wa.cell? ⟨cb, 0, none⟩ = some (.slice Aa c.asg.length ca) := B.cell 0
  have b1 : wa.cell? ⟨cb, 1, none⟩ = some (.slice Ab c.words.length cb') := B.cell 1
  have bf0 := B.frozen 0
  have bf1 := B.frozen 1
  have bcb := B.lt
  clear B hP hwa hwb ri ro
  have hne := Lib.hid (own_blk_ne hob HB.out (by decide))
  have hbase : w0.heap.size ≤ wa.heap.size + 1 := by have := hgr.size; omega
  go_upto_region 7 with (fail)
  go_region_law ((refine step_append_lies _ (by rfl) _ _ _ (by rfl) w0.heap.size 42 i0 _ 1 24 Try.underlying44 hi hz0 hz1 hz2 rfl (by omega) (.slice Ab c.words.length cb') c.words.length (rowC wdV c.words vsb) (by rfl) ((hob.alloc _).drew) ⟨wa.heap.size, 0, none⟩ 1 1 [.slice A1 t.word.length c1] (by rfl) (by rfl) (World.news_of_block (cs := #[.slice A1 t.word.length c1]) (t := 42) (fr := (0, 0)) (heap_alloc_new wa _)) (by simp [Value.oneCell']) (by omega) (by unfold maxLen; omega) (by omega) (by simp; omega) (wa.heap.size + 1) (by simp) ?_; intro gg cap w2 hown1 hgrow hat hlt1; have B1 := Lib.hid (Blk.grown (Blk.drew (Blk.alloc HB.out _)) hgrow (Ne.symm hne.out)); have d1 : w2.cell? ⟨cb, 1, none⟩ = some (.slice Ab c.words.length cb') := B1.out.cell 1; have f1' := B1.out.frozen 1))
  all_goals
    have HX := Lib.hid (SSt.pushW HP.out HB.out HWB.out hob (⟨vsa, HWA.out, hoa⟩ : RowOwn 140 2 asgV NA wa w0.heap.size _ c.asg) HRI.out HRO.out hgr hpl hcl (((Below.refl _ _).alloc (Nat.le_refl _) _).drew) hgrow hown1 HV1.out)
    clear hown1 hgrow b0 b1 bf0 bf1 t0 t1 t2 t3
    go_wp2
    go_end0
    exact ⟨rfl, HX.out.1⟩
end Go.Proofs.Ytiddchpkmcncdaa
