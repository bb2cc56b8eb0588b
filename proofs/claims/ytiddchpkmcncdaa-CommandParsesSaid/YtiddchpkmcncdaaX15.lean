/- Walks of layer 41: redirection. -/
import Derived.Test.YtiddchpkmcncdaaX14
namespace Go.Proofs.Ytiddchpkmcncdaa
open Go.RowKit
set_option linter.unusedSimpArgs false
set_option linter.unusedVariables false
theorem take_one (w : World) (pb : Nat) (t : Tk) (ts : List Tk) (en : Nat) (wh er : Int) (h : PAt w pb (t :: ts) en wh er) (hn : (t :: ts).length ≤ 100000) :
    Calls Try.prog 75 #[ptr pb] w fun r w' => ∃ v, r = .returned (tokA t v) ∧ RdW w' v t.word ∧ PAt w' pb ts en wh er ∧ w.grownBy w' (some pb) :=
  (take_any w pb (t :: ts) en wh er h hn).mono fun _ _ h => h
theorem take_hd (w : World) (pb : Nat) (ts : List Tk) (en : Nat) (wh er : Int) (u : Tk) (hu : hdT en ts = u) (h : PAt w pb ts en wh er) (hn : ts.length ≤ 100000) :
    Calls Try.prog 75 #[ptr pb] w fun r w' => ∃ v, r = .returned (tokA u v) ∧ RdW w' v u.word ∧ PAt w' pb ts.tail en wh er ∧ w.grownBy w' (some pb) := by
  subst hu; exact (take_any w pb ts en wh er h hn).mono fun _ _ h => h
theorem isWord_no (w : World) (t : Tk) (v : Value) (h : RdW w v t.word) (h0 : t.word.length = 0) : Calls Try.prog 113 #[tokA t v] w fun r w' => r = .returned (.bool false) ∧ Below w.heap.size w w' :=
  (isWord_any w t v h).mono fun _ _ ⟨h1, h2⟩ => ⟨h1.trans (by rw [List.length_eq_zero_iff.1 h0]; rfl), h2⟩
theorem isWord_yes (w : World) (t : Tk) (v : Value) (h : RdW w v t.word) (h0 : 0 < t.word.length) : Calls Try.prog 113 #[tokA t v] w fun r w' => r = .returned (.bool true) ∧ Below w.heap.size w w' :=
  (isWord_any w t v h).mono fun _ _ ⟨h1, h2⟩ => ⟨h1.trans (by cases hw : t.word with | nil => rw [hw] at h0; simp at h0 | cons a l => rfl), h2⟩
theorem SSt.grow {w0 : World} {pb cb : Nat} {ts : List Tk} {en : Nat} {wh er : Int} {c : Sm} {w : World} (h : SSt w0 pb cb ts en wh er c w) (i : Nat) (u : Value) : Kept [46] w (w.setCell ⟨cb, i, none⟩ u) ∧ w0.grownBy (w.setCell ⟨cb, i, none⟩ u) (some pb) := by
  obtain ⟨h1, ⟨va, vb, vi, vo, b, ra, rb, ri, ro⟩, h3, h4, h5⟩ := h
  exact ⟨Kept.of_blk [46] b (only_setCell (p := ⟨cb, i, none⟩) (World.grownBy.refl _ _) (.inl rfl) _) rfl, only_setCell (p := ⟨cb, i, none⟩) h3 (.inr h5) _⟩
theorem SSt.setIn {w0 : World} {pb cb : Nat} {ts : List Tk} {en : Nat} {wh er : Int} {c : Sm} {w : World} (h : SSt w0 pb cb ts en wh er c w) {u : Value} {ps : Wd} (hu : RdW w u ps) : SSt w0 pb cb ts en wh er { c with inn := ps } (w.setCell ⟨cb, 2, none⟩ u) := by
  obtain ⟨k, g⟩ := h.grow 2 u
  obtain ⟨h1, ⟨va, vb, vi, vo, b, ra, rb, ri, ro⟩, h3, h4, h5⟩ := h
  exact ⟨h1.keep k rfl rfl rfl, ⟨va, vb, u, vo, blk_cast (b.set_ 2 u) rfl, ra.keep k rfl (fun _ _ h => NA.keep h k rfl), rb.keep k rfl (fun _ _ h => NW.keep h k rfl), hu.keep k rfl, ro.keep k rfl⟩, g, h4, h5⟩
theorem SSt.setOut {w0 : World} {pb cb : Nat} {ts : List Tk} {en : Nat} {wh er : Int} {c : Sm} {w : World} (h : SSt w0 pb cb ts en wh er c w) {u : Value} {ps : Wd} (hu : RdW w u ps) : SSt w0 pb cb ts en wh er { c with out := ps } (w.setCell ⟨cb, 3, none⟩ u) := by
  obtain ⟨k, g⟩ := h.grow 3 u
  obtain ⟨h1, ⟨va, vb, vi, vo, b, ra, rb, ri, ro⟩, h3, h4, h5⟩ := h
  exact ⟨h1.keep k rfl rfl rfl, ⟨va, vb, vi, u, blk_cast (b.set_ 3 u) rfl, ra.keep k rfl (fun _ _ h => NA.keep h k rfl), rb.keep k rfl (fun _ _ h => NW.keep h k rfl), ri.keep k rfl, hu.keep k rfl⟩, g, h4, h5⟩
theorem SSt.setApp {w0 : World} {pb cb : Nat} {ts : List Tk} {en : Nat} {wh er : Int} {c : Sm} {w : World} (h : SSt w0 pb cb ts en wh er c w) : SSt w0 pb cb ts en wh er { c with app := true } (w.setCell ⟨cb, 4, none⟩ (.bool true)) := by
  obtain ⟨k, g⟩ := h.grow 4 (.bool true)
  obtain ⟨h1, ⟨va, vb, vi, vo, b, ra, rb, ri, ro⟩, h3, h4, h5⟩ := h
  exact ⟨h1.keep k rfl rfl rfl, ⟨va, vb, vi, vo, blk_cast (b.set_ 4 _) rfl, ra.keep k rfl (fun _ _ h => NA.keep h k rfl), rb.keep k rfl (fun _ _ h => NW.keep h k rfl), ri.keep k rfl, ro.keep k rfl⟩, g, h4, h5⟩
theorem SSt.pb_ne {w0 : World} {pb cb : Nat} {ts : List Tk} {en : Nat} {wh er : Int} {c : Sm} {w : World} (h : SSt w0 pb cb ts en wh er c w) : pb < w.heap.size ∧ cb < w.heap.size ∧ pb < cb := by
  obtain ⟨h1, ⟨va, vb, vi, vo, b, ra, rb, ri, ro⟩, h3, h4, h5⟩ := h
  exact ⟨h1.lt, b.lt, by omega⟩
set_option maxRecDepth 100000 in
set_option maxHeartbeats 1000000 in
theorem red_dup_in (w0 w : World) (pb cb : Nat) (t : Tk) (ts : List Tk) (en : Nat) (c : Sm) (h : SSt w0 pb cb (t :: ts) en 0 0 c w) (hlen : (t :: ts).length ≤ 100000) (ho : t.op = [60]) (hd : 0 < c.inn.length) :
    Calls Try.prog 112 #[ptr pb, ptr cb] w fun r w' => r = .returned (.tuple #[]) ∧ SSt w0 pb cb [] en t.pos 7 c w' := by
  have k1 : (bs t.op).toList = [60] := (bs_tl t.op).trans ho
  have HS := Lib.hid h
  clear h ho
  go_enter Try.func112, Try.ntmps112
  go_wp2_with fail
  refine (take_one _ pb t _ en 0 0 HS.out.1 hlen).mono ?_
  rintro e w1 ⟨v1, rfl, hv1, hp1, hg1⟩
  unfold tokA
  have HS1 := Lib.hid ((HS.out.par hg1 hp1).next ((Below.refl _ _).alloc (Nat.le_refl _) (.cells #[.int .i64 (t.pos : Int), .string (bs t.op), v1, .string (bs t.name)] 128)))
  have HT1 := Lib.hid (Blk.new w1 128 #[.int .i64 (t.pos : Int), .string (bs t.op), v1, .string (bs t.name)])
  obtain ⟨A1, c1, rfl, _⟩ := Rd.form hv1
  clear hv1 hp1 hg1 HS
  go_upto_region 1 with (fail)
  generalize (w1.alloc (.cells #[.int .i64 (t.pos : Int), .string (bs t.op), .slice A1 t.word.length c1, .string (bs t.name)] 128)) = wa at *
  generalize w1.heap.size = tb at *
  have t0 : wa.cell? ⟨tb, 0, none⟩ = some (.int .i64 (t.pos : Int)) := HT1.out.cell 0
  have t1 : wa.cell? ⟨tb, 1, none⟩ = some (.string (bs t.op)) := HT1.out.cell 1
  have htb : tb < wa.heap.size := HT1.out.lt
  obtain ⟨_, ⟨va, vb, vi, vo, B, _, _, ri, ro⟩, _, _, _⟩ := HS1.out
  obtain ⟨Ai, ci, rfl, _⟩ := Rd.form ri
  obtain ⟨Ao, co, rfl, _⟩ := Rd.form ro
  have b2 : wa.cell? ⟨cb, 2, none⟩ = some (.slice Ai c.inn.length ci) := B.cell 2
  have b3 : wa.cell? ⟨cb, 3, none⟩ = some (.slice Ao c.out.length co) := B.cell 3
  have bf2 := B.frozen 2
  have bf3 := B.frozen 3
  have bcb := B.lt
  clear B ri ro
  have hd1 : (0 : Int) < (c.inn.length : Int) := by omega
  go_wp2_with fail
  refine (pfail_first _ pb ts en 0 t.pos 7 HS1.out.1).mono ?_
  rintro e w2 ⟨rfl, hp2, hg2⟩
  have HF := Lib.hid (HS1.out.par hg2 hp2)
  clear hp2 hg2 b2 b3 bf2 bf3 t0 t1
  go_wp2
  refine bodyPost_ret (results_none rfl _ _ _) rfl ?_
  exact ⟨rfl, HF.out⟩
set_option maxRecDepth 100000 in
set_option maxHeartbeats 1000000 in
theorem red_dup_out (w0 w : World) (pb cb : Nat) (t : Tk) (ts : List Tk) (en : Nat) (c : Sm) (h : SSt w0 pb cb (t :: ts) en 0 0 c w) (hlen : (t :: ts).length ≤ 100000) (ho : ¬ t.op = [60]) (hd : 0 < c.out.length) :
    Calls Try.prog 112 #[ptr pb, ptr cb] w fun r w' => r = .returned (.tuple #[]) ∧ SSt w0 pb cb [] en t.pos 7 c w' := by
  have k1 : ((bs t.op).toList == [60]) = false := by rw [bs_tl]; simpa using ho
  have HS := Lib.hid h
  clear h ho
  go_enter Try.func112, Try.ntmps112
  go_wp2_with fail
  refine (take_one _ pb t _ en 0 0 HS.out.1 hlen).mono ?_
  rintro e w1 ⟨v1, rfl, hv1, hp1, hg1⟩
  unfold tokA
  have HS1 := Lib.hid ((HS.out.par hg1 hp1).next ((Below.refl _ _).alloc (Nat.le_refl _) (.cells #[.int .i64 (t.pos : Int), .string (bs t.op), v1, .string (bs t.name)] 128)))
  have HT1 := Lib.hid (Blk.new w1 128 #[.int .i64 (t.pos : Int), .string (bs t.op), v1, .string (bs t.name)])
  obtain ⟨A1, c1, rfl, _⟩ := Rd.form hv1
  clear hv1 hp1 hg1 HS
  go_upto_region 1 with (fail)
  generalize (w1.alloc (.cells #[.int .i64 (t.pos : Int), .string (bs t.op), .slice A1 t.word.length c1, .string (bs t.name)] 128)) = wa at *
  generalize w1.heap.size = tb at *
  have t0 : wa.cell? ⟨tb, 0, none⟩ = some (.int .i64 (t.pos : Int)) := HT1.out.cell 0
  have t1 : wa.cell? ⟨tb, 1, none⟩ = some (.string (bs t.op)) := HT1.out.cell 1
  have htb : tb < wa.heap.size := HT1.out.lt
  obtain ⟨_, ⟨va, vb, vi, vo, B, _, _, ri, ro⟩, _, _, _⟩ := HS1.out
  obtain ⟨Ai, ci, rfl, _⟩ := Rd.form ri
  obtain ⟨Ao, co, rfl, _⟩ := Rd.form ro
  have b2 : wa.cell? ⟨cb, 2, none⟩ = some (.slice Ai c.inn.length ci) := B.cell 2
  have b3 : wa.cell? ⟨cb, 3, none⟩ = some (.slice Ao c.out.length co) := B.cell 3
  have bf2 := B.frozen 2
  have bf3 := B.frozen 3
  have bcb := B.lt
  clear B ri ro
  have hd1 : (0 : Int) < (c.out.length : Int) := by omega
  go_wp2_with fail
  refine (pfail_first _ pb ts en 0 t.pos 7 HS1.out.1).mono ?_
  rintro e w2 ⟨rfl, hp2, hg2⟩
  have HF := Lib.hid (HS1.out.par hg2 hp2)
  clear hp2 hg2 b2 b3 bf2 bf3 t0 t1
  go_wp2
  refine bodyPost_ret (results_none rfl _ _ _) rfl ?_
  exact ⟨rfl, HF.out⟩
set_option maxRecDepth 100000 in
set_option maxHeartbeats 1000000 in
theorem red_bad_in (w0 w : World) (pb cb : Nat) (t : Tk) (ts : List Tk) (en : Nat) (c : Sm) (h : SSt w0 pb cb (t :: ts) en 0 0 c w) (hlen : (t :: ts).length ≤ 100000) (ho : t.op = [60]) (hd : c.inn.length = 0) (u : Tk) (hu : hdT en ts = u) (h0 : u.word.length = 0) :
    Calls Try.prog 112 #[ptr pb, ptr cb] w fun r w' => r = .returned (.tuple #[]) ∧ SSt w0 pb cb [] en u.pos 30 c w' := by
  have H0 := Lib.hid h0
  clear h0
  have HU := Lib.hid hu
  clear hu
  have k1 : (bs t.op).toList = [60] := (bs_tl t.op).trans ho
  have HS := Lib.hid h
  clear h ho
  go_enter Try.func112, Try.ntmps112
  go_wp2_with fail
  refine (take_one _ pb t _ en 0 0 HS.out.1 hlen).mono ?_
  rintro e w1 ⟨v1, rfl, hv1, hp1, hg1⟩
  unfold tokA
  have HS1 := Lib.hid ((HS.out.par hg1 hp1).next ((Below.refl _ _).alloc (Nat.le_refl _) (.cells #[.int .i64 (t.pos : Int), .string (bs t.op), v1, .string (bs t.name)] 128)))
  have HT1 := Lib.hid (Blk.new w1 128 #[.int .i64 (t.pos : Int), .string (bs t.op), v1, .string (bs t.name)])
  obtain ⟨A1, c1, rfl, _⟩ := Rd.form hv1
  clear hv1 hp1 hg1 HS
  go_upto_region 1 with (fail)
  generalize (w1.alloc (.cells #[.int .i64 (t.pos : Int), .string (bs t.op), .slice A1 t.word.length c1, .string (bs t.name)] 128)) = wa at *
  generalize w1.heap.size = tb at *
  have t0 : wa.cell? ⟨tb, 0, none⟩ = some (.int .i64 (t.pos : Int)) := HT1.out.cell 0
  have t1 : wa.cell? ⟨tb, 1, none⟩ = some (.string (bs t.op)) := HT1.out.cell 1
  have htb : tb < wa.heap.size := HT1.out.lt
  obtain ⟨_, ⟨va, vb, vi, vo, B, _, _, ri, ro⟩, _, _, _⟩ := HS1.out
  obtain ⟨Ai, ci, rfl, _⟩ := Rd.form ri
  obtain ⟨Ao, co, rfl, _⟩ := Rd.form ro
  have b2 : wa.cell? ⟨cb, 2, none⟩ = some (.slice Ai c.inn.length ci) := B.cell 2
  have b3 : wa.cell? ⟨cb, 3, none⟩ = some (.slice Ao c.out.length co) := B.cell 3
  have bf2 := B.frozen 2
  have bf3 := B.frozen 3
  have bcb := B.lt
  clear B ri ro
  have hpt : pb ≠ tb := by
    obtain ⟨⟨tv, hb, _⟩, _⟩ := HS1.out
    intro e
    have h2 := HT1.out
    unfold Blk at hb h2
    rw [← e, hb] at h2
    injection h2 with h2
    injection h2 with _ h2
    cases h2
  have hd1 : ¬ (0 : Int) < (c.inn.length : Int) := by omega
  have hd2 : ¬ 0 < c.inn.length := by omega
  clear hd
  go_wp2_with fail
  refine (take_hd _ pb ts en 0 0 u HU.out HS1.out.1 (by simp at hlen; omega)).mono ?_
  rintro e w2 ⟨v2, rfl, hv2, hp2, hg2⟩
  unfold tokA
  have HS2 := Lib.hid ((HS1.out.par hg2 hp2).next ((Below.refl _ _).alloc (Nat.le_refl _) (.cells #[.int .i64 (u.pos : Int), .string (bs u.op), v2, .string (bs u.name)] 128)))
  have HU2 := Lib.hid (Blk.new w2 128 #[.int .i64 (u.pos : Int), .string (bs u.op), v2, .string (bs u.name)])
  have HT2 := Lib.hid ((HT1.out.grown hg2 (by intro e; injection e with e; omega)).alloc (.cells #[.int .i64 (u.pos : Int), .string (bs u.op), v2, .string (bs u.name)] 128))
  have HV2 := Lib.hid (Rd.next hv2 ((Below.refl _ _).alloc (Nat.le_refl _) (.cells #[.int .i64 (u.pos : Int), .string (bs u.op), v2, .string (bs u.name)] 128)))
  obtain ⟨A2, c2, rfl, _⟩ := Rd.form hv2
  clear hv2 hp2 hg2 b2 b3 bf2 bf3 t0 t1 HS1 HT1
  go_upto_region 7 with (fail)
  generalize (w2.alloc (.cells #[.int .i64 (u.pos : Int), .string (bs u.op), .slice A2 (List.length u.word) c2, .string (bs u.name)] 128)) = wb at *
  generalize w2.heap.size = ub at *
  have u0 : wb.cell? ⟨ub, 0, none⟩ = some (.int .i64 (u.pos : Int)) := HU2.out.cell 0
  have u1 : wb.cell? ⟨ub, 1, none⟩ = some (.string (bs u.op)) := HU2.out.cell 1
  have u2 : wb.cell? ⟨ub, 2, none⟩ = some (.slice A2 (List.length u.word) c2) := HU2.out.cell 2
  have u3 : wb.cell? ⟨ub, 3, none⟩ = some (.string (bs u.name)) := HU2.out.cell 3
  have hub : ub < wb.heap.size := HU2.out.lt
  go_wp2_with fail
  refine (isWord_no _ u _ HV2.out H0.out).mono ?_
  rintro e w3 ⟨rfl, hb3⟩
  have HS3 := Lib.hid (HS2.out.next hb3)
  have HU3 := Lib.hid (HU2.out.next hb3 hub)
  have HT3 := Lib.hid (HT2.out.next hb3 HT2.out.lt)
  have HV3 := Lib.hid (Rd.next HV2.out hb3)
  clear HS2 HU2 HT2 HV2 hb3 u0 u1 u2 u3 htb hub
  have x0 : w3.cell? ⟨ub, 0, none⟩ = some (.int .i64 (u.pos : Int)) := HU3.out.cell 0
  have x2 : w3.cell? ⟨ub, 2, none⟩ = some (.slice A2 (List.length u.word) c2) := HU3.out.cell 2
  have y1 : w3.cell? ⟨tb, 1, none⟩ = some (.string (bs t.op)) := HT3.out.cell 1
  have hub : ub < w3.heap.size := HU3.out.lt
  have htb : tb < w3.heap.size := HT3.out.lt
  go_wp2_with fail
  refine (pfail_first _ pb _ en 0 u.pos 30 HS3.out.1).mono ?_
  rintro e w4 ⟨rfl, hp4, hg4⟩
  have HF := Lib.hid (HS3.out.par hg4 hp4)
  clear hp4 hg4 x0 x2 y1
  go_wp2
  refine bodyPost_ret (results_none rfl _ _ _) rfl ?_
  exact ⟨rfl, HF.out⟩
set_option maxRecDepth 100000 in
set_option maxHeartbeats 1000000 in
theorem red_ok_in (w0 w : World) (pb cb : Nat) (t : Tk) (ts : List Tk) (en : Nat) (c : Sm) (h : SSt w0 pb cb (t :: ts) en 0 0 c w) (hlen : (t :: ts).length ≤ 100000) (ho : t.op = [60]) (hd : c.inn.length = 0) (u : Tk) (hu : hdT en ts = u) (h0 : 0 < u.word.length) :
    Calls Try.prog 112 #[ptr pb, ptr cb] w fun r w' => r = .returned (.tuple #[]) ∧ SSt w0 pb cb ts.tail en 0 0 { c with inn := u.word } w' := by
  have H0 := Lib.hid h0
  clear h0
  have HU := Lib.hid hu
  clear hu
  have k1 : (bs t.op).toList = [60] := (bs_tl t.op).trans ho
  have HS := Lib.hid h
  clear h ho
  go_enter Try.func112, Try.ntmps112
  go_wp2_with fail
  refine (take_one _ pb t _ en 0 0 HS.out.1 hlen).mono ?_
  rintro e w1 ⟨v1, rfl, hv1, hp1, hg1⟩
  unfold tokA
  have HS1 := Lib.hid ((HS.out.par hg1 hp1).next ((Below.refl _ _).alloc (Nat.le_refl _) (.cells #[.int .i64 (t.pos : Int), .string (bs t.op), v1, .string (bs t.name)] 128)))
  have HT1 := Lib.hid (Blk.new w1 128 #[.int .i64 (t.pos : Int), .string (bs t.op), v1, .string (bs t.name)])
  obtain ⟨A1, c1, rfl, _⟩ := Rd.form hv1
  clear hv1 hp1 hg1 HS
  go_upto_region 1 with (fail)
  generalize (w1.alloc (.cells #[.int .i64 (t.pos : Int), .string (bs t.op), .slice A1 t.word.length c1, .string (bs t.name)] 128)) = wa at *
  generalize w1.heap.size = tb at *
  have t0 : wa.cell? ⟨tb, 0, none⟩ = some (.int .i64 (t.pos : Int)) := HT1.out.cell 0
  have t1 : wa.cell? ⟨tb, 1, none⟩ = some (.string (bs t.op)) := HT1.out.cell 1
  have htb : tb < wa.heap.size := HT1.out.lt
  obtain ⟨_, ⟨va, vb, vi, vo, B, _, _, ri, ro⟩, _, _, _⟩ := HS1.out
  obtain ⟨Ai, ci, rfl, _⟩ := Rd.form ri
  obtain ⟨Ao, co, rfl, _⟩ := Rd.form ro
  have b2 : wa.cell? ⟨cb, 2, none⟩ = some (.slice Ai c.inn.length ci) := B.cell 2
  have b3 : wa.cell? ⟨cb, 3, none⟩ = some (.slice Ao c.out.length co) := B.cell 3
  have bf2 := B.frozen 2
  have bf3 := B.frozen 3
  have bcb := B.lt
  clear B ri ro
  have hpt : pb ≠ tb := by
    obtain ⟨⟨tv, hb, _⟩, _⟩ := HS1.out
    intro e
    have h2 := HT1.out
    unfold Blk at hb h2
    rw [← e, hb] at h2
    injection h2 with h2
    injection h2 with _ h2
    cases h2
  have hd1 : ¬ (0 : Int) < (c.inn.length : Int) := by omega
  have hd2 : ¬ 0 < c.inn.length := by omega
  clear hd
  go_wp2_with fail
  refine (take_hd _ pb ts en 0 0 u HU.out HS1.out.1 (by simp at hlen; omega)).mono ?_
  rintro e w2 ⟨v2, rfl, hv2, hp2, hg2⟩
  unfold tokA
  have HS2 := Lib.hid ((HS1.out.par hg2 hp2).next ((Below.refl _ _).alloc (Nat.le_refl _) (.cells #[.int .i64 (u.pos : Int), .string (bs u.op), v2, .string (bs u.name)] 128)))
  have HU2 := Lib.hid (Blk.new w2 128 #[.int .i64 (u.pos : Int), .string (bs u.op), v2, .string (bs u.name)])
  have HT2 := Lib.hid ((HT1.out.grown hg2 (by intro e; injection e with e; omega)).alloc (.cells #[.int .i64 (u.pos : Int), .string (bs u.op), v2, .string (bs u.name)] 128))
  have HV2 := Lib.hid (Rd.next hv2 ((Below.refl _ _).alloc (Nat.le_refl _) (.cells #[.int .i64 (u.pos : Int), .string (bs u.op), v2, .string (bs u.name)] 128)))
  obtain ⟨A2, c2, rfl, _⟩ := Rd.form hv2
  clear hv2 hp2 hg2 b2 b3 bf2 bf3 t0 t1 HS1 HT1
  go_upto_region 7 with (fail)
  generalize (w2.alloc (.cells #[.int .i64 (u.pos : Int), .string (bs u.op), .slice A2 (List.length u.word) c2, .string (bs u.name)] 128)) = wb at *
  generalize w2.heap.size = ub at *
  have u0 : wb.cell? ⟨ub, 0, none⟩ = some (.int .i64 (u.pos : Int)) := HU2.out.cell 0
  have u1 : wb.cell? ⟨ub, 1, none⟩ = some (.string (bs u.op)) := HU2.out.cell 1
  have u2 : wb.cell? ⟨ub, 2, none⟩ = some (.slice A2 (List.length u.word) c2) := HU2.out.cell 2
  have u3 : wb.cell? ⟨ub, 3, none⟩ = some (.string (bs u.name)) := HU2.out.cell 3
  have hub : ub < wb.heap.size := HU2.out.lt
  go_wp2_with fail
  refine (isWord_yes _ u _ HV2.out H0.out).mono ?_
  rintro e w3 ⟨rfl, hb3⟩
  have HS3 := Lib.hid (HS2.out.next hb3)
  have HU3 := Lib.hid (HU2.out.next hb3 hub)
  have HT3 := Lib.hid (HT2.out.next hb3 HT2.out.lt)
  have HV3 := Lib.hid (Rd.next HV2.out hb3)
  clear HS2 HU2 HT2 HV2 hb3 u0 u1 u2 u3 htb hub
  have x0 : w3.cell? ⟨ub, 0, none⟩ = some (.int .i64 (u.pos : Int)) := HU3.out.cell 0
  have x2 : w3.cell? ⟨ub, 2, none⟩ = some (.slice A2 (List.length u.word) c2) := HU3.out.cell 2
  have y1 : w3.cell? ⟨tb, 1, none⟩ = some (.string (bs t.op)) := HT3.out.cell 1
  have hub : ub < w3.heap.size := HU3.out.lt
  have htb : tb < w3.heap.size := HT3.out.lt
  obtain ⟨_, ⟨va, vb, vi, vo, B, _, _, ri, ro⟩, _, _, _⟩ := HS3.out
  have b2 : w3.cell? ⟨cb, 2, none⟩ = some vi := B.cell 2
  have b3 : w3.cell? ⟨cb, 3, none⟩ = some vo := B.cell 3
  have b4 : w3.cell? ⟨cb, 4, none⟩ = some (.bool c.app) := B.cell 4
  have bf2 := B.frozen 2
  have bf3 := B.frozen 3
  have bf4 := B.frozen 4
  have bcb := B.lt
  have hct : ¬ cb = tb := by
    intro e
    have h2 := HT3.out
    unfold Blk at B h2
    rw [← e, B] at h2
    injection h2 with h2
    injection h2 with _ h2
    cases h2
  have hct' : ¬ tb = cb := fun e => hct e.symm
  clear B ri ro
  have k2 : ((bs t.op).toList == [62, 62]) = false := by rw [k1]; rfl
  have HF := Lib.hid (HS3.out.setIn HV3.out)
  go_wp2
  go_end0
  exact ⟨rfl, HF.out⟩
set_option maxRecDepth 100000 in
set_option maxHeartbeats 1000000 in
theorem red_bad_out (w0 w : World) (pb cb : Nat) (t : Tk) (ts : List Tk) (en : Nat) (c : Sm) (h : SSt w0 pb cb (t :: ts) en 0 0 c w) (hlen : (t :: ts).length ≤ 100000) (ho : ¬ t.op = [60]) (hd : c.out.length = 0) (u : Tk) (hu : hdT en ts = u) (h0 : u.word.length = 0) :
    Calls Try.prog 112 #[ptr pb, ptr cb] w fun r w' => r = .returned (.tuple #[]) ∧ SSt w0 pb cb [] en u.pos 30 c w' := by
  have H0 := Lib.hid h0
  clear h0
  have HU := Lib.hid hu
  clear hu
  have k1 : ((bs t.op).toList == [60]) = false := by rw [bs_tl]; simpa using ho
  have HS := Lib.hid h
  clear h ho
  go_enter Try.func112, Try.ntmps112
  go_wp2_with fail
  refine (take_one _ pb t _ en 0 0 HS.out.1 hlen).mono ?_
  rintro e w1 ⟨v1, rfl, hv1, hp1, hg1⟩
  unfold tokA
  have HS1 := Lib.hid ((HS.out.par hg1 hp1).next ((Below.refl _ _).alloc (Nat.le_refl _) (.cells #[.int .i64 (t.pos : Int), .string (bs t.op), v1, .string (bs t.name)] 128)))
  have HT1 := Lib.hid (Blk.new w1 128 #[.int .i64 (t.pos : Int), .string (bs t.op), v1, .string (bs t.name)])
  obtain ⟨A1, c1, rfl, _⟩ := Rd.form hv1
  clear hv1 hp1 hg1 HS
  go_upto_region 1 with (fail)
  generalize (w1.alloc (.cells #[.int .i64 (t.pos : Int), .string (bs t.op), .slice A1 t.word.length c1, .string (bs t.name)] 128)) = wa at *
  generalize w1.heap.size = tb at *
  have t0 : wa.cell? ⟨tb, 0, none⟩ = some (.int .i64 (t.pos : Int)) := HT1.out.cell 0
  have t1 : wa.cell? ⟨tb, 1, none⟩ = some (.string (bs t.op)) := HT1.out.cell 1
  have htb : tb < wa.heap.size := HT1.out.lt
  obtain ⟨_, ⟨va, vb, vi, vo, B, _, _, ri, ro⟩, _, _, _⟩ := HS1.out
  obtain ⟨Ai, ci, rfl, _⟩ := Rd.form ri
  obtain ⟨Ao, co, rfl, _⟩ := Rd.form ro
  have b2 : wa.cell? ⟨cb, 2, none⟩ = some (.slice Ai c.inn.length ci) := B.cell 2
  have b3 : wa.cell? ⟨cb, 3, none⟩ = some (.slice Ao c.out.length co) := B.cell 3
  have bf2 := B.frozen 2
  have bf3 := B.frozen 3
  have bcb := B.lt
  clear B ri ro
  have hpt : pb ≠ tb := by
    obtain ⟨⟨tv, hb, _⟩, _⟩ := HS1.out
    intro e
    have h2 := HT1.out
    unfold Blk at hb h2
    rw [← e, hb] at h2
    injection h2 with h2
    injection h2 with _ h2
    cases h2
  have hd1 : ¬ (0 : Int) < (c.out.length : Int) := by omega
  have hd2 : ¬ 0 < c.out.length := by omega
  clear hd
  go_wp2_with fail
  refine (take_hd _ pb ts en 0 0 u HU.out HS1.out.1 (by simp at hlen; omega)).mono ?_
  rintro e w2 ⟨v2, rfl, hv2, hp2, hg2⟩
  unfold tokA
  have HS2 := Lib.hid ((HS1.out.par hg2 hp2).next ((Below.refl _ _).alloc (Nat.le_refl _) (.cells #[.int .i64 (u.pos : Int), .string (bs u.op), v2, .string (bs u.name)] 128)))
  have HU2 := Lib.hid (Blk.new w2 128 #[.int .i64 (u.pos : Int), .string (bs u.op), v2, .string (bs u.name)])
  have HT2 := Lib.hid ((HT1.out.grown hg2 (by intro e; injection e with e; omega)).alloc (.cells #[.int .i64 (u.pos : Int), .string (bs u.op), v2, .string (bs u.name)] 128))
  have HV2 := Lib.hid (Rd.next hv2 ((Below.refl _ _).alloc (Nat.le_refl _) (.cells #[.int .i64 (u.pos : Int), .string (bs u.op), v2, .string (bs u.name)] 128)))
  obtain ⟨A2, c2, rfl, _⟩ := Rd.form hv2
  clear hv2 hp2 hg2 b2 b3 bf2 bf3 t0 t1 HS1 HT1
  go_upto_region 7 with (fail)
  generalize (w2.alloc (.cells #[.int .i64 (u.pos : Int), .string (bs u.op), .slice A2 (List.length u.word) c2, .string (bs u.name)] 128)) = wb at *
  generalize w2.heap.size = ub at *
  have u0 : wb.cell? ⟨ub, 0, none⟩ = some (.int .i64 (u.pos : Int)) := HU2.out.cell 0
  have u1 : wb.cell? ⟨ub, 1, none⟩ = some (.string (bs u.op)) := HU2.out.cell 1
  have u2 : wb.cell? ⟨ub, 2, none⟩ = some (.slice A2 (List.length u.word) c2) := HU2.out.cell 2
  have u3 : wb.cell? ⟨ub, 3, none⟩ = some (.string (bs u.name)) := HU2.out.cell 3
  have hub : ub < wb.heap.size := HU2.out.lt
  go_wp2_with fail
  refine (isWord_no _ u _ HV2.out H0.out).mono ?_
  rintro e w3 ⟨rfl, hb3⟩
  have HS3 := Lib.hid (HS2.out.next hb3)
  have HU3 := Lib.hid (HU2.out.next hb3 hub)
  have HT3 := Lib.hid (HT2.out.next hb3 HT2.out.lt)
  have HV3 := Lib.hid (Rd.next HV2.out hb3)
  clear HS2 HU2 HT2 HV2 hb3 u0 u1 u2 u3 htb hub
  have x0 : w3.cell? ⟨ub, 0, none⟩ = some (.int .i64 (u.pos : Int)) := HU3.out.cell 0
  have x2 : w3.cell? ⟨ub, 2, none⟩ = some (.slice A2 (List.length u.word) c2) := HU3.out.cell 2
  have y1 : w3.cell? ⟨tb, 1, none⟩ = some (.string (bs t.op)) := HT3.out.cell 1
  have hub : ub < w3.heap.size := HU3.out.lt
  have htb : tb < w3.heap.size := HT3.out.lt
  go_wp2_with fail
  refine (pfail_first _ pb _ en 0 u.pos 30 HS3.out.1).mono ?_
  rintro e w4 ⟨rfl, hp4, hg4⟩
  have HF := Lib.hid (HS3.out.par hg4 hp4)
  clear hp4 hg4 x0 x2 y1
  go_wp2
  refine bodyPost_ret (results_none rfl _ _ _) rfl ?_
  exact ⟨rfl, HF.out⟩
set_option maxRecDepth 100000 in
set_option maxHeartbeats 1000000 in
theorem red_ok_out (w0 w : World) (pb cb : Nat) (t : Tk) (ts : List Tk) (en : Nat) (c : Sm) (h : SSt w0 pb cb (t :: ts) en 0 0 c w) (hlen : (t :: ts).length ≤ 100000) (ho : ¬ t.op = [60]) (hd : c.out.length = 0) (u : Tk) (hu : hdT en ts = u) (h0 : 0 < u.word.length) :
    Calls Try.prog 112 #[ptr pb, ptr cb] w fun r w' => r = .returned (.tuple #[]) ∧ SSt w0 pb cb ts.tail en 0 0 { c with out := u.word, app := c.app || t.op == [62, 62] } w' := by
  have H0 := Lib.hid h0
  clear h0
  have HU := Lib.hid hu
  clear hu
  have k1 : ((bs t.op).toList == [60]) = false := by rw [bs_tl]; simpa using ho
  have HS := Lib.hid h
  clear h ho
  go_enter Try.func112, Try.ntmps112
  go_wp2_with fail
  refine (take_one _ pb t _ en 0 0 HS.out.1 hlen).mono ?_
  rintro e w1 ⟨v1, rfl, hv1, hp1, hg1⟩
  unfold tokA
  have HS1 := Lib.hid ((HS.out.par hg1 hp1).next ((Below.refl _ _).alloc (Nat.le_refl _) (.cells #[.int .i64 (t.pos : Int), .string (bs t.op), v1, .string (bs t.name)] 128)))
  have HT1 := Lib.hid (Blk.new w1 128 #[.int .i64 (t.pos : Int), .string (bs t.op), v1, .string (bs t.name)])
  obtain ⟨A1, c1, rfl, _⟩ := Rd.form hv1
  clear hv1 hp1 hg1 HS
  go_upto_region 1 with (fail)
  generalize (w1.alloc (.cells #[.int .i64 (t.pos : Int), .string (bs t.op), .slice A1 t.word.length c1, .string (bs t.name)] 128)) = wa at *
  generalize w1.heap.size = tb at *
  have t0 : wa.cell? ⟨tb, 0, none⟩ = some (.int .i64 (t.pos : Int)) := HT1.out.cell 0
  have t1 : wa.cell? ⟨tb, 1, none⟩ = some (.string (bs t.op)) := HT1.out.cell 1
  have htb : tb < wa.heap.size := HT1.out.lt
  obtain ⟨_, ⟨va, vb, vi, vo, B, _, _, ri, ro⟩, _, _, _⟩ := HS1.out
  obtain ⟨Ai, ci, rfl, _⟩ := Rd.form ri
  obtain ⟨Ao, co, rfl, _⟩ := Rd.form ro
  have b2 : wa.cell? ⟨cb, 2, none⟩ = some (.slice Ai c.inn.length ci) := B.cell 2
  have b3 : wa.cell? ⟨cb, 3, none⟩ = some (.slice Ao c.out.length co) := B.cell 3
  have bf2 := B.frozen 2
  have bf3 := B.frozen 3
  have bcb := B.lt
  clear B ri ro
  have hpt : pb ≠ tb := by
    obtain ⟨⟨tv, hb, _⟩, _⟩ := HS1.out
    intro e
    have h2 := HT1.out
    unfold Blk at hb h2
    rw [← e, hb] at h2
    injection h2 with h2
    injection h2 with _ h2
    cases h2
  have hd1 : ¬ (0 : Int) < (c.out.length : Int) := by omega
  have hd2 : ¬ 0 < c.out.length := by omega
  clear hd
  go_wp2_with fail
  refine (take_hd _ pb ts en 0 0 u HU.out HS1.out.1 (by simp at hlen; omega)).mono ?_
  rintro e w2 ⟨v2, rfl, hv2, hp2, hg2⟩
  unfold tokA
  have HS2 := Lib.hid ((HS1.out.par hg2 hp2).next ((Below.refl _ _).alloc (Nat.le_refl _) (.cells #[.int .i64 (u.pos : Int), .string (bs u.op), v2, .string (bs u.name)] 128)))
  have HU2 := Lib.hid (Blk.new w2 128 #[.int .i64 (u.pos : Int), .string (bs u.op), v2, .string (bs u.name)])
  have HT2 := Lib.hid ((HT1.out.grown hg2 (by intro e; injection e with e; omega)).alloc (.cells #[.int .i64 (u.pos : Int), .string (bs u.op), v2, .string (bs u.name)] 128))
  have HV2 := Lib.hid (Rd.next hv2 ((Below.refl _ _).alloc (Nat.le_refl _) (.cells #[.int .i64 (u.pos : Int), .string (bs u.op), v2, .string (bs u.name)] 128)))
  obtain ⟨A2, c2, rfl, _⟩ := Rd.form hv2
  clear hv2 hp2 hg2 b2 b3 bf2 bf3 t0 t1 HS1 HT1
  go_upto_region 7 with (fail)
  generalize (w2.alloc (.cells #[.int .i64 (u.pos : Int), .string (bs u.op), .slice A2 (List.length u.word) c2, .string (bs u.name)] 128)) = wb at *
  generalize w2.heap.size = ub at *
  have u0 : wb.cell? ⟨ub, 0, none⟩ = some (.int .i64 (u.pos : Int)) := HU2.out.cell 0
  have u1 : wb.cell? ⟨ub, 1, none⟩ = some (.string (bs u.op)) := HU2.out.cell 1
  have u2 : wb.cell? ⟨ub, 2, none⟩ = some (.slice A2 (List.length u.word) c2) := HU2.out.cell 2
  have u3 : wb.cell? ⟨ub, 3, none⟩ = some (.string (bs u.name)) := HU2.out.cell 3
  have hub : ub < wb.heap.size := HU2.out.lt
  go_wp2_with fail
  refine (isWord_yes _ u _ HV2.out H0.out).mono ?_
  rintro e w3 ⟨rfl, hb3⟩
  have HS3 := Lib.hid (HS2.out.next hb3)
  have HU3 := Lib.hid (HU2.out.next hb3 hub)
  have HT3 := Lib.hid (HT2.out.next hb3 HT2.out.lt)
  have HV3 := Lib.hid (Rd.next HV2.out hb3)
  clear HS2 HU2 HT2 HV2 hb3 u0 u1 u2 u3 htb hub
  have x0 : w3.cell? ⟨ub, 0, none⟩ = some (.int .i64 (u.pos : Int)) := HU3.out.cell 0
  have x2 : w3.cell? ⟨ub, 2, none⟩ = some (.slice A2 (List.length u.word) c2) := HU3.out.cell 2
  have y1 : w3.cell? ⟨tb, 1, none⟩ = some (.string (bs t.op)) := HT3.out.cell 1
  have hub : ub < w3.heap.size := HU3.out.lt
  have htb : tb < w3.heap.size := HT3.out.lt
  obtain ⟨_, ⟨va, vb, vi, vo, B, _, _, ri, ro⟩, _, _, _⟩ := HS3.out
  have b2 : w3.cell? ⟨cb, 2, none⟩ = some vi := B.cell 2
  have b3 : w3.cell? ⟨cb, 3, none⟩ = some vo := B.cell 3
  have b4 : w3.cell? ⟨cb, 4, none⟩ = some (.bool c.app) := B.cell 4
  have bf2 := B.frozen 2
  have bf3 := B.frozen 3
  have bf4 := B.frozen 4
  have bcb := B.lt
  have hct : ¬ cb = tb := by
    intro e
    have h2 := HT3.out
    unfold Blk at B h2
    rw [← e, B] at h2
    injection h2 with h2
    injection h2 with _ h2
    cases h2
  have hct' : ¬ tb = cb := fun e => hct e.symm
  clear B ri ro
  have HF := Lib.hid (HS3.out.setOut HV3.out)
  by_cases k3 : t.op = [62, 62]
  · have k2 : ((bs t.op).toList == [62, 62]) = true := by rw [bs_tl]; simpa using k3
    have HE := Lib.hid (show (c.app || t.op == [62, 62]) = true by rw [k3]; simp)
    clear k3
    go_wp2
    go_end0
    refine ⟨rfl, ?_⟩
    rw [HE.out]
    exact HF.out.setApp
  · have k2 : ((bs t.op).toList == [62, 62]) = false := by rw [bs_tl]; simpa using k3
    have HE := Lib.hid (show (c.app || t.op == [62, 62]) = c.app by rw [beq_false_of_ne k3]; simp)
    clear k3
    go_wp2
    go_end0
    refine ⟨rfl, ?_⟩
    rw [HE.out]
    exact HF.out
end Go.Proofs.Ytiddchpkmcncdaa
