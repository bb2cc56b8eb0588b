/- Walks of layer 41: Parse. -/
import Derived.Test.YtiddchpkmcncdaaX21
import Derived.Test.YtiddchpkmcncdaaX11
namespace Go.Proofs.Ytiddchpkmcncdaa
open Go.RowKit
set_option linter.unusedSimpArgs false
set_option linter.unusedVariables false
/-- What Parse gives. -/
def ParP (w : World) (s : ByteArray) (r : Ending) (w' : World) : Prop :=
  Below w.heap.size w w' ∧ match parS s.data.toList with
    | .ok l => ∃ v, r = .returned (.tuple #[.agg #[v, .bool l.bg], .int .i64 0, .int .i64 0]) ∧ RowRd 49 plV NP w' v l.parts
    | .err q e => r = .returned (.tuple #[.agg #[.slice none 0 0, .bool false], .int .i64 (q : Int), .int .i64 e])
theorem ParP.ok {w w' : World} {s : ByteArray} {l : Ln} {v : Value} {b : Bool} (h : parS s.data.toList = .ok l) (hb : Below w.heap.size w w') (hr : RowRd 49 plV NP w' v l.parts) (he : b = l.bg) : ParP w s (.returned (.tuple #[.agg #[v, .bool b], .int .i64 0, .int .i64 0])) w' :=
  ⟨hb, by rw [h]; exact ⟨v, by rw [he], hr⟩⟩
theorem ParP.bad {w w' : World} {s : ByteArray} {q : Nat} {e x : Int} (h : parS s.data.toList = .err q e) (hb : Below w.heap.size w w') (hx : x = q) : ParP w s (.returned (.tuple #[.agg #[.slice none 0 0, .bool false], .int .i64 x, .int .i64 e])) w' :=
  ⟨hb, by rw [h, hx]⟩
theorem line_nil (w : World) (pb en : Nat) (h : PAt w pb [] en 0 0) :
    Calls Try.prog 41 #[ptr pb] w fun r w' => r = .returned (.agg #[.slice none 0 0, .bool false]) ∧ Below w.heap.size w w' := by
  have hpb := h.lt
  obtain ⟨tv, hB0, hR0⟩ := h
  obtain ⟨A0, c0, rfl, _⟩ := hR0.form
  have p0 : w.cell? ⟨pb, 0, none⟩ = some (.slice A0 0 c0) := hB0.cell 0
  clear hB0 hR0
  go_enter Try.func41, Try.ntmps41
  go_wp2
  refine bodyPost_ret (v := .agg #[.slice none 0 0, .bool false]) (by simp [results, Try.results41, go_sem]) rfl ?_
  exact ⟨rfl, ((Below.refl _ _).alloc (Nat.le_refl _) _).alloc (by simp) _⟩
theorem blk_new1 (w : World) (o : Obj) (t : TypeId) (cs : Array Value) : Blk ((w.alloc o).alloc (.cells cs t)) (w.heap.size + 1) t cs := by
  have := Blk.new (w.alloc o) t cs
  simpa using this
theorem badS_len (s : ByteArray) : badS s.data.toList ≤ s.size := by
  have := tw_le (fun b => perI (n8 b)) s.data.toList
  unfold badS
  simpa using this
theorem toksP_S (s : ByteArray) : toksP s 0 = toksS s.data.toList 0 0 := by unfold toksP dr; rfl
theorem badB_ge (s : ByteArray) (h : badS s.data.toList < s.size) : badB s = badS s.data.toList := by unfold badB; rw [if_pos h]
theorem badB_no (s : ByteArray) (h : ¬ badS s.data.toList < s.size) : badB s = -1 := by unfold badB; rw [if_neg h]
/-- From the block of a new parser on. -/
theorem below_of_grown {w W w' : World} {g : Nat} (h : Below w.heap.size w W) (k : W.grownBy w' (some g)) (hg : w.heap.size ≤ g) : Below w.heap.size w w' := below_row h k hg h.size
set_option maxRecDepth 100000 in
set_option maxHeartbeats 2000000 in
theorem Parse_long (s : ByteArray) (w : World) (hs : s.size ≤ 100000) (h : 1024 < s.size) : Calls Try.prog 13 #[.string s] w fun r w' => ParP w s r w' := by
  have HP := Lib.hid (show parS s.data.toList = .err 0 5 by unfold parS; rw [if_pos (by simpa using h)])
  go_enter Try.func13, Try.ntmps13
  go_wp2
  refine bodyPost_ret (v := .tuple #[.agg #[.slice none 0 0, .bool false], .int .i64 0, .int .i64 5]) (by simp [results, Try.results13, go_sem]) rfl ?_
  exact ParP.bad HP.out ((Below.refl _ _).alloc (Nat.le_refl _) _) rfl
set_option maxRecDepth 100000 in
set_option maxHeartbeats 2000000 in
theorem Parse_byte (s : ByteArray) (w : World) (h : ¬ 1024 < s.size) (hb : badS s.data.toList < s.size) : Calls Try.prog 13 #[.string s] w fun r w' => ParP w s r w' := by
  have HP := Lib.hid (show parS s.data.toList = .err (badS s.data.toList) 6 by unfold parS; rw [if_neg (by simpa using h), if_pos (by simpa using hb)])
  have HB := Lib.hid (badB_ge s hb)
  obtain ⟨q, hq⟩ : ∃ q, badS s.data.toList = q := ⟨_, rfl⟩
  rw [hq] at HP HB
  have h2 : (0 : Int) ≤ (q : Int) := by omega
  clear hb hq
  go_enter Try.func13, Try.ntmps13
  go_wp2_with fail
  refine (badByte_any s _ (by omega)).mono ?_
  rintro e w1 ⟨rfl, rfl⟩
  rw [HB.out]
  go_wp2
  refine bodyPost_ret (v := .tuple #[.agg #[.slice none 0 0, .bool false], .int .i64 q, .int .i64 6]) (by simp [results, Try.results13, go_sem]) rfl ?_
  exact ParP.bad HP.out ((Below.refl _ _).alloc (Nat.le_refl _) _) rfl
set_option maxRecDepth 100000 in
set_option maxHeartbeats 2000000 in
theorem Parse_scan (s : ByteArray) (w : World) (h : ¬ 1024 < s.size) (hb : ¬ badS s.data.toList < s.size) (q : Nat) (e : Int) (ht : toksP s 0 = .err q e) : Calls Try.prog 13 #[.string s] w fun r w' => ParP w s r w' := by
  have HT := Lib.hid ht
  have HP := Lib.hid (show parS s.data.toList = .err q e by unfold parS; rw [if_neg (by simpa using h), if_neg (by simpa using hb), ← toksP_S, ht])
  clear ht
  have HB := Lib.hid (badB_no s hb)
  clear hb
  go_enter Try.func13, Try.ntmps13
  go_wp2_with fail
  refine (badByte_any s _ (by omega)).mono ?_
  rintro e w1 ⟨rfl, rfl⟩
  rw [HB.out]
  go_wp2_with fail
  refine (scan_any _ _ s (.slice none 0 0) (.slice none 0 0) ?scb (by omega)).mono ?_
  case scb => exact blk_new1 _ _ 86 _
  rintro e w2 ⟨rfl, hg2, vt, vw, vx, hm⟩
  rw [HT.out] at hm
  obtain ⟨he, hB⟩ := hm
  have HR := Lib.hid (show Blk w2 w.heap.size 24 #[.slice none 0 0, .bool false] from ((Blk.new w 24 _).alloc _).grown hg2 (by intro e; injection e with e; omega))
  have c5 : w2.cell? ⟨w.heap.size + 1, 5, none⟩ = some (.int .i64 (q : Int)) := hB.cell 5
  have c6 : w2.cell? ⟨w.heap.size + 1, 6, none⟩ = some (.int .i64 e) := hB.cell 6
  have hgb : w.heap.size + 1 < w2.heap.size := hB.lt
  have hrb : w.heap.size < w2.heap.size := HR.out.lt
  have r0 : w2.cell? ⟨w.heap.size, 0, none⟩ = some (.slice none 0 0) := HR.out.cell 0
  have r1 : w2.cell? ⟨w.heap.size, 1, none⟩ = some (.bool false) := HR.out.cell 1
  have rf0 := HR.out.frozen 0
  have rf1 := HR.out.frozen 1
  have e1 : (e == 0) = false := beq_false_of_ne he
  have e2 : (e != 0) = true := by simpa using he
  have HB2 := Lib.hid (below_of_grown (((Below.refl _ _).alloc (Nat.le_refl _) _).alloc (by simp) _) hg2 (by omega))
  clear hB hg2 he
  go_wp2
  go_region
  all_goals
    go_wp2
    refine bodyPost_ret (v := .tuple #[.agg #[.slice none 0 0, .bool false], .int .i64 q, .int .i64 e]) (by simp [results, Try.results13, go_sem, hrb, r0, r1]) rfl ?_
    refine ParP.bad HP.out ?_ rfl
    first | exact (((HB2.out.setCell (p := ⟨w.heap.size, 0, none⟩) (Nat.le_refl _) _).setCell (p := ⟨w.heap.size, 1, none⟩) (Nat.le_refl _) _).drew) | exact ((HB2.out.drew.setCell (p := ⟨w.heap.size, 0, none⟩) (Nat.le_refl _) _).setCell (p := ⟨w.heap.size, 1, none⟩) (Nat.le_refl _) _)
set_option maxRecDepth 100000 in
set_option maxHeartbeats 2000000 in
theorem Parse_empty (s : ByteArray) (w : World) (h : ¬ 1024 < s.size) (hb : ¬ badS s.data.toList < s.size) (l : List Tk) (ht : toksP s 0 = .ok l) (hl : l = []) : Calls Try.prog 13 #[.string s] w fun r w' => ParP w s r w' := by
  have HT := Lib.hid ht
  have HP := Lib.hid (show parS s.data.toList = .ok ⟨[], false⟩ by unfold parS; rw [if_neg (by simpa using h), if_neg (by simpa using hb), ← toksP_S, ht, hl])
  have HL := Lib.hid hl
  clear ht hl
  have HB := Lib.hid (badB_no s hb)
  clear hb
  go_enter Try.func13, Try.ntmps13
  go_wp2_with fail
  refine (badByte_any s _ (by omega)).mono ?_
  rintro e w1 ⟨rfl, rfl⟩
  rw [HB.out]
  go_wp2_with fail
  refine (scan_any _ _ s (.slice none 0 0) (.slice none 0 0) ?scb (by omega)).mono ?_
  case scb => exact blk_new1 _ _ 86 _
  rintro e w2 ⟨rfl, hg2, vt, vw, vx, hm⟩
  rw [HT.out] at hm
  obtain ⟨hTk, hB⟩ := hm
  have HR := Lib.hid (show Blk w2 w.heap.size 24 #[.slice none 0 0, .bool false] from ((Blk.new w 24 _).alloc _).grown hg2 (by intro e; injection e with e; omega))
  have c2 : w2.cell? ⟨w.heap.size + 1, 2, none⟩ = some vt := hB.cell 2
  have c6 : w2.cell? ⟨w.heap.size + 1, 6, none⟩ = some (.int .i64 0) := hB.cell 6
  have hgb : w.heap.size + 1 < w2.heap.size := hB.lt
  have hrb : w.heap.size < w2.heap.size := HR.out.lt
  have HB2 := Lib.hid (below_of_grown (((Below.refl _ _).alloc (Nat.le_refl _) _).alloc (by simp) _) hg2 (by omega))
  have HTK := Lib.hid hTk.rd.row
  obtain ⟨At, ct, rfl, _⟩ := HTK.out.form
  have HPA := Lib.hid (show PAt (w2.alloc (.cells #[.slice At l.length ct, .int .i64 (s.size : Int), .int .i64 0, .int .i64 0] 89)) w2.heap.size l s.size 0 0 from ⟨_, Blk.new w2 89 _, HTK.out.next ((Below.refl _ _).alloc (Nat.le_refl _) _) (fun _ _ h => Rd.next h ((Below.refl _ _).alloc (Nat.le_refl _) _))⟩)
  have HR3 := Lib.hid (HR.out.alloc (.cells #[.slice At l.length ct, .int .i64 (s.size : Int), .int .i64 0, .int .i64 0] 89))
  have HB3 := Lib.hid (HB2.out.trans (((Below.refl w2.heap.size w2).alloc (Nat.le_refl _) (.cells #[.slice At l.length ct, .int .i64 (s.size : Int), .int .i64 0, .int .i64 0] 89)).mono (by omega)))
  clear hB hg2 hTk HTK HR HB2
  go_upto_region 11 with (fail)
  have hpb0 : w.heap.size < w2.heap.size := hrb
  have hpb1 : w2.heap.size < (w2.alloc (.cells #[.slice At l.length ct, .int .i64 (s.size : Int), .int .i64 0, .int .i64 0] 89)).heap.size := by simp
  clear c2 c6 hgb hrb
  generalize (w2.alloc (.cells #[.slice At l.length ct, .int .i64 (s.size : Int), .int .i64 0, .int .i64 0] 89)) = w3 at *
  generalize w2.heap.size = pb at *
  go_wp2_with fail
  refine (line_nil _ pb s.size (by have := HPA.out; rw [HL.out] at this; exact this)).mono ?_
  rintro e w4 ⟨rfl, hb4⟩
  have HR4 := Lib.hid (HR3.out.next hb4 HR3.out.lt)
  obtain ⟨tv4, hq4, _⟩ := HPA.out.next hb4
  have HQ4 := Lib.hid hq4
  have HB4 := Lib.hid (HB3.out.trans (hb4.mono HB3.out.size))
  clear HR3 HPA HB3 hb4 hq4
  have r0 : w4.cell? ⟨w.heap.size, 0, none⟩ = some (.slice none 0 0) := HR4.out.cell 0
  have r1 : w4.cell? ⟨w.heap.size, 1, none⟩ = some (.bool false) := HR4.out.cell 1
  have rf0 := HR4.out.frozen 0
  have rf1 := HR4.out.frozen 1
  have hrb : w.heap.size < w4.heap.size := HR4.out.lt
  go_upto_region 12 with (fail)
  have hne : w.heap.size ≠ pb := by omega
  have hne' : pb ≠ w.heap.size := by omega
  have HR5 := Lib.hid (show Blk ((w4.setCell ⟨w.heap.size, 0, none⟩ (.slice none 0 0)).setCell ⟨w.heap.size, 1, none⟩ (.bool false)) w.heap.size 24 #[(.slice none 0 0), (.bool false)] from blk_cast ((HR4.out.set_ 0 _).set_ 1 _) rfl)
  have HQ5 := Lib.hid (show Blk ((w4.setCell ⟨w.heap.size, 0, none⟩ (.slice none 0 0)).setCell ⟨w.heap.size, 1, none⟩ (.bool false)) pb 89 _ from (HQ4.out.far (p := ⟨w.heap.size, 0, none⟩) hne' _).far (p := ⟨w.heap.size, 1, none⟩) hne' _)
  have HB5 := Lib.hid (show Below w.heap.size w ((w4.setCell ⟨w.heap.size, 0, none⟩ (.slice none 0 0)).setCell ⟨w.heap.size, 1, none⟩ (.bool false)) from (HB4.out.setCell (Nat.le_refl _) _).setCell (Nat.le_refl _) _)
  have K5 := Lib.hid (show Kept [24] w4 ((w4.setCell ⟨w.heap.size, 0, none⟩ (.slice none 0 0)).setCell ⟨w.heap.size, 1, none⟩ (.bool false)) from Kept.of_blk [24] HR4.out (only_setCell (p := ⟨w.heap.size, 1, none⟩) (only_setCell (p := ⟨w.heap.size, 0, none⟩) (World.grownBy.refl _ _) (.inl rfl) _) (.inl rfl) _) rfl)
  clear r0 r1 rf0 rf1 hrb HR4 HQ4 HB4
  generalize ((w4.setCell ⟨w.heap.size, 0, none⟩ (.slice none 0 0)).setCell ⟨w.heap.size, 1, none⟩ (.bool false)) = w5 at *
  have r0 : w5.cell? ⟨w.heap.size, 0, none⟩ = some (.slice none 0 0) := HR5.out.cell 0
  have r1 : w5.cell? ⟨w.heap.size, 1, none⟩ = some (.bool false) := HR5.out.cell 1
  have rf0 := HR5.out.frozen 0
  have rf1 := HR5.out.frozen 1
  have hrb : w.heap.size < w5.heap.size := HR5.out.lt
  have p2 := HQ5.out.cell 2
  have p3 := HQ5.out.cell 3
  simp only [List.getElem?_toArray, List.getElem?_cons_zero, List.getElem?_cons_succ] at p2 p3
  have hpl : pb < w5.heap.size := HQ5.out.lt
  go_wp2
  refine bodyPost_ret (v := .tuple #[.agg #[.slice none 0 0, .bool false], .int .i64 0, .int .i64 0]) (by simp [results, Try.results13, go_sem, hrb, r0, r1]) rfl ?_
  exact ParP.ok HP.out ((HB5.out.setCell (Nat.le_refl _) _).setCell (Nat.le_refl _) _) RowRd.nil rfl
set_option maxRecDepth 100000 in
set_option maxHeartbeats 2000000 in
theorem Parse_line (s : ByteArray) (w : World) (h : ¬ 1024 < s.size) (hb : ¬ badS s.data.toList < s.size) (l : List Tk) (ht : toksP s 0 = .ok l) (hl : 0 < l.length) : Calls Try.prog 13 #[.string s] w fun r w' => ParP w s r w' := by
  have HT := Lib.hid ht
  have HP := Lib.hid (show parS s.data.toList = linS s.size 16 l 0 [] by
    unfold parS
    rw [if_neg (by simpa using h), if_neg (by simpa using hb), ← toksP_S, ht]
    cases l with
    | nil => simp at hl
    | cons t ts => simp)
  have hok := toks_ok 1024 s.data.toList 0 0 l (by simp; omega) (by rw [← toksP_S]; exact ht)
  have HOK := Lib.hid hok.1
  have hll : l.length ≤ 90000 := by have := hok.2; simp at this; omega
  clear ht hok
  have HB := Lib.hid (badB_no s hb)
  clear hb
  go_enter Try.func13, Try.ntmps13
  go_wp2_with fail
  refine (badByte_any s _ (by omega)).mono ?_
  rintro e w1 ⟨rfl, rfl⟩
  rw [HB.out]
  go_wp2_with fail
  refine (scan_any _ _ s (.slice none 0 0) (.slice none 0 0) ?scb (by omega)).mono ?_
  case scb => exact blk_new1 _ _ 86 _
  rintro e w2 ⟨rfl, hg2, vt, vw, vx, hm⟩
  rw [HT.out] at hm
  obtain ⟨hTk, hB⟩ := hm
  have HR := Lib.hid (show Blk w2 w.heap.size 24 #[.slice none 0 0, .bool false] from ((Blk.new w 24 _).alloc _).grown hg2 (by intro e; injection e with e; omega))
  have c2 : w2.cell? ⟨w.heap.size + 1, 2, none⟩ = some vt := hB.cell 2
  have c6 : w2.cell? ⟨w.heap.size + 1, 6, none⟩ = some (.int .i64 0) := hB.cell 6
  have hgb : w.heap.size + 1 < w2.heap.size := hB.lt
  have hrb : w.heap.size < w2.heap.size := HR.out.lt
  have HB2 := Lib.hid (below_of_grown (((Below.refl _ _).alloc (Nat.le_refl _) _).alloc (by simp) _) hg2 (by omega))
  have HTK := Lib.hid hTk.rd.row
  obtain ⟨At, ct, rfl, _⟩ := HTK.out.form
  have HPA := Lib.hid (show PAt (w2.alloc (.cells #[.slice At l.length ct, .int .i64 (s.size : Int), .int .i64 0, .int .i64 0] 89)) w2.heap.size l s.size 0 0 from ⟨_, Blk.new w2 89 _, HTK.out.next ((Below.refl _ _).alloc (Nat.le_refl _) _) (fun _ _ h => Rd.next h ((Below.refl _ _).alloc (Nat.le_refl _) _))⟩)
  have HR3 := Lib.hid (HR.out.alloc (.cells #[.slice At l.length ct, .int .i64 (s.size : Int), .int .i64 0, .int .i64 0] 89))
  have HB3 := Lib.hid (HB2.out.trans (((Below.refl w2.heap.size w2).alloc (Nat.le_refl _) (.cells #[.slice At l.length ct, .int .i64 (s.size : Int), .int .i64 0, .int .i64 0] 89)).mono (by omega)))
  clear hB hg2 hTk HTK HR HB2
  go_upto_region 11 with (fail)
  have hpb0 : w.heap.size < w2.heap.size := hrb
  have hpb1 : w2.heap.size < (w2.alloc (.cells #[.slice At l.length ct, .int .i64 (s.size : Int), .int .i64 0, .int .i64 0] 89)).heap.size := by simp
  clear c2 c6 hgb hrb
  generalize (w2.alloc (.cells #[.slice At l.length ct, .int .i64 (s.size : Int), .int .i64 0, .int .i64 0] 89)) = w3 at *
  generalize w2.heap.size = pb at *
  go_wp2_with fail
  refine (line_any _ pb s.size 1024 l HPA.out hl HOK.out (by decide) hll).mono ?_
  rintro e w4 ⟨v, ln, rfl, hrd, hg4, halt⟩
  have HR4 := Lib.hid (HR3.out.grown hg4 (by intro e; injection e with e; omega))
  have HB4 := Lib.hid (below_of_grown HB3.out hg4 (by omega))
  obtain ⟨Av, cv, rfl, _⟩ := hrd.form
  have HRD := Lib.hid hrd
  rcases halt with ⟨hlin, ts', hp4⟩ | ⟨q, e0, hlin, he0, hp4⟩
  · obtain ⟨tv4, hq4, _⟩ := hp4
    have HQ4 := Lib.hid hq4
    have HLN := Lib.hid (HP.out.trans hlin)
    clear HR3 HPA HB3 hg4 hq4 hlin hrd HP
    have r0 : w4.cell? ⟨w.heap.size, 0, none⟩ = some (.slice none 0 0) := HR4.out.cell 0
    have r1 : w4.cell? ⟨w.heap.size, 1, none⟩ = some (.bool false) := HR4.out.cell 1
    have rf0 := HR4.out.frozen 0
    have rf1 := HR4.out.frozen 1
    have hrb : w.heap.size < w4.heap.size := HR4.out.lt
    go_upto_region 12 with (fail)
    have hne : w.heap.size ≠ pb := by omega
    have hne' : pb ≠ w.heap.size := by omega
    have HR5 := Lib.hid (show Blk ((w4.setCell ⟨w.heap.size, 0, none⟩ (.slice Av ln.parts.length cv)).setCell ⟨w.heap.size, 1, none⟩ (.bool ln.bg)) w.heap.size 24 #[(.slice Av ln.parts.length cv), (.bool ln.bg)] from blk_cast ((HR4.out.set_ 0 _).set_ 1 _) rfl)
    have HQ5 := Lib.hid (show Blk ((w4.setCell ⟨w.heap.size, 0, none⟩ (.slice Av ln.parts.length cv)).setCell ⟨w.heap.size, 1, none⟩ (.bool ln.bg)) pb 89 _ from (HQ4.out.far (p := ⟨w.heap.size, 0, none⟩) hne' _).far (p := ⟨w.heap.size, 1, none⟩) hne' _)
    have HB5 := Lib.hid (show Below w.heap.size w ((w4.setCell ⟨w.heap.size, 0, none⟩ (.slice Av ln.parts.length cv)).setCell ⟨w.heap.size, 1, none⟩ (.bool ln.bg)) from (HB4.out.setCell (Nat.le_refl _) _).setCell (Nat.le_refl _) _)
    have K5 := Lib.hid (show Kept [24] w4 ((w4.setCell ⟨w.heap.size, 0, none⟩ (.slice Av ln.parts.length cv)).setCell ⟨w.heap.size, 1, none⟩ (.bool ln.bg)) from Kept.of_blk [24] HR4.out (only_setCell (p := ⟨w.heap.size, 1, none⟩) (only_setCell (p := ⟨w.heap.size, 0, none⟩) (World.grownBy.refl _ _) (.inl rfl) _) (.inl rfl) _) rfl)
    clear r0 r1 rf0 rf1 hrb HR4 HQ4 HB4
    generalize ((w4.setCell ⟨w.heap.size, 0, none⟩ (.slice Av ln.parts.length cv)).setCell ⟨w.heap.size, 1, none⟩ (.bool ln.bg)) = w5 at *
    have r0 : w5.cell? ⟨w.heap.size, 0, none⟩ = some (.slice Av ln.parts.length cv) := HR5.out.cell 0
    have r1 : w5.cell? ⟨w.heap.size, 1, none⟩ = some (.bool ln.bg) := HR5.out.cell 1
    have rf0 := HR5.out.frozen 0
    have rf1 := HR5.out.frozen 1
    have hrb : w.heap.size < w5.heap.size := HR5.out.lt
    have p2 := HQ5.out.cell 2
    have p3 := HQ5.out.cell 3
    simp only [List.getElem?_toArray, List.getElem?_cons_zero, List.getElem?_cons_succ] at p2 p3
    have hpl : pb < w5.heap.size := HQ5.out.lt
    have HRD5 := Lib.hid (RowRd.keep HRD.out K5.out rfl (fun _ _ h => NP.keep h K5.out rfl rfl rfl rfl))
    go_wp2
    refine bodyPost_ret (v := .tuple #[.agg #[.slice Av ln.parts.length cv, .bool ln.bg], .int .i64 0, .int .i64 0]) (by simp [results, Try.results13, go_sem, hrb, r0, r1]) rfl ?_
    have K6 : Kept [24] w5 ((w5.setCell ⟨w.heap.size, 0, none⟩ (.slice Av ln.parts.length cv)).setCell ⟨w.heap.size, 1, none⟩ (.bool ln.bg)) := Kept.of_blk [24] HR5.out (only_setCell (p := ⟨w.heap.size, 1, none⟩) (only_setCell (p := ⟨w.heap.size, 0, none⟩) (World.grownBy.refl _ _) (.inl rfl) _) (.inl rfl) _) rfl
    exact ParP.ok HLN.out ((HB5.out.setCell (Nat.le_refl _) _).setCell (Nat.le_refl _) _) (RowRd.keep HRD5.out K6 rfl (fun _ _ h => NP.keep h K6 rfl rfl rfl rfl)) rfl
  · obtain ⟨tv4, hq4, _⟩ := hp4
    have HQ4 := Lib.hid hq4
    have HLN := Lib.hid (HP.out.trans hlin)
    have e1 : (e0 == 0) = false := beq_false_of_ne he0
    have e2 : (e0 != 0) = true := by simpa using he0
    clear HR3 HPA HB3 hg4 hq4 hlin hrd HP he0
    have r0 : w4.cell? ⟨w.heap.size, 0, none⟩ = some (.slice none 0 0) := HR4.out.cell 0
    have r1 : w4.cell? ⟨w.heap.size, 1, none⟩ = some (.bool false) := HR4.out.cell 1
    have rf0 := HR4.out.frozen 0
    have rf1 := HR4.out.frozen 1
    have hrb : w.heap.size < w4.heap.size := HR4.out.lt
    go_upto_region 12 with (fail)
    have hne : w.heap.size ≠ pb := by omega
    have hne' : pb ≠ w.heap.size := by omega
    have HR5 := Lib.hid (show Blk ((w4.setCell ⟨w.heap.size, 0, none⟩ (.slice Av ln.parts.length cv)).setCell ⟨w.heap.size, 1, none⟩ (.bool ln.bg)) w.heap.size 24 #[(.slice Av ln.parts.length cv), (.bool ln.bg)] from blk_cast ((HR4.out.set_ 0 _).set_ 1 _) rfl)
    have HQ5 := Lib.hid (show Blk ((w4.setCell ⟨w.heap.size, 0, none⟩ (.slice Av ln.parts.length cv)).setCell ⟨w.heap.size, 1, none⟩ (.bool ln.bg)) pb 89 _ from (HQ4.out.far (p := ⟨w.heap.size, 0, none⟩) hne' _).far (p := ⟨w.heap.size, 1, none⟩) hne' _)
    have HB5 := Lib.hid (show Below w.heap.size w ((w4.setCell ⟨w.heap.size, 0, none⟩ (.slice Av ln.parts.length cv)).setCell ⟨w.heap.size, 1, none⟩ (.bool ln.bg)) from (HB4.out.setCell (Nat.le_refl _) _).setCell (Nat.le_refl _) _)
    have K5 := Lib.hid (show Kept [24] w4 ((w4.setCell ⟨w.heap.size, 0, none⟩ (.slice Av ln.parts.length cv)).setCell ⟨w.heap.size, 1, none⟩ (.bool ln.bg)) from Kept.of_blk [24] HR4.out (only_setCell (p := ⟨w.heap.size, 1, none⟩) (only_setCell (p := ⟨w.heap.size, 0, none⟩) (World.grownBy.refl _ _) (.inl rfl) _) (.inl rfl) _) rfl)
    clear r0 r1 rf0 rf1 hrb HR4 HQ4 HB4
    generalize ((w4.setCell ⟨w.heap.size, 0, none⟩ (.slice Av ln.parts.length cv)).setCell ⟨w.heap.size, 1, none⟩ (.bool ln.bg)) = w5 at *
    have r0 : w5.cell? ⟨w.heap.size, 0, none⟩ = some (.slice Av ln.parts.length cv) := HR5.out.cell 0
    have r1 : w5.cell? ⟨w.heap.size, 1, none⟩ = some (.bool ln.bg) := HR5.out.cell 1
    have rf0 := HR5.out.frozen 0
    have rf1 := HR5.out.frozen 1
    have hrb : w.heap.size < w5.heap.size := HR5.out.lt
    have p2 := HQ5.out.cell 2
    have p3 := HQ5.out.cell 3
    simp only [List.getElem?_toArray, List.getElem?_cons_zero, List.getElem?_cons_succ] at p2 p3
    have hpl : pb < w5.heap.size := HQ5.out.lt
    go_wp2
    go_region
    all_goals
      go_wp2
      refine bodyPost_ret (v := .tuple #[.agg #[.slice none 0 0, .bool false], .int .i64 q, .int .i64 e0]) (by simp [results, Try.results13, go_sem, hrb, r0, r1]) rfl ?_
      refine ParP.bad HLN.out ?_ rfl
      first | exact (((HB5.out.setCell (p := ⟨w.heap.size, 0, none⟩) (Nat.le_refl _) _).setCell (p := ⟨w.heap.size, 1, none⟩) (Nat.le_refl _) _).drew) | exact ((HB5.out.drew.setCell (p := ⟨w.heap.size, 0, none⟩) (Nat.le_refl _) _).setCell (p := ⟨w.heap.size, 1, none⟩) (Nat.le_refl _) _)
theorem Parse_any (s : ByteArray) (w : World) (hs : s.size ≤ 100000) : Calls Try.prog 13 #[.string s] w fun r w' => ParP w s r w' := by
  by_cases h : 1024 < s.size
  · exact Parse_long s w hs h
  by_cases hb : badS s.data.toList < s.size
  · exact Parse_byte s w h hb
  cases ht : toksP s 0 with
  | err q e => exact Parse_scan s w h hb q e ht
  | ok l =>
    cases l with
    | nil => exact Parse_empty s w h hb [] ht rfl
    | cons t ts => exact Parse_line s w h hb (t :: ts) ht (by simp)
end Go.Proofs.Ytiddchpkmcncdaa
