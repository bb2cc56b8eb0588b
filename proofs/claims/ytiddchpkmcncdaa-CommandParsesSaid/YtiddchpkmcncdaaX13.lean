/- Walks of layer 41: the parser's fail, take; isWord, isRedirection. -/
import Derived.Test.YtiddchpkmcncdaaX12
namespace Go.Proofs.Ytiddchpkmcncdaa
open Go.RowKit
set_option linter.unusedSimpArgs false
set_option linter.unusedVariables false
set_option maxRecDepth 100000 in
theorem pfail_first (w : World) (pb : Nat) (ts : List Tk) (en : Nat) (wh q e : Int) (h : PAt w pb ts en wh 0) :
    Calls Try.prog 76 #[ptr pb, .int .i64 q, .int .i64 e] w fun r w' => r = .returned (.tuple #[]) ∧ PAt w' pb [] en q e ∧ w.grownBy w' (some pb) := by
  obtain ⟨tv, h1, h2⟩ := h
  have H1 := Lib.hid h1
  have c0 : w.cell? ⟨pb, 0, none⟩ = some tv := h1.cell 0
  have c2 : w.cell? ⟨pb, 2, none⟩ = some (.int .i64 wh) := h1.cell 2
  have c3 : w.cell? ⟨pb, 3, none⟩ = some (.int .i64 0) := h1.cell 3
  have f0 := h1.frozen 0
  have f2 := h1.frozen 2
  have f3 := h1.frozen 3
  clear h1
  go_enter Try.func76, Try.ntmps76
  go_wp2
  go_end0
  refine ⟨rfl, ⟨_, blk_cast (((H1.out.set_ 2 _).set_ 3 _).set_ 0 _) rfl, RowRd.nil⟩, ?_⟩
  exact only_setCell (p := ⟨pb, 0, none⟩) (only_setCell (p := ⟨pb, 3, none⟩) (only_setCell (p := ⟨pb, 2, none⟩) (World.grownBy.refl _ _) (.inl rfl) _) (.inl rfl) _) (.inl rfl) _
set_option maxRecDepth 100000 in
theorem pfail_again (w : World) (pb : Nat) (ts : List Tk) (en : Nat) (wh er q e : Int) (h : PAt w pb ts en wh er) (he : er ≠ 0) :
    Calls Try.prog 76 #[ptr pb, .int .i64 q, .int .i64 e] w fun r w' => r = .returned (.tuple #[]) ∧ PAt w' pb [] en wh er ∧ w.grownBy w' (some pb) := by
  obtain ⟨tv, h1, h2⟩ := h
  have H1 := Lib.hid h1
  have c0 : w.cell? ⟨pb, 0, none⟩ = some tv := h1.cell 0
  have c3 : w.cell? ⟨pb, 3, none⟩ = some (.int .i64 er) := h1.cell 3
  have he' : (er == 0) = false := by simpa using he
  have f0 := h1.frozen 0
  clear h1 he
  go_enter Try.func76, Try.ntmps76
  go_wp2
  go_end0
  refine ⟨rfl, ⟨_, blk_cast (H1.out.set_ 0 _) rfl, RowRd.nil⟩, ?_⟩
  exact only_setCell (p := ⟨pb, 0, none⟩) (World.grownBy.refl _ _) (.inl rfl) _
def IsWP (ps : Wd) (w : World) (r : Ending) (w' : World) : Prop := r = .returned (.bool (!ps.isEmpty)) ∧ Below w.heap.size w w'
set_option maxRecDepth 100000 in
theorem isWord_any (w : World) (t : Tk) (v : Value) (h : RdW w v t.word) :
    Calls Try.prog 113 #[tokA t v] w (IsWP t.word w) := by
  obtain ⟨A, c, rfl, _⟩ := Rd.form h
  clear h
  cases t with
  | mk p o ps nm =>
    unfold tokA
    cases ps with
    | nil =>
      go_enter Try.func113, Try.ntmps113
      go_wp2
      go_ret
      exact ⟨rfl, (Below.refl _ _).alloc (Nat.le_refl _) _⟩
    | cons a ps =>
      have hp : (0 : Int) < (((a :: ps).length : Nat) : Int) := by simp
      have hp2 : decide (0 < (a :: ps).length) = true := by simp
      have HI := Lib.hid (show (!(a :: ps).isEmpty) = true from rfl)
      dsimp only at *
      generalize a :: ps = qs at *
      go_enter Try.func113, Try.ntmps113
      go_wp2
      go_ret
      exact ⟨by rw [HI.out]; rfl, (Below.refl _ _).alloc (Nat.le_refl _) _⟩
theorem bs_tl (o : Bs) : (bs o).toList = o := by rw [Lib.toList_data, bs_list]
def RedP (o : Bs) (w : World) (r : Ending) (w' : World) : Prop := r = .returned (.bool (redS o)) ∧ Below w.heap.size w w'
set_option maxRecDepth 100000 in
theorem isRed_any (w : World) (t : Tk) (v : Value) :
    Calls Try.prog 111 #[tokA t v] w (RedP t.op w) := by
  cases t with
  | mk p o ps nm =>
    unfold tokA
    dsimp only
    have e1 := bs_tl o
    by_cases h1 : o = [60]
    · have HR := Lib.hid (show redS o = true by rw [h1]; rfl)
      have k1 : (bs o).toList = [60] := e1.trans h1
      clear e1 h1
      go_enter Try.func111, Try.ntmps111
      go_wp2
      go_ret
      exact ⟨by rw [HR.out]; rfl, (Below.refl _ _).alloc (Nat.le_refl _) _⟩
    · by_cases h2 : o = [62]
      · have HR := Lib.hid (show redS o = true by rw [h2]; rfl)
        have k1 : ¬ (bs o).toList = [60] := by rw [e1]; exact h1
        have k2 : (bs o).toList = [62] := e1.trans h2
        clear e1 h1 h2
        go_enter Try.func111, Try.ntmps111
        go_wp2
        go_ret
        exact ⟨by rw [HR.out]; rfl, (Below.refl _ _).alloc (Nat.le_refl _) _⟩
      · by_cases h3 : o = [62, 62]
        · have HR := Lib.hid (show redS o = true by rw [h3]; rfl)
          have k1 : ¬ (bs o).toList = [60] := by rw [e1]; exact h1
          have k2 : ¬ (bs o).toList = [62] := by rw [e1]; exact h2
          have k3 : (bs o).toList = [62, 62] := e1.trans h3
          clear e1 h1 h2 h3
          go_enter Try.func111, Try.ntmps111
          go_wp2
          go_ret
          exact ⟨by rw [HR.out]; rfl, (Below.refl _ _).alloc (Nat.le_refl _) _⟩
        · have HR := Lib.hid (show redS o = false by simp [redS, h1, h2, h3])
          have k1 : ¬ (bs o).toList = [60] := by rw [e1]; exact h1
          have k2 : ¬ (bs o).toList = [62] := by rw [e1]; exact h2
          have k3 : ¬ (bs o).toList = [62, 62] := by rw [e1]; exact h3
          clear e1 h1 h2 h3
          go_enter Try.func111, Try.ntmps111
          go_wp2
          go_ret
          exact ⟨ret_bool (show (_ || _) = redS o by rw [bs_tl]; rfl), (Below.refl _ _).alloc (Nat.le_refl _) _⟩
/-- What take gives. -/
def TakeP (w : World) (pb : Nat) (ts : List Tk) (en : Nat) (wh er : Int) (r : Ending) (w' : World) : Prop :=
  ∃ v, r = .returned (tokA (hdT en ts) v) ∧ RdW w' v (hdT en ts).word ∧ PAt w' pb ts.tail en wh er ∧ w.grownBy w' (some pb)
theorem PAt.blkrow {w w' : World} {pb : Nat} {ts : List Tk} {cs : Array Value} {tv : Value} (h : RowRd 128 tkV NT w tv ts) (hb : Blk w pb 89 cs) (hg : w.grownBy w' (some pb)) : RowRd 128 tkV NT w' tv ts :=
  h.keep (Kept.of_blk [89] hb hg rfl) rfl (fun v x h => Rd.keep h (Kept.of_blk [89] hb hg rfl) rfl)
theorem below_row {B : Nat} {a w : World} {g : Nat} {w' : World} (h : Below B a w) (k : w.grownBy w' (some g)) (hg : B ≤ g) (hB : B ≤ w.heap.size) : Below B a w' :=
  ⟨k.os.trans h.os, k.tape.trans h.tape, k.output.trans h.output, Nat.le_trans h.size k.size, fun i hi => (k.block i (Nat.lt_of_lt_of_le hi hB) (by intro e; injection e with e; omega)).trans (h.block i hi)⟩
theorem take_end {w w1 w' : World} {pb en : Nat} {wh er : Int} {tv v : Value} {ts : List Tk} {o : Obj} {cr : Array Value} (h1 : Blk w pb 89 #[tv, .int .i64 (en : Int), .int .i64 wh, .int .i64 er]) (h2 : RowRd 128 tkV NT w tv ts)
    (hb : Below (w.alloc o).heap.size (w.alloc o) w1) (hv : RdW w1 v (hdT en ts).word) (hr : Blk w1 w.heap.size 128 cr) (ht : ts.tail = ts) (hg : w1.grownBy w' (some w.heap.size)) :
    TakeP w pb ts en wh er (.returned (tokA (hdT en ts) v)) w' := by
  have b0 : Below w.heap.size w w1 := ((Below.refl _ _).alloc (Nat.le_refl _) o).trans (hb.mono (by simp))
  have b1 : Below w.heap.size w w' := below_row b0 hg (Nat.le_refl _) b0.size
  exact ⟨v, rfl, Rd.blk hv hr hg (by decide), by rw [ht]; exact ⟨tv, h1.next b1 h1.lt, h2.next b1 (fun v x h => Rd.next h b1)⟩, only_of_below b1 _⟩
theorem take_end2 {w w1 w' : World} {pb en : Nat} {wh er : Int} {tv tv' v : Value} {t : Tk} {ts : List Tk} {o : Obj} {cr : Array Value} (h1 : Blk w pb 89 #[tv, .int .i64 (en : Int), .int .i64 wh, .int .i64 er]) (h2 : RowRd 128 tkV NT w tv' ts)
    (hb : Below (w.alloc o).heap.size (w.alloc o) w1) (hv : RdW w1 v (hdT en (t :: ts)).word) (hr : Blk w1 w.heap.size 128 cr) (hg : (w1.setCell ⟨pb, 0, none⟩ tv').grownBy w' (some w.heap.size)) :
    TakeP w pb (t :: ts) en wh er (.returned (tokA (hdT en (t :: ts)) v)) w' := by
  have b0 : Below w.heap.size w w1 := ((Below.refl _ _).alloc (Nat.le_refl _) o).trans (hb.mono (by simp))
  have hp := h1.lt
  have hg1 : w1.grownBy (w1.setCell ⟨pb, 0, none⟩ tv') (some pb) := only_setCell (p := ⟨pb, 0, none⟩) (World.grownBy.refl _ _) (.inl rfl) _
  have k1 := h1.next b0 h1.lt
  have k2 := k1.set_ 0 tv'
  have hr' := hr.far (p := ⟨pb, 0, none⟩) (by simp; omega) tv'
  have K1 := Kept.of_blk [89, 128] k1 hg1 rfl
  have rd : RowRd 128 tkV NT (w1.setCell ⟨pb, 0, none⟩ tv') tv' ts := (h2.next b0 (fun v x h => Rd.next h b0)).keep (Kept.of_blk [89] k1 hg1 rfl) rfl (fun v x h => Rd.blk h k1 hg1 (by decide))
  have gw : w.grownBy w' (some pb) := by
    refine only_row (grown_trans (only_of_below b0 _) hg1) hg (fun i e => ?_)
    injection e with e; omega
  refine ⟨v, rfl, Rd.blk (Rd.blk hv k1 hg1 (by decide)) hr' hg (by decide), ⟨tv', blk_cast (k2.grown hg (by intro e; injection e with e; omega)) rfl, ?_⟩, gw⟩
  obtain ⟨vs, r1, r2⟩ := h2
  refine ⟨vs, r1.imp (fun v x h => Rd.blk (Rd.blk (Rd.next h b0) k1 hg1 (by decide)) hr' hg (by decide)), ?_⟩
  obtain ⟨A, c, hv, hc, hm, h0 | ⟨b, o, cs, fr, hA, hb, hx⟩⟩ := r2
  · exact ⟨A, c, hv, hc, hm, .inl h0⟩
  · have hbl : b < w.heap.size := (Array.getElem?_eq_some_iff.1 hb).1
    refine ⟨A, c, hv, hc, hm, .inr ⟨b, o, cs, fr, hA, ?_, hx⟩⟩
    rw [gw.block b hbl (by intro e; injection e with e; subst e; unfold Blk at h1; rw [h1] at hb; injection hb with hb; injection hb with _ ht; cases ht)]
    exact hb
set_option maxRecDepth 100000 in
set_option maxHeartbeats 1000000 in
theorem take_any (w : World) (pb : Nat) (ts : List Tk) (en : Nat) (wh er : Int) (h : PAt w pb ts en wh er) (hn : ts.length ≤ 100000) :
    Calls Try.prog 75 #[ptr pb] w (TakeP w pb ts en wh er) := by
  have HP := Lib.hid h
  obtain ⟨tv, h1, h2⟩ := h
  have H1 := Lib.hid h1
  have H2 := Lib.hid h2
  have hpb := h1.lt
  clear h1 h2
  obtain ⟨A, c, rfl, hc⟩ := H2.out.form
  cases ts with
  | nil =>
    go_enter Try.func75, Try.ntmps75
    go_wp2_with fail
    refine (next_any _ pb [] en wh er (HP.out.next ((Below.refl _ _).alloc (Nat.le_refl _) _)) hn).mono ?_
    rintro e w1 ⟨v, rfl, hv, hb⟩
    unfold tokA
    have HV := Lib.hid hv
    have HB := Lib.hid hb
    have B1 := Lib.hid ((H1.out.alloc (.cells #[.int .i64 0, .string ⟨#[]⟩, .slice none 0 0, .string ⟨#[]⟩] 128)).next hb (by simp; omega))
    have d0 : w1.cell? ⟨pb, 0, none⟩ = some (.slice A _ c) := B1.out.cell 0
    have hz : w.heap.size < w1.heap.size := by have := hb.size; simp at this; omega
    have hp1 : pb < w1.heap.size := by omega
    have RB := Lib.hid ((Blk.new w 128 #[.int .i64 0, .string ⟨#[]⟩, .slice none 0 0, .string ⟨#[]⟩]).next hb (by simp))
    have r0 : w1.cell? ⟨w.heap.size, 0, none⟩ = some (.int .i64 0) := RB.out.cell 0
    have r1 : w1.cell? ⟨w.heap.size, 1, none⟩ = some (.string ⟨#[]⟩) := RB.out.cell 1
    have r2 : w1.cell? ⟨w.heap.size, 2, none⟩ = some (.slice none 0 0) := RB.out.cell 2
    have r3 : w1.cell? ⟨w.heap.size, 3, none⟩ = some (.string ⟨#[]⟩) := RB.out.cell 3
    have rf0 := RB.out.frozen 0
    have rf1 := RB.out.frozen 1
    have rf2 := RB.out.frozen 2
    have rf3 := RB.out.frozen 3
    obtain ⟨A2, c2, rfl, _⟩ := Rd.form HV.out
    clear hv hb
    go_wp2
    refine bodyPost_ret (v := tokA (hdT en []) (.slice A2 (hdT en []).word.length c2)) (by simp [results, Try.results75, go_sem, tokA, hz, r0, r1, r2, r3]) rfl ?_
    refine take_end H1.out H2.out HB.out HV.out RB.out (List.tail_nil) ?_
    repeat' first | with_reducible exact World.grownBy.refl _ _ | apply only_alloc | (refine only_setCell ?_ (.inl rfl) _)
  | cons t ts =>
    by_cases hc1 : c = 1
    · have HC := Lib.hid hc1
      have RT := Lib.hid (RowRd.tail H2.out tkV_len)
      have hlen : (((t :: ts).length : Nat) : Int) = (ts.length : Int) + 1 := by simp
      have hl0 : (0 : Int) < (((t :: ts).length : Nat) : Int) := by rw [hlen]; omega
      have hl1 : (1 : Int) ≤ (((t :: ts).length : Nat) : Int) := by rw [hlen]; omega
      have hl2 : decide (0 < (t :: ts).length) = true := by simp
      have hl3 : 0 < (t :: ts).length := by simp
      have hl4 : 1 ≤ (t :: ts).length := by simp
      clear hlen
      go_enter Try.func75, Try.ntmps75
      go_wp2_with fail
      refine (next_any _ pb (t :: ts) en wh er (HP.out.next ((Below.refl _ _).alloc (Nat.le_refl _) _)) hn).mono ?_
      rintro e w1 ⟨v, rfl, hv, hb⟩
      unfold tokA
      have HV := Lib.hid hv
      have HB := Lib.hid hb
      have B1 := Lib.hid ((H1.out.alloc (.cells #[.int .i64 0, .string ⟨#[]⟩, .slice none 0 0, .string ⟨#[]⟩] 128)).next hb (by simp; omega))
      have d0 : w1.cell? ⟨pb, 0, none⟩ = some (.slice A _ c) := B1.out.cell 0
      have f0 := B1.out.frozen 0
      have hz : w.heap.size < w1.heap.size := by have := hb.size; simp at this; omega
      have hp1 : pb < w1.heap.size := by omega
      have hp2 : ¬ pb = w.heap.size := by omega
      have hp3 : ¬ w.heap.size = pb := by omega
      have RB := Lib.hid ((Blk.new w 128 #[.int .i64 0, .string ⟨#[]⟩, .slice none 0 0, .string ⟨#[]⟩]).next hb (by simp))
      have r0 : w1.cell? ⟨w.heap.size, 0, none⟩ = some (.int .i64 0) := RB.out.cell 0
      have r1 : w1.cell? ⟨w.heap.size, 1, none⟩ = some (.string ⟨#[]⟩) := RB.out.cell 1
      have r2 : w1.cell? ⟨w.heap.size, 2, none⟩ = some (.slice none 0 0) := RB.out.cell 2
      have r3 : w1.cell? ⟨w.heap.size, 3, none⟩ = some (.string ⟨#[]⟩) := RB.out.cell 3
      have rf0 := RB.out.frozen 0
      have rf1 := RB.out.frozen 1
      have rf2 := RB.out.frozen 2
      have rf3 := RB.out.frozen 3
      obtain ⟨A2, c2, rfl, _⟩ := Rd.form HV.out
      clear hv hb
      go_wp2
      refine bodyPost_ret (v := tokA (hdT en (t :: ts)) (.slice A2 (hdT en (t :: ts)).word.length c2)) (by simp [results, Try.results75, go_sem, tokA, hz, r0, r1, r2, r3, hp2, hp3]) rfl ?_
      refine take_end2 (tv' := (.slice A ts.length 0)) H1.out ?rwx HB.out HV.out RB.out ?gr
      case gr => repeat' first | with_reducible exact World.grownBy.refl _ _ | apply only_alloc | (refine only_setCell ?_ (.inl rfl) _)
      case rwx =>
        have RT2 := RT.out
        rw [if_pos HC.out, HC.out] at RT2
        exact RT2
    · have HC := Lib.hid hc1
      have RT := Lib.hid (RowRd.tail H2.out tkV_len)
      have hlen : (((t :: ts).length : Nat) : Int) = (ts.length : Int) + 1 := by simp
      have hl0 : (0 : Int) < (((t :: ts).length : Nat) : Int) := by rw [hlen]; omega
      have hl1 : (1 : Int) ≤ (((t :: ts).length : Nat) : Int) := by rw [hlen]; omega
      have hl2 : decide (0 < (t :: ts).length) = true := by simp
      have hl3 : 0 < (t :: ts).length := by simp
      have hl4 : 1 ≤ (t :: ts).length := by simp
      clear hlen
      go_enter Try.func75, Try.ntmps75
      go_wp2_with fail
      refine (next_any _ pb (t :: ts) en wh er (HP.out.next ((Below.refl _ _).alloc (Nat.le_refl _) _)) hn).mono ?_
      rintro e w1 ⟨v, rfl, hv, hb⟩
      unfold tokA
      have HV := Lib.hid hv
      have HB := Lib.hid hb
      have B1 := Lib.hid ((H1.out.alloc (.cells #[.int .i64 0, .string ⟨#[]⟩, .slice none 0 0, .string ⟨#[]⟩] 128)).next hb (by simp; omega))
      have d0 : w1.cell? ⟨pb, 0, none⟩ = some (.slice A _ c) := B1.out.cell 0
      have f0 := B1.out.frozen 0
      have hz : w.heap.size < w1.heap.size := by have := hb.size; simp at this; omega
      have hp1 : pb < w1.heap.size := by omega
      have hp2 : ¬ pb = w.heap.size := by omega
      have hp3 : ¬ w.heap.size = pb := by omega
      have RB := Lib.hid ((Blk.new w 128 #[.int .i64 0, .string ⟨#[]⟩, .slice none 0 0, .string ⟨#[]⟩]).next hb (by simp))
      have r0 : w1.cell? ⟨w.heap.size, 0, none⟩ = some (.int .i64 0) := RB.out.cell 0
      have r1 : w1.cell? ⟨w.heap.size, 1, none⟩ = some (.string ⟨#[]⟩) := RB.out.cell 1
      have r2 : w1.cell? ⟨w.heap.size, 2, none⟩ = some (.slice none 0 0) := RB.out.cell 2
      have r3 : w1.cell? ⟨w.heap.size, 3, none⟩ = some (.string ⟨#[]⟩) := RB.out.cell 3
      have rf0 := RB.out.frozen 0
      have rf1 := RB.out.frozen 1
      have rf2 := RB.out.frozen 2
      have rf3 := RB.out.frozen 3
      obtain ⟨A2, c2, rfl, _⟩ := Rd.form HV.out
      clear hv hb
      go_wp2
      refine bodyPost_ret (v := tokA (hdT en (t :: ts)) (.slice A2 (hdT en (t :: ts)).word.length c2)) (by simp [results, Try.results75, go_sem, tokA, hz, r0, r1, r2, r3, hp2, hp3]) rfl ?_
      refine take_end2 (tv' := (.slice (A.map (fun x => { block := x.block, off := x.off + 4 })) ts.length (c - 1))) H1.out ?rwx HB.out HV.out RB.out ?gr
      case gr => repeat' first | with_reducible exact World.grownBy.refl _ _ | apply only_alloc | (refine only_setCell ?_ (.inl rfl) _)
      case rwx =>
        have RT2 := RT.out
        rw [if_neg HC.out] at RT2
        exact RT2
end Go.Proofs.Ytiddchpkmcncdaa
