/- Walks and plain facts of the earlier laws, packed: W73, GR, M15. -/
import Derived.Test.YtmjkcanjfjfkfaaB4
namespace Go.Proofs.Ytmjkcanjfjfkfaa
open Go.RowKit Go.Shelf
set_option linter.unusedSimpArgs false
set_option linter.unusedVariables false
def okP (s : ByteArray) : Bool := (PS s).all fun p => p.e == 0
theorem okP_iff (s : ByteArray) : okP s = true ↔ ∀ p ∈ PS s, p.e = 0 := by simp [okP]
theorem valid_is (s : ByteArray) (w : World) : Calls Try.prog 33 #[.string s] w fun e w' => e = .returned (.bool (okP s)) ∧ Below w.heap.size w w' := by
  have HP := Lib.hid (parse_is s w)
  obtain ⟨q, hq⟩ : ∃ q, okP s = q := ⟨_, rfl⟩
  rw [hq]
  have HQ := Lib.hid hq
  clear hq
  go_enter Try.func33, Try.ntmps33
  go_wp2_with fail
  refine HP.out.mono ?_
  rintro e w' ⟨hb, v1, v2, E, rfl, hE⟩
  have e1 : (E == 0) = q := by
    rw [← okP_iff, HQ.out] at hE
    cases q with
    | true => rw [beq_iff_eq]; exact hE.2 rfl
    | false => rw [beq_eq_false_iff_ne]; exact fun h => by have := hE.1 h; cases this
  have HB := Lib.hid hb
  clear hE hb
  go_wp2_with fail
  go_ret
  exact ⟨rfl, HB.out⟩
theorem partsL_len (s : ByteArray) : ∀ (f a c : Nat), (partsL s f a c).length ≤ f + 1
  | 0, _, _ => Nat.zero_le _
  | f + 1, a, c => by
    unfold partsL
    have := partsL_len s f (fstE s a c + 1) (c + 1)
    rw [List.length_cons]
    split
    · simp
    · split
      · simp
      · split
        · simp
        · omega
theorem PS_len (s : ByteArray) : (PS s).length ≤ 10 := by
  unfold PS
  split
  · simp
  · exact partsL_len s 9 0 0
theorem KpL.grown {W W' : World} {row : Option Nat} (hg : W.grownBy W' row) (hr : ∀ i cs e fr, row = some i → W.heap[i]? = some (.cells cs e fr) → ¬ (e = 126 ∨ e = 9)) : KpL W W' :=
  ⟨hg.size, fun i cs e fr h1 h2 => (hg.block i (Array.getElem?_eq_some_iff.1 h1).1 (fun e1 => hr i cs e fr e1.symm h1 h2)).trans h1⟩
def OrdC (w : World) (pre : List Pt) (W : World) : Prop := (∃ v, Boxed W (w.heap.size + 1) 36 v ∧ W.ownsRow w.heap.size 3 1 v pre.length (pre.map fun p => Value.int .i64 p.o) ∧ True)
theorem ordC_own (w : World) (B : Nat) : OwnFrom B (OrdC w) := Own.from (holdsRow_own w.heap.size (w.heap.size + 1) 36 3 1 (fun (pre : List Pt) => pre.length) (fun (pre : List Pt) => pre.map fun (p : Pt) => Value.int .i64 p.o) (fun _ _ => True)) B
def OrdI (w : World) (pre : List Pt) (W : World) : Prop := (OrdC w pre W ∧ Below w.heap.size w W) ∧ (∀ p ∈ pre, p.e = 0) ∧ Blk W w.heap.size 36 #[.slice none 0 0]
def OrdX (w : World) (c : Code) (pre : List Pt) (W : World) : Prop := c = .ret ∧ (∃ p ∈ pre, p.e ≠ 0) ∧ Blk W w.heap.size 36 #[.slice none 0 0] ∧ Below w.heap.size w W
theorem infoIn : (Try.prog.info? 3).map (fun i => (i.zero, i.size, i.bytes)) = some (some (.int .i64 0), 1, 8) := by kernel_rfl
abbrev RdIn (w : World) (v : Value) (l : List Int) : Prop := RdP 3 inC w v l
def ordsL (s : ByteArray) : List Int := (PS s).map Pt.o
theorem ords_fm (l : List Pt) : (l.map Pt.o).flatMap inC = l.map fun p => Value.int .i64 p.o := by
  induction l with
  | nil => rfl
  | cons a l ih => simp only [List.map_cons, List.flatMap_cons, ih]; rfl
def OrdP (s : ByteArray) (w : World) (e : Ending) (w' : World) : Prop := Below w.heap.size w w' ∧ ∃ (A : Option Addr) (n c : Nat), e = .returned (.slice A n c) ∧ (okP s = true → n = (PS s).length ∧ RdIn w' (.slice A n c) (ordsL s))
def ORDW (w : World) (s : ByteArray) : World := ((w.alloc (.cells #[.slice none 0 0] 36)).alloc (.cells #[.slice none 0 0] 36)).alloc (.cells #[.string s] 9)
theorem ordw_start (w : World) (s : ByteArray) : OrdI w [] (ORDW w s) ∧ Blk (ORDW w s) (w.heap.size + 1 + 1) 9 #[.string s] ∧ (ORDW w s).heap.size = w.heap.size + 1 + 1 + 1 := by
  have b1 := Blk.new w 36 #[.slice none 0 0]
  have b2 := Blk.new (w.alloc (.cells #[.slice none 0 0] 36)) 36 #[.slice none 0 0]
  have b3 := Blk.new ((w.alloc (.cells #[.slice none 0 0] 36)).alloc (.cells #[.slice none 0 0] 36)) 9 #[.string s]
  simp only [World.size_alloc] at b2 b3
  have al := fun (W : World) (o : Obj) => (Below.refl W.heap.size W).alloc (Nat.le_refl _) o
  refine ⟨⟨⟨⟨_, show Boxed _ _ _ _ from b2.next (al _ _) b2.lt, World.ownsRow_nil _ _ _ _, trivial⟩, ?_⟩, fun p h => (by cases h), (b1.next (al _ _) b1.lt).next (al _ _) (b1.next (al _ _) b1.lt).lt⟩, b3, by simp [ORDW]⟩
  exact (((Below.refl _ _).alloc (Nat.le_refl _) _).alloc (by simp) _).alloc (by simp; omega) _
section
attribute [local go_sem] Oper.semAt_some
set_option maxRecDepth 100000 in
set_option maxHeartbeats 4000000 in
theorem ordinals_is (s : ByteArray) (w : World) : Calls Try.prog 71 #[.string s] w (OrdP s w) := by
  obtain ⟨hR0, hBt, hSz⟩ := ordw_start w s
  obtain ⟨i0, hi, hz0, hz1, hz2⟩ := info_parts infoIn
  refine (callsIn_wide (n := 6)).1 ?_
  refine callsIn_of_wp_marks Try.func71 rfl trivial ?_ rfl
  simp only [Try.ntmps71, List.size_toArray, List.length_cons, List.length_nil, Nat.reduceAdd, Nat.reduceSub, Array.replicate_succ, Array.replicate_zero, List.push_toArray, List.append_toArray, List.nil_append, List.cons_append]
  gi_wp2_with ((try refine ⟨trivial, ?_⟩); gi_at_call 66; refine (parts_in Fence.wide _ trivial rfl _ _).mono ?_; rintro e w' ⟨rfl, rfl⟩)
  refine wpIn_rangeFunc_ownH (w := ORDW w s) rfl (by omega) (gf := 75) (lb := #[.pointer (some ⟨w.heap.size + 1 + 1, 0, none⟩)]) rfl trivial (enters_of Try.func75 (by kernel_rfl) rfl)
    (parts_stops _ _ s (ORDW w s) hBt) (fun h k => h.trans k) (fun W l o o' _ h1 h2 _ => KpL.putObj h1 h2) (Below.refl _ _) (fun _ => rfl)
    (OrdI w) (OrdX w) (fun pre W W' row h hg hr => ⟨⟨ordC_own w _ pre W W' row h.1.1 hg hr, h.1.2.trans ⟨hg.os, hg.tape, hg.output, hg.size, fun i hi => hg.block i (Nat.lt_of_lt_of_le hi h.1.2.size) (fun e => by have := (hr i e.symm).1; rw [hSz] at this; omega)⟩⟩, h.2.1, blk_own h.2.2 hg hr⟩) (fun c pre W W' row h hg hr => by
      obtain ⟨h1, h2, h3, h4⟩ := h
      exact ⟨h1, h2, blk_own h3 hg hr, h4.trans ⟨hg.os, hg.tape, hg.output, hg.size, fun i hi => hg.block i (Nat.lt_of_lt_of_le hi h4.size) (fun e => by have := (hr i e.symm).1; rw [hSz] at this; omega)⟩⟩)
    hR0
    (fun x a' W => ∃ pb, a' = { tmps := #[.string s, undef, .pointer (some ⟨w.heap.size, 0, none⟩), .pointer (some ⟨w.heap.size + 1, 0, none⟩), .pointer (some ⟨pb, 0, none⟩), .string s, .func (.func 75) #[] #[.pointer (some ⟨w.heap.size + 1 + 1, 0, none⟩)], .agg #[.int .i64 x.o, .int .i64 x.a, .int .i64 x.e], undef, undef, undef, undef, undef, undef, undef, undef, undef], defers := [] } ∧ Blk W pb 126 #[.int .i64 x.o, .int .i64 x.a, .int .i64 x.e]) (fun x a' _ W W' row h hg hr => by
      obtain ⟨pb, h1, h2⟩ := h
      exact ⟨pb, h1, blk_own h2 hg hr⟩) ?assign ?body ?done ?stop
  case assign =>
    intro l pre x W K hI hK
    have hb := Blk.new W 126 #[.int .i64 x.o, .int .i64 x.a, .int .i64 x.e]
    have hal := (Below.refl W.heap.size W).alloc (Nat.le_refl _) (.cells #[.int .i64 x.o, .int .i64 x.a, .int .i64 x.e] 126)
    obtain ⟨⟨⟨v, hv, hrow, _⟩, hB⟩, hp, hb2⟩ := hI
    simp only [ptV]
    gi_wp2
    exact hK _ _ ((KeepsOthers.alloc W _).from _) (KpL.below hal) ⟨⟨⟨v, hv.alloc _, own_next hrow hal, trivial⟩, hB.trans (hal.mono hB.size)⟩, hp, hb2.next hal hb2.lt⟩ ⟨W.heap.size, rfl, hb⟩
  case body =>
    rintro l pre x a' W hwl hr ⟨⟨⟨v, hv, hrow, _⟩, hB⟩, hpe, hb2⟩ ⟨pb, rfl, hb⟩ hlt
    have hpl : pre.length ≤ 10 := Nat.le_of_lt (Nat.lt_of_lt_of_le hlt (PS_len s))
    have c0 := hb.cell 0
    have c2 := hb.cell 2
    have y2 := hb2.cell 0
    have f2 := hb2.frozen 0
    have hc := hv.cell
    simp only [List.getElem?_toArray, List.getElem?_cons_zero, List.getElem?_cons_succ] at c0 c2 y2
    by_cases hx : x.e = 0
    · have n1 : (x.e != 0) = false := by rw [hx]; rfl
      have HX := Lib.hid hx
      have HPE := Lib.hid hpe
      have HB2 := Lib.hid hb2
      clear hx hpe hb2
      gi_wp2_with (gi_at_builtin; refine wpListIn_append_own _ rfl _ _ 36 rfl w.heap.size 3 i0 (.int .i64 0) 1 8 Try.underlying36 hi hz0 hz1 hz2 rfl (by decide) _ _ _ rfl (hrow.alloc _) ⟨W.heap.size, 0, none⟩ 1 1 [.int .i64 x.o] rfl rfl (cell_one_new _ _ _) (by simp [Value.oneCell']) (by unfold maxLen; omega) (by omega) (by have := hB.size; simp; omega) ?_; intro v' w1 hown' hgrow _; obtain ⟨g', cap', rfl⟩ := ownsRow_succ hown'; obtain ⟨hv1, hv2, hr2, hk2, hb5⟩ := hv.appended (by decide) hrow hB.size (by omega) hown' hgrow; have hc1 := hv1.cell; have hf1 := hv1.frozen; have HG1 := Lib.hid hgrow)
      have hkL : KpL W (w1.setCell ⟨w.heap.size + 1, 0, none⟩ (.slice (some ⟨g', 0, none⟩) (pre.length + 1) cap')) := by
        refine ((KpL.below ((Below.refl W.heap.size W).alloc (Nat.le_refl _) _)).trans (KpL.grown HG1.out ?_)).trans (KpL.grown (row := some (w.heap.size + 1)) (only_setCell (only_of_below (Below.refl _ _) _) (.inl rfl) _) ?_)
        · intro i cs e fr h1 h2 h3
          have ho := own_next hrow ((Below.refl W.heap.size W).alloc (Nat.le_refl _) (.cells #[.int .i64 x.o] 3))
          obtain ⟨cur, hcur⟩ := own_cells_of ho h1
          rw [hcur] at h2
          injection h2 with h2
          injection h2 with _ h2 _
          subst h2
          rcases h3 with h3 | h3 <;> cases h3
        · intro i cs e fr h1 h2 h3
          injection h1 with h1
          subst h1
          have := hv1
          unfold Boxed at this
          rw [this] at h2
          injection h2 with h2
          injection h2 with _ h2 _
          subst h2
          rcases h3 with h3 | h3 <;> cases h3
      refine ⟨hk2.from _, hkL, ⟨⟨_, hv2, by simpa using hr2, trivial⟩, hB.trans hb5⟩, fun p hp => ?_, ?_⟩
      · rcases List.mem_append.1 hp with h | h
        · exact HPE.out p h
        · rw [List.mem_singleton] at h; rw [h]; exact HX.out
      · have hne : v.ownBlock ≠ some w.heap.size := fun e => by
          obtain ⟨cur, hcur⟩ := own_cells_of hrow e
          have h3 := HB2.out
          unfold Blk at h3
          rw [h3] at hcur
          injection hcur with hcur
          injection hcur with _ h4 _
          cases h4
        have h4 : Blk w1 w.heap.size 36 #[.slice none 0 0] := (HB2.out.next ((Below.refl W.heap.size W).alloc (Nat.le_refl _) _) HB2.out.lt).grown HG1.out (fun e => hne e.symm)
        exact h4.grown (row := some (w.heap.size + 1)) (only_setCell (only_of_below (Below.refl _ _) _) (.inl rfl) _) (by simp)
    · have n1 : (x.e != 0) = true := by rw [bne_iff_ne]; exact hx
      have HX := Lib.hid hx
      have HB2 := Lib.hid hb2
      clear hx hb2
      gi_wp2
      have h5 : Blk (W.setCell ⟨w.heap.size, 0, none⟩ (.slice none 0 0)) w.heap.size 36 #[.slice none 0 0] := HB2.out.set_ 0 (.slice none 0 0)
      exact ⟨(KeepsOthers.setCell _ _ _).from _, rfl, ⟨x, by simp, HX.out⟩, h5, hB.setCell (p := ⟨w.heap.size, 0, none⟩) (Nat.le_refl _) _⟩
  case done =>
    rintro D ys W hD rfl ⟨⟨⟨v, hv, hrow, _⟩, hB⟩, hpe, hb2⟩ hK
    have hc := hv.cell
    have y2 := hb2.cell 0
    have f2 := hb2.frozen 0
    simp only [List.getElem?_toArray, List.getElem?_cons_zero] at y2
    obtain ⟨A, cc, rfl, hcc⟩ := own_len hrow
    have HB2 := Lib.hid hb2
    have HKD := Lib.hid hK
    have HRW := Lib.hid (Rd.of_own hrow)
    clear hb2 hK hpe
    gi_wp2
    have h5 : Blk (W.setCell ⟨w.heap.size, 0, none⟩ (.slice A (PS s).length cc)) w.heap.size 36 #[.slice A (PS s).length cc] := HB2.out.set_ 0 _
    have hK2 : (W.setCell ⟨w.heap.size, 0, none⟩ (.slice A (PS s).length cc)).heap[D]? = some (.deferred (some [])) := (KeepsOthers.setCell _ _ _).same D _ HKD.out rfl
    have hB5 := hB.setCell (p := ⟨w.heap.size, 0, none⟩) (Nat.le_refl _) (.slice A (PS s).length cc)
    refine ⟨by simp, .inl ⟨_, _, rfl, run_takeDeferred hK2, ?_⟩⟩
    have hgp := grownBy_putObj' (W.setCell ⟨w.heap.size, 0, none⟩ (.slice A (PS s).length cc)) D (.deferred none)
    have hrp : ∀ r, some D = some r → w.heap.size ≤ r ∧ ∃ o : Obj, (W.setCell ⟨w.heap.size, 0, none⟩ (.slice A (PS s).length cc)).heap[r]? = some o ∧ o.isCells = false := fun r e => by injection e with e; subst e; exact ⟨by rw [hSz] at hD; omega, _, hK2, rfl⟩
    have h6 := (blk_own h5 hgp hrp).cell 0
    simp only [List.getElem?_toArray, List.getElem?_cons_zero] at h6
    refine ⟨.slice A (PS s).length cc, by simp [results, Try.results71, go_sem, h6], hB5.trans ⟨hgp.os, hgp.tape, hgp.output, hgp.size, fun i hi => hgp.block i (Nat.lt_of_lt_of_le hi hB5.size) (fun e => by injection e with e; rw [hSz] at hD; omega)⟩, A, _, cc, rfl, fun _ => ⟨rfl, ?_⟩⟩
    have hr1 := HRW.out.blk HB2.out (only_setCell (only_of_below (Below.refl W.heap.size W) (some w.heap.size)) (p := ⟨w.heap.size, 0, none⟩) (.inl rfl) (.slice A (PS s).length cc)) (by decide)
    have hr2 := hr1.kept hgp (fun g cs fr hr hh => by injection hr with hr; subst hr; rw [hK2] at hh; cases hh)
    show Rd _ _ _ (ordsL s).length _
    unfold ordsL
    rw [List.length_map, ords_fm]
    exact hr2
  case stop =>
    rintro D c pre W hD hpre ⟨rfl, ⟨p, hp, hpe⟩, hb2, hB⟩ hK
    have HB2 := Lib.hid hb2
    have HKD := Lib.hid hK
    have HNO : Hid (okP s = true → False) := Lib.hid fun h => hpe ((okP_iff s).1 h p (hpre.subset hp))
    clear hb2 hK hpe hpre hp
    gi_wp2
    have hK2 := HKD.out
    refine ⟨by simp, .inl ⟨_, _, rfl, run_takeDeferred hK2, ?_⟩⟩
    have hgp := grownBy_putObj' W D (.deferred none)
    have hrp : ∀ r, some D = some r → w.heap.size ≤ r ∧ ∃ o : Obj, W.heap[r]? = some o ∧ o.isCells = false := fun r e => by injection e with e; subst e; exact ⟨by rw [hSz] at hD; omega, _, hK2, rfl⟩
    have h6 := (blk_own HB2.out hgp hrp).cell 0
    simp only [List.getElem?_toArray, List.getElem?_cons_zero] at h6
    refine ⟨.slice none 0 0, by simp [results, Try.results71, go_sem, h6], hB.trans ⟨hgp.os, hgp.tape, hgp.output, hgp.size, fun i hi => hgp.block i (Nat.lt_of_lt_of_le hi hB.size) (fun e => by injection e with e; rw [hSz] at hD; omega)⟩, none, 0, 0, rfl, fun h => (HNO.out h).elim⟩
end
def cmpL : List Int → List Int → Int
  | [], [] => 0
  | [], _ :: _ => -1
  | _ :: _, [] => 1
  | a :: l, b :: m => if cmpI a b ≠ 0 then cmpI a b else cmpL l m
def SlRel (a b : List Int) (w : World) (i : Value) (wr : World) : Prop := ∃ k : Nat, k ≤ a.length ∧ k ≤ b.length ∧ i = .int .i64 k ∧ cmpL (a.drop k) (b.drop k) = cmpL a b ∧ wr = w
set_option maxRecDepth 100000 in
set_option maxHeartbeats 1000000 in
theorem slcmp_is {A1 A2 : Option Addr} {c1 c2 : Nat} {a b : List Int} {w : World} (h1 : RdIn w (.slice A1 a.length c1) a) (h2 : RdIn w (.slice A2 b.length c2) b) (la : a.length ≤ 100) (lb : b.length ≤ 100) : Calls Try.prog 70 #[.slice A1 a.length c1, .slice A2 b.length c2] w fun e w' => e = .returned (.int .i64 (cmpL a b)) ∧ w = w' := by
  have H1 := Lib.hid h1
  have H2 := Lib.hid h2
  obtain ⟨Q, hQ⟩ : ∃ Q, cmpL a b = Q := ⟨_, rfl⟩
  have HQ := Lib.hid hQ
  rw [hQ]
  clear h1 h2 hQ
  have H0 : Hid (SlRel a b w (.int .i64 (0 : Nat)) w) := Lib.hid ⟨0, Nat.zero_le _, Nat.zero_le _, rfl, by simp, rfl⟩
  go_enter Try.func70, Try.ntmps70
  go_wp2_with fail
  go_loopw [11] (fun i wr => SlRel a b w i wr) (fun i _ => a.length - (intOf i).toNat)
  case atStart => exact H0.out
  case round =>
    clear H0
    obtain ⟨k, hka, hkb, rfl, hz, hw⟩ := hrel
    have HZ := Lib.hid hz
    subst hw
    clear hz
    have j1 : (0 : Int) ≤ (k : Int) := by omega
    by_cases hk : k < a.length
    · have j2 : (k : Int) < (a.length : Int) := by omega
      have j3 : decide ((k : Int) < (a.length : Int)) = true := decide_eq_true j2
      obtain ⟨b1, o1, hb1, hl1, hc1⟩ := RdP.at_ H1.out inC_len hk
      subst hb1
      have x1 := hc1 0 _ rfl
      rw [Nat.mul_one, Nat.add_zero] at x1
      have HDA := Lib.hid (List.drop_eq_getElem_cons hk)
      obtain ⟨xa, hxa⟩ : ∃ x, a[k] = x := ⟨_, rfl⟩
      rw [hxa] at x1 HDA
      clear hc1 hxa
      by_cases hkb2 : k < b.length
      · have j4 : (k : Int) < (b.length : Int) := by omega
        have j5 : decide ((b.length : Int) ≤ (k : Int)) = false := decide_eq_false (by omega)
        obtain ⟨b2, o2, hb2, hl2, hc2⟩ := RdP.at_ H2.out inC_len hkb2
        subst hb2
        have x2 := hc2 0 _ rfl
        rw [Nat.mul_one, Nat.add_zero] at x2
        have HDB := Lib.hid (List.drop_eq_getElem_cons hkb2)
        obtain ⟨xb, hxb⟩ : ∃ x, b[k] = x := ⟨_, rfl⟩
        rw [hxb] at x2 HDB
        have HST := Lib.hid (show (if cmpI xa xb ≠ 0 then cmpI xa xb else cmpL (a.drop (k + 1)) (b.drop (k + 1))) = Q by rw [← HQ.out, ← HZ.out, HDA.out, HDB.out]; rfl)
        have HCI := Lib.hid (cmp_i xa xb wr)
        obtain ⟨q, hq⟩ : ∃ q, cmpI xa xb = q := ⟨_, rfl⟩
        rw [hq] at HST HCI
        clear hc2 hxb hq HDA HDB HZ
        by_cases hq0 : q = 0
        · have e1 : (q != 0) = false := by rw [hq0]; rfl
          have HQ0 := Lib.hid hq0
          clear hq0
          go_wp2_with (go_at_call 57; refine HCI.out.mono ?_; rintro e w1 ⟨rfl, rfl⟩)
          go_roundw
          case rel => exact ⟨k + 1, by omega, by omega, by go_num, by rw [HQ.out, ← HST.out, if_neg (fun h => h HQ0.out)], rfl⟩
          case measure => simp [intOf]; omega
        · have e1 : (q != 0) = true := by rw [bne_iff_ne]; exact hq0
          have HQ0 := Lib.hid hq0
          clear hq0
          go_wp2_with (go_at_call 57; refine HCI.out.mono ?_; rintro e w1 ⟨rfl, rfl⟩)
          go_ret
          exact ⟨by rw [← HST.out, if_pos HQ0.out]; rfl, rfl⟩
      · have j5 : decide ((b.length : Int) ≤ (k : Int)) = true := decide_eq_true (by omega)
        have HST := Lib.hid (show (1 : Int) = Q by rw [← HQ.out, ← HZ.out, HDA.out, List.drop_of_length_le (show b.length ≤ k by omega)]; rfl)
        clear HDA HZ
        go_wp2_with fail
        go_ret
        exact ⟨by rw [← HST.out]; rfl, rfl⟩
    · have j3 : decide ((k : Int) < (a.length : Int)) = false := decide_eq_false (by omega)
      have j4 : decide (k < a.length) = false := decide_eq_false hk
      have hka2 : k = a.length := by omega
      by_cases hl : a.length < b.length
      · have e1 : decide ((a.length : Int) < (b.length : Int)) = true := decide_eq_true (by omega)
        have e2 : decide (a.length < b.length) = true := decide_eq_true hl
        have HST := Lib.hid (show (-1 : Int) = Q by rw [← HQ.out, ← HZ.out, List.drop_of_length_le (show a.length ≤ k by omega), List.drop_eq_getElem_cons (show k < b.length by omega)]; rfl)
        clear HZ hka2 hk
        go_wp2_with fail
        go_ret
        exact ⟨by rw [← HST.out]; rfl, rfl⟩
      · have e1 : decide ((a.length : Int) < (b.length : Int)) = false := decide_eq_false (by omega)
        have e2 : decide (a.length < b.length) = false := decide_eq_false hl
        have HST := Lib.hid (show (0 : Int) = Q by rw [← HQ.out, ← HZ.out, List.drop_of_length_le (show a.length ≤ k by omega), List.drop_of_length_le (show b.length ≤ k by omega)]; rfl)
        clear HZ hka2 hk
        go_wp2_with fail
        go_ret
        exact ⟨by rw [← HST.out]; rfl, rfl⟩
set_option maxRecDepth 100000 in
theorem lin_cmp2 (a b : Bs) (w : World) (ha : okP (bs a) = true) (hb : okP (bs b) = true) : Calls Try.prog 58 #[.string (bs a), .string (bs b)] w fun e w' => e = .returned (.int .i64 (if a = b then 0 else cmpL (ordsL (bs a)) (ordsL (bs b)))) ∧ Below w.heap.size w w' := by
  by_cases hne : a = b
  · subst hne
    rw [if_pos rfl]
    refine (lin_same (bs a) w).mono ?_
    rintro e w' ⟨rfl, rfl⟩
    exact ⟨rfl, Below.refl _ _⟩
  · rw [if_neg hne]
    have e0 : ((bs a).toList == (bs b).toList) = false := by
      rw [bs_toList, bs_toList, beq_eq_false_iff_ne]
      exact hne
    have HA := Lib.hid ha
    have HB := Lib.hid hb
    have HLA := Lib.hid (show (ordsL (bs a)).length ≤ 100 by unfold ordsL; rw [List.length_map]; exact Nat.le_trans (PS_len _) (by omega))
    have HLB := Lib.hid (show (ordsL (bs b)).length ≤ 100 by unfold ordsL; rw [List.length_map]; exact Nat.le_trans (PS_len _) (by omega))
    have HEA := Lib.hid (show (PS (bs a)).length = (ordsL (bs a)).length by unfold ordsL; rw [List.length_map])
    have HEB := Lib.hid (show (PS (bs b)).length = (ordsL (bs b)).length by unfold ordsL; rw [List.length_map])
    have HVA := Lib.hid (fun W => valid_is (bs a) W)
    have HVB := Lib.hid (fun W => valid_is (bs b) W)
    have HOA := Lib.hid (fun W => ordinals_is (bs a) W)
    have HOB := Lib.hid (fun W => ordinals_is (bs b) W)
    clear ha hb hne
    generalize bs a = sa at *
    generalize bs b = sb at *
    go_enter Try.func58, Try.ntmps58
    have O1 : True := trivial
    have O2 : True := trivial
    go_wp2_with (first
      | (clear O1; go_at_call 33; refine (HVA.out _).mono ?_; rintro e w1 ⟨rfl, hb1⟩; rw [HA.out]; have HB1 := Lib.hid hb1; clear hb1)
      | (go_at_call 33; refine (HVB.out _).mono ?_; rintro e w2 ⟨rfl, hb2⟩; rw [HB.out]; have HB2 := Lib.hid (HB1.out.trans (hb2.mono HB1.out.size)); clear hb2)
      | (clear O2; go_at_call 71; refine (HOA.out _).mono ?_; rintro e w3 ⟨hb3, A3, n3, c3, rfl, hn3⟩; obtain ⟨rfl, hr3⟩ := hn3 HA.out; rw [HEA.out] at hr3 ⊢; have HR3 := Lib.hid hr3; have HB3 := Lib.hid (HB2.out.trans (hb3.mono HB2.out.size)); clear hb3 hn3 hr3)
      | (go_at_call 71; refine (HOB.out _).mono ?_; rintro e w4 ⟨hb4, A4, n4, c4, rfl, hn4⟩; obtain ⟨rfl, hr4⟩ := hn4 HB.out; rw [HEB.out] at hr4 ⊢; have HR4 := Lib.hid hr4; have HR34 := Lib.hid (RdP.next HR3.out hb4); have HB4 := Lib.hid (HB3.out.trans (hb4.mono HB3.out.size)); clear hb4 hn4 hr4)
      | (go_at_call 70; refine (slcmp_is HR34.out HR4.out HLA.out HLB.out).mono ?_; rintro e w5 ⟨rfl, rfl⟩))
    go_ret
    exact ⟨rfl, HB4.out⟩
theorem lin5_ok : ∀ a ∈ lin5, okP (bs a) = true := by decide +kernel
theorem lin5_cmp : ∀ a ∈ lin5, ∀ b ∈ lin5, (if a = b then (0 : Int) else cmpL (ordsL (bs a)) (ordsL (bs b))) = cmpS a b := by decide +kernel
theorem lin_cmp5 {a b : Bs} (w : World) (ha : a ∈ lin5) (hb : b ∈ lin5) : Calls Try.prog 58 #[.string (bs a), .string (bs b)] w fun e w' => e = .returned (.int .i64 (cmpS a b)) ∧ Below w.heap.size w w' := by
  have h := lin_cmp2 a b w (lin5_ok a ha) (lin5_ok b hb)
  rw [lin5_cmp a ha b hb] at h
  exact h
end Go.Proofs.Ytmjkcanjfjfkfaa
namespace Go.Proofs.Ytmjkcanjfjfkfaa
open Go.RowKit
set_option linter.unusedSimpArgs false
set_option linter.unusedVariables false
attribute [local go_sem ↓] Go.wp_at_zero Go.wp_at_succ
theorem own_lt {w : World} {base e s n : Nat} {v : Value} {xs : List Value} (h : w.ownsRow base e s v n xs) {g : Nat} (hg : v.ownBlock = some g) : g < w.heap.size := by
  obtain ⟨_, ⟨rfl, _⟩ | ⟨g', cap', cur, rfl, _, hh, _⟩⟩ := h
  · simp [Value.ownBlock] at hg
  · simp [Value.ownBlock] at hg
    subst hg
    exact (Array.getElem?_eq_some_iff.1 hh).1
theorem or_4 (a b c d : Int) (w : World) (A : Nat) (h0 : w.cell? ⟨A, 0, none⟩ = some (.int .i64 a)) (h1 : w.cell? ⟨A, 1, none⟩ = some (.int .i64 b)) (h2 : w.cell? ⟨A, 2, none⟩ = some (.int .i64 c)) (h3 : w.cell? ⟨A, 3, none⟩ = some (.int .i64 d)) : Calls Try.prog 59 #[.slice (some ⟨A, 0, none⟩) 4 4] w fun e w' => e = .returned (.int .i64 (or4 a b c d)) ∧ w = w' := by
  have hc : Hid (or4 a b c d = if a ≠ 0 then a else if b ≠ 0 then b else if c ≠ 0 then c else d) := Lib.hid (by unfold or4 or3; by_cases h1 : a = 0 <;> by_cases h2 : b = 0 <;> by_cases h3 : c = 0 <;> simp [h1, h2, h3])
  go_enter Try.func59, Try.ntmps59
  go_wp2
  go_loop [8] (fun i => ∃ k : Nat, k ≤ 4 ∧ i = .int .i64 k ∧ (0 < k → a = 0) ∧ (1 < k → b = 0) ∧ (2 < k → c = 0) ∧ (3 < k → d = 0)) (fun i => 4 - (intOf i).toNat)
  case atStart => exact ⟨0, by omega, rfl, by omega, by omega, by omega, by omega⟩
  case round =>
    obtain ⟨k, hk, rfl, p0, p1, p2, p3⟩ := hrel
    have hcases : k = 0 ∨ k = 1 ∨ k = 2 ∨ k = 3 ∨ k = 4 := by omega
    rcases hcases with rfl | rfl | rfl | rfl | rfl
    · clear p0 p1 p2 p3 hk
      by_cases ha : a = 0
      · have e1 : (a != 0) = false := by simp [ha]
        go_wp2
        go_round
        case rel => exact ⟨1, by omega, rfl, fun _ => ha, by omega, by omega, by omega⟩
        case measure => simp [intOf]
      · have e1 : (a != 0) = true := by simp [ha]
        go_wp2
        go_ret
        exact ⟨by rw [hc.out, if_pos ha]; rfl, rfl⟩
    · have ha := p0 (by omega)
      clear p0 p1 p2 p3 hk
      by_cases hb : b = 0
      · have e1 : (b != 0) = false := by simp [hb]
        have HA := Lib.hid ha
        clear ha
        go_wp2
        go_round
        case rel => exact ⟨2, by omega, rfl, fun _ => HA.out, fun _ => hb, by omega, by omega⟩
        case measure => simp [intOf]
      · have e1 : (b != 0) = true := by simp [hb]
        have HA := Lib.hid ha
        clear ha
        go_wp2
        go_ret
        exact ⟨by rw [hc.out, if_neg (by simp [HA.out]), if_pos hb]; rfl, rfl⟩
    · have HA := Lib.hid (p0 (by omega))
      have HB := Lib.hid (p1 (by omega))
      clear p0 p1 p2 p3 hk
      by_cases hcc : c = 0
      · have e1 : (c != 0) = false := by simp [hcc]
        go_wp2
        go_round
        case rel => exact ⟨3, by omega, rfl, fun _ => HA.out, fun _ => HB.out, fun _ => hcc, by omega⟩
        case measure => simp [intOf]
      · have e1 : (c != 0) = true := by simp [hcc]
        go_wp2
        go_ret
        exact ⟨by rw [hc.out, if_neg (by simp [HA.out]), if_neg (by simp [HB.out]), if_pos hcc]; rfl, rfl⟩
    · have HA := Lib.hid (p0 (by omega))
      have HB := Lib.hid (p1 (by omega))
      have HC := Lib.hid (p2 (by omega))
      clear p0 p1 p2 p3 hk
      by_cases hd : d = 0
      · have e1 : (d != 0) = false := by simp [hd]
        go_wp2
        go_round
        case rel => exact ⟨4, by omega, rfl, fun _ => HA.out, fun _ => HB.out, fun _ => HC.out, fun _ => hd⟩
        case measure => simp [intOf]
      · have e1 : (d != 0) = true := by simp [hd]
        go_wp2
        go_ret
        exact ⟨by rw [hc.out, if_neg (by simp [HA.out]), if_neg (by simp [HB.out]), if_neg (by simp [HC.out])]; rfl, rfl⟩
    · have HA := Lib.hid (p0 (by omega))
      have HB := Lib.hid (p1 (by omega))
      have HC := Lib.hid (p2 (by omega))
      have HD := Lib.hid (p3 (by omega))
      clear p0 p1 p2 p3 hk
      go_wp2
      go_ret
      exact ⟨by rw [hc.out, if_neg (by simp [HA.out]), if_neg (by simp [HB.out]), if_neg (by simp [HC.out]), HD.out]; rfl, rfl⟩
set_option maxRecDepth 100000 in
set_option maxHeartbeats 1000000 in
theorem key_compare (a k : Ky) (w : World) (ha : a.lin ∈ lin5) (hk : k.lin ∈ lin5) : Calls Try.prog 53 #[kyV a, kyV k] w fun e w' => e = .returned (.int .i64 (cmpK a k)) ∧ Below w.heap.size w w' := by
  have HN := Lib.hid (cmp_i a.tick k.tick)
  have HI := Lib.hid (cmp_i a.cls k.cls)
  have HT := Lib.hid (cmp_i a.num k.num)
  have HO := Lib.hid (fun W => lin_cmp5 W ha hk)
  unfold kyV cmpK
  generalize cmpI a.tick k.tick = c1 at *
  generalize cmpI a.cls k.cls = c2 at *
  generalize cmpI a.num k.num = c3 at *
  generalize cmpS a.lin k.lin = c4 at *
  have hb : Below w.heap.size w ((w.alloc (.cells #[.int .i64 a.tick, .int .i64 a.cls, .int .i64 a.num, .string (bs a.lin)] 56)).alloc (.cells #[.int .i64 k.tick, .int .i64 k.cls, .int .i64 k.num, .string (bs k.lin)] 56)) := ((Below.refl _ _).alloc (Nat.le_refl _) _).alloc (by simp) _
  have b0 := (Blk.new w 56 #[.int .i64 a.tick, .int .i64 a.cls, .int .i64 a.num, .string (bs a.lin)]).alloc (.cells #[.int .i64 k.tick, .int .i64 k.cls, .int .i64 k.num, .string (bs k.lin)] 56)
  have b1 := Blk.new (w.alloc (.cells #[.int .i64 a.tick, .int .i64 a.cls, .int .i64 a.num, .string (bs a.lin)] 56)) 56 #[.int .i64 k.tick, .int .i64 k.cls, .int .i64 k.num, .string (bs k.lin)]
  rw [World.size_alloc] at b1
  have x0 := b0.cell 0
  have x1 := b0.cell 1
  have x2 := b0.cell 2
  have x3 := b0.cell 3
  have y0 := b1.cell 0
  have y1 := b1.cell 1
  have y2 := b1.cell 2
  have y3 := b1.cell 3
  have hcb := b0.lt
  have hdb := b1.lt
  simp only [List.getElem?_toArray, List.getElem?_cons_zero, List.getElem?_cons_succ] at x0 x1 x2 x3 y0 y1 y2 y3
  have HB := Lib.hid hb
  clear b0 b1 hb ha hk
  go_enter Try.func53, Try.ntmps53
  go_upto_region 1 with (fail)
  generalize ((w.alloc (.cells #[.int .i64 a.tick, .int .i64 a.cls, .int .i64 a.num, .string (bs a.lin)] 56)).alloc (.cells #[.int .i64 k.tick, .int .i64 k.cls, .int .i64 k.num, .string (bs k.lin)] 56)) = W at *
  obtain ⟨db, hdbe⟩ : ∃ db, w.heap.size + 1 = db := ⟨_, rfl⟩
  rw [hdbe] at y0 y1 y2 y3 hdb ⊢
  obtain ⟨cb, hcbe⟩ : ∃ cb, w.heap.size = cb := ⟨_, rfl⟩
  have HCB := Lib.hid hcbe
  rw [hcbe] at x0 x1 x2 x3 hcb ⊢
  clear hdbe hcbe
  refine wp_region_noPanic ?_
  refine wp_region_held_drew (S := (fun (w' : World) => w'.cell? ⟨cb, 0, none⟩ = some (.int .i64 a.tick) ∧ w'.cell? ⟨cb, 1, none⟩ = some (.int .i64 a.cls) ∧ w'.cell? ⟨cb, 2, none⟩ = some (.int .i64 a.num) ∧ w'.cell? ⟨cb, 3, none⟩ = some (.string (bs a.lin)) ∧ w'.cell? ⟨db, 0, none⟩ = some (.int .i64 k.tick) ∧ w'.cell? ⟨db, 1, none⟩ = some (.int .i64 k.cls) ∧ w'.cell? ⟨db, 2, none⟩ = some (.int .i64 k.num) ∧ w'.cell? ⟨db, 3, none⟩ = some (.string (bs k.lin)))) (by kernel_rfl) ?_ (fun hHeld => ?_)
  · exact ⟨x0, x1, x2, x3, y0, y1, y2, y3⟩
  refine wpAnyH_take (i := 0) (v := ?_) rfl (by kernel_rfl) (by kernel_rfl) (by kernel_rfl) (fun _ _ _ h => h) (Or.inl ⟨by kernel_rfl, ?_⟩) hHeld ?_
  rotate_left
  · (intro w hSw; (try dsimp only at hSw); go_simp; try with_reducible rfl)
  try simp only [Act.put, List.setIfInBounds_toArray, List.set_cons_zero, List.set_cons_succ]
  refine wpAnyH_take (i := 1) (v := ?_) rfl (by kernel_rfl) (by kernel_rfl) (by kernel_rfl) (fun _ _ _ h => h) (Or.inl ⟨by kernel_rfl, ?_⟩) hHeld ?_
  rotate_left
  · (intro w hSw; (try dsimp only at hSw); go_simp; try with_reducible rfl)
  try simp only [Act.put, List.setIfInBounds_toArray, List.set_cons_zero, List.set_cons_succ]
  refine wpAnyH_take (i := 2) (v := ?_) rfl (by kernel_rfl) (by kernel_rfl) (by kernel_rfl) (fun _ _ _ h => h) (Or.inl ⟨by kernel_rfl, ?_⟩) hHeld ?_
  rotate_left
  · (intro w hSw; (try dsimp only at hSw); go_simp; try with_reducible rfl)
  try simp only [Act.put, List.setIfInBounds_toArray, List.set_cons_zero, List.set_cons_succ]
  refine wpAnyH_take (i := 3) (v := ?_) rfl (by kernel_rfl) (by kernel_rfl) (by kernel_rfl) (fun _ _ _ h => h) (Or.inl ⟨by kernel_rfl, ?_⟩) hHeld ?_
  rotate_left
  · (intro w hSw; (try dsimp only at hSw); go_simp; try with_reducible rfl)
  try simp only [Act.put, List.setIfInBounds_toArray, List.set_cons_zero, List.set_cons_succ]
  refine wpAnyH_take (i := 5) (v := ?_) rfl (by kernel_rfl) (by kernel_rfl) (by kernel_rfl) (fun _ _ _ h => h) (Or.inl ⟨by kernel_rfl, ?_⟩) hHeld ?_
  rotate_left
  · (intro w hSw; (try dsimp only at hSw); go_simp; try with_reducible rfl)
  try simp only [Act.put, List.setIfInBounds_toArray, List.set_cons_zero, List.set_cons_succ]
  refine wpAnyH_take (i := 6) (v := ?_) rfl (by kernel_rfl) (by kernel_rfl) (by kernel_rfl) (fun _ _ _ h => h) (Or.inl ⟨by kernel_rfl, ?_⟩) hHeld ?_
  rotate_left
  · (intro w hSw; (try dsimp only at hSw); go_simp; try with_reducible rfl)
  try simp only [Act.put, List.setIfInBounds_toArray, List.set_cons_zero, List.set_cons_succ]
  refine wpAnyH_take (i := 7) (v := ?_) rfl (by kernel_rfl) (by kernel_rfl) (by kernel_rfl) (fun _ _ _ h => h) (Or.inl ⟨by kernel_rfl, ?_⟩) hHeld ?_
  rotate_left
  · (intro w hSw; (try dsimp only at hSw); go_simp; try with_reducible rfl)
  try simp only [Act.put, List.setIfInBounds_toArray, List.set_cons_zero, List.set_cons_succ]
  refine wpAnyH_take (i := 8) (v := ?_) rfl (by kernel_rfl) (by kernel_rfl) (by kernel_rfl) (fun _ _ _ h => h) (Or.inl ⟨by kernel_rfl, ?_⟩) hHeld ?_
  rotate_left
  · (intro w hSw; (try dsimp only at hSw); go_simp; try with_reducible rfl)
  try simp only [Act.put, List.setIfInBounds_toArray, List.set_cons_zero, List.set_cons_succ]
  refine wpAnyH_take (i := 10) (v := ?_) rfl (by kernel_rfl) (by kernel_rfl) (by kernel_rfl) (fun _ _ _ h => h) (Or.inl ⟨by kernel_rfl, ?_⟩) hHeld ?_
  rotate_left
  · (intro w hSw; (try dsimp only at hSw); go_simp; try with_reducible rfl)
  try simp only [Act.put, List.setIfInBounds_toArray, List.set_cons_zero, List.set_cons_succ]
  refine wpAnyH_take (i := 11) (v := ?_) rfl (by kernel_rfl) (by kernel_rfl) (by kernel_rfl) (fun _ _ _ h => h) (Or.inl ⟨by kernel_rfl, ?_⟩) hHeld ?_
  rotate_left
  · (intro w hSw; (try dsimp only at hSw); go_simp; try with_reducible rfl)
  try simp only [Act.put, List.setIfInBounds_toArray, List.set_cons_zero, List.set_cons_succ]
  refine wpAnyH_take (i := 12) (v := ?_) rfl (by kernel_rfl) (by kernel_rfl) (by kernel_rfl) (fun _ _ _ h => h) (Or.inl ⟨by kernel_rfl, ?_⟩) hHeld ?_
  rotate_left
  · (intro w hSw; (try dsimp only at hSw); go_simp; try with_reducible rfl)
  try simp only [Act.put, List.setIfInBounds_toArray, List.set_cons_zero, List.set_cons_succ]
  refine wpAnyH_take (i := 13) (v := ?_) rfl (by kernel_rfl) (by kernel_rfl) (by kernel_rfl) (fun _ _ _ h => h) (Or.inl ⟨by kernel_rfl, ?_⟩) hHeld ?_
  rotate_left
  · (intro w hSw; (try dsimp only at hSw); go_simp; try with_reducible rfl)
  try simp only [Act.put, List.setIfInBounds_toArray, List.set_cons_zero, List.set_cons_succ]
  refine wpAnyH_take (i := 15) (v := ?_) rfl (by kernel_rfl) (by kernel_rfl) (by kernel_rfl) (fun _ _ _ h => h) (Or.inl ⟨by kernel_rfl, ?_⟩) hHeld ?_
  rotate_left
  · (intro w hSw; (try dsimp only at hSw); go_simp; try with_reducible rfl)
  try simp only [Act.put, List.setIfInBounds_toArray, List.set_cons_zero, List.set_cons_succ]
  refine wpAnyH_take (i := 16) (v := ?_) rfl (by kernel_rfl) (by kernel_rfl) (by kernel_rfl) (fun _ _ _ h => h) (Or.inl ⟨by kernel_rfl, ?_⟩) hHeld ?_
  rotate_left
  · (intro w hSw; (try dsimp only at hSw); go_simp; try with_reducible rfl)
  try simp only [Act.put, List.setIfInBounds_toArray, List.set_cons_zero, List.set_cons_succ]
  refine wpAnyH_take (i := 17) (v := ?_) rfl (by kernel_rfl) (by kernel_rfl) (by kernel_rfl) (fun _ _ _ h => h) (Or.inl ⟨by kernel_rfl, ?_⟩) hHeld ?_
  rotate_left
  · (intro w hSw; (try dsimp only at hSw); go_simp; try with_reducible rfl)
  try simp only [Act.put, List.setIfInBounds_toArray, List.set_cons_zero, List.set_cons_succ]
  refine wpAnyH_take (i := 18) (v := ?_) rfl (by kernel_rfl) (by kernel_rfl) (by kernel_rfl) (fun _ _ _ h => h) (Or.inl ⟨by kernel_rfl, ?_⟩) hHeld ?_
  rotate_left
  · (intro w hSw; (try dsimp only at hSw); go_simp; try with_reducible rfl)
  try simp only [Act.put, List.setIfInBounds_toArray, List.set_cons_zero, List.set_cons_succ]
  refine wpAnyH_ready (rs := [4]) (by kernel_rfl) (by simp) ?_
  refine AllReadyH.cons rfl (fun K hK => ?_) AllReadyH.nil
  go_simp
  refine (HN.out _).mono ?_; rintro e w' ⟨rfl, rfl⟩
  try (go_wp2_with fail)
  refine hK.out _ _ ?_ (fun hNew => ?_)
  · exact ⟨x0, x1, x2, x3, y0, y1, y2, y3⟩
  clear hK K hHeld
  have hHeld := hNew
  clear hNew
  try simp only [Act.put, List.setIfInBounds_toArray, List.set_cons_zero, List.set_cons_succ]
  refine wpAnyH_ready (rs := [9]) (by kernel_rfl) (by simp) ?_
  refine AllReadyH.cons rfl (fun K hK => ?_) AllReadyH.nil
  go_simp
  refine (HI.out _).mono ?_; rintro e w' ⟨rfl, rfl⟩
  try (go_wp2_with fail)
  refine hK.out _ _ ?_ (fun hNew => ?_)
  · exact ⟨x0, x1, x2, x3, y0, y1, y2, y3⟩
  clear hK K hHeld
  have hHeld := hNew
  clear hNew
  try simp only [Act.put, List.setIfInBounds_toArray, List.set_cons_zero, List.set_cons_succ]
  refine wpAnyH_ready (rs := [14]) (by kernel_rfl) (by simp) ?_
  refine AllReadyH.cons rfl (fun K hK => ?_) AllReadyH.nil
  go_simp
  refine (HT.out _).mono ?_; rintro e w' ⟨rfl, rfl⟩
  try (go_wp2_with fail)
  refine hK.out _ _ ?_ (fun hNew => ?_)
  · exact ⟨x0, x1, x2, x3, y0, y1, y2, y3⟩
  clear hK K hHeld
  have hHeld := hNew
  clear hNew
  try simp only [Act.put, List.setIfInBounds_toArray, List.set_cons_zero, List.set_cons_succ]
  refine wpAnyH_ready (rs := [19]) (by kernel_rfl) (by simp) ?_
  refine AllReadyH.cons rfl (fun K hK => ?_) AllReadyH.nil
  go_simp
  refine (HO.out W.drew).mono ?_; rintro e w3 ⟨rfl, hb3⟩; have HB3 := Lib.hid ((Below.refl W.heap.size W).drew.trans hb3); clear hb3
  try (go_wp2_with fail)
  refine hK.out _ _ ?_ (fun hNew => ?_)
  · exact ⟨(HB3.out.cell (p := ⟨cb, 0, none⟩) hcb).trans x0, (HB3.out.cell (p := ⟨cb, 1, none⟩) hcb).trans x1, (HB3.out.cell (p := ⟨cb, 2, none⟩) hcb).trans x2, (HB3.out.cell (p := ⟨cb, 3, none⟩) hcb).trans x3, (HB3.out.cell (p := ⟨db, 0, none⟩) hdb).trans y0, (HB3.out.cell (p := ⟨db, 1, none⟩) hdb).trans y1, (HB3.out.cell (p := ⟨db, 2, none⟩) hdb).trans y2, (HB3.out.cell (p := ⟨db, 3, none⟩) hdb).trans y3⟩
  clear hK K hHeld
  have hHeld := hNew
  clear hNew
  try simp only [Act.put, List.setIfInBounds_toArray, List.set_cons_zero, List.set_cons_succ]
  refine wpAnyH_ready (rs := [20]) (by kernel_rfl) (by simp) ?_
  refine AllReadyH.cons rfl (fun K hK => ?_) AllReadyH.nil
  go_simp
  refine hK.out _ _ ?_ (fun hNew => ?_)
  · exact ⟨((HB3.out.alloc HB3.out.size (.cells #[.int .i64 c1, .int .i64 c2, .int .i64 c3, .int .i64 c4] 3)).cell (p := ⟨cb, 0, none⟩) hcb).trans x0, ((HB3.out.alloc HB3.out.size (.cells #[.int .i64 c1, .int .i64 c2, .int .i64 c3, .int .i64 c4] 3)).cell (p := ⟨cb, 1, none⟩) hcb).trans x1, ((HB3.out.alloc HB3.out.size (.cells #[.int .i64 c1, .int .i64 c2, .int .i64 c3, .int .i64 c4] 3)).cell (p := ⟨cb, 2, none⟩) hcb).trans x2, ((HB3.out.alloc HB3.out.size (.cells #[.int .i64 c1, .int .i64 c2, .int .i64 c3, .int .i64 c4] 3)).cell (p := ⟨cb, 3, none⟩) hcb).trans x3, ((HB3.out.alloc HB3.out.size (.cells #[.int .i64 c1, .int .i64 c2, .int .i64 c3, .int .i64 c4] 3)).cell (p := ⟨db, 0, none⟩) hdb).trans y0, ((HB3.out.alloc HB3.out.size (.cells #[.int .i64 c1, .int .i64 c2, .int .i64 c3, .int .i64 c4] 3)).cell (p := ⟨db, 1, none⟩) hdb).trans y1, ((HB3.out.alloc HB3.out.size (.cells #[.int .i64 c1, .int .i64 c2, .int .i64 c3, .int .i64 c4] 3)).cell (p := ⟨db, 2, none⟩) hdb).trans y2, ((HB3.out.alloc HB3.out.size (.cells #[.int .i64 c1, .int .i64 c2, .int .i64 c3, .int .i64 c4] 3)).cell (p := ⟨db, 3, none⟩) hdb).trans y3⟩
  clear hK K hHeld
  have hHeld := hNew
  clear hNew
  try simp only [Act.put, List.setIfInBounds_toArray, List.set_cons_zero, List.set_cons_succ]
  refine wpAnyH_ready (rs := [21]) (by kernel_rfl) (by simp) ?_
  refine AllReadyH.cons rfl (fun K hK => ?_) AllReadyH.nil
  go_simp
  refine (or_4 c1 c2 c3 c4 _ w3.heap.size ((Blk.new w3 3 #[.int .i64 c1, .int .i64 c2, .int .i64 c3, .int .i64 c4]).cell 0) ((Blk.new w3 3 #[.int .i64 c1, .int .i64 c2, .int .i64 c3, .int .i64 c4]).cell 1) ((Blk.new w3 3 #[.int .i64 c1, .int .i64 c2, .int .i64 c3, .int .i64 c4]).cell 2) ((Blk.new w3 3 #[.int .i64 c1, .int .i64 c2, .int .i64 c3, .int .i64 c4]).cell 3)).mono ?_; rintro e w' ⟨rfl, rfl⟩
  try (go_wp2_with fail)
  refine hK.out _ _ ?_ (fun hNew => ?_)
  · exact ⟨((HB3.out.alloc HB3.out.size (.cells #[.int .i64 c1, .int .i64 c2, .int .i64 c3, .int .i64 c4] 3)).cell (p := ⟨cb, 0, none⟩) hcb).trans x0, ((HB3.out.alloc HB3.out.size (.cells #[.int .i64 c1, .int .i64 c2, .int .i64 c3, .int .i64 c4] 3)).cell (p := ⟨cb, 1, none⟩) hcb).trans x1, ((HB3.out.alloc HB3.out.size (.cells #[.int .i64 c1, .int .i64 c2, .int .i64 c3, .int .i64 c4] 3)).cell (p := ⟨cb, 2, none⟩) hcb).trans x2, ((HB3.out.alloc HB3.out.size (.cells #[.int .i64 c1, .int .i64 c2, .int .i64 c3, .int .i64 c4] 3)).cell (p := ⟨cb, 3, none⟩) hcb).trans x3, ((HB3.out.alloc HB3.out.size (.cells #[.int .i64 c1, .int .i64 c2, .int .i64 c3, .int .i64 c4] 3)).cell (p := ⟨db, 0, none⟩) hdb).trans y0, ((HB3.out.alloc HB3.out.size (.cells #[.int .i64 c1, .int .i64 c2, .int .i64 c3, .int .i64 c4] 3)).cell (p := ⟨db, 1, none⟩) hdb).trans y1, ((HB3.out.alloc HB3.out.size (.cells #[.int .i64 c1, .int .i64 c2, .int .i64 c3, .int .i64 c4] 3)).cell (p := ⟨db, 2, none⟩) hdb).trans y2, ((HB3.out.alloc HB3.out.size (.cells #[.int .i64 c1, .int .i64 c2, .int .i64 c3, .int .i64 c4] 3)).cell (p := ⟨db, 3, none⟩) hdb).trans y3⟩
  clear hK K hHeld
  have hHeld := hNew
  clear hNew
  try simp only [Act.put, List.setIfInBounds_toArray, List.set_cons_zero, List.set_cons_succ]
  refine wpAnyH_take (i := 22) (v := ?_) rfl (by kernel_rfl) (by kernel_rfl) (by kernel_rfl) (fun _ _ _ h => h) (Or.inl ⟨by kernel_rfl, ?_⟩) hHeld ?_
  rotate_left
  · (intro w hSw; (try dsimp only at hSw); go_simp; try with_reducible rfl)
  try simp only [Act.put, List.setIfInBounds_toArray, List.set_cons_zero, List.set_cons_succ]
  refine wpAnyH_done (by kernel_rfl) ?_ _
  clear hHeld
  try simp only [List.getElem_toArray, List.getElem_cons_zero, List.getElem_cons_succ, Act.put, List.setIfInBounds_toArray, List.set_cons_zero, List.set_cons_succ]
  refine NoPanic.normal ?_
  go_wp2_with fail
  go_ret
  exact ⟨rfl, HB.out.trans ((HB3.out.alloc HB3.out.size _).mono HB.out.size)⟩
end Go.Proofs.Ytmjkcanjfjfkfaa
namespace Go.Proofs.Ytmjkcanjfjfkfaa
open Go.RowKit Go.MapKept Go.ChangeMaps
set_option linter.unusedSimpArgs false
set_option linter.unusedVariables false
structure Lk where
  frm : Int
  to_ : Int
  name : Nm
deriving DecidableEq
def lkC (x : Lk) : List Value := [.int .i64 x.frm, .int .i64 x.to_, .int .i64 x.name.kind, .string (bs x.name.owner), .int .i64 x.name.num, .int .i64 x.name.idx, .string (bs x.name.text)]
def lkV (x : Lk) : Value := .agg #[.int .i64 x.frm, .int .i64 x.to_, .int .i64 x.name.kind, .string (bs x.name.owner), .int .i64 x.name.num, .int .i64 x.name.idx, .string (bs x.name.text)]
theorem lkC_len (x : Lk) : (lkC x).length = 7 := rfl
theorem kyC_len (x : Ky) : (kyC x).length = 4 := rfl
abbrev RdLk (w : World) (v : Value) (l : List Lk) : Prop := RdP 43 lkC w v l
theorem RdLk.piece {w : World} {A : Option Addr} {n c : Nat} {l : List Lk} (h : RdLk w (.slice A n c) l) {k : Nat} (hk : k < l.length) : ∃ b o, A = some ⟨b, o, none⟩ ∧ b < w.heap.size ∧
    w.cell? ⟨b, o + k * 7, none⟩ = some (.int .i64 l[k].frm) ∧ w.cell? ⟨b, o + k * 7 + 1, none⟩ = some (.int .i64 l[k].to_) ∧ w.cell? ⟨b, o + k * 7 + 2, none⟩ = some (.int .i64 l[k].name.kind) ∧ w.cell? ⟨b, o + k * 7 + 3, none⟩ = some (.string (bs l[k].name.owner)) ∧ w.cell? ⟨b, o + k * 7 + 4, none⟩ = some (.int .i64 l[k].name.num) ∧ w.cell? ⟨b, o + k * 7 + 5, none⟩ = some (.int .i64 l[k].name.idx) ∧ w.cell? ⟨b, o + k * 7 + 6, none⟩ = some (.string (bs l[k].name.text)) := by
  obtain ⟨b, o, e, hb, hc⟩ := RdP.at_ h lkC_len hk
  exact ⟨b, o, e, hb, hc 0 _ rfl, hc 1 _ rfl, hc 2 _ rfl, hc 3 _ rfl, hc 4 _ rfl, hc 5 _ rfl, hc 6 _ rfl⟩
def Apart (a b : Value) : Prop := ∀ g, a.ownBlock = some g → b.ownBlock ≠ some g
theorem Apart.symm {a b : Value} (h : Apart a b) : Apart b a := fun g hb ha => h g ha hb
theorem own_set1 {w : World} {base e g n c : Nat} {xs : List Value} (h : w.ownsRow base e 1 (.slice (some ⟨g, 0, none⟩) n c) n xs) {i : Nat} (hi : i < n) (u : Value) : (w.setCell ⟨g, i, none⟩ u).ownsRow base e 1 (.slice (some ⟨g, 0, none⟩) n c) n (xs.set i u) := by
  obtain ⟨hl, ⟨_, h0⟩ | ⟨g', cap, cur, hv, hg, hh, h1, h2, h3, h4⟩⟩ := h
  · omega
  · injection hv with hv _ h5
    injection hv with hv
    injection hv with hv _ _
    subst hv h5
    have hb := Blk.set_ (show Blk w g e cur from hh) i u
    refine ⟨by simpa using hl, .inr ⟨g, c, _, rfl, hg, hb, h1, h2, by simpa using h3, ?_⟩⟩
    rw [Array.toList_setIfInBounds, List.take_set, h4]
theorem pair_set {l : List Value} (h : l.Pairwise Apart) (i : Nat) {v : Value} (hv : ∀ (j : Nat) (x : Value), j ≠ i → l[j]? = some x → Apart x v) : (l.set i v).Pairwise Apart := by
  rw [List.pairwise_iff_getElem] at h ⊢
  intro a b ha hb hab
  rw [List.length_set] at ha hb
  rw [List.getElem_set, List.getElem_set]
  by_cases h1 : i = a
  · subst h1
    rw [if_pos rfl, if_neg (by omega)]
    exact (hv b _ (by omega) (List.getElem?_eq_getElem hb)).symm
  · rw [if_neg h1]
    by_cases h2 : i = b
    · subst h2
      rw [if_pos rfl]
      exact hv a _ (by omega) (List.getElem?_eq_getElem ha)
    · rw [if_neg h2]
      exact h a b ha hb hab
theorem pair_get {l : List Value} (h : l.Pairwise Apart) {i j : Nat} (hij : j ≠ i) {x y : Value} (hx : l[j]? = some x) (hy : l[i]? = some y) : Apart x y := by
  obtain ⟨h1, rfl⟩ := List.getElem?_eq_some_iff.1 hx
  obtain ⟨h2, rfl⟩ := List.getElem?_eq_some_iff.1 hy
  rw [List.pairwise_iff_getElem] at h
  rcases Nat.lt_or_ge j i with hl | hl
  · exact h j i h1 h2 hl
  · exact (h i j h2 h1 (by omega)).symm
theorem own_grown {w w1 : World} {b1 b2 e1 e2 s1 s2 n m : Nat} {v x : Value} {xs ys : List Value} (ho : w.ownsRow b1 e1 s1 v n xs) (hx : w.ownsRow b2 e2 s2 x m ys) (hg : w.grownBy w1 x.ownBlock) (hne : e1 ≠ e2 ∨ Apart v x) : w1.ownsRow b1 e1 s1 v n xs :=
  own_same ho fun g hgv => by
    obtain ⟨cur, hc⟩ := own_cells_of ho hgv
    refine hg.block g (Array.getElem?_eq_some_iff.1 hc).1 fun e => ?_
    rcases hne with hne | hne
    · obtain ⟨cur2, hc2⟩ := own_cells_of hx e.symm
      rw [hc] at hc2
      injection hc2 with hc2
      injection hc2 with _ hc2 _
      exact hne hc2
    · exact hne g hgv e.symm
structure LU (w : World) (B : Nat) (vl : Value) (vL : List Value) (L : List (List Lk)) (vu : Value) (vU : List Value) (U : List (List Lk)) : Prop where
  ln : w.ownsRow B 32 1 vl L.length vL
  us : w.ownsRow B 32 1 vu U.length vU
  lu : Apart vl vu
  el : ∀ (i : Nat) (x : Value) (y : List Lk), vL[i]? = some x → L[i]? = some y → w.ownsRow B 43 7 x y.length (y.flatMap lkC)
  eu : ∀ (i : Nat) (x : Value) (y : List Lk), vU[i]? = some x → U[i]? = some y → w.ownsRow B 43 7 x y.length (y.flatMap lkC)
  ap : (vL ++ vU).Pairwise Apart
section
variable {w w' : World} {B : Nat} {vl vu : Value} {vL vU : List Value} {L U : List (List Lk)}
theorem LU.swap (h : LU w B vl vL L vu vU U) : LU w B vu vU U vl vL L := ⟨h.us, h.ln, h.lu.symm, h.eu, h.el, by
  have := h.ap
  rw [List.pairwise_append] at this ⊢
  exact ⟨this.2.1, this.1, fun a ha b hb => (this.2.2 b hb a ha).symm⟩⟩
theorem LU.keep {Ls : List TypeId} (h : LU w B vl vL L vu vU U) (k : Kept Ls w w') (h1 : Ls.contains 32 = false) (h2 : Ls.contains 43 = false) : LU w' B vl vL L vu vU U :=
  ⟨own_keep h.ln k h1, own_keep h.us k h1, h.lu, fun i x y hx hy => own_keep (h.el i x y hx hy) k h2, fun i x y hx hy => own_keep (h.eu i x y hx hy) k h2, h.ap⟩
theorem LU.lenL (h : LU w B vl vL L vu vU U) : vL.length = L.length := by have := h.ln.1; omega
theorem LU.lenU (h : LU w B vl vL L vu vU U) : vU.length = U.length := by have := h.us.1; omega
theorem LU.add (h : LU w B vl vL L vu vU U) {gl cl : Nat} (hvl : vl = .slice (some ⟨gl, 0, none⟩) L.length cl) {i : Nat} (hi : i < L.length) {x v : Value} (hx : vL[i]? = some x) {w1 : World} {y : Lk}
    (hg : w.grownBy w1 x.ownBlock) (hown : w1.ownsRow B 43 7 v (L[i].length + 1) (L[i].flatMap lkC ++ lkC y)) (hat : AtOr w x v) :
    LU (w1.setCell ⟨gl, i, none⟩ v) B vl (vL.set i v) (L.set i (L[i] ++ [y])) vu vU U ∧ Kept [43, 32] w (w1.setCell ⟨gl, i, none⟩ v) ∧ KpM w (w1.setCell ⟨gl, i, none⟩ v) ∧ Below B w (w1.setCell ⟨gl, i, none⟩ v) := by
  subst hvl
  have hxo := h.el i x _ hx (List.getElem?_eq_getElem hi)
  have hiL : i < vL.length := by rw [h.lenL]; exact hi
  have hxi : vL[i] = x := by rw [List.getElem?_eq_getElem hiL] at hx; injection hx
  have hg2 : w1.grownBy (w1.setCell ⟨gl, i, none⟩ v) (some gl) := only_setCell (only_of_below (Below.refl _ _) _) (.inl rfl) v
  have hln1 := own_grown h.ln hxo hg (.inl (by decide))
  have hus1 := own_grown h.us hxo hg (.inl (by decide))
  have far : ∀ (j : Nat) (x' : Value), j ≠ i → (vL ++ vU)[j]? = some x' → Apart x' x := fun j x' hj hx' => by
    have := pair_get h.ap hj hx' (show (vL ++ vU)[i]? = some x by rw [List.getElem?_append_left hiL]; exact hx)
    exact this
  have lt : ∀ (j : Nat) (x' : Value), (vL ++ vU)[j]? = some x' → ∀ g, x'.ownBlock = some g → g < w.heap.size := fun j x' hx' g hgx => by
    by_cases hj : j < vL.length
    · rw [List.getElem?_append_left hj] at hx'
      obtain ⟨cur, hc⟩ := own_cells_of (h.el j x' _ hx' (List.getElem?_eq_getElem (by rw [← h.lenL]; exact hj))) hgx
      exact (Array.getElem?_eq_some_iff.1 hc).1
    · rw [List.getElem?_append_right (by omega)] at hx'
      have hj2 := (List.getElem?_eq_some_iff.1 hx').1
      obtain ⟨cur, hc⟩ := own_cells_of (h.eu _ x' _ hx' (List.getElem?_eq_getElem (by rw [← h.lenU]; exact hj2))) hgx
      exact (Array.getElem?_eq_some_iff.1 hc).1
  have k1 : Kept [43, 32] w w1 := Kept.of_own _ hxo hg rfl
  have k2 : Kept [43, 32] w1 (w1.setCell ⟨gl, i, none⟩ v) := Kept.of_own _ hln1 hg2 rfl
  refine ⟨⟨by rw [List.length_set]; exact own_set1 hln1 hi v, own_grown hus1 hln1 hg2 (.inr h.lu.symm), h.lu, ?_, ?_, ?_⟩, k1.trans k2, (KpM.of_own hxo hg).trans (KpM.of_own hln1 hg2), ?_⟩
  · intro j x' y' hx' hy'
    by_cases hj : i = j
    · subst hj
      rw [List.getElem?_set_self (by simpa using hiL)] at hx'
      rw [List.getElem?_set_self hi] at hy'
      injection hx' with hx'
      injection hy' with hy'
      subst hx' hy'
      rw [List.length_append, List.flatMap_append]
      exact own_grown (by simpa using hown) hln1 hg2 (.inl (by decide))
    · rw [List.getElem?_set_ne hj] at hx' hy'
      have hjl := (List.getElem?_eq_some_iff.1 hx').1
      exact own_grown (own_grown (h.el j x' y' hx' hy') hxo hg (.inr (far j x' (fun e => hj e.symm) (by rw [List.getElem?_append_left hjl]; exact hx')))) hln1 hg2 (.inl (by decide))
  · intro j x' y' hx' hy'
    have hjl := (List.getElem?_eq_some_iff.1 hx').1
    exact own_grown (own_grown (h.eu j x' y' hx' hy') hxo hg (.inr (far (vL.length + j) x' (by omega) (by rw [List.getElem?_append_right (by omega)]; simpa using hx')))) hln1 hg2 (.inl (by decide))
  · have := pair_set h.ap i (v := v) fun j x' hj hx' => by
      rcases hat with e | e
      · intro g hgx hv
        exact far j x' hj hx' g hgx (by rw [← e]; exact hv)
      · intro g hgx hv
        rw [e] at hv
        injection hv with hv
        have := lt j x' hx' g hgx
        omega
    rw [List.set_append_left _ _ hiL] at this
    exact this
  · have b1 : Below B w w1 := below_own (Below.refl B w) hxo hg (Nat.le_refl _) ?_
    · exact b1.setCell (p := ⟨gl, i, none⟩) (own_ge h.ln rfl) v
    · have := own_ge h.ln (g := gl) rfl
      obtain ⟨cur, hc⟩ := own_cells_of h.ln (g := gl) rfl
      have := (Array.getElem?_eq_some_iff.1 hc).1
      omega
end
structure GIn (w : World) (B : Nat) (g : Nat) (vk vl vu : Value) (bw : Nat) (ks : List Ky) (vL vU : List Value) (L U : List (List Lk)) (D : Nm → List Int) : Prop where
  blk : Blk w g 84 #[vk, vl, vu, .map (some bw)]
  gB : B ≤ g
  ky : w.ownsRow B 56 4 vk ks.length (ks.flatMap kyC)
  lu : LU w B vl vL L vu vU U
  wr : MapRows 3 1 inC w (fun i => B ≤ i) bw D
section
variable {w w' : World} {B g : Nat} {vk vl vu : Value} {bw : Nat} {ks : List Ky} {vL vU : List Value} {L U : List (List Lk)} {D : Nm → List Int}
theorem GIn.next (h : GIn w B g vk vl vu bw ks vL vU L U D) (hb : Below w.heap.size w w') : GIn w' B g vk vl vu bw ks vL vU L U D :=
  ⟨h.blk.next hb h.blk.lt, h.gB, own_next h.ky hb, h.lu.keep (Kept.of_below [] hb) rfl rfl, h.wr.next hb⟩
theorem GIn.drewN (h : GIn w B g vk vl vu bw ks vL vU L U D) (n : Nat) : GIn (w.drewN n) B g vk vl vu bw ks vL vU L U D := h.next (below_drewN (Below.refl _ _) n)
theorem GIn.base {B' : Nat} (h : GIn w B g vk vl vu bw ks vL vU L U D) (hb : B' ≤ B) : GIn w B' g vk vl vu bw ks vL vU L U D :=
  ⟨h.blk, Nat.le_trans hb h.gB, own_base h.ky hb, ⟨own_base h.lu.ln hb, own_base h.lu.us hb, h.lu.lu, fun i x y hx hy => own_base (h.lu.el i x y hx hy) hb, fun i x y hx hy => own_base (h.lu.eu i x y hx hy) hb, h.lu.ap⟩, h.wr.kept (Kept.refl [] w) (fun _ _ _ h => h) rfl fun i hi => Nat.le_trans hb hi⟩
abbrev LG : List TypeId := [56, 84, 43, 32, 3]
theorem GIn.key_ (h : GIn w B g vk vl vu bw ks vL vU L U D) {w1 : World} {vk' : Value} {k : Ky} (hg : w.grownBy w1 vk.ownBlock) (hown : w1.ownsRow B 56 4 vk' (ks.length + 1) (ks.flatMap kyC ++ kyC k)) :
    GIn (w1.setCell ⟨g, 0, none⟩ vk') B g vk' vl vu bw (ks ++ [k]) vL vU L U D ∧ Below B w (w1.setCell ⟨g, 0, none⟩ vk') ∧ Kept LG w (w1.setCell ⟨g, 0, none⟩ vk') := by
  have hgne : vk.ownBlock ≠ some g := own_blk_ne h.ky h.blk (by decide)
  have b1 : Blk w1 g 84 #[vk, vl, vu, .map (some bw)] := h.blk.grown hg (fun e => hgne e.symm)
  have hg2 : w1.grownBy (w1.setCell ⟨g, 0, none⟩ vk') (some g) := only_setCell (only_of_below (Below.refl _ _) _) (.inl rfl) vk'
  have k2 : Kept [56, 84] w (w1.setCell ⟨g, 0, none⟩ vk') := (Kept.of_own _ h.ky hg rfl).trans (Kept.of_blk _ b1 hg2 rfl)
  have m2 : KpM w (w1.setCell ⟨g, 0, none⟩ vk') := (KpM.of_own h.ky hg).trans (KpM.of_blk b1 hg2)
  have hown2 : (w1.setCell ⟨g, 0, none⟩ vk').ownsRow B 56 4 vk' (ks.length + 1) (ks.flatMap kyC ++ kyC k) := hown.kept hg2 (.inr (own_blk_ne hown b1 (by decide)))
  refine ⟨⟨b1.set_ 0 vk', h.gB, ?_, h.lu.keep k2 rfl rfl, h.wr.kept k2 m2 rfl fun _ h => h⟩, ?_, k2.mono fun e he => by simp [LG] at he ⊢; exact ⟨he.1, he.2.1⟩⟩
  · rw [List.length_append, List.flatMap_append]
    simpa using hown2
  · have hlt := h.blk.lt
    exact (below_own (Below.refl B w) h.ky hg (Nat.le_refl _) (by have := h.gB; omega)).setCell (p := ⟨g, 0, none⟩) h.gB vk'
theorem GIn.link_ (h : GIn w B g vk vl vu bw ks vL vU L U D) {gl cl : Nat} (hvl : vl = .slice (some ⟨gl, 0, none⟩) L.length cl) {i : Nat} (hi : i < L.length) {x v : Value} (hx : vL[i]? = some x) {w1 : World} {y : Lk}
    (hg : w.grownBy w1 x.ownBlock) (hown : w1.ownsRow B 43 7 v (L[i].length + 1) (L[i].flatMap lkC ++ lkC y)) (hat : AtOr w x v) :
    GIn (w1.setCell ⟨gl, i, none⟩ v) B g vk vl vu bw ks (vL.set i v) vU (L.set i (L[i] ++ [y])) U D ∧ Below B w (w1.setCell ⟨gl, i, none⟩ v) ∧ Kept LG w (w1.setCell ⟨gl, i, none⟩ v) := by
  obtain ⟨h1, h2, h3, h4⟩ := h.lu.add hvl hi hx hg hown hat
  exact ⟨⟨h.blk.keep h2 rfl, h.gB, own_keep h.ky h2 rfl, h1, h.wr.kept h2 h3 rfl fun _ h => h⟩, h4, h2.mono fun e he => by simp [LG] at he ⊢; exact ⟨he.2.2.1, he.2.2.2.1⟩⟩
theorem GIn.use_ (h : GIn w B g vk vl vu bw ks vL vU L U D) {gl cl : Nat} (hvl : vu = .slice (some ⟨gl, 0, none⟩) U.length cl) {i : Nat} (hi : i < U.length) {x v : Value} (hx : vU[i]? = some x) {w1 : World} {y : Lk}
    (hg : w.grownBy w1 x.ownBlock) (hown : w1.ownsRow B 43 7 v (U[i].length + 1) (U[i].flatMap lkC ++ lkC y)) (hat : AtOr w x v) :
    GIn (w1.setCell ⟨gl, i, none⟩ v) B g vk vl vu bw ks vL (vU.set i v) L (U.set i (U[i] ++ [y])) D ∧ Below B w (w1.setCell ⟨gl, i, none⟩ v) ∧ Kept LG w (w1.setCell ⟨gl, i, none⟩ v) := by
  obtain ⟨h1, h2, h3, h4⟩ := h.lu.swap.add hvl hi hx hg hown hat
  exact ⟨⟨h.blk.keep h2 rfl, h.gB, own_keep h.ky h2 rfl, h1.swap, h.wr.kept h2 h3 rfl fun _ h => h⟩, h4, h2.mono fun e he => by simp [LG] at he ⊢; exact ⟨he.2.2.1, he.2.2.2.1⟩⟩
theorem GIn.wr_ (h : GIn w B g vk vl vu bw ks vL vU L U D) (n : Nm) : ∃ ents A c, MapAt w bw ents ∧ (lookM n ents).getD (.slice none 0 0) = .slice A (D n).length c ∧ w.ownsRow 0 3 1 (.slice A (D n).length c) (D n).length ((D n).flatMap inC) ∧
    ∀ (w2 w3 : World) (v' : Value) (x : Int), Chg w w2 bw (Value.slice A (D n).length c).ownBlock → (∃ es c, w2.heap[bw]? = some (.map es c)) → w2.ownsRow 0 3 1 v' ((D n).length + 1) ((D n).flatMap inC ++ inC x) → (v'.ownBlock = (Value.slice A (D n).length c).ownBlock ∨ ∃ i, v'.ownBlock = some i ∧ w.heap.size ≤ i) →
      MapAt w3 bw (putM n v' ents) → w2.grownBy w3 (some bw) → GIn w3 B g vk vl vu bw ks vL vU L U (fun m => if m = n then D n ++ [x] else D m) ∧ Below B w w3 ∧ Kept LG w w3 := by
  obtain ⟨ents, v, hm, hve, hown, hback⟩ := h.wr.at_ n
  obtain ⟨A, c, hvs, hc⟩ := own_len hown.1
  subst hvs
  obtain ⟨es, cl, hb, _⟩ := id hm
  refine ⟨ents, A, c, hm, hve.symm, hown.1, fun w2 w3 v' x hch hbm hown' hat hmap hg3 => ?_⟩
  obtain ⟨es2, c2, hb2⟩ := id hbm
  have hs2 : w.heap.size ≤ w2.heap.size := hch.size
  have hs3 : w2.heap.size ≤ w3.heap.size := hg3.size
  have k2 : Kept [3] w w3 := (hch.kept hb hown.1).trans (Kept.of_map _ hb2 hg3)
  have hBs : B ≤ w.heap.size := by have := h.gB; have := h.blk.lt; omega
  have mw : MapRows 3 1 inC w3 (fun i => B ≤ i) bw (fun m => if m = n then D n ++ [x] else D m) :=
    hback w2 w3 v' x (fun i => B ≤ i) hch.block hbm hown' hat hmap hg3 (fun _ h => h) fun i h1 h2 => Nat.le_trans hBs h1
  refine ⟨⟨h.blk.keep k2 rfl, h.gB, own_keep h.ky k2 rfl, h.lu.keep k2 rfl rfl, mw⟩, ?_, k2.mono fun e he => by simp [LG] at he ⊢; exact he.2.2.2.2⟩
  have hfb : B ≤ bw := h.wr.1
  exact ((hch.outer (F := fun i => B ≤ i) hfb hown.2).trans (Outer.of_grown hg3 fun i hi => by injection hi with hi; subst hi; exact .inl hfb)).below hBs fun i hi => hi
end
end Go.Proofs.Ytmjkcanjfjfkfaa
