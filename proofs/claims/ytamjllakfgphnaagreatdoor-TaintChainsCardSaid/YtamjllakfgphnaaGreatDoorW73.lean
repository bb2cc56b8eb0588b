/- Walks of layer 46: Valid, Ordinals and Compare of lineages. -/
import Derived.Test.YtamjllakfgphnaaGreatDoorW72
namespace Go.Proofs.YtamjllakfgphnaaGreatDoor
open Go.RowKit Go.Shelf
set_option linter.unusedSimpArgs false
set_option linter.unusedVariables false
def okP (s : ByteArray) : Bool := (PS s).all fun p => p.e == 0
theorem okP_iff (s : ByteArray) : okP s = true ↔ ∀ p ∈ PS s, p.e = 0 := by simp [okP]
theorem valid_is (s : ByteArray) (w : World) : Calls Tryz.prog 28 #[.string s] w fun e w' => e = .returned (.bool (okP s)) ∧ Below w.heap.size w w' := by
  have HP := Lib.hid (parse_is s w)
  obtain ⟨q, hq⟩ : ∃ q, okP s = q := ⟨_, rfl⟩
  rw [hq]
  have HQ := Lib.hid hq
  clear hq
  go_enter Tryz.func28, Tryz.ntmps28
  go_wp2_with fail
  refine HP.out.mono ?_
  rintro e w' ⟨hb, v1, v2, E, rfl, hE⟩
  have e1 : (E == 0) = q := by
    rw [← okP_iff, HQ.out] at hE
    cases q with
    | true => rw [beq_iff_eq]; exact hE.2 rfl
    | false => rw [beq_eq_false_iff_ne]; exact fun h => by have := hE.1 h; cases this
  have HB := Lib.hid hb
  clear hE hb
  go_wp2_with fail
  go_ret
  exact ⟨rfl, HB.out⟩
theorem partsL_len (s : ByteArray) : ∀ (f a c : Nat), (partsL s f a c).length ≤ f + 1
  | 0, _, _ => Nat.zero_le _
  | f + 1, a, c => by
    unfold partsL
    have := partsL_len s f (fstE s a c + 1) (c + 1)
    rw [List.length_cons]
    split
    · simp
    · split
      · simp
      · split
        · simp
        · omega
theorem PS_len (s : ByteArray) : (PS s).length ≤ 10 := by
  unfold PS
  split
  · simp
  · exact partsL_len s 9 0 0
theorem KpL.grown {W W' : World} {row : Option Nat} (hg : W.grownBy W' row) (hr : ∀ i cs e fr, row = some i → W.heap[i]? = some (.cells cs e fr) → ¬ (e = 213 ∨ e = 9)) : KpL W W' :=
  ⟨hg.size, fun i cs e fr h1 h2 => (hg.block i (Array.getElem?_eq_some_iff.1 h1).1 (fun e1 => hr i cs e fr e1.symm h1 h2)).trans h1⟩
def OrdC (w : World) (pre : List Pt) (W : World) : Prop := (∃ v, Boxed W (w.heap.size + 1) 33 v ∧ W.ownsRow w.heap.size 3 1 v pre.length (pre.map fun p => Value.int .i64 p.o) ∧ True)
theorem ordC_own (w : World) (B : Nat) : OwnFrom B (OrdC w) := Own.from (holdsRow_own w.heap.size (w.heap.size + 1) 33 3 1 (fun (pre : List Pt) => pre.length) (fun (pre : List Pt) => pre.map fun (p : Pt) => Value.int .i64 p.o) (fun _ _ => True)) B
def OrdI (w : World) (pre : List Pt) (W : World) : Prop := (OrdC w pre W ∧ Below w.heap.size w W) ∧ (∀ p ∈ pre, p.e = 0) ∧ Blk W w.heap.size 33 #[.slice none 0 0]
def OrdX (w : World) (c : Code) (pre : List Pt) (W : World) : Prop := c = .ret ∧ (∃ p ∈ pre, p.e ≠ 0) ∧ Blk W w.heap.size 33 #[.slice none 0 0] ∧ Below w.heap.size w W
theorem infoIn : (Tryz.prog.info? 3).map (fun i => (i.zero, i.size, i.bytes)) = some (some (.int .i64 0), 1, 8) := by kernel_rfl
abbrev RdIn (w : World) (v : Value) (l : List Int) : Prop := RdP 3 inC w v l
def ordsL (s : ByteArray) : List Int := (PS s).map Pt.o
theorem ords_fm (l : List Pt) : (l.map Pt.o).flatMap inC = l.map fun p => Value.int .i64 p.o := by
  induction l with
  | nil => rfl
  | cons a l ih => simp only [List.map_cons, List.flatMap_cons, ih]; rfl
def OrdP (s : ByteArray) (w : World) (e : Ending) (w' : World) : Prop := Below w.heap.size w w' ∧ ∃ (A : Option Addr) (n c : Nat), e = .returned (.slice A n c) ∧ (okP s = true → n = (PS s).length ∧ RdIn w' (.slice A n c) (ordsL s))
def ORDW (w : World) (s : ByteArray) : World := ((w.alloc (.cells #[.slice none 0 0] 33)).alloc (.cells #[.slice none 0 0] 33)).alloc (.cells #[.string s] 9)
theorem ordw_start (w : World) (s : ByteArray) : OrdI w [] (ORDW w s) ∧ Blk (ORDW w s) (w.heap.size + 1 + 1) 9 #[.string s] ∧ (ORDW w s).heap.size = w.heap.size + 1 + 1 + 1 := by
  have b1 := Blk.new w 33 #[.slice none 0 0]
  have b2 := Blk.new (w.alloc (.cells #[.slice none 0 0] 33)) 33 #[.slice none 0 0]
  have b3 := Blk.new ((w.alloc (.cells #[.slice none 0 0] 33)).alloc (.cells #[.slice none 0 0] 33)) 9 #[.string s]
  simp only [World.size_alloc] at b2 b3
  have al := fun (W : World) (o : Obj) => (Below.refl W.heap.size W).alloc (Nat.le_refl _) o
  refine ⟨⟨⟨⟨_, show Boxed _ _ _ _ from b2.next (al _ _) b2.lt, World.ownsRow_nil _ _ _ _, trivial⟩, ?_⟩, fun p h => (by cases h), (b1.next (al _ _) b1.lt).next (al _ _) (b1.next (al _ _) b1.lt).lt⟩, b3, by simp [ORDW]⟩
  exact (((Below.refl _ _).alloc (Nat.le_refl _) _).alloc (by simp) _).alloc (by simp; omega) _
section
attribute [local go_sem] Oper.semAt_some
set_option maxRecDepth 100000 in
set_option maxHeartbeats 4000000 in
theorem ordinals_is (s : ByteArray) (w : World) : Calls Tryz.prog 130 #[.string s] w (OrdP s w) := by
  obtain ⟨hR0, hBt, hSz⟩ := ordw_start w s
  obtain ⟨i0, hi, hz0, hz1, hz2⟩ := info_parts infoIn
  refine (callsIn_wide (n := 6)).1 ?_
  refine callsIn_of_wp_marks Tryz.func130 rfl trivial ?_ rfl
  simp only [Tryz.ntmps130, List.size_toArray, List.length_cons, List.length_nil, Nat.reduceAdd, Nat.reduceSub, Array.replicate_succ, Array.replicate_zero, List.push_toArray, List.append_toArray, List.nil_append, List.cons_append]
  gi_wp2_with ((try refine ⟨trivial, ?_⟩); gi_at_call 120; refine (parts_in Fence.wide _ trivial rfl _ _).mono ?_; rintro e w' ⟨rfl, rfl⟩)
  refine wpIn_rangeFunc_ownH (w := ORDW w s) rfl (by omega) (gf := 163) (lb := #[.pointer (some ⟨w.heap.size + 1 + 1, 0, none⟩)]) rfl trivial (enters_of Tryz.func163 (by kernel_rfl) rfl)
    (parts_stops _ _ s (ORDW w s) hBt) (fun h k => h.trans k) (fun W l o o' _ h1 h2 _ => KpL.putObj h1 h2) (Below.refl _ _) (fun _ => rfl)
    (OrdI w) (OrdX w) (fun pre W W' row h hg hr => ⟨⟨ordC_own w _ pre W W' row h.1.1 hg hr, h.1.2.trans ⟨hg.os, hg.tape, hg.output, hg.size, fun i hi => hg.block i (Nat.lt_of_lt_of_le hi h.1.2.size) (fun e => by have := (hr i e.symm).1; rw [hSz] at this; omega)⟩⟩, h.2.1, blk_own h.2.2 hg hr⟩) (fun c pre W W' row h hg hr => by
      obtain ⟨h1, h2, h3, h4⟩ := h
      exact ⟨h1, h2, blk_own h3 hg hr, h4.trans ⟨hg.os, hg.tape, hg.output, hg.size, fun i hi => hg.block i (Nat.lt_of_lt_of_le hi h4.size) (fun e => by have := (hr i e.symm).1; rw [hSz] at this; omega)⟩⟩)
    hR0
    (fun x a' W => ∃ pb, a' = { tmps := #[.string s, undef, .pointer (some ⟨w.heap.size, 0, none⟩), .pointer (some ⟨w.heap.size + 1, 0, none⟩), .pointer (some ⟨pb, 0, none⟩), .string s, .func (.func 163) #[] #[.pointer (some ⟨w.heap.size + 1 + 1, 0, none⟩)], .agg #[.int .i64 x.o, .int .i64 x.a, .int .i64 x.e], undef, undef, undef, undef, undef, undef, undef, undef, undef], defers := [] } ∧ Blk W pb 213 #[.int .i64 x.o, .int .i64 x.a, .int .i64 x.e]) (fun x a' _ W W' row h hg hr => by
      obtain ⟨pb, h1, h2⟩ := h
      exact ⟨pb, h1, blk_own h2 hg hr⟩) ?assign ?body ?done ?stop
  case assign =>
    intro l pre x W K hI hK
    have hb := Blk.new W 213 #[.int .i64 x.o, .int .i64 x.a, .int .i64 x.e]
    have hal := (Below.refl W.heap.size W).alloc (Nat.le_refl _) (.cells #[.int .i64 x.o, .int .i64 x.a, .int .i64 x.e] 213)
    obtain ⟨⟨⟨v, hv, hrow, _⟩, hB⟩, hp, hb2⟩ := hI
    simp only [ptV]
    gi_wp2
    exact hK _ _ ((KeepsOthers.alloc W _).from _) (KpL.below hal) ⟨⟨⟨v, hv.alloc _, own_next hrow hal, trivial⟩, hB.trans (hal.mono hB.size)⟩, hp, hb2.next hal hb2.lt⟩ ⟨W.heap.size, rfl, hb⟩
  case body =>
    rintro l pre x a' W hwl hr ⟨⟨⟨v, hv, hrow, _⟩, hB⟩, hpe, hb2⟩ ⟨pb, rfl, hb⟩ hlt
    have hpl : pre.length ≤ 10 := Nat.le_of_lt (Nat.lt_of_lt_of_le hlt (PS_len s))
    have c0 := hb.cell 0
    have c2 := hb.cell 2
    have y2 := hb2.cell 0
    have f2 := hb2.frozen 0
    have hc := hv.cell
    simp only [List.getElem?_toArray, List.getElem?_cons_zero, List.getElem?_cons_succ] at c0 c2 y2
    by_cases hx : x.e = 0
    · have n1 : (x.e != 0) = false := by rw [hx]; rfl
      have HX := Lib.hid hx
      have HPE := Lib.hid hpe
      have HB2 := Lib.hid hb2
      clear hx hpe hb2
      gi_wp2_with (gi_at_builtin; refine wpListIn_append_own _ rfl _ _ 33 rfl w.heap.size 3 i0 (.int .i64 0) 1 8 Tryz.underlying33 hi hz0 hz1 hz2 rfl (by decide) _ _ _ rfl (hrow.alloc _) ⟨W.heap.size, 0, none⟩ 1 1 [.int .i64 x.o] rfl rfl (cell_one_new _ _ _) (by simp [Value.oneCell']) (by unfold maxLen; omega) (by omega) (by have := hB.size; simp; omega) ?_; intro v' w1 hown' hgrow _; obtain ⟨g', cap', rfl⟩ := ownsRow_succ hown'; obtain ⟨hv1, hv2, hr2, hk2, hb5⟩ := hv.appended (by decide) hrow hB.size (by omega) hown' hgrow; have hc1 := hv1.cell; have hf1 := hv1.frozen; have HG1 := Lib.hid hgrow)
      have hkL : KpL W (w1.setCell ⟨w.heap.size + 1, 0, none⟩ (.slice (some ⟨g', 0, none⟩) (pre.length + 1) cap')) := by
        refine ((KpL.below ((Below.refl W.heap.size W).alloc (Nat.le_refl _) _)).trans (KpL.grown HG1.out ?_)).trans (KpL.grown (row := some (w.heap.size + 1)) (only_setCell (only_of_below (Below.refl _ _) _) (.inl rfl) _) ?_)
        · intro i cs e fr h1 h2 h3
          have ho := own_next hrow ((Below.refl W.heap.size W).alloc (Nat.le_refl _) (.cells #[.int .i64 x.o] 3))
          obtain ⟨cur, hcur⟩ := own_cells_of ho h1
          rw [hcur] at h2
          injection h2 with h2
          injection h2 with _ h2 _
          subst h2
          rcases h3 with h3 | h3 <;> cases h3
        · intro i cs e fr h1 h2 h3
          injection h1 with h1
          subst h1
          have := hv1
          unfold Boxed at this
          rw [this] at h2
          injection h2 with h2
          injection h2 with _ h2 _
          subst h2
          rcases h3 with h3 | h3 <;> cases h3
      refine ⟨hk2.from _, hkL, ⟨⟨_, hv2, by simpa using hr2, trivial⟩, hB.trans hb5⟩, fun p hp => ?_, ?_⟩
      · rcases List.mem_append.1 hp with h | h
        · exact HPE.out p h
        · rw [List.mem_singleton] at h; rw [h]; exact HX.out
      · have hne : v.ownBlock ≠ some w.heap.size := fun e => by
          obtain ⟨cur, hcur⟩ := own_cells_of hrow e
          have h3 := HB2.out
          unfold Blk at h3
          rw [h3] at hcur
          injection hcur with hcur
          injection hcur with _ h4 _
          cases h4
        have h4 : Blk w1 w.heap.size 33 #[.slice none 0 0] := (HB2.out.next ((Below.refl W.heap.size W).alloc (Nat.le_refl _) _) HB2.out.lt).grown HG1.out (fun e => hne e.symm)
        exact h4.grown (row := some (w.heap.size + 1)) (only_setCell (only_of_below (Below.refl _ _) _) (.inl rfl) _) (by simp)
    · have n1 : (x.e != 0) = true := by rw [bne_iff_ne]; exact hx
      have HX := Lib.hid hx
      have HB2 := Lib.hid hb2
      clear hx hb2
      gi_wp2
      have h5 : Blk (W.setCell ⟨w.heap.size, 0, none⟩ (.slice none 0 0)) w.heap.size 33 #[.slice none 0 0] := HB2.out.set_ 0 (.slice none 0 0)
      exact ⟨(KeepsOthers.setCell _ _ _).from _, rfl, ⟨x, by simp, HX.out⟩, h5, hB.setCell (p := ⟨w.heap.size, 0, none⟩) (Nat.le_refl _) _⟩
  case done =>
    rintro D ys W hD rfl ⟨⟨⟨v, hv, hrow, _⟩, hB⟩, hpe, hb2⟩ hK
    have hc := hv.cell
    have y2 := hb2.cell 0
    have f2 := hb2.frozen 0
    simp only [List.getElem?_toArray, List.getElem?_cons_zero] at y2
    obtain ⟨A, cc, rfl, hcc⟩ := own_len hrow
    have HB2 := Lib.hid hb2
    have HKD := Lib.hid hK
    have HRW := Lib.hid (Rd.of_own hrow)
    clear hb2 hK hpe
    gi_wp2
    have h5 : Blk (W.setCell ⟨w.heap.size, 0, none⟩ (.slice A (PS s).length cc)) w.heap.size 33 #[.slice A (PS s).length cc] := HB2.out.set_ 0 _
    have hK2 : (W.setCell ⟨w.heap.size, 0, none⟩ (.slice A (PS s).length cc)).heap[D]? = some (.deferred (some [])) := (KeepsOthers.setCell _ _ _).same D _ HKD.out rfl
    have hB5 := hB.setCell (p := ⟨w.heap.size, 0, none⟩) (Nat.le_refl _) (.slice A (PS s).length cc)
    refine ⟨by simp, .inl ⟨_, _, rfl, run_takeDeferred hK2, ?_⟩⟩
    have hgp := grownBy_putObj' (W.setCell ⟨w.heap.size, 0, none⟩ (.slice A (PS s).length cc)) D (.deferred none)
    have hrp : ∀ r, some D = some r → w.heap.size ≤ r ∧ ∃ o : Obj, (W.setCell ⟨w.heap.size, 0, none⟩ (.slice A (PS s).length cc)).heap[r]? = some o ∧ o.isCells = false := fun r e => by injection e with e; subst e; exact ⟨by rw [hSz] at hD; omega, _, hK2, rfl⟩
    have h6 := (blk_own h5 hgp hrp).cell 0
    simp only [List.getElem?_toArray, List.getElem?_cons_zero] at h6
    refine ⟨.slice A (PS s).length cc, by simp [results, Tryz.results130, go_sem, h6], hB5.trans ⟨hgp.os, hgp.tape, hgp.output, hgp.size, fun i hi => hgp.block i (Nat.lt_of_lt_of_le hi hB5.size) (fun e => by injection e with e; rw [hSz] at hD; omega)⟩, A, _, cc, rfl, fun _ => ⟨rfl, ?_⟩⟩
    have hr1 := HRW.out.blk HB2.out (only_setCell (only_of_below (Below.refl W.heap.size W) (some w.heap.size)) (p := ⟨w.heap.size, 0, none⟩) (.inl rfl) (.slice A (PS s).length cc)) (by decide)
    have hr2 := hr1.kept hgp (fun g cs fr hr hh => by injection hr with hr; subst hr; rw [hK2] at hh; cases hh)
    show Rd _ _ _ (ordsL s).length _
    unfold ordsL
    rw [List.length_map, ords_fm]
    exact hr2
  case stop =>
    rintro D c pre W hD hpre ⟨rfl, ⟨p, hp, hpe⟩, hb2, hB⟩ hK
    have HB2 := Lib.hid hb2
    have HKD := Lib.hid hK
    have HNO : Hid (okP s = true → False) := Lib.hid fun h => hpe ((okP_iff s).1 h p (hpre.subset hp))
    clear hb2 hK hpe hpre hp
    gi_wp2
    have hK2 := HKD.out
    refine ⟨by simp, .inl ⟨_, _, rfl, run_takeDeferred hK2, ?_⟩⟩
    have hgp := grownBy_putObj' W D (.deferred none)
    have hrp : ∀ r, some D = some r → w.heap.size ≤ r ∧ ∃ o : Obj, W.heap[r]? = some o ∧ o.isCells = false := fun r e => by injection e with e; subst e; exact ⟨by rw [hSz] at hD; omega, _, hK2, rfl⟩
    have h6 := (blk_own HB2.out hgp hrp).cell 0
    simp only [List.getElem?_toArray, List.getElem?_cons_zero] at h6
    refine ⟨.slice none 0 0, by simp [results, Tryz.results130, go_sem, h6], hB.trans ⟨hgp.os, hgp.tape, hgp.output, hgp.size, fun i hi => hgp.block i (Nat.lt_of_lt_of_le hi hB.size) (fun e => by injection e with e; rw [hSz] at hD; omega)⟩, none, 0, 0, rfl, fun h => (HNO.out h).elim⟩
end
def cmpL : List Int → List Int → Int
  | [], [] => 0
  | [], _ :: _ => -1
  | _ :: _, [] => 1
  | a :: l, b :: m => if cmpI a b ≠ 0 then cmpI a b else cmpL l m
def SlRel (a b : List Int) (w : World) (i : Value) (wr : World) : Prop := ∃ k : Nat, k ≤ a.length ∧ k ≤ b.length ∧ i = .int .i64 k ∧ cmpL (a.drop k) (b.drop k) = cmpL a b ∧ wr = w
set_option maxRecDepth 100000 in
set_option maxHeartbeats 1000000 in
theorem slcmp_is {A1 A2 : Option Addr} {c1 c2 : Nat} {a b : List Int} {w : World} (h1 : RdIn w (.slice A1 a.length c1) a) (h2 : RdIn w (.slice A2 b.length c2) b) (la : a.length ≤ 100) (lb : b.length ≤ 100) : Calls Tryz.prog 129 #[.slice A1 a.length c1, .slice A2 b.length c2] w fun e w' => e = .returned (.int .i64 (cmpL a b)) ∧ w = w' := by
  have H1 := Lib.hid h1
  have H2 := Lib.hid h2
  obtain ⟨Q, hQ⟩ : ∃ Q, cmpL a b = Q := ⟨_, rfl⟩
  have HQ := Lib.hid hQ
  rw [hQ]
  clear h1 h2 hQ
  have H0 : Hid (SlRel a b w (.int .i64 (0 : Nat)) w) := Lib.hid ⟨0, Nat.zero_le _, Nat.zero_le _, rfl, by simp, rfl⟩
  go_enter Tryz.func129, Tryz.ntmps129
  go_wp2_with fail
  go_loopw [11] (fun i wr => SlRel a b w i wr) (fun i _ => a.length - (intOf i).toNat)
  case atStart => exact H0.out
  case round =>
    clear H0
    obtain ⟨k, hka, hkb, rfl, hz, hw⟩ := hrel
    have HZ := Lib.hid hz
    subst hw
    clear hz
    have j1 : (0 : Int) ≤ (k : Int) := by omega
    by_cases hk : k < a.length
    · have j2 : (k : Int) < (a.length : Int) := by omega
      have j3 : decide ((k : Int) < (a.length : Int)) = true := decide_eq_true j2
      obtain ⟨b1, o1, hb1, hl1, hc1⟩ := RdP.at_ H1.out inC_len hk
      subst hb1
      have x1 := hc1 0 _ rfl
      rw [Nat.mul_one, Nat.add_zero] at x1
      have HDA := Lib.hid (List.drop_eq_getElem_cons hk)
      obtain ⟨xa, hxa⟩ : ∃ x, a[k] = x := ⟨_, rfl⟩
      rw [hxa] at x1 HDA
      clear hc1 hxa
      by_cases hkb2 : k < b.length
      · have j4 : (k : Int) < (b.length : Int) := by omega
        have j5 : decide ((b.length : Int) ≤ (k : Int)) = false := decide_eq_false (by omega)
        obtain ⟨b2, o2, hb2, hl2, hc2⟩ := RdP.at_ H2.out inC_len hkb2
        subst hb2
        have x2 := hc2 0 _ rfl
        rw [Nat.mul_one, Nat.add_zero] at x2
        have HDB := Lib.hid (List.drop_eq_getElem_cons hkb2)
        obtain ⟨xb, hxb⟩ : ∃ x, b[k] = x := ⟨_, rfl⟩
        rw [hxb] at x2 HDB
        have HST := Lib.hid (show (if cmpI xa xb ≠ 0 then cmpI xa xb else cmpL (a.drop (k + 1)) (b.drop (k + 1))) = Q by rw [← HQ.out, ← HZ.out, HDA.out, HDB.out]; rfl)
        have HCI := Lib.hid (cmp_i xa xb wr)
        obtain ⟨q, hq⟩ : ∃ q, cmpI xa xb = q := ⟨_, rfl⟩
        rw [hq] at HST HCI
        clear hc2 hxb hq HDA HDB HZ
        by_cases hq0 : q = 0
        · have e1 : (q != 0) = false := by rw [hq0]; rfl
          have HQ0 := Lib.hid hq0
          clear hq0
          go_wp2_with (go_at_call 99; refine HCI.out.mono ?_; rintro e w1 ⟨rfl, rfl⟩)
          go_roundw
          case rel => exact ⟨k + 1, by omega, by omega, by go_num, by rw [HQ.out, ← HST.out, if_neg (fun h => h HQ0.out)], rfl⟩
          case measure => simp [intOf]; omega
        · have e1 : (q != 0) = true := by rw [bne_iff_ne]; exact hq0
          have HQ0 := Lib.hid hq0
          clear hq0
          go_wp2_with (go_at_call 99; refine HCI.out.mono ?_; rintro e w1 ⟨rfl, rfl⟩)
          go_ret
          exact ⟨by rw [← HST.out, if_pos HQ0.out]; rfl, rfl⟩
      · have j5 : decide ((b.length : Int) ≤ (k : Int)) = true := decide_eq_true (by omega)
        have HST := Lib.hid (show (1 : Int) = Q by rw [← HQ.out, ← HZ.out, HDA.out, List.drop_of_length_le (show b.length ≤ k by omega)]; rfl)
        clear HDA HZ
        go_wp2_with fail
        go_ret
        exact ⟨by rw [← HST.out]; rfl, rfl⟩
    · have j3 : decide ((k : Int) < (a.length : Int)) = false := decide_eq_false (by omega)
      have j4 : decide (k < a.length) = false := decide_eq_false hk
      have hka2 : k = a.length := by omega
      by_cases hl : a.length < b.length
      · have e1 : decide ((a.length : Int) < (b.length : Int)) = true := decide_eq_true (by omega)
        have e2 : decide (a.length < b.length) = true := decide_eq_true hl
        have HST := Lib.hid (show (-1 : Int) = Q by rw [← HQ.out, ← HZ.out, List.drop_of_length_le (show a.length ≤ k by omega), List.drop_eq_getElem_cons (show k < b.length by omega)]; rfl)
        clear HZ hka2 hk
        go_wp2_with fail
        go_ret
        exact ⟨by rw [← HST.out]; rfl, rfl⟩
      · have e1 : decide ((a.length : Int) < (b.length : Int)) = false := decide_eq_false (by omega)
        have e2 : decide (a.length < b.length) = false := decide_eq_false hl
        have HST := Lib.hid (show (0 : Int) = Q by rw [← HQ.out, ← HZ.out, List.drop_of_length_le (show a.length ≤ k by omega), List.drop_of_length_le (show b.length ≤ k by omega)]; rfl)
        clear HZ hka2 hk
        go_wp2_with fail
        go_ret
        exact ⟨by rw [← HST.out]; rfl, rfl⟩
set_option maxRecDepth 100000 in
theorem lin_cmp2 (a b : Bs) (w : World) (ha : okP (bs a) = true) (hb : okP (bs b) = true) : Calls Tryz.prog 91 #[.string (bs a), .string (bs b)] w fun e w' => e = .returned (.int .i64 (if a = b then 0 else cmpL (ordsL (bs a)) (ordsL (bs b)))) ∧ Below w.heap.size w w' := by
  by_cases hne : a = b
  · subst hne
    rw [if_pos rfl]
    refine (lin_same (bs a) w).mono ?_
    rintro e w' ⟨rfl, rfl⟩
    exact ⟨rfl, Below.refl _ _⟩
  · rw [if_neg hne]
    have e0 : ((bs a).toList == (bs b).toList) = false := by
      rw [bs_toList, bs_toList, beq_eq_false_iff_ne]
      exact hne
    have HA := Lib.hid ha
    have HB := Lib.hid hb
    have HLA := Lib.hid (show (ordsL (bs a)).length ≤ 100 by unfold ordsL; rw [List.length_map]; exact Nat.le_trans (PS_len _) (by omega))
    have HLB := Lib.hid (show (ordsL (bs b)).length ≤ 100 by unfold ordsL; rw [List.length_map]; exact Nat.le_trans (PS_len _) (by omega))
    have HEA := Lib.hid (show (PS (bs a)).length = (ordsL (bs a)).length by unfold ordsL; rw [List.length_map])
    have HEB := Lib.hid (show (PS (bs b)).length = (ordsL (bs b)).length by unfold ordsL; rw [List.length_map])
    have HVA := Lib.hid (fun W => valid_is (bs a) W)
    have HVB := Lib.hid (fun W => valid_is (bs b) W)
    have HOA := Lib.hid (fun W => ordinals_is (bs a) W)
    have HOB := Lib.hid (fun W => ordinals_is (bs b) W)
    clear ha hb hne
    generalize bs a = sa at *
    generalize bs b = sb at *
    go_enter Tryz.func91, Tryz.ntmps91
    have O1 : True := trivial
    have O2 : True := trivial
    go_wp2_with (first
      | (clear O1; go_at_call 28; refine (HVA.out _).mono ?_; rintro e w1 ⟨rfl, hb1⟩; rw [HA.out]; have HB1 := Lib.hid hb1; clear hb1)
      | (go_at_call 28; refine (HVB.out _).mono ?_; rintro e w2 ⟨rfl, hb2⟩; rw [HB.out]; have HB2 := Lib.hid (HB1.out.trans (hb2.mono HB1.out.size)); clear hb2)
      | (clear O2; go_at_call 130; refine (HOA.out _).mono ?_; rintro e w3 ⟨hb3, A3, n3, c3, rfl, hn3⟩; obtain ⟨rfl, hr3⟩ := hn3 HA.out; rw [HEA.out] at hr3 ⊢; have HR3 := Lib.hid hr3; have HB3 := Lib.hid (HB2.out.trans (hb3.mono HB2.out.size)); clear hb3 hn3 hr3)
      | (go_at_call 130; refine (HOB.out _).mono ?_; rintro e w4 ⟨hb4, A4, n4, c4, rfl, hn4⟩; obtain ⟨rfl, hr4⟩ := hn4 HB.out; rw [HEB.out] at hr4 ⊢; have HR4 := Lib.hid hr4; have HR34 := Lib.hid (RdP.next HR3.out hb4); have HB4 := Lib.hid (HB3.out.trans (hb4.mono HB3.out.size)); clear hb4 hn4 hr4)
      | (go_at_call 129; refine (slcmp_is HR34.out HR4.out HLA.out HLB.out).mono ?_; rintro e w5 ⟨rfl, rfl⟩))
    go_ret
    exact ⟨rfl, HB4.out⟩
theorem lin5_ok : ∀ a ∈ lin5, okP (bs a) = true := by decide +kernel
theorem lin5_cmp : ∀ a ∈ lin5, ∀ b ∈ lin5, (if a = b then (0 : Int) else cmpL (ordsL (bs a)) (ordsL (bs b))) = cmpS a b := by decide +kernel
theorem lin_cmp5 {a b : Bs} (w : World) (ha : a ∈ lin5) (hb : b ∈ lin5) : Calls Tryz.prog 91 #[.string (bs a), .string (bs b)] w fun e w' => e = .returned (.int .i64 (cmpS a b)) ∧ Below w.heap.size w w' := by
  have h := lin_cmp2 a b w (lin5_ok a ha) (lin5_ok b hb)
  rw [lin5_cmp a ha b hb] at h
  exact h
end Go.Proofs.YtamjllakfgphnaaGreatDoor
