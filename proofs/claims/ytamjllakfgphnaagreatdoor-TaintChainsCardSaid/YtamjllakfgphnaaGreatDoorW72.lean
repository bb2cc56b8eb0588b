/- Walks of layer 46: Parse, Valid and Ordinals of a lineage. -/
import Derived.Test.YtamjllakfgphnaaGreatDoorW71
import Derived.RangeFuncNested
import Derived.Test.YtamjllakfgphnaaGreatDoorGV
namespace Go.Proofs.YtamjllakfgphnaaGreatDoor
open Go.RowKit Go.Shelf
set_option linter.unusedSimpArgs false
set_option linter.unusedVariables false
attribute [local go_sem] Oper.semAt_some
theorem parts_in (F : Fence) (n : Nat) (h4 : F.fn 120) (hro : F.round = none) (s : ByteArray) (w : World) :
    CallsIn F n Tryz.prog 120 #[.string s] w fun e w' => e = .returned (.func (.func 163) #[] #[.pointer (some ⟨w.heap.size, 0, none⟩)]) ∧ w' = w.alloc (.cells #[.string s] 9) := by
  refine callsIn_of_wp Tryz.func120 rfl h4 ?_ hro
  simp only [Tryz.ntmps120, List.size_toArray, List.length_cons, List.length_nil, Nat.reduceAdd, Nat.reduceSub, Array.replicate_succ, Array.replicate_zero, List.push_toArray, List.append_toArray, List.nil_append, List.cons_append]
  gi_wp2
  go_ret
  exact ⟨rfl, rfl⟩
theorem parts_stops (n Bt : Nat) (s : ByteArray) (w : World) (hBt : Blk w Bt 9 #[.string s]) :
    SeqStopsK Fence.wide n Tryz.prog 163 #[.pointer (some ⟨Bt, 0, none⟩)] (fun x : Pt => #[ptV x]) KpL (fun ys => ys = PS s) (fun pre => pre <+: PS s) (PS s).length w := fun l J Jx W hW hab _ hY h0 =>
  parts1_in n l Bt s J Jx W hab hY W (hBt.next hW hBt.lt) h0
theorem KpL.putObj {W : World} {l : Nat} {o o' : Obj} (h : W.heap[l]? = some o) (ho : o.isCells = false) : KpL W (W.putObj l o') :=
  ⟨(grownBy_putObj' W l o').size, fun i cs e fr h1 _ => ((grownBy_putObj' W l o').block i (Array.getElem?_eq_some_iff.1 h1).1 (fun e1 => by
    injection e1 with e1
    subst e1
    rw [h] at h1
    injection h1 with h1
    subst h1
    cases ho)).trans h1⟩
theorem blk_own {B : Nat} {W W' : World} {row : Option Nat} {g t : Nat} {cs : Array Value} (h : Blk W g t cs) (hg : W.grownBy W' row) (hr : ∀ r, row = some r → B ≤ r ∧ ∃ o : Obj, W.heap[r]? = some o ∧ o.isCells = false) : Blk W' g t cs :=
  h.grown hg (fun e => by
    obtain ⟨_, o, ho, hc⟩ := hr g e.symm
    unfold Blk at h
    rw [h] at ho
    injection ho with ho
    subst ho
    cases hc)
/-- Blocks of one cell each, of given types. -/
def ResI (w : World) (c2 c3 c4 : Value) (W : World) : Prop := Blk W w.heap.size 22 #[c2] ∧ Blk W (w.heap.size + 1) 3 #[c3] ∧ Blk W (w.heap.size + 1 + 1) 29 #[c4] ∧ Below w.heap.size w W
theorem ResI.own {B : Nat} {w W W' : World} {row : Option Nat} {c2 c3 c4 : Value} (h : ResI w c2 c3 c4 W) (hB : w.heap.size ≤ B) (hg : W.grownBy W' row) (hr : ∀ r, row = some r → B ≤ r ∧ ∃ o : Obj, W.heap[r]? = some o ∧ o.isCells = false) : ResI w c2 c3 c4 W' := by
  obtain ⟨h1, h2, h3, h4⟩ := h
  refine ⟨blk_own h1 hg hr, blk_own h2 hg hr, blk_own h3 hg hr, ?_⟩
  exact h4.trans ⟨hg.os, hg.tape, hg.output, hg.size, fun i hi => hg.block i (Nat.lt_of_lt_of_le hi h4.size) (fun e => by have := (hr i e.symm).1; omega)⟩
theorem ResI.drew {w W : World} {c2 c3 c4 : Value} (h : ResI w c2 c3 c4 W) : ResI w c2 c3 c4 W.drew := ⟨h.1, h.2.1, h.2.2.1, h.2.2.2.drew⟩
theorem ResI.put3 {w W : World} {c2 c3 c4 : Value} (h : ResI w c2 c3 c4 W) (v2 v3 v4 : Value) : ResI w v2 v3 v4 (((W.setCell ⟨w.heap.size, 0, none⟩ v2).setCell ⟨w.heap.size + 1, 0, none⟩ v3).setCell ⟨w.heap.size + 1 + 1, 0, none⟩ v4) ∧
    KeepsOthers W (((W.setCell ⟨w.heap.size, 0, none⟩ v2).setCell ⟨w.heap.size + 1, 0, none⟩ v3).setCell ⟨w.heap.size + 1 + 1, 0, none⟩ v4) := by
  obtain ⟨h1, h2, h3, h4⟩ := h
  have g := fun (W : World) (n : Nat) (v : Value) => (show W.grownBy (W.setCell ⟨n, 0, none⟩ v) (some n) from only_setCell (only_of_below (Below.refl _ _) _) (.inl rfl) v)
  refine ⟨⟨((h1.set_ 0 v2).grown (g _ _ v3) (by simp)).grown (g _ _ v4) (by simp; omega), ((h2.grown (g _ _ v2) (by simp)).set_ 0 v3).grown (g _ _ v4) (by simp), ((h3.grown (g _ _ v2) (by simp; omega)).grown (g _ _ v3) (by simp)).set_ 0 v4, ?_⟩, ((KeepsOthers.setCell _ _ _).trans (KeepsOthers.setCell _ _ _)).trans (KeepsOthers.setCell _ _ _)⟩
  exact ((h4.setCell (p := ⟨w.heap.size, 0, none⟩) (Nat.le_refl _) v2).setCell (p := ⟨w.heap.size + 1, 0, none⟩) (by simp) v3).setCell (p := ⟨w.heap.size + 1 + 1, 0, none⟩) (by simp; omega) v4
def ParI (w : World) (pre : List Pt) (W : World) : Prop := (∀ p ∈ pre, p.e = 0) ∧ ResI w (.string ⟨#[]⟩) (.int .i64 0) (.int .i64 0) W
def ParX (w : World) (c : Code) (pre : List Pt) (W : World) : Prop := c = .ret ∧ ∃ p ∈ pre, p.e ≠ 0 ∧ ResI w (.string ⟨#[]⟩) (.int .i64 p.a) (.int .i64 p.e) W
def ParseP (s : ByteArray) (w : World) (e : Ending) (w' : World) : Prop := Below w.heap.size w w' ∧ ∃ (v1 v2 : Value) (E : Int), e = .returned (.tuple #[v1, v2, .int .i64 E]) ∧ (E = 0 ↔ ∀ p ∈ PS s, p.e = 0)
def PARW (w : World) (s : ByteArray) : World := (((w.alloc (.cells #[.string ⟨#[]⟩] 22)).alloc (.cells #[.int .i64 0] 3)).alloc (.cells #[.int .i64 0] 29)).alloc (.cells #[.string s] 9)
theorem parw_start (w : World) (s : ByteArray) : ResI w (.string ⟨#[]⟩) (.int .i64 0) (.int .i64 0) (PARW w s) ∧ Blk (PARW w s) (w.heap.size + 1 + 1 + 1) 9 #[.string s] ∧ (PARW w s).heap.size = w.heap.size + 1 + 1 + 1 + 1 := by
  have b1 := Blk.new w 22 #[.string ⟨#[]⟩]
  have b2 := Blk.new (w.alloc (.cells #[.string ⟨#[]⟩] 22)) 3 #[.int .i64 0]
  have b3 := Blk.new ((w.alloc (.cells #[.string ⟨#[]⟩] 22)).alloc (.cells #[.int .i64 0] 3)) 29 #[.int .i64 0]
  have b4 := Blk.new (((w.alloc (.cells #[.string ⟨#[]⟩] 22)).alloc (.cells #[.int .i64 0] 3)).alloc (.cells #[.int .i64 0] 29)) 9 #[.string s]
  simp only [World.size_alloc] at b2 b3 b4
  have al := fun (W : World) (o : Obj) => (Below.refl W.heap.size W).alloc (Nat.le_refl _) o
  refine ⟨⟨((b1.next (al _ _) b1.lt).next (al _ _) (b1.next (al _ _) b1.lt).lt).next (al _ _) ((b1.next (al _ _) b1.lt).next (al _ _) (b1.next (al _ _) b1.lt).lt).lt, (b2.next (al _ _) b2.lt).next (al _ _) (b2.next (al _ _) b2.lt).lt, b3.next (al _ _) b3.lt, ?_⟩, b4, by simp [PARW]⟩
  exact ((((Below.refl _ _).alloc (Nat.le_refl _) _).alloc (by simp) _).alloc (by simp; omega) _).alloc (by simp; omega) _
set_option maxRecDepth 100000 in
set_option maxHeartbeats 4000000 in
theorem parse_is (s : ByteArray) (w : World) : Calls Tryz.prog 73 #[.string s] w (ParseP s w) := by
  obtain ⟨hR0, hBt, hSz⟩ := parw_start w s
  refine (callsIn_wide (n := 6)).1 ?_
  refine callsIn_of_wp_marks Tryz.func73 rfl trivial ?_ rfl
  simp only [Tryz.ntmps73, List.size_toArray, List.length_cons, List.length_nil, Nat.reduceAdd, Nat.reduceSub, Array.replicate_succ, Array.replicate_zero, List.push_toArray, List.append_toArray, List.nil_append, List.cons_append]
  gi_wp2_with ((try refine ⟨trivial, ?_⟩); gi_at_call 120; refine (parts_in Fence.wide _ trivial rfl _ _).mono ?_; rintro e w' ⟨rfl, rfl⟩)
  refine wpIn_rangeFunc_ownH (w := PARW w s) rfl (by omega) (gf := 163) (lb := #[.pointer (some ⟨w.heap.size + 1 + 1 + 1, 0, none⟩)]) rfl trivial (enters_of Tryz.func163 (by kernel_rfl) rfl)
    (parts_stops _ _ s (PARW w s) hBt) (fun h k => h.trans k) (fun W l o o' _ h1 h2 _ => KpL.putObj h1 h2) (Below.refl _ _) (fun _ => rfl)
    (ParI w) (ParX w) (fun pre W W' row h hg hr => ⟨h.1, h.2.own (by rw [hSz]; omega) hg hr⟩) (fun c pre W W' row h hg hr => by
      obtain ⟨h1, p, hp, h2, h3⟩ := h
      exact ⟨h1, p, hp, h2, h3.own (by rw [hSz]; omega) hg hr⟩)
    ⟨fun p h => (by cases h), hR0⟩
    (fun x a' W => ∃ pb, a' = { tmps := #[.string s, undef, .pointer (some ⟨w.heap.size, 0, none⟩), .pointer (some ⟨w.heap.size + 1, 0, none⟩), .pointer (some ⟨w.heap.size + 1 + 1, 0, none⟩), .pointer (some ⟨pb, 0, none⟩), .string s, .func (.func 163) #[] #[.pointer (some ⟨w.heap.size + 1 + 1 + 1, 0, none⟩)], .agg #[.int .i64 x.o, .int .i64 x.a, .int .i64 x.e], undef, undef, undef, undef, undef, undef, undef, undef], defers := [] } ∧ Blk W pb 213 #[.int .i64 x.o, .int .i64 x.a, .int .i64 x.e]) (fun x a' _ W W' row h hg hr => by
      obtain ⟨pb, h1, h2⟩ := h
      exact ⟨pb, h1, blk_own h2 hg hr⟩) ?assign ?body ?done ?stop
  case assign =>
    intro l pre x W K hI hK
    have hb := Blk.new W 213 #[.int .i64 x.o, .int .i64 x.a, .int .i64 x.e]
    have hal := (Below.refl W.heap.size W).alloc (Nat.le_refl _) (.cells #[.int .i64 x.o, .int .i64 x.a, .int .i64 x.e] 213)
    simp only [ptV]
    gi_wp2
    exact hK _ _ ((KeepsOthers.alloc W _).from _) (KpL.below hal) ⟨hI.1, hI.2.own (Nat.le_refl _) (grown_none hal) (fun r e => by cases e)⟩ ⟨W.heap.size, rfl, hb⟩
  case body =>
    rintro l pre x a' W hwl hr ⟨hI1, hI2⟩ ⟨pb, rfl, hb⟩ hlt
    obtain ⟨r2, r3, r4, hbw⟩ := id hI2
    have c1 := hb.cell 1
    have c2 := hb.cell 2
    have z2 := r2.cell 0
    have z3 := r3.cell 0
    have z4 := r4.cell 0
    have f2 := r2.frozen 0
    have f3 := r3.frozen 0
    have f4 := r4.frozen 0
    simp only [List.getElem?_toArray, List.getElem?_cons_zero, List.getElem?_cons_succ] at c1 c2 z2 z3 z4
    by_cases hx : x.e = 0
    · have n1 : (x.e != 0) = false := by rw [hx]; rfl
      have HX := Lib.hid hx
      clear hx
      gi_wp2
      refine ⟨KeepsFrom.refl _ _, KpL.refl _, fun p hp => ?_, hI2⟩
      rcases List.mem_append.1 hp with h | h
      · exact hI1 p h
      · rw [List.mem_singleton] at h; rw [h]; exact HX.out
    · have n1 : (x.e != 0) = true := by rw [bne_iff_ne]; exact hx
      have HX := Lib.hid hx
      clear hx
      gi_wp2
      obtain ⟨hr3, hk3⟩ := hI2.put3 (.string ⟨#[]⟩) (.int .i64 x.a) (.int .i64 x.e)
      have HR3 := Lib.hid hr3
      have HK3 := Lib.hid hk3
      clear hr3 hk3
      gi_region
      all_goals gi_wp2
      all_goals exact ⟨(HK3.out.trans (KeepsOthers.drew _)).from _, rfl, x, by simp, HX.out, HR3.out.drew⟩
  case done =>
    rintro D ys W hD rfl ⟨hI1, hI2⟩ hK
    obtain ⟨r2, r3, r4, hbw⟩ := id hI2
    have z2 := r2.cell 0
    have z3 := r3.cell 0
    have z4 := r4.cell 0
    have f2 := r2.frozen 0
    have f3 := r3.frozen 0
    have f4 := r4.frozen 0
    simp only [List.getElem?_toArray, List.getElem?_cons_zero, List.getElem?_cons_succ] at z2 z3 z4
    obtain ⟨hr3, hk3⟩ := hI2.put3 (.string s) (.int .i64 0) (.int .i64 0)
    have HR3 := Lib.hid hr3
    have hK2 := hk3.same D _ hK rfl
    have HK2 := Lib.hid hK2
    have HI1 := Lib.hid hI1
    clear hr3 hk3 hK2 hI1
    gi_wp2
    have hK2 := HK2.out
    refine ⟨by simp, .inl ⟨_, _, rfl, run_takeDeferred hK2, ?_⟩⟩
    have hD2 : w.heap.size + 1 + 1 < D := by rw [hSz] at hD; omega
    have hgp := grownBy_putObj' (((W.setCell ⟨w.heap.size, 0, none⟩ (.string s)).setCell ⟨w.heap.size + 1, 0, none⟩ (.int .i64 0)).setCell ⟨w.heap.size + 1 + 1, 0, none⟩ (.int .i64 0)) D (.deferred none)
    have hrp : ∀ r, some D = some r → w.heap.size ≤ r ∧ ∃ o : Obj, ((((W.setCell ⟨w.heap.size, 0, none⟩ (.string s)).setCell ⟨w.heap.size + 1, 0, none⟩ (.int .i64 0)).setCell ⟨w.heap.size + 1 + 1, 0, none⟩ (.int .i64 0))).heap[r]? = some o ∧ o.isCells = false := fun r e => by injection e with e; subst e; exact ⟨by omega, _, hK2, rfl⟩
    have hI4 := HR3.out.own (Nat.le_refl _) hgp hrp
    have y2 := hI4.1.cell 0
    have y3 := hI4.2.1.cell 0
    have y4 := hI4.2.2.1.cell 0
    simp only [List.getElem?_toArray, List.getElem?_cons_zero, List.getElem?_cons_succ] at y2 y3 y4
    refine ⟨.tuple #[.string s, .int .i64 0, .int .i64 0], by simp [results, Tryz.results73, go_sem, y2, y3, y4], hI4.2.2.2, _, _, 0, rfl, ⟨fun _ => HI1.out, fun _ => rfl⟩⟩
  case stop =>
    rintro D c pre W hD hpre ⟨rfl, p, hp, hpe, hI2⟩ hK
    have HI2 := Lib.hid hI2
    have HK2 := Lib.hid hK
    have HPE := Lib.hid hpe
    have HPP := Lib.hid (hpre.subset hp)
    clear hI2 hK hpe hpre hp
    gi_wp2
    have hK2 := HK2.out
    refine ⟨by simp, .inl ⟨_, _, rfl, run_takeDeferred hK2, ?_⟩⟩
    have hD2 : w.heap.size + 1 + 1 < D := by rw [hSz] at hD; omega
    have hgp := grownBy_putObj' W D (.deferred none)
    have hrp : ∀ r, some D = some r → w.heap.size ≤ r ∧ ∃ o : Obj, (W).heap[r]? = some o ∧ o.isCells = false := fun r e => by injection e with e; subst e; exact ⟨by omega, _, hK2, rfl⟩
    have hI4 := HI2.out.own (Nat.le_refl _) hgp hrp
    have y2 := hI4.1.cell 0
    have y3 := hI4.2.1.cell 0
    have y4 := hI4.2.2.1.cell 0
    simp only [List.getElem?_toArray, List.getElem?_cons_zero, List.getElem?_cons_succ] at y2 y3 y4
    refine ⟨.tuple #[.string ⟨#[]⟩, .int .i64 p.a, .int .i64 p.e], by simp [results, Tryz.results73, go_sem, y2, y3, y4], hI4.2.2.2, _, _, p.e, rfl, ⟨fun h => absurd h HPE.out, fun h => absurd (h p HPP.out) HPE.out⟩⟩
end Go.Proofs.YtamjllakfgphnaaGreatDoor
