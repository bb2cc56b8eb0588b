/- Walks of layer 46: Versions.Clone. -/
import Derived.Test.YtobkmkplhbaepaaGreatDoorW57
import Derived.Test.YtobkmkplhbaepaaGreatDoorGQ
namespace Go.Proofs.YtobkmkplhbaepaaGreatDoor
open Go.RowKit Go.MapKept Go.ChangeMaps
set_option linter.unusedSimpArgs false
set_option linter.unusedVariables false
attribute [local go_sem ↓] Go.wp_at_zero Go.wp_at_succ
theorem grow_set (W : World) (gc k : Nat) (u : Value) : W.grownBy (W.setCell ⟨gc, k, none⟩ u) (some gc) := only_setCell (only_of_below (Below.refl _ _) _) (.inl rfl) u
/-- The copy under construction. -/
structure Cl (w W : World) (gc : Nat) (cs : Array Value) : Prop where
  below : Below w.heap.size w W
  blk : Blk W gc 93 cs
  ge : w.heap.size ≤ gc
theorem Cl.next {w W W' : World} {gc : Nat} {cs : Array Value} (h : Cl w W gc cs) (hb : Below W.heap.size W W') : Cl w W' gc cs := ⟨h.below.trans (hb.mono h.below.size), h.blk.next hb h.blk.lt, h.ge⟩
theorem Cl.set_ {w W : World} {gc : Nat} {cs : Array Value} (h : Cl w W gc cs) (k : Nat) (u : Value) : Cl w (W.setCell ⟨gc, k, none⟩ u) gc (cs.setIfInBounds k u) := ⟨h.below.setCell (p := ⟨gc, k, none⟩) h.ge u, h.blk.set_ k u, h.ge⟩
theorem own_off {W : World} {base e s n gc : Nat} {v : Value} {xs : List Value} (h : W.ownsRow base e s v n xs) (hb : gc < base) (k : Nat) (u : Value) : (W.setCell ⟨gc, k, none⟩ u).ownsRow base e s v n xs :=
  h.kept (grow_set W gc k u) (.inr fun e1 => by have := own_ge h e1; omega)
theorem MapRows.off {α : Type} {e : TypeId} {s : Nat} {f : α → List Value} {W : World} {gc b : Nat} {D : Nm → List α} (h : MapRows e s f W (fun i => gc < i) b D) (k : Nat) (u : Value) : MapRows e s f (W.setCell ⟨gc, k, none⟩ u) (fun i => gc < i) b D :=
  h.keep (fun es c hf hh => (grow_set W gc k u).block b (Array.getElem?_eq_some_iff.1 hh).1 (fun e1 => by injection e1 with e1; exact absurd e1 (Nat.ne_of_gt hf)))
    (fun g cs hf hh => (grow_set W gc k u).block g (Array.getElem?_eq_some_iff.1 hh).1 (fun e1 => by injection e1 with e1; exact absurd e1 (Nat.ne_of_gt hf))) fun _ _ h => h
/-- A map of rows while it is copied. -/
def CopRel {α : Type} (e : TypeId) (s : Nat) (f : α → List Value) (D : Nm → List α) (ents : List (Nm × Value)) (bs bn r gc : Nat) (w7 wr : World) : Prop :=
  ∃ seen left, MapIt wr bs r ents left ∧ (∀ p ∈ ents, p.1 ∈ seen ∨ p ∈ left) ∧ (∀ p ∈ left, p.1 ∉ seen) ∧ (left.map Prod.fst).Nodup ∧ MapRows e s f wr (fun i => gc < i) bn (copD D seen) ∧ Chg w7 wr bn (some r)
section
variable {α : Type} {e : TypeId} {s : Nat} {f : α → List Value} {D : Nm → List α} {ents left left' : List (Nm × Value)} {bs bn r gc : Nat} {w7 wr w1 w3 : World} {seen : List Nm} {p : Nm × Value} {v : Value}
theorem cop_step (hit : MapIt wr bs r ents left) (hall : ∀ p ∈ ents, p.1 ∈ seen ∨ p ∈ left) (hno : ∀ p ∈ left, p.1 ∉ seen) (hnd : (left.map Prod.fst).Nodup) (hm : MapRows e s f wr (fun i => gc < i) bn (copD D seen)) (hc : Chg w7 wr bn (some r))
    (h1 : left.Perm (p :: left')) (hi : MapIt w1 bs r ents left') (hg : wr.grownBy w1 (some r)) (hgc : gc < w1.heap.size) (hbs : bs ≠ bn) (hb : Below w1.heap.size w1 w3) (hown : w3.ownsRow w1.heap.size e s v (D p.1).length ((D p.1).flatMap f)) (hne : D p.1 ≠ []) :
    ∃ ents', MapAt w3 bn ents' ∧ ∀ w4, MapAt w4 bn (putM p.1 v ents') → w3.grownBy w4 (some bn) → CopRel e s f D ents bs bn r gc w7 w4 ∧ w4.rangeLeft bs r < wr.rangeLeft bs r := by
  have hr : ∃ b since seen c, wr.heap[r]? = some (.mapIter b since seen c) := by
    obtain ⟨es, c, since, seen, c0, hb, he, hs, hr, _⟩ := hit
    exact ⟨_, _, _, _, hr⟩
  obtain ⟨ib, is_, ie, ic, hr⟩ := hr
  have hm1 : MapRows e s f w1 (fun i => gc < i) bn (copD D seen) := hm.keep
    (fun es c _ hh => hg.block bn (Array.getElem?_eq_some_iff.1 hh).1 (fun e1 => by injection e1 with e1; subst e1; rw [hh] at hr; cases hr))
    (fun g cs _ hh => hg.block g (Array.getElem?_eq_some_iff.1 hh).1 (fun e1 => by injection e1 with e1; subst e1; rw [hh] at hr; cases hr)) fun _ _ h => h
  have hp : p ∈ left := h1.mem_iff.2 (List.mem_cons_self ..)
  have hD0 : copD D seen p.1 = [] := by unfold copD; rw [if_neg (hno p hp)]
  obtain ⟨ents', hat, hput⟩ := hm1.put_new hD0 hne hb hown fun i hi => Nat.lt_of_lt_of_le hgc hi
  refine ⟨ents', hat, fun w4 hm4 hg4 => ?_⟩
  have hr3 := hi.next hb
  have hrb : r ≠ bn := by
    intro e1
    subst e1
    obtain ⟨es, c, hb1, _⟩ := hat
    obtain ⟨_, _, _, _, _, _, _, _, hr4, _⟩ := hr3
    rw [hb1] at hr4
    cases hr4
  have hnd2 : ((p :: left').map Prod.fst).Nodup := (h1.map Prod.fst).nodup_iff.1 hnd
  rw [List.map_cons, List.nodup_cons] at hnd2
  have hr4 := hr3.grown hg4 (fun e1 => hbs (by injection e1)) (fun e1 => hrb (by injection e1))
  refine ⟨?_, by rw [hr4.size, hit.size, h1.length_eq]; simp⟩
  refine ⟨p.1 :: seen, left', hr4, fun q hq => ?_, fun q hq => ?_, hnd2.2, ?_, ((hc.row_ hg).below hb).map_ hg4⟩
  · rcases hall q hq with h | h
    · exact .inl (List.mem_cons_of_mem _ h)
    · rcases List.mem_cons.1 (h1.mem_iff.1 h) with h | h
      · rw [h]; exact .inl (List.mem_cons_self ..)
      · exact .inr h
  · intro h
    rcases List.mem_cons.1 h with h | h
    · exact hnd2.1 (by rw [← h]; exact List.mem_map.2 ⟨q, hq, rfl⟩)
    · exact hno q (h1.mem_iff.2 (List.mem_cons_of_mem _ hq)) h
  · have := hput w4 hm4 hg4
    rw [copD_step] at this
    exact this
theorem cop_done (hall : ∀ p ∈ ents, p.1 ∈ seen ∨ p ∈ ([] : List (Nm × Value))) (hm : MapRows e s f wr (fun i => gc < i) bn (copD D seen)) (hD : ∀ n, D n ≠ [] → (lookM n ents).isSome = true) : MapRows e s f wr (fun i => gc < i) bn D := by
  refine hm.data fun n => ?_
  unfold copD
  by_cases h : n ∈ seen
  · rw [if_pos h]
  · rw [if_neg h]
    refine Classical.byContradiction fun hne => ?_
    have := hD n (fun e1 => hne e1.symm)
    obtain ⟨v, hv⟩ := Option.isSome_iff_exists.1 this
    rcases hall _ (look_mem hv) with h1 | h1
    · exact h h1
    · cases h1
theorem cop_start {ew : List (Nm × Value)} (hit : MapIt wr bs r ents ents) (hp : ents.Pairwise fun p q => p.1 ≠ q.1 ∧ p.2.ownBlock ≠ q.2.ownBlock) (hm : MapRows e s f wr (fun i => gc < i) bn (fun _ => [])) (hc : Chg w7 wr bn (some r)) : CopRel e s f D ents bs bn r gc w7 wr := by
  refine ⟨[], ents, hit, fun p h => .inr h, fun _ _ h => (by cases h), ?_, hm.data fun n => (by simp [copD]), hc⟩
  rw [List.Nodup, List.pairwise_map]
  exact hp.imp fun h => h.1
theorem chg_below {w : World} (hc : Chg w7 wr bn (some r)) (hb : Below w.heap.size w w7) (h1 : w.heap.size ≤ bn) (h2 : w.heap.size ≤ r) : Below w.heap.size w wr :=
  hb.trans ((hc.outer (F := fun i => i = bn ∨ i = r) (.inl rfl) (fun g hg => .inr (by injection hg with hg; exact hg.symm))).below hb.size (fun i hi => by rcases hi with rfl | rfl <;> assumption))
end
theorem rowC_one {α β : Type} {f : α → β → List Value} {N : World → β → α → Prop} {w : World} (hf : ∀ x u, N w u x → ∀ y ∈ f x u, y.oneCell' = true) : ∀ {l : List α} {us : List β}, RowW N w l us → ∀ y ∈ rowC f l us, y.oneCell' = true
  | [], _, _, y, hy => by cases hy
  | x :: l, [], h, y, hy => by cases hy
  | x :: l, u :: us, h, y, hy => by
    simp only [rowC, List.mem_append] at hy
    rcases hy with hy | hy
    · exact hf x u (h.2 0 x u rfl rfl) y hy
    · exact rowC_one hf (l := l) (us := us) ⟨by simpa using h.1, fun i a b h1 h2 => h.2 (i + 1) a b h1 h2⟩ y hy
theorem acC_one {w : World} : ∀ (x : Ac) (u : Value × Value), NAc w u x → ∀ y ∈ acC x u, y.oneCell' = true := by
  intro x u ⟨h1, h2⟩ y hy
  obtain ⟨A1, c1, e1, _⟩ := RdP.form h1
  obtain ⟨A2, c2, e2, _⟩ := RdP.form h2
  simp only [acC, List.mem_cons, List.not_mem_nil, or_false] at hy
  rcases hy with rfl | rfl | rfl | rfl | rfl | rfl
  · rfl
  · rfl
  · rfl
  · rfl
  · rw [e1]; rfl
  · rw [e2]; rfl
theorem kpC_one {w : World} : ∀ (x : St) (u : Option Addr), NKp w u x → ∀ y ∈ kpC x u, y.oneCell' = true := by
  intro x u _ y hy
  simp only [kpC, List.mem_cons, List.not_mem_nil, or_false] at hy
  subst hy
  rfl
theorem MapAt.len_ {w : World} {b : Nat} {ents : List (Nm × Value)} (h : MapAt w b ents) {t e : TypeId} (ht : Tryz.prog.underlying t = some (.map 40 e)) (ty : TypeId) : (Builtin.len_ #[t] ty #[.map (some b)]).run Tryz.prog w = .ok (.int .i64 ents.length) w := by
  obtain ⟨es, c, hb, he, _⟩ := h
  have hl : es.size = ents.length := by
    have := congrArg List.length he
    simpa using this
  rw [← hl]
  simp [Builtin.len_, run_underlying ht, MapKept.run_getObj_map hb, goInt, Result.andThen]
theorem make_hint (w : World) {t e : TypeId} (ht : Tryz.prog.underlying t = some (.map 40 e)) (n : Nat) : (Instr.makeMap t (some (.int .i64 n))).run Tryz.prog w = .ok (.map (some w.heap.size)) (w.alloc (.map #[] 0)) := by
  simp [Instr.makeMap, run_underlying ht, asInt, asIntOf, Result.andThen]
theorem own_chg {w7 wr : World} {bn r base e s n : Nat} {v : Value} {xs : List Value} (h : w7.ownsRow base e s v n xs) (hc : Chg w7 wr bn (some r)) (hm : ∃ es c, w7.heap[bn]? = some (.map es c)) (hi : ∃ a b c d, w7.heap[r]? = some (.mapIter a b c d)) : wr.ownsRow base e s v n xs := by
  obtain ⟨es, c, hm⟩ := hm
  obtain ⟨a, b, c2, d, hi⟩ := hi
  refine own_same h fun g hg => ?_
  obtain ⟨cur, hcur⟩ := own_cells_of h hg
  refine hc.block g (h.lt g hg).2 (fun e1 => ?_) (fun e1 => ?_)
  · subst e1; rw [hcur] at hm; cases hm
  · injection e1 with e1; subst e1; rw [hcur] at hi; cases hi
theorem MapRows.chg {α : Type} {f : α → List Value} {s : Nat} {e : TypeId} {w7 wr : World} {F : Nat → Prop} {b bm r : Nat} {D : Nm → List α} (h : MapRows e s f w7 F b D) (hc : Chg w7 wr bm (some r)) (hm : ∃ es c, w7.heap[bm]? = some (.map es c)) (hi : ∃ a b c d, w7.heap[r]? = some (.mapIter a b c d)) (hne : b ≠ bm) : MapRows e s f wr F b D := by
  obtain ⟨es, c, hm⟩ := hm
  obtain ⟨a, b2, c2, d, hi⟩ := hi
  refine h.keep (fun es c _ hh => hc.block b (Array.getElem?_eq_some_iff.1 hh).1 hne (fun e1 => ?_)) (fun g cs _ hh => hc.block g (Array.getElem?_eq_some_iff.1 hh).1 (fun e1 => ?_) (fun e1 => ?_)) fun _ _ h => h
  · injection e1 with e1; subst e1; rw [hh] at hi; cases hi
  · subst e1; rw [hh] at hm; cases hm
  · injection e1 with e1; subst e1; rw [hh] at hi; cases hi
theorem veC_one {L : List Ver} : ∀ y ∈ L.flatMap veC, y.oneCell' = true := by
  intro y hy
  obtain ⟨p, _, h⟩ := List.mem_flatMap.1 hy
  simp [veC] at h
  rcases h with rfl | rfl | rfl <;> rfl
theorem inC_one {L : List Int} : ∀ y ∈ L.flatMap inC, y.oneCell' = true := by
  intro y hy
  obtain ⟨p, _, h⟩ := List.mem_flatMap.1 hy
  simp [inC] at h
  subst h; rfl
/-- What Clone leaves. -/
def CloV (s0 : St) (l : List Ac) (w : World) (e : Ending) (w' : World) : Prop := ∃ gc, e = .returned (.pointer (some ⟨gc, 0, none⟩)) ∧ Below w.heap.size w w' ∧ VAt w' (fun i => w.heap.size ≤ i ∧ i < w'.heap.size) gc s0 l
set_option maxRecDepth 100000 in
set_option maxHeartbeats 4000000 in
theorem clone_is {w : World} {F : Nat → Prop} {g : Nat} {s0 : St} {l : List Ac} (hv : VAt w F g s0 l) (ho : VOk l) : Calls Tryz.prog 23 #[.pointer (some ⟨g, 0, none⟩)] w (CloV s0 l w) := by
  obtain ⟨pb, va, vk, pl, bw, br, iv⟩ := hv
  have hkl : (keptS s0 l).length ≤ 100000 := by rw [keptS_len]; have := ho.len; omega
  have HVO := Lib.hid ho
  have IV := Lib.hid iv
  have x0 : w.cell? ⟨g, 0, none⟩ = some (.pointer pb) := iv.blk.cell 0
  have x1 : w.cell? ⟨g, 1, none⟩ = some va := iv.blk.cell 1
  have x2 : w.cell? ⟨g, 2, none⟩ = some vk := iv.blk.cell 2
  have x3 : w.cell? ⟨g, 3, none⟩ = some (.pointer pl) := iv.blk.cell 3
  have x4 : w.cell? ⟨g, 4, none⟩ = some (.map (some bw)) := iv.blk.cell 4
  have x5 : w.cell? ⟨g, 5, none⟩ = some (.map (some br)) := iv.blk.cell 5
  have gl : g < w.heap.size := iv.blk.lt
  obtain ⟨usA, hra, hoa⟩ := iv.act
  obtain ⟨Aa, ca, rfl, hca⟩ := own_len hoa
  obtain ⟨usK, hrk, hok⟩ := iv.kp
  obtain ⟨Ak, ck, rfl, hck⟩ := own_len hok
  obtain ⟨B, rfl⟩ : ∃ B, pb = some ⟨B, 0, none⟩ := by obtain ⟨B, _, _, e, _⟩ := id iv.base; exact ⟨B, e⟩
  have HRA := Lib.hid hra
  have HOA := Lib.hid hoa
  have HRK := Lib.hid hrk
  have HOK := Lib.hid hok
  have hll := ho.len
  clear hra hoa hrk hok iv ho
  go_enter Tryz.func23, Tryz.ntmps23
  go_upto_region 4 with (go_at_call 48; refine (none_is x0).mono ?_; rintro e w' ⟨rfl, rfl⟩)
  have HX1 := Lib.hid x1
  have HX2 := Lib.hid x2
  have HX4 := Lib.hid x4
  have HX5 := Lib.hid x5
  have C1 : Hid (Cl w (w.alloc (.cells #[.pointer (some ⟨B, 0, none⟩), .slice Aa l.length ca, .slice Ak (keptS s0 l).length ck, .pointer pl, .map (some bw), .map (some br)] 93)) w.heap.size #[.pointer (some ⟨B, 0, none⟩), .slice Aa l.length ca, .slice Ak (keptS s0 l).length ck, .pointer pl, .map (some bw), .map (some br)]) := Lib.hid ⟨(Below.refl _ _).alloc (Nat.le_refl _) _, Blk.new w _ _, Nat.le_refl _⟩
  have hgl : w.heap.size < (w.alloc (.cells #[.pointer (some ⟨B, 0, none⟩), .slice Aa l.length ca, .slice Ak (keptS s0 l).length ck, .pointer pl, .map (some bw), .map (some br)] 93)).heap.size := by simp
  clear x0 x1 x2 x3 x4 x5
  have x1 := (C1.out.below.cell (p := ⟨g, 1, none⟩) gl).trans HX1.out
  have x2 := (C1.out.below.cell (p := ⟨g, 2, none⟩) gl).trans HX2.out
  have x4 := (C1.out.below.cell (p := ⟨g, 4, none⟩) gl).trans HX4.out
  have x5 := (C1.out.below.cell (p := ⟨g, 5, none⟩) gl).trans HX5.out
  generalize w.alloc (.cells #[.pointer (some ⟨B, 0, none⟩), .slice Aa l.length ca, .slice Ak (keptS s0 l).length ck, .pointer pl, .map (some bw), .map (some br)] 93) = W1 at *
  obtain ⟨gc, hgc⟩ : ∃ gc, w.heap.size = gc := ⟨_, rfl⟩
  have HGC := Lib.hid hgc
  rw [hgc] at hgl gl
  go_upto_region 5 with (go_at_call 57; refine (cloneAc (Rd.of_own (own_next HOA.out C1.out.below)) HOA.out.1 (rowC_one acC_one HRA.out) (by omega)).mono ?_; rintro e w2 ⟨v2, rfl, hown2, hb2⟩; obtain ⟨A2, c2, rfl, hc2⟩ := own_len hown2; have C2 := Lib.hid (C1.out.next hb2); have HO2 := Lib.hid (own_mono hown2 (show gc + 1 ≤ W1.heap.size from hgl)); have y1 := C2.out.blk.cell 1; have f1 := C2.out.blk.frozen 1; (simp only [hgc, List.getElem?_toArray, List.getElem?_cons_zero, List.getElem?_cons_succ] at y1 f1); clear hown2 hb2)
  have C3 : Hid (Cl w (w2.setCell ⟨gc, 1, none⟩ (.slice A2 l.length c2)) gc #[.pointer (some ⟨B, 0, none⟩), .slice A2 l.length c2, .slice Ak (keptS s0 l).length ck, .pointer pl, .map (some bw), .map (some br)]) := Lib.hid (by rw [← hgc]; exact C2.out.set_ 1 (.slice A2 l.length c2))
  have HO3 := Lib.hid (own_off HO2.out (Nat.lt_succ_self gc) 1 (.slice A2 l.length c2))
  have hg3 : gc < (w2.setCell ⟨gc, 1, none⟩ (.slice A2 l.length c2)).heap.size := C3.out.blk.lt
  clear x1 x2 x4 x5 y1 f1 hgl
  generalize w2.setCell ⟨gc, 1, none⟩ (.slice A2 l.length c2) = W3 at *
  have gl' : g < w.heap.size := by rw [hgc]; exact gl
  have x2 := (C3.out.below.cell (p := ⟨g, 2, none⟩) gl').trans HX2.out
  go_upto_region 6 with (go_at_call 58; refine (cloneKp (Rd.of_own (own_next HOK.out C3.out.below)) HOK.out.1 (rowC_one kpC_one HRK.out) hkl).mono ?_; rintro e w4 ⟨v4, rfl, hown4, hb4⟩; obtain ⟨A3, c3, rfl, hc3⟩ := own_len hown4; have C4 := Lib.hid (C3.out.next hb4); have HO4 := Lib.hid (own_next (HO3.out) hb4); have HK4 := Lib.hid (own_mono hown4 (show gc + 1 ≤ W3.heap.size from hg3)); have y2 := C4.out.blk.cell 2; have f2 := C4.out.blk.frozen 2; (simp only [List.getElem?_toArray, List.getElem?_cons_zero, List.getElem?_cons_succ] at y2 f2); clear hown4 hb4)
  have C5 : Hid (Cl w (w4.setCell ⟨gc, 2, none⟩ (.slice A3 (keptS s0 l).length c3)) gc #[.pointer (some ⟨B, 0, none⟩), .slice A2 l.length c2, .slice A3 (keptS s0 l).length c3, .pointer pl, .map (some bw), .map (some br)]) := Lib.hid (C4.out.set_ 2 (.slice A3 (keptS s0 l).length c3))
  have HO5 := Lib.hid (own_off HO4.out (Nat.lt_succ_self gc) 2 (.slice A3 (keptS s0 l).length c3))
  have HK5 := Lib.hid (own_off HK4.out (Nat.lt_succ_self gc) 2 (.slice A3 (keptS s0 l).length c3))
  have hg5 : gc < (w4.setCell ⟨gc, 2, none⟩ (.slice A3 (keptS s0 l).length c3)).heap.size := C5.out.blk.lt
  clear x2 y2 f2 hg3
  generalize w4.setCell ⟨gc, 2, none⟩ (.slice A3 (keptS s0 l).length c3) = W5 at *
  obtain ⟨_, ents, hmw, hpw, hew, hcw⟩ := IV.out.wr
  obtain ⟨_, entr, hmr, hpr, her, hcr⟩ := IV.out.rd
  have HPW := Lib.hid hpw
  have HEW := Lib.hid hew
  have HCW := Lib.hid hcw
  have HMW := Lib.hid hmw
  have HPR := Lib.hid hpr
  have HER := Lib.hid her
  have HCR := Lib.hid hcr
  have HMR := Lib.hid hmr
  have hln := MapAt.len_ (hmw.next C5.out.below) Tryz.underlying89
  have hmk := fun w' => make_hint w' Tryz.underlying89 ents.length
  have x4 := (C5.out.below.cell (p := ⟨g, 4, none⟩) gl').trans HX4.out
  have C6 := Lib.hid (C5.out.next ((Below.refl W5.heap.size W5).alloc (Nat.le_refl _) (.map #[] 0)))
  have y4 := C6.out.blk.cell 4
  have f4 := C6.out.blk.frozen 4
  simp only [List.getElem?_toArray, List.getElem?_cons_zero, List.getElem?_cons_succ] at y4 f4
  clear hmw hpw hew hcw hmr hpr her hcr
  go_upto_region 7 with (fail)
  have hbn : (W5.setCell ⟨gc, 4, none⟩ (.map (some W5.heap.size))).heap.size = W5.heap.size := by simp
  have C6p : Cl w (W5.setCell ⟨gc, 4, none⟩ (.map (some W5.heap.size))) gc #[.pointer (some ⟨B, 0, none⟩), .slice A2 l.length c2, .slice A3 (keptS s0 l).length c3, .pointer pl, .map (some W5.heap.size), .map (some br)] := C5.out.set_ 4 (.map (some W5.heap.size))
  have C6a := Lib.hid (C6p.next ((Below.refl _ _).alloc (Nat.le_refl _) (.map #[] 0)))
  have HM6a := Lib.hid (MapRows.new (e := 44) (s := 3) (f := veC) (W5.setCell ⟨gc, 4, none⟩ (.map (some W5.heap.size))) (fun i => gc < i) (by rw [hbn]; exact hg5))
  rw [hbn] at HM6a
  have HO6 := Lib.hid (own_next (own_off HO5.out (Nat.lt_succ_self gc) 4 (.map (some W5.heap.size))) ((Below.refl _ _).alloc (Nat.le_refl _) (.map #[] 0)))
  have HK6 := Lib.hid (own_next (own_off HK5.out (Nat.lt_succ_self gc) 4 (.map (some W5.heap.size))) ((Below.refl _ _).alloc (Nat.le_refl _) (.map #[] 0)))
  have hsz6 : W5.heap.size < ((W5.setCell ⟨gc, 4, none⟩ (.map (some W5.heap.size))).alloc (.map #[] 0)).heap.size := by simp
  have HBNGa : Hid (w.heap.size ≤ W5.heap.size) := Lib.hid C5.out.below.size
  clear y4 f4 hln hmk x4 C6p hbn
  generalize ((W5.setCell ⟨gc, 4, none⟩ (.map (some W5.heap.size))).alloc (.map #[] 0)) = W6a at *
  obtain ⟨bn, hbn⟩ : ∃ bn, W5.heap.size = bn := ⟨_, rfl⟩
  rw [hbn] at C6a HM6a HBNGa hg5 hsz6 ⊢
  have HBNLa := Lib.hid hg5
  have HGCRa : Hid (gc < W6a.heap.size) := Lib.hid (Nat.lt_trans hg5 hsz6)
  have x4 := (C6a.out.below.cell (p := ⟨g, 4, none⟩) gl').trans HX4.out
  clear hbn hg5 hsz6
  go_wp2_with (at_range; refine wpList_range_nm _ rfl _ _ rfl Tryz.underlying89 bw ents rfl (HMW.out.next C6a.out.below) ?_; intro w7 hit7 hb7 hs7; have HIT7 := Lib.hid hit7; have HB7a := Lib.hid hb7; clear hit7 hb7 hs7)
  try go_frame
  have C7a := Lib.hid (C6a.out.next HB7a.out)
  have HM7a := Lib.hid (HM6a.out.next HB7a.out)
  have hrge : w.heap.size ≤ W6a.heap.size := C6a.out.below.size
  have HRGEa := Lib.hid hrge
  obtain ⟨ra, hra⟩ : ∃ r, W6a.heap.size = r := ⟨_, rfl⟩
  rw [hra] at HIT7 HRGEa HGCRa ⊢
  have H0 : Hid (CopRel 44 3 veC (fun n => vers n 0 l) ents bw bn ra gc w7 w7) := Lib.hid (cop_start (ew := []) HIT7.out HPW.out HM7a.out (Chg.refl _ _ _))
  have HMBa : Hid (∃ es c, w7.heap[bn]? = some (.map es c)) := Lib.hid (by obtain ⟨_, _, ⟨es, c, hb, _⟩, _⟩ := HM7a.out; exact ⟨es, c, hb⟩)
  have HMIa : Hid (∃ a b c d, w7.heap[ra]? = some (.mapIter a b c d)) := Lib.hid (by obtain ⟨_, _, _, _, _, _, _, _, hr, _⟩ := HIT7.out; exact ⟨_, _, _, _, hr⟩)
  clear x4 hrge HIT7 hra
  obtain ⟨w7a, hw7a⟩ : ∃ W, w7 = W := ⟨_, rfl⟩
  rw [hw7a] at H0 HB7a C7a HM7a HMBa HMIa ⊢
  clear hw7a
  go_loopw [] (fun wr => CopRel 44 3 veC (fun n => vers n 0 l) ents bw bn ra gc w7a wr) (fun wr => wr.rangeLeft bw ra)
  case atStart => exact H0.out
  case round =>
    clear H0
    obtain ⟨seen, left, hit, hall, hno, hnd, hmm, hcc⟩ := hrel
    have HIT := Lib.hid hit
    have HALL := Lib.hid hall
    have HNO := Lib.hid hno
    have HND := Lib.hid hnd
    have HMM := Lib.hid hmm
    have HCC := Lib.hid hcc
    have HBR := Lib.hid (chg_below hcc C7a.out.below HBNGa.out HRGEa.out)
    have HBSN : Hid (bw ≠ bn) := Lib.hid (by have := HMW.out.lt; have := HBNGa.out; omega)
    have CRa : Hid (Cl w wr gc #[.pointer (some ⟨B, 0, none⟩), .slice A2 l.length c2, .slice A3 (keptS s0 l).length c3, .pointer pl, .map (some bn), .map (some br)]) := Lib.hid ⟨HBR.out, by
      have hb := C7a.out.blk
      have h1 := hcc.block gc hb.lt (by have := HBNLa.out; omega) (fun e1 => by injection e1 with e1; have := HGCRa.out; omega)
      unfold Blk at hb ⊢
      rw [h1]; exact hb, C7a.out.ge⟩
    clear hit hall hno hnd hmm hcc
    go_wp2_with (at_next; refine wpList_next_nm _ rfl _ rfl bw ra ents left rfl HIT.out ?_ ?_)
    · intro hleft
      have HMD := Lib.hid (cop_done (by rw [← hleft]; exact HALL.out) HMM.out HCW.out)
      have HO15 := Lib.hid (own_chg (own_next HO6.out HB7a.out) HCC.out HMBa.out HMIa.out)
      have HK15 := Lib.hid (own_chg (own_next HK6.out HB7a.out) HCC.out HMBa.out HMIa.out)
      clear hleft
      have x5 := (CRa.out.below.cell (p := ⟨g, 5, none⟩) gl').trans HX5.out
      have hln := MapAt.len_ (HMR.out.next CRa.out.below) Tryz.underlying90
      have hmk := fun w' => make_hint w' Tryz.underlying90 entr.length
      have y5 := CRa.out.blk.cell 5
      have f5 := CRa.out.blk.frozen 5
      have C16 := Lib.hid (CRa.out.next ((Below.refl wr.heap.size wr).alloc (Nat.le_refl _) (.map #[] 0)))
      have y5' := C16.out.blk.cell 5
      have f5' := C16.out.blk.frozen 5
      simp only [List.getElem?_toArray, List.getElem?_cons_zero, List.getElem?_cons_succ] at y5 y5'
      have hgcr : gc < wr.heap.size := CRa.out.blk.lt
      go_upto_region 12 with (fail)
      have hbm : (wr.setCell ⟨gc, 5, none⟩ (.map (some wr.heap.size))).heap.size = wr.heap.size := by simp
      have C6p : Cl w (wr.setCell ⟨gc, 5, none⟩ (.map (some wr.heap.size))) gc #[.pointer (some ⟨B, 0, none⟩), .slice A2 l.length c2, .slice A3 (keptS s0 l).length c3, .pointer pl, .map (some bn), .map (some wr.heap.size)] := CRa.out.set_ 5 (.map (some wr.heap.size))
      have C6b := Lib.hid (C6p.next ((Below.refl _ _).alloc (Nat.le_refl _) (.map #[] 0)))
      have HM6b := Lib.hid (MapRows.new (e := 3) (s := 1) (f := inC) (wr.setCell ⟨gc, 5, none⟩ (.map (some wr.heap.size))) (fun i => gc < i) (by rw [hbm]; exact hgcr))
      rw [hbm] at HM6b
      have HO16 := Lib.hid (own_next (own_off HO15.out (Nat.lt_succ_self gc) 5 (.map (some wr.heap.size))) ((Below.refl _ _).alloc (Nat.le_refl _) (.map #[] 0)))
      have HK16 := Lib.hid (own_next (own_off HK15.out (Nat.lt_succ_self gc) 5 (.map (some wr.heap.size))) ((Below.refl _ _).alloc (Nat.le_refl _) (.map #[] 0)))
      have HMD6 := Lib.hid (MapRows.next (MapRows.off HMD.out 5 (.map (some wr.heap.size))) ((Below.refl _ _).alloc (Nat.le_refl _) (.map #[] 0)))
      have hsz6 : wr.heap.size < ((wr.setCell ⟨gc, 5, none⟩ (.map (some wr.heap.size))).alloc (.map #[] 0)).heap.size := by simp
      have HBNGb : Hid (w.heap.size ≤ wr.heap.size) := Lib.hid CRa.out.below.size
      have HNEM : Hid (bn ≠ wr.heap.size) := Lib.hid (by obtain ⟨_, _, hat, _⟩ := HMD.out; have := hat.lt; omega)
      clear y5 f5 y5' f5' hln hmk x5 C6p hbm C16
      generalize ((wr.setCell ⟨gc, 5, none⟩ (.map (some wr.heap.size))).alloc (.map #[] 0)) = W6b at *
      obtain ⟨bm, hbm⟩ : ∃ bm, wr.heap.size = bm := ⟨_, rfl⟩
      rw [hbm] at C6b HM6b HBNGb hgcr hsz6 HNEM ⊢
      have HBNLb := Lib.hid hgcr
      have HGCRb : Hid (gc < W6b.heap.size) := Lib.hid (Nat.lt_trans hgcr hsz6)
      have x5 := (C6b.out.below.cell (p := ⟨g, 5, none⟩) gl').trans HX5.out
      obtain ⟨wq, hwq⟩ : ∃ W : World, W = W6b := ⟨_, rfl⟩
      clear hbm hgcr hsz6 hwq wq HIT HALL HNO HND HMM HCC HBR HBSN
      go_wp2_with (at_range; refine wpList_range_nm _ rfl _ _ rfl Tryz.underlying90 br entr rfl (HMR.out.next C6b.out.below) ?_; intro w7 hit7 hb7 hs7; have HIT7 := Lib.hid hit7; have HB7b := Lib.hid hb7; clear hit7 hb7 hs7)
      try go_frame
      have C7b := Lib.hid (C6b.out.next HB7b.out)
      have HM7b := Lib.hid (HM6b.out.next HB7b.out); have HO17 := Lib.hid (own_next HO16.out HB7b.out); have HK17 := Lib.hid (own_next HK16.out HB7b.out); have HMD7 := Lib.hid (MapRows.next HMD6.out HB7b.out)
      have hrge : w.heap.size ≤ W6b.heap.size := C6b.out.below.size
      have HRGEb := Lib.hid hrge
      obtain ⟨rb, hrb⟩ : ∃ r, W6b.heap.size = r := ⟨_, rfl⟩
      rw [hrb] at HIT7 HRGEb HGCRb ⊢
      have H0 : Hid (CopRel 3 1 inC (fun n => rdrs n 0 l) entr br bm rb gc w7 w7) := Lib.hid (cop_start (ew := []) HIT7.out HPR.out HM7b.out (Chg.refl _ _ _))
      have HMBb : Hid (∃ es c, w7.heap[bm]? = some (.map es c)) := Lib.hid (by obtain ⟨_, _, ⟨es, c, hb, _⟩, _⟩ := HM7b.out; exact ⟨es, c, hb⟩)
      have HMIb : Hid (∃ a b c d, w7.heap[rb]? = some (.mapIter a b c d)) := Lib.hid (by obtain ⟨_, _, _, _, _, _, _, _, hr, _⟩ := HIT7.out; exact ⟨_, _, _, _, hr⟩)
      clear x5 hrge HIT7 hrb
      obtain ⟨w7b, hw7b⟩ : ∃ W, w7 = W := ⟨_, rfl⟩
      rw [hw7b] at HO17 HK17 HMD7 H0 HB7b C7b HM7b HMBb HMIb ⊢
      clear hw7b
      go_loopw [] (fun wr => CopRel 3 1 inC (fun n => rdrs n 0 l) entr br bm rb gc w7b wr) (fun wr => wr.rangeLeft br rb)
      case atStart => exact H0.out
      case round =>
        clear H0
        obtain ⟨seen, left, hit, hall, hno, hnd, hmm, hcc⟩ := hrel
        have HIT := Lib.hid hit
        have HALL := Lib.hid hall
        have HNO := Lib.hid hno
        have HND := Lib.hid hnd
        have HMM := Lib.hid hmm
        have HCC := Lib.hid hcc
        have HBR := Lib.hid (chg_below hcc C7b.out.below HBNGb.out HRGEb.out)
        have HBSN : Hid (br ≠ bm) := Lib.hid (by have := HMR.out.lt; have := HBNGb.out; omega)
        have CRb : Hid (Cl w wr gc #[.pointer (some ⟨B, 0, none⟩), .slice A2 l.length c2, .slice A3 (keptS s0 l).length c3, .pointer pl, .map (some bn), .map (some bm)]) := Lib.hid ⟨HBR.out, by
          have hb := C7b.out.blk
          have h1 := hcc.block gc hb.lt (by have := HBNLb.out; omega) (fun e1 => by injection e1 with e1; have := HGCRb.out; omega)
          unfold Blk at hb ⊢
          rw [h1]; exact hb, C7b.out.ge⟩
        clear hit hall hno hnd hmm hcc
        go_wp2_with (at_next; refine wpList_next_nm _ rfl _ rfl br rb entr left rfl HIT.out ?_ ?_)
        · intro hleft
          have HMN := Lib.hid (cop_done (by rw [← hleft]; exact HALL.out) HMM.out HCR.out)
          have HMW2 := Lib.hid (MapRows.chg HMD7.out HCC.out HMBb.out HMIb.out HNEM.out)
          have HO9 := Lib.hid (own_chg HO17.out HCC.out HMBb.out HMIb.out)
          have HK9 := Lib.hid (own_chg HK17.out HCC.out HMBb.out HMIb.out)
          clear hleft
          go_wp2_with fail
          go_ret
          have hge := CRb.out.ge
          refine ⟨gc, rfl, CRb.out.below, ⟨some ⟨B, 0, none⟩, .slice A2 l.length c2, .slice A3 (keptS s0 l).length c3, pl, bn, bm, VIn.bound (F := fun i => w.heap.size ≤ i) ?_⟩⟩
          exact ⟨CRb.out.blk, hge, IV.out.base.next CRb.out.below, IV.out.last.next CRb.out.below, ⟨usA, HRA.out.imp fun _ _ => NAc.next CRb.out.below, own_mono HO9.out (Nat.zero_le _)⟩, fun i hi => by have := own_ge HO9.out hi; omega,
            ⟨usK, HRK.out.imp fun _ _ h => StAt.next h CRb.out.below, own_mono HK9.out (Nat.zero_le _)⟩, fun i hi => by have := own_ge HK9.out hi; omega,
            HMW2.out.keep (fun _ _ _ _ => rfl) (fun _ _ _ _ => rfl) (fun i _ h => by omega), HMN.out.keep (fun _ _ _ _ => rfl) (fun _ _ _ _ => rfl) (fun i _ h => by omega), HNEM.out⟩
        · intro n v left' w8 hpm hpe hit8 hg8 hs8 hen8
          have HPM := Lib.hid hpm
          have HPE := Lib.hid hpe
          have HIT8 := Lib.hid hit8
          have HG8 := Lib.hid hg8
          simp only [nmV, nmA] at hen8 ⊢
          have hgr : gc < wr.heap.size := CRb.out.blk.lt
          have hgc8 : gc < w8.heap.size := by rw [hs8]; exact hgr
          have B8 := Lib.hid (CRb.out.blk.grown hg8 (fun e1 => by injection e1 with e1; have := HGCRb.out; omega))
          have HB8 : Hid (Below w.heap.size w w8) := Lib.hid (HBR.out.trans ⟨hg8.os, hg8.tape, hg8.output, hg8.size, fun i hi => hg8.block i (Nat.lt_of_lt_of_le hi HBR.out.size) (fun e1 => by injection e1 with e1; have := HRGEb.out; omega)⟩)
          have hb89 := (Below.refl w8.heap.size w8).alloc (Nat.le_refl _) (.cells #[.int .i64 n.kind, .string (bs n.owner), .int .i64 n.num, .int .i64 n.idx, .string (bs n.text)] 40)
          have HB89 := Lib.hid hb89
          have HBW := Lib.hid (HB8.out.trans (hb89.mono HB8.out.size))
          have zb := Blk.new w8 40 #[.int .i64 n.kind, .string (bs n.owner), .int .i64 n.num, .int .i64 n.idx, .string (bs n.text)]
          have z4 := (hb89.cell (p := ⟨gc, 5, none⟩) hgc8).trans (B8.out.cell 5)
          have hgc9 : gc < (w8.alloc (.cells #[.int .i64 n.kind, .string (bs n.owner), .int .i64 n.num, .int .i64 n.idx, .string (bs n.text)] 40)).heap.size := Nat.lt_of_lt_of_le hgc8 hb89.size
          have hkb : w8.heap.size < (w8.alloc (.cells #[.int .i64 n.kind, .string (bs n.owner), .int .i64 n.num, .int .i64 n.idx, .string (bs n.text)] 40)).heap.size := by simp
          have q0 := zb.cell 0
          have q1 := zb.cell 1
          have q2 := zb.cell 2
          have q3 := zb.cell 3
          have q4 := zb.cell 4
          simp only [List.getElem?_toArray, List.getElem?_cons_zero, List.getElem?_cons_succ] at z4 q0 q1 q2 q3 q4
          clear hpm hpe hit8 hg8 hs8 hb89 zb hgr
          go_upto_region 15 with (fail)
          clear hen8
          generalize w8.alloc (.cells #[.int .i64 n.kind, .string (bs n.owner), .int .i64 n.num, .int .i64 n.idx, .string (bs n.text)] 40) = w9 at *
          obtain ⟨kb, hkbe⟩ : ∃ kb, w8.heap.size = kb := ⟨_, rfl⟩
          rw [hkbe] at q0 q1 q2 q3 q4 hkb ⊢
          refine wp_region_noPanic ?_
          refine wp_region_last (S := (fun (w' : World) => w'.cell? ⟨gc, 5, none⟩ = some (.map (some bm)) ∧ w'.cell? ⟨kb, 0, none⟩ = some (.int .i64 n.kind) ∧ w'.cell? ⟨kb, 1, none⟩ = some (.string (bs n.owner)) ∧ w'.cell? ⟨kb, 2, none⟩ = some (.int .i64 n.num) ∧ w'.cell? ⟨kb, 3, none⟩ = some (.int .i64 n.idx) ∧ w'.cell? ⟨kb, 4, none⟩ = some (.string (bs n.text)))) 5 5 rfl (by kernel_rfl) (by kernel_rfl) ?_ (fun hHeld => ?_)
          · exact ⟨z4, q0, q1, q2, q3, q4⟩
          refine wpAnyH_take (i := 0) (v := ?_) rfl (by kernel_rfl) (by kernel_rfl) (by kernel_rfl) (fun _ _ _ h => h) (Or.inl ⟨by kernel_rfl, ?_⟩) hHeld ?_
          rotate_left
          · (intro w hSw; (try dsimp only at hSw); go_simp; try with_reducible rfl)
          try simp only [Act.put, List.setIfInBounds_toArray, List.set_cons_zero, List.set_cons_succ]
          refine wpAnyH_take (i := 1) (v := ?_) rfl (by kernel_rfl) (by kernel_rfl) (by kernel_rfl) (fun _ _ _ h => h) (Or.inl ⟨by kernel_rfl, ?_⟩) hHeld ?_
          rotate_left
          · (intro w hSw; (try dsimp only at hSw); go_simp; try with_reducible rfl)
          try simp only [Act.put, List.setIfInBounds_toArray, List.set_cons_zero, List.set_cons_succ]
          refine wpAnyH_take (i := 2) (v := ?_) rfl (by kernel_rfl) (by kernel_rfl) (by kernel_rfl) (fun _ _ _ h => h) (Or.inl ⟨by kernel_rfl, ?_⟩) hHeld ?_
          rotate_left
          · (intro w hSw; (try dsimp only at hSw); go_simp; try with_reducible rfl)
          try simp only [Act.put, List.setIfInBounds_toArray, List.set_cons_zero, List.set_cons_succ]
          refine wpAnyH_take (i := 3) (v := ?_) rfl (by kernel_rfl) (by kernel_rfl) (by kernel_rfl) (fun _ _ _ h => h) (Or.inl ⟨by kernel_rfl, ?_⟩) hHeld ?_
          rotate_left
          · (intro w hSw; (try dsimp only at hSw); go_simp; try with_reducible rfl)
          try simp only [Act.put, List.setIfInBounds_toArray, List.set_cons_zero, List.set_cons_succ]
          refine wpAnyH_ready (rs := [4]) (by kernel_rfl) (by simp) ?_
          refine AllReadyH.cons rfl (fun K hK => ?_) AllReadyH.nil
          go_simp
          refine (cloneIn (n := (rdrs n 0 l).length) (xs := (rdrs n 0 l).flatMap inC) (Rd.of_own (own_next (HER.out (n, v) HPE.out).1.1 HBW.out.drew)) (HER.out (n, v) HPE.out).1.1.1 inC_one (Nat.le_trans (HVO.out.rlen n) (by omega))).mono ?_; rintro e w10 ⟨v10, rfl, hown10, hb10⟩; have HB10 := Lib.hid ((Below.refl w9.heap.size w9).drew.trans hb10); have hb8 : Below w8.heap.size w8 w10 := HB89.out.trans (HB10.out.mono HB89.out.size); obtain ⟨ents2, hat2, hput2⟩ := cop_step (p := (n, v)) HIT.out HALL.out HNO.out HND.out HMM.out HCC.out HPM.out HIT8.out HG8.out hgc8 HBSN.out hb8 (own_mono hown10 HB89.out.size) (HER.out (n, v) HPE.out).2; have HAT2 := Lib.hid hat2; have HPUT := Lib.hid hput2; have HW10 := Lib.hid hown10; clear hown10 hb10 hb8 hat2 hput2
          try (go_wp2_with fail)
          refine hK.out _ _ ?_ (fun hNew => ?_)
          · exact ⟨(HB10.out.cell (p := ⟨gc, 5, none⟩) hgc9).trans z4, (HB10.out.cell (p := ⟨kb, 0, none⟩) hkb).trans q0, (HB10.out.cell (p := ⟨kb, 1, none⟩) hkb).trans q1, (HB10.out.cell (p := ⟨kb, 2, none⟩) hkb).trans q2, (HB10.out.cell (p := ⟨kb, 3, none⟩) hkb).trans q3, (HB10.out.cell (p := ⟨kb, 4, none⟩) hkb).trans q4⟩
          clear hK K hHeld
          have hHeld := hNew
          clear hNew
          try simp only [Act.put, List.setIfInBounds_toArray, List.set_cons_zero, List.set_cons_succ]
          refine wpAnyH_done (by kernel_rfl) ?_ _
          refine lastQ_step rfl (fun K hK => ?_)
          clear hHeld
          refine step_put_nm _ (by rfl) _ _ _ _ (by rfl) Tryz.underlying90 bm ents2 (by rfl) HAT2.out n (by rfl) v10 (by rfl) ?_
          intro w11 hm11 hg11
          have HM11 := Lib.hid hm11
          have HG11 := Lib.hid hg11
          clear hm11 hg11
          refine hK _ _ ?_
          clear hK K
          try simp only [List.getElem_toArray, List.getElem_cons_zero, List.getElem_cons_succ, Act.put, List.setIfInBounds_toArray, List.set_cons_zero, List.set_cons_succ]
          refine NoPanic.normal ?_
          clear z4 q0 q1 q2 q3 q4
          obtain ⟨hrelN, hlt⟩ := HPUT.out w11 HM11.out HG11.out
          have HRN := Lib.hid hrelN
          have HLT := Lib.hid hlt
          clear hrelN hlt
          go_wp2_with fail
          go_roundw
          case rel => exact HRN.out
          case measure => exact HLT.out
    · intro n v left' w8 hpm hpe hit8 hg8 hs8 hen8
      have HPM := Lib.hid hpm
      have HPE := Lib.hid hpe
      have HIT8 := Lib.hid hit8
      have HG8 := Lib.hid hg8
      simp only [nmV, nmA] at hen8 ⊢
      have hgr : gc < wr.heap.size := CRa.out.blk.lt
      have hgc8 : gc < w8.heap.size := by rw [hs8]; exact hgr
      have B8 := Lib.hid (CRa.out.blk.grown hg8 (fun e1 => by injection e1 with e1; have := HGCRa.out; omega))
      have HB8 : Hid (Below w.heap.size w w8) := Lib.hid (HBR.out.trans ⟨hg8.os, hg8.tape, hg8.output, hg8.size, fun i hi => hg8.block i (Nat.lt_of_lt_of_le hi HBR.out.size) (fun e1 => by injection e1 with e1; have := HRGEa.out; omega)⟩)
      have hb89 := (Below.refl w8.heap.size w8).alloc (Nat.le_refl _) (.cells #[.int .i64 n.kind, .string (bs n.owner), .int .i64 n.num, .int .i64 n.idx, .string (bs n.text)] 40)
      have HB89 := Lib.hid hb89
      have HBW := Lib.hid (HB8.out.trans (hb89.mono HB8.out.size))
      have zb := Blk.new w8 40 #[.int .i64 n.kind, .string (bs n.owner), .int .i64 n.num, .int .i64 n.idx, .string (bs n.text)]
      have z4 := (hb89.cell (p := ⟨gc, 4, none⟩) hgc8).trans (B8.out.cell 4)
      have hgc9 : gc < (w8.alloc (.cells #[.int .i64 n.kind, .string (bs n.owner), .int .i64 n.num, .int .i64 n.idx, .string (bs n.text)] 40)).heap.size := Nat.lt_of_lt_of_le hgc8 hb89.size
      have hkb : w8.heap.size < (w8.alloc (.cells #[.int .i64 n.kind, .string (bs n.owner), .int .i64 n.num, .int .i64 n.idx, .string (bs n.text)] 40)).heap.size := by simp
      have q0 := zb.cell 0
      have q1 := zb.cell 1
      have q2 := zb.cell 2
      have q3 := zb.cell 3
      have q4 := zb.cell 4
      simp only [List.getElem?_toArray, List.getElem?_cons_zero, List.getElem?_cons_succ] at z4 q0 q1 q2 q3 q4
      clear hpm hpe hit8 hg8 hs8 hb89 zb hgr
      go_upto_region 10 with (fail)
      clear hen8
      generalize w8.alloc (.cells #[.int .i64 n.kind, .string (bs n.owner), .int .i64 n.num, .int .i64 n.idx, .string (bs n.text)] 40) = w9 at *
      obtain ⟨kb, hkbe⟩ : ∃ kb, w8.heap.size = kb := ⟨_, rfl⟩
      rw [hkbe] at q0 q1 q2 q3 q4 hkb ⊢
      refine wp_region_noPanic ?_
      refine wp_region_last (S := (fun (w' : World) => w'.cell? ⟨gc, 4, none⟩ = some (.map (some bn)) ∧ w'.cell? ⟨kb, 0, none⟩ = some (.int .i64 n.kind) ∧ w'.cell? ⟨kb, 1, none⟩ = some (.string (bs n.owner)) ∧ w'.cell? ⟨kb, 2, none⟩ = some (.int .i64 n.num) ∧ w'.cell? ⟨kb, 3, none⟩ = some (.int .i64 n.idx) ∧ w'.cell? ⟨kb, 4, none⟩ = some (.string (bs n.text)))) 5 5 rfl (by kernel_rfl) (by kernel_rfl) ?_ (fun hHeld => ?_)
      · exact ⟨z4, q0, q1, q2, q3, q4⟩
      refine wpAnyH_take (i := 0) (v := ?_) rfl (by kernel_rfl) (by kernel_rfl) (by kernel_rfl) (fun _ _ _ h => h) (Or.inl ⟨by kernel_rfl, ?_⟩) hHeld ?_
      rotate_left
      · (intro w hSw; (try dsimp only at hSw); go_simp; try with_reducible rfl)
      try simp only [Act.put, List.setIfInBounds_toArray, List.set_cons_zero, List.set_cons_succ]
      refine wpAnyH_take (i := 1) (v := ?_) rfl (by kernel_rfl) (by kernel_rfl) (by kernel_rfl) (fun _ _ _ h => h) (Or.inl ⟨by kernel_rfl, ?_⟩) hHeld ?_
      rotate_left
      · (intro w hSw; (try dsimp only at hSw); go_simp; try with_reducible rfl)
      try simp only [Act.put, List.setIfInBounds_toArray, List.set_cons_zero, List.set_cons_succ]
      refine wpAnyH_take (i := 2) (v := ?_) rfl (by kernel_rfl) (by kernel_rfl) (by kernel_rfl) (fun _ _ _ h => h) (Or.inl ⟨by kernel_rfl, ?_⟩) hHeld ?_
      rotate_left
      · (intro w hSw; (try dsimp only at hSw); go_simp; try with_reducible rfl)
      try simp only [Act.put, List.setIfInBounds_toArray, List.set_cons_zero, List.set_cons_succ]
      refine wpAnyH_take (i := 3) (v := ?_) rfl (by kernel_rfl) (by kernel_rfl) (by kernel_rfl) (fun _ _ _ h => h) (Or.inl ⟨by kernel_rfl, ?_⟩) hHeld ?_
      rotate_left
      · (intro w hSw; (try dsimp only at hSw); go_simp; try with_reducible rfl)
      try simp only [Act.put, List.setIfInBounds_toArray, List.set_cons_zero, List.set_cons_succ]
      refine wpAnyH_ready (rs := [4]) (by kernel_rfl) (by simp) ?_
      refine AllReadyH.cons rfl (fun K hK => ?_) AllReadyH.nil
      go_simp
      refine (cloneVe (n := (vers n 0 l).length) (xs := (vers n 0 l).flatMap veC) (Rd.of_own (own_next (HEW.out (n, v) HPE.out).1.1 HBW.out.drew)) (HEW.out (n, v) HPE.out).1.1.1 veC_one (Nat.le_trans (HVO.out.vlen n) (by omega))).mono ?_; rintro e w10 ⟨v10, rfl, hown10, hb10⟩; have HB10 := Lib.hid ((Below.refl w9.heap.size w9).drew.trans hb10); have hb8 : Below w8.heap.size w8 w10 := HB89.out.trans (HB10.out.mono HB89.out.size); obtain ⟨ents2, hat2, hput2⟩ := cop_step (p := (n, v)) HIT.out HALL.out HNO.out HND.out HMM.out HCC.out HPM.out HIT8.out HG8.out hgc8 HBSN.out hb8 (own_mono hown10 HB89.out.size) (HEW.out (n, v) HPE.out).2; have HAT2 := Lib.hid hat2; have HPUT := Lib.hid hput2; have HW10 := Lib.hid hown10; clear hown10 hb10 hb8 hat2 hput2
      try (go_wp2_with fail)
      refine hK.out _ _ ?_ (fun hNew => ?_)
      · exact ⟨(HB10.out.cell (p := ⟨gc, 4, none⟩) hgc9).trans z4, (HB10.out.cell (p := ⟨kb, 0, none⟩) hkb).trans q0, (HB10.out.cell (p := ⟨kb, 1, none⟩) hkb).trans q1, (HB10.out.cell (p := ⟨kb, 2, none⟩) hkb).trans q2, (HB10.out.cell (p := ⟨kb, 3, none⟩) hkb).trans q3, (HB10.out.cell (p := ⟨kb, 4, none⟩) hkb).trans q4⟩
      clear hK K hHeld
      have hHeld := hNew
      clear hNew
      try simp only [Act.put, List.setIfInBounds_toArray, List.set_cons_zero, List.set_cons_succ]
      refine wpAnyH_done (by kernel_rfl) ?_ _
      refine lastQ_step rfl (fun K hK => ?_)
      clear hHeld
      refine step_put_nm _ (by rfl) _ _ _ _ (by rfl) Tryz.underlying89 bn ents2 (by rfl) HAT2.out n (by rfl) v10 (by rfl) ?_
      intro w11 hm11 hg11
      have HM11 := Lib.hid hm11
      have HG11 := Lib.hid hg11
      clear hm11 hg11
      refine hK _ _ ?_
      clear hK K
      try simp only [List.getElem_toArray, List.getElem_cons_zero, List.getElem_cons_succ, Act.put, List.setIfInBounds_toArray, List.set_cons_zero, List.set_cons_succ]
      refine NoPanic.normal ?_
      clear z4 q0 q1 q2 q3 q4
      obtain ⟨hrelN, hlt⟩ := HPUT.out w11 HM11.out HG11.out
      have HRN := Lib.hid hrelN
      have HLT := Lib.hid hlt
      clear hrelN hlt
      go_wp2_with fail
      go_roundw
      case rel => exact HRN.out
      case measure => exact HLT.out
end Go.Proofs.YtobkmkplhbaepaaGreatDoor
