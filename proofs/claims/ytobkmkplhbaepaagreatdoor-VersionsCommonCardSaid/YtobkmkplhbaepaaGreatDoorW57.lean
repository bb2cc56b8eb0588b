/- Walks of layer 46: slices.Clone at the rows of Versions; maps of rows copied. -/
import Derived.Test.YtobkmkplhbaepaaGreatDoorGP
import Derived.Test.YtobkmkplhbaepaaGreatDoorW51
namespace Go.Proofs.YtobkmkplhbaepaaGreatDoor
open Go.RowKit Go.MapKept Go.ChangeMaps
set_option linter.unusedSimpArgs false
set_option linter.unusedVariables false
attribute [local go_sem ↓] Go.wp_at_zero Go.wp_at_succ
set_option maxRecDepth 100000 in
theorem cloneAc {w : World} {v : Value} {n : Nat} {xs : List Value} (h : Rd 61 w v n xs) (hl : xs.length = n * 6) (h1 : ∀ u ∈ xs, u.oneCell' = true) (hn : n ≤ 100000) : Calls Tryz.prog 57 #[v] w (CloP 61 6 n xs w) := by
  obtain ⟨i0, hi, hz0, hz1, hz2⟩ := info_parts infoAc
  obtain ⟨A, c, rfl, hc⟩ := h.form
  have H := Lib.hid h
  have HL := Lib.hid hl
  have H1 := Lib.hid h1
  cases A with
  | none =>
    obtain ⟨rfl, hx⟩ : n = 0 ∧ xs = [] := by
      obtain ⟨A', c', hv, _, _, h0 | ⟨b, o, cs, fr, hA, _⟩⟩ := h
      · exact h0
      · injection hv with hv; rw [hA] at hv; cases hv
    subst hx
    clear h hl h1
    have he := fun w : World => Lib.run_eql_slice_nil (P := Tryz.prog) (w := w) 29
    go_enter Tryz.func57, Tryz.ntmps57
    go_wp2
    go_ret
    exact ⟨_, rfl, World.ownsRow_nil _ _ _ _, Below.refl _ _⟩
  | some ad =>
    have HE := Lib.hid (own_empty w w.heap.size 61 6 (Nat.le_refl _))
    have HR := Lib.hid (H.out.next ((Below.refl w.heap.size w).alloc (Nat.le_refl _) (.cells #[] 61)))
    clear h hl h1
    have he := Lib.run_eql_slice_nil (P := Tryz.prog) w 29 61 (some ad) n c 0 0 Tryz.underlying29
    simp only [Option.isNone] at he
    go_enter Tryz.func57, Tryz.ntmps57
    go_wp2_with (at_builtin; refine wpList_append_rd _ rfl _ _ _ rfl w.heap.size 61 i0 _ 6 88 Tryz.underlying29 hi hz0 hz1 hz2 rfl (by omega) _ 0 [] (by rfl) HE.out _ n xs (by rfl) HR.out HL.out H1.out (by unfold maxLen; omega) (by omega) (by simp) ?_; intro ao cap w2 hown2 hgrow2; simp only [Nat.zero_add, List.nil_append] at hown2; have HG := Lib.hid hgrow2; have HO := Lib.hid hown2; clear hown2 hgrow2)
    go_ret
    exact ⟨_, rfl, by simpa using HO.out, below_own ((Below.refl w.heap.size w).alloc (Nat.le_refl _) (.cells #[] 61)) HE.out HG.out (Nat.le_refl _) (by simp)⟩
set_option maxRecDepth 100000 in
theorem cloneKp {w : World} {v : Value} {n : Nat} {xs : List Value} (h : Rd 27 w v n xs) (hl : xs.length = n * 1) (h1 : ∀ u ∈ xs, u.oneCell' = true) (hn : n ≤ 100000) : Calls Tryz.prog 58 #[v] w (CloP 27 1 n xs w) := by
  obtain ⟨i0, hi, hz0, hz1, hz2⟩ := info_parts infoKp
  obtain ⟨A, c, rfl, hc⟩ := h.form
  have H := Lib.hid h
  have HL := Lib.hid hl
  have H1 := Lib.hid h1
  cases A with
  | none =>
    obtain ⟨rfl, hx⟩ : n = 0 ∧ xs = [] := by
      obtain ⟨A', c', hv, _, _, h0 | ⟨b, o, cs, fr, hA, _⟩⟩ := h
      · exact h0
      · injection hv with hv; rw [hA] at hv; cases hv
    subst hx
    clear h hl h1
    have he := fun w : World => Lib.run_eql_slice_nil (P := Tryz.prog) (w := w) 91
    go_enter Tryz.func58, Tryz.ntmps58
    go_wp2
    go_ret
    exact ⟨_, rfl, World.ownsRow_nil _ _ _ _, Below.refl _ _⟩
  | some ad =>
    have HE := Lib.hid (own_empty w w.heap.size 27 1 (Nat.le_refl _))
    have HR := Lib.hid (H.out.next ((Below.refl w.heap.size w).alloc (Nat.le_refl _) (.cells #[] 27)))
    clear h hl h1
    have he := Lib.run_eql_slice_nil (P := Tryz.prog) w 91 27 (some ad) n c 0 0 Tryz.underlying91
    simp only [Option.isNone] at he
    go_enter Tryz.func58, Tryz.ntmps58
    go_wp2_with (at_builtin; refine wpList_append_rd _ rfl _ _ _ rfl w.heap.size 27 i0 _ 1 8 Tryz.underlying91 hi hz0 hz1 hz2 rfl (by omega) _ 0 [] (by rfl) HE.out _ n xs (by rfl) HR.out HL.out H1.out (by unfold maxLen; omega) (by omega) (by simp) ?_; intro ao cap w2 hown2 hgrow2; simp only [Nat.zero_add, List.nil_append] at hown2; have HG := Lib.hid hgrow2; have HO := Lib.hid hown2; clear hown2 hgrow2)
    go_ret
    exact ⟨_, rfl, by simpa using HO.out, below_own ((Below.refl w.heap.size w).alloc (Nat.le_refl _) (.cells #[] 27)) HE.out HG.out (Nat.le_refl _) (by simp)⟩
set_option maxRecDepth 100000 in
theorem cloneVe {w : World} {v : Value} {n : Nat} {xs : List Value} (h : Rd 44 w v n xs) (hl : xs.length = n * 3) (h1 : ∀ u ∈ xs, u.oneCell' = true) (hn : n ≤ 100000) : Calls Tryz.prog 59 #[v] w (CloP 44 3 n xs w) := by
  obtain ⟨i0, hi, hz0, hz1, hz2⟩ := info_parts infoVe
  obtain ⟨A, c, rfl, hc⟩ := h.form
  have H := Lib.hid h
  have HL := Lib.hid hl
  have H1 := Lib.hid h1
  cases A with
  | none =>
    obtain ⟨rfl, hx⟩ : n = 0 ∧ xs = [] := by
      obtain ⟨A', c', hv, _, _, h0 | ⟨b, o, cs, fr, hA, _⟩⟩ := h
      · exact h0
      · injection hv with hv; rw [hA] at hv; cases hv
    subst hx
    clear h hl h1
    have he := fun w : World => Lib.run_eql_slice_nil (P := Tryz.prog) (w := w) 41
    go_enter Tryz.func59, Tryz.ntmps59
    go_wp2
    go_ret
    exact ⟨_, rfl, World.ownsRow_nil _ _ _ _, Below.refl _ _⟩
  | some ad =>
    have HE := Lib.hid (own_empty w w.heap.size 44 3 (Nat.le_refl _))
    have HR := Lib.hid (H.out.next ((Below.refl w.heap.size w).alloc (Nat.le_refl _) (.cells #[] 44)))
    clear h hl h1
    have he := Lib.run_eql_slice_nil (P := Tryz.prog) w 41 44 (some ad) n c 0 0 Tryz.underlying41
    simp only [Option.isNone] at he
    go_enter Tryz.func59, Tryz.ntmps59
    go_wp2_with (at_builtin; refine wpList_append_rd _ rfl _ _ _ rfl w.heap.size 44 i0 _ 3 32 Tryz.underlying41 hi hz0 hz1 hz2 rfl (by omega) _ 0 [] (by rfl) HE.out _ n xs (by rfl) HR.out HL.out H1.out (by unfold maxLen; omega) (by omega) (by simp) ?_; intro ao cap w2 hown2 hgrow2; simp only [Nat.zero_add, List.nil_append] at hown2; have HG := Lib.hid hgrow2; have HO := Lib.hid hown2; clear hown2 hgrow2)
    go_ret
    exact ⟨_, rfl, by simpa using HO.out, below_own ((Below.refl w.heap.size w).alloc (Nat.le_refl _) (.cells #[] 44)) HE.out HG.out (Nat.le_refl _) (by simp)⟩
set_option maxRecDepth 100000 in
theorem cloneIn {w : World} {v : Value} {n : Nat} {xs : List Value} (h : Rd 3 w v n xs) (hl : xs.length = n * 1) (h1 : ∀ u ∈ xs, u.oneCell' = true) (hn : n ≤ 100000) : Calls Tryz.prog 60 #[v] w (CloP 3 1 n xs w) := by
  obtain ⟨i0, hi, hz0, hz1, hz2⟩ := info_parts infoIn
  obtain ⟨A, c, rfl, hc⟩ := h.form
  have H := Lib.hid h
  have HL := Lib.hid hl
  have H1 := Lib.hid h1
  cases A with
  | none =>
    obtain ⟨rfl, hx⟩ : n = 0 ∧ xs = [] := by
      obtain ⟨A', c', hv, _, _, h0 | ⟨b, o, cs, fr, hA, _⟩⟩ := h
      · exact h0
      · injection hv with hv; rw [hA] at hv; cases hv
    subst hx
    clear h hl h1
    have he := fun w : World => Lib.run_eql_slice_nil (P := Tryz.prog) (w := w) 77
    go_enter Tryz.func60, Tryz.ntmps60
    go_wp2
    go_ret
    exact ⟨_, rfl, World.ownsRow_nil _ _ _ _, Below.refl _ _⟩
  | some ad =>
    have HE := Lib.hid (own_empty w w.heap.size 3 1 (Nat.le_refl _))
    have HR := Lib.hid (H.out.next ((Below.refl w.heap.size w).alloc (Nat.le_refl _) (.cells #[] 3)))
    clear h hl h1
    have he := Lib.run_eql_slice_nil (P := Tryz.prog) w 77 3 (some ad) n c 0 0 Tryz.underlying77
    simp only [Option.isNone] at he
    go_enter Tryz.func60, Tryz.ntmps60
    go_wp2_with (at_builtin; refine wpList_append_rd _ rfl _ _ _ rfl w.heap.size 3 i0 _ 1 8 Tryz.underlying77 hi hz0 hz1 hz2 rfl (by omega) _ 0 [] (by rfl) HE.out _ n xs (by rfl) HR.out HL.out H1.out (by unfold maxLen; omega) (by omega) (by simp) ?_; intro ao cap w2 hown2 hgrow2; simp only [Nat.zero_add, List.nil_append] at hown2; have HG := Lib.hid hgrow2; have HO := Lib.hid hown2; clear hown2 hgrow2)
    go_ret
    exact ⟨_, rfl, by simpa using HO.out, below_own ((Below.refl w.heap.size w).alloc (Nat.le_refl _) (.cells #[] 3)) HE.out HG.out (Nat.le_refl _) (by simp)⟩
theorem own_mono {w : World} {base base' : Nat} {e : TypeId} {s : Nat} {v : Value} {n : Nat} {xs : List Value} (h : w.ownsRow base e s v n xs) (hb : base' ≤ base) : w.ownsRow base' e s v n xs := by
  obtain ⟨hl, h0 | ⟨g, cap, cur, hv, hg, hh, hr⟩⟩ := h
  · exact ⟨hl, .inl h0⟩
  · exact ⟨hl, .inr ⟨g, cap, cur, hv, Nat.le_trans hb hg, hh, hr⟩⟩
/-- A row put at a name that has none yet. -/
theorem MapRows.put_new {α : Type} {e : TypeId} {s : Nat} {f : α → List Value} {w w1 : World} {F : Nat → Prop} {b : Nat} {D : Nm → List α} (h : MapRows e s f w F b D) {n : Nm} (hD : D n = []) {xs : List α} (hx : xs ≠ []) {v : Value}
    (hb : Below w.heap.size w w1) (hown : w1.ownsRow w.heap.size e s v xs.length (xs.flatMap f)) (hF : ∀ i, w.heap.size ≤ i → F i) :
    ∃ ents, MapAt w1 b ents ∧ ∀ w2, MapAt w2 b (putM n v ents) → w1.grownBy w2 (some b) → MapRows e s f w2 F b (fun m => if m = n then xs else D m) := by
  obtain ⟨h1, ents, h3, h4, h5, h6⟩ := h
  have hno : lookM n ents = none := by
    cases hl : lookM n ents with
    | none => rfl
    | some u => exact absurd hD (h5 _ (look_mem hl)).2
  have hpn : posM n ents 0 = none := by
    have := posM_look n ents 0
    rw [hno] at this
    cases hp : posM n ents 0 with
    | none => rfl
    | some q => rw [hp] at this; cases this
  obtain ⟨hne, hput⟩ := posM_none v hpn
  obtain ⟨es0, c0, hb0, _⟩ := id h3
  refine ⟨ents, h3.next hb, fun w2 hm hg => ?_⟩
  rw [hput] at hm
  have hxl : xs.length ≠ 0 := fun e => hx (List.eq_nil_of_length_eq_zero e)
  obtain ⟨gv, hgv, _⟩ := own_some hown hxl
  have hgvl : w.heap.size ≤ gv := own_ge hown hgv
  have hold : ∀ p ∈ ents, p.2.ownBlock ≠ v.ownBlock := fun p hp e1 => by
    obtain ⟨k1, k2⟩ := h5 p hp
    obtain ⟨g, hgp, hgl⟩ := own_some k1.1 (by simpa using k2)
    rw [hgp, hgv] at e1
    injection e1 with e1
    omega
  refine ⟨h1, ents ++ [(n, v)], hm, ?_, ?_, ?_⟩
  · rw [List.pairwise_append]
    refine ⟨h4, List.pairwise_singleton _ _, fun p hp q hq => ?_⟩
    rw [List.mem_singleton] at hq
    subst hq
    exact ⟨hne p hp, hold p hp⟩
  · intro p hp
    dsimp only
    rcases List.mem_append.1 hp with hp | hp
    · rw [if_neg (hne p hp)]
      obtain ⟨k1, k2⟩ := h5 p hp
      refine ⟨k1.keep (fun g cs hf hh => ?_) (fun _ _ h => h), k2⟩
      refine (hg.block g (Nat.lt_of_lt_of_le (Array.getElem?_eq_some_iff.1 hh).1 hb.size) (fun e1 => ?_)).trans (hb.block g (Array.getElem?_eq_some_iff.1 hh).1)
      injection e1 with e1
      subst e1
      rw [hb0] at hh
      cases hh
    · rw [List.mem_singleton] at hp
      subst hp
      dsimp only
      rw [if_pos rfl]
      refine ⟨⟨own_mono (hown.kept hg (.inr ?_)) (Nat.zero_le _), fun g hg2 => ?_⟩, hx⟩
      · rw [hgv]
        intro e1
        injection e1 with e1
        have := (Array.getElem?_eq_some_iff.1 hb0).1
        omega
      · rw [hgv] at hg2
        injection hg2 with hg2
        subst hg2
        exact hF _ hgvl
  · intro m hm2
    have hlk : lookM m (ents ++ [(n, v)]) = if n = m then some v else lookM m ents := by rw [← hput]; exact look_put
    rw [hlk]
    by_cases e1 : n = m
    · rw [if_pos e1]; rfl
    · rw [if_neg e1]
      exact h6 m (by simpa [show ¬ m = n from fun e => e1 e.symm] using hm2)
/-- What a map of rows has when it is copied: the names of the entries seen so far. -/
def copD {α : Type} (D : Nm → List α) (seen : List Nm) (n : Nm) : List α := if n ∈ seen then D n else []
theorem copD_step {α : Type} (D : Nm → List α) (seen : List Nm) (n : Nm) : (fun m => if m = n then D n else copD D seen m) = copD D (n :: seen) := by
  funext m
  unfold copD
  by_cases e : m = n
  · subst e; simp
  · rw [if_neg e]
    by_cases h : m ∈ seen
    · rw [if_pos h, if_pos (List.mem_cons_of_mem _ h)]
    · rw [if_neg h, if_neg (by simp [e, h])]
section
variable {w w' : World} {F G : Nat → Prop} {g : Nat} {pb : Option Addr} {va vk : Value} {pl : Option Addr} {bw br : Nat} {s0 sl : St} {la : List Ac} {lk : List St} {Dw : Nm → List Ver} {Dr : Nm → List Int}
/-- Versions whose blocks were not touched. -/
theorem VIn.apart (h : VIn w G g pb va vk pl bw br s0 sl la lk Dw Dr) (ho : Outer F w w') (hk : Kept LV w w') (hd : ∀ i, G i → ¬ F i) : VIn w' G g pb va vk pl bw br s0 sl la lk Dw Dr where
  blk := by
    have := h.blk
    unfold Blk at this ⊢
    rw [ho.block g h.blk.lt (hd g h.fg)]
    exact this
  fg := h.fg
  base := h.base.keep hk rfl rfl
  last := h.last.keep hk rfl rfl
  act := by
    obtain ⟨us, hr, hw⟩ := h.act
    exact ⟨us, ⟨hr.1, fun i x v h1 h2 => NAc.keep hk rfl (hr.2 i x v h1 h2)⟩, own_same hw fun b hb => ho.block b (hw.lt b hb).2 (hd b (h.actF b hb))⟩
  actF := h.actF
  kp := by
    obtain ⟨us, hr, hw⟩ := h.kp
    exact ⟨us, ⟨hr.1, fun i x v h1 h2 => StAt.keep (hr.2 i x v h1 h2) hk rfl rfl⟩, own_same hw fun b hb => ho.block b (hw.lt b hb).2 (hd b (h.kpF b hb))⟩
  kpF := h.kpF
  wr := h.wr.keep (fun es c hb hh => ho.block bw (Array.getElem?_eq_some_iff.1 hh).1 (hd _ hb)) (fun b cs hb hh => ho.block b (Array.getElem?_eq_some_iff.1 hh).1 (hd _ hb)) fun _ _ h => h
  rd := h.rd.keep (fun es c hb hh => ho.block br (Array.getElem?_eq_some_iff.1 hh).1 (hd _ hb)) (fun b cs hb hh => ho.block b (Array.getElem?_eq_some_iff.1 hh).1 (hd _ hb)) fun _ _ h => h
  ne := h.ne
theorem VIn.bound (h : VIn w F g pb va vk pl bw br s0 sl la lk Dw Dr) : VIn w (fun i => F i ∧ i < w.heap.size) g pb va vk pl bw br s0 sl la lk Dw Dr where
  blk := h.blk
  fg := ⟨h.fg, h.blk.lt⟩
  base := h.base
  last := h.last
  act := h.act
  actF := fun i hi => ⟨h.actF i hi, by obtain ⟨us, _, ho⟩ := h.act; exact (ho.lt i hi).2⟩
  kp := h.kp
  kpF := fun i hi => ⟨h.kpF i hi, by obtain ⟨us, _, ho⟩ := h.kp; exact (ho.lt i hi).2⟩
  wr := h.wr.keep (fun _ _ _ _ => rfl) (fun _ _ _ _ => rfl) fun i hi hf => ⟨hf, hi⟩
  rd := h.rd.keep (fun _ _ _ _ => rfl) (fun _ _ _ _ => rfl) fun i hi hf => ⟨hf, hi⟩
  ne := h.ne
end
theorem VAt.apart {w w' : World} {F G : Nat → Prop} {g : Nat} {s0 : St} {l : List Ac} (h : VAt w G g s0 l) (ho : Outer F w w') (hk : Kept LV w w') (hd : ∀ i, G i → ¬ F i) : VAt w' G g s0 l := by
  obtain ⟨pb, va, vk, pl, bw, br, h⟩ := h
  exact ⟨pb, va, vk, pl, bw, br, h.apart ho hk hd⟩
theorem VAt.bound {w : World} {F : Nat → Prop} {g : Nat} {s0 : St} {l : List Ac} (h : VAt w F g s0 l) : VAt w (fun i => F i ∧ i < w.heap.size) g s0 l := by
  obtain ⟨pb, va, vk, pl, bw, br, h⟩ := h
  exact ⟨pb, va, vk, pl, bw, br, h.bound⟩
end Go.Proofs.YtobkmkplhbaepaaGreatDoor
