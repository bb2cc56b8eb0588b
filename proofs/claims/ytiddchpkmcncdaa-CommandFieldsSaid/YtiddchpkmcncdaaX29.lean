/- Walks of layer 41: the two functions inside Expand. -/
import Derived.Test.YtiddchpkmcncdaaX28
import Derived.Test.YtiddchpkmcncdaaK8
namespace Go.Proofs.Ytiddchpkmcncdaa
open Go.RowKit
set_option linter.unusedSimpArgs false
set_option linter.unusedVariables false
theorem info9 : (Try.prog.info? 9).map (fun i => (i.zero, i.size, i.bytes)) = some (some (.string ⟨#[]⟩), 1, 16) := by kernel_rfl
def stC (l : List Bs) : List Value := l.map (fun t => .string (bs t))
theorem stC_len (l : List Bs) : (stC l).length = l.length := by simp [stC]
/-- The three variables of Expand from block g on. -/
def ESt (w : World) (g : Nat) (t : Ex) (wr : World) : Prop :=
  ∃ v, Blk wr g 59 #[v] ∧ Blk wr (g + 1) 9 #[.string (bs t.tx)] ∧ Blk wr (g + 2) 4 #[.bool t.bg] ∧ wr.ownsRow (g + 3) 9 1 v t.out.length (stC t.out) ∧ Below w.heap.size w wr ∧ w.heap.size ≤ g
theorem ESt.next {w : World} {g : Nat} {t : Ex} {wr w' : World} (h : ESt w g t wr) (hb : Below wr.heap.size wr w') : ESt w g t w' := by
  obtain ⟨v, h1, h2, h3, h4, h5, h6⟩ := h
  exact ⟨v, h1.next hb h1.lt, h2.next hb h2.lt, h3.next hb h3.lt, own_next h4 hb, h5.trans (hb.mono h5.size), h6⟩
theorem ESt.lt {w : World} {g : Nat} {t : Ex} {wr : World} (h : ESt w g t wr) : g + 2 < wr.heap.size := by
  obtain ⟨v, h1, h2, h3, h4, h5, h6⟩ := h
  exact h3.lt
set_option maxRecDepth 100000 in
theorem add_any (w : World) (g : Nat) (t : Ex) (s : Bs) (wr : World) (h : ESt w g t wr) (hm : exM t ≤ 100000000000) (hs : s.length ≤ 100000000000) :
    Calls Try.prog 59 #[.string (bs s), ptr (g + 1), ptr (g + 2)] wr fun e w' => e = .returned (.tuple #[]) ∧ ESt w g (addE t s) w' := by
  obtain ⟨v, h1, h2, h3, h4, h5, h6⟩ := h
  have H1 := Lib.hid h1
  have H2 := Lib.hid h2
  have H3 := Lib.hid h3
  have c1 : wr.cell? ⟨g + 1, 0, none⟩ = some (.string (bs t.tx)) := h2.cell 0
  have c2 : wr.cell? ⟨g + 2, 0, none⟩ = some (.bool t.bg) := h3.cell 0
  have f1 := h2.frozen 0
  have f2 := h3.frozen 0
  have z1 : (bs t.tx).size ≤ 100000000000 := by rw [bs_size]; unfold exM at hm; omega
  have z2 : (bs s).size ≤ 100000000000 := by rw [bs_size]; exact hs
  have HT := Lib.hid (show bs t.tx ++ bs s = bs (addE t s).tx by unfold addE; rw [bs_app])
  clear h1 h2 h3
  go_enter Try.func59, Try.ntmps59
  go_wp2
  go_end0
  refine ⟨rfl, v, ?_, ?_, ?_, ?_, ?_, h6⟩
  · exact (H1.out.far (p := ⟨g + 1, 0, none⟩) (by simp) _).far (p := ⟨g + 2, 0, none⟩) (by simp) _
  · rw [HT.out]; exact (H2.out.set_ 0 _).far (p := ⟨g + 2, 0, none⟩) (by simp) _
  · exact (H3.out.far (p := ⟨g + 1, 0, none⟩) (by simp) _).set_ 0 _
  · have g1 : wr.grownBy (wr.setCell ⟨g + 1, 0, none⟩ (.string (bs t.tx ++ bs s))) (some (g + 1)) := only_setCell (p := ⟨g + 1, 0, none⟩) (World.grownBy.refl _ _) (.inl rfl) _
    have o1 := h4.kept g1 (.inr (fun e => by have := own_ge h4 e; omega))
    exact o1.kept (only_setCell (p := ⟨g + 2, 0, none⟩) (World.grownBy.refl _ (some (g + 2))) (.inl rfl) _) (.inr (fun e => by have := own_ge h4 e; omega))
  · exact (h5.setCell (p := ⟨g + 1, 0, none⟩) (by simp; omega) _).setCell (p := ⟨g + 2, 0, none⟩) (by simp; omega) _
set_option maxRecDepth 100000 in
set_option maxHeartbeats 1000000 in
theorem end_any (w : World) (g : Nat) (t : Ex) (wr : World) (h : ESt w g t wr) (hm : exM t ≤ 1000000000000) :
    Calls Try.prog 60 #[ptr (g + 2), ptr g, ptr (g + 1)] wr fun e w' => e = .returned (.tuple #[]) ∧ ESt w g (endE t) w' := by
  obtain ⟨v, h1, h2, h3, h4, h5, h6⟩ := h
  obtain ⟨i0, hi, hz0, hz1, hz2⟩ := info_parts info9
  have H1 := Lib.hid h1
  have H2 := Lib.hid h2
  have H3 := Lib.hid h3
  obtain ⟨av, cv, rfl, _⟩ := own_len h4
  have c0 : wr.cell? ⟨g, 0, none⟩ = some (.slice av t.out.length cv) := h1.cell 0
  have c1 : wr.cell? ⟨g + 1, 0, none⟩ = some (.string (bs t.tx)) := h2.cell 0
  have c2 : wr.cell? ⟨g + 2, 0, none⟩ = some (.bool t.bg) := h3.cell 0
  have f0 := h1.frozen 0
  have f1 := h2.frozen 0
  have f2 := h3.frozen 0
  have hgl : g + 2 < wr.heap.size := h3.lt
  have hlen : t.out.length ≤ 1000000000000 := by unfold exM at hm; omega
  clear h1 h2 h3
  cases hb : t.bg with
  | false =>
    rw [hb] at c2
    have HE := Lib.hid (show endE t = ⟨t.out, [], false⟩ by unfold endE; rw [hb]; rfl)
    clear hb
    go_enter Try.func60, Try.ntmps60
    go_wp2
    go_end0
    refine ⟨rfl, ?_⟩
    rw [HE.out]
    refine ⟨.slice av t.out.length cv, ?_, ?_, ?_, ?_, ?_, h6⟩
    · exact (H1.out.far (p := ⟨g + 1, 0, none⟩) (by simp) _).far (p := ⟨g + 2, 0, none⟩) (by simp) _
    · exact (H2.out.set_ 0 _).far (p := ⟨g + 2, 0, none⟩) (by simp) _
    · exact (H3.out.far (p := ⟨g + 1, 0, none⟩) (by simp) _).set_ 0 _
    · have g1 : wr.grownBy (wr.setCell ⟨g + 1, 0, none⟩ (.string ⟨#[]⟩)) (some (g + 1)) := only_setCell (p := ⟨g + 1, 0, none⟩) (World.grownBy.refl _ _) (.inl rfl) _
      have o1 := h4.kept g1 (.inr (fun e => by have := own_ge h4 e; omega))
      exact o1.kept (only_setCell (p := ⟨g + 2, 0, none⟩) (World.grownBy.refl _ (some (g + 2))) (.inl rfl) _) (.inr (fun e => by have := own_ge h4 e; omega))
    · exact (h5.setCell (p := ⟨g + 1, 0, none⟩) (by simp; omega) _).setCell (p := ⟨g + 2, 0, none⟩) (by simp; omega) _
  | true =>
    rw [hb] at c2 H3
    have HE := Lib.hid (show endE t = ⟨t.out ++ [t.tx], [], false⟩ by unfold endE; rw [hb]; rfl)
    clear hb
    go_enter Try.func60, Try.ntmps60
    go_wp2_with (at_builtin; refine wpList_append_lies _ rfl _ _ _ rfl (g + 3) 9 i0 _ 1 16 Try.underlying59 hi hz0 hz1 hz2 rfl (by omega) (.slice av t.out.length cv) t.out.length (stC t.out) rfl (h4.alloc _) ⟨wr.heap.size, 0, none⟩ 1 1 [.string (bs t.tx)] rfl rfl (World.news_of_block (cs := #[.string (bs t.tx)]) (t := 9) (fr := (0, 0)) (heap_alloc_new wr _)) (by simp [Value.oneCell']) (by omega) (by unfold maxLen; omega) (by omega) (by simp; omega) (wr.heap.size + 1) (by simp) ?_; intro gg cap w1 hown1 hgrow hat hlt1; have B0 := Lib.hid (Blk.grown (H1.out.alloc _) hgrow (fun e => by have := own_ge h4 e.symm; omega)); have B1 := Lib.hid (Blk.grown (H2.out.alloc _) hgrow (fun e => by have := own_ge h4 e.symm; omega)); have B2 := Lib.hid (Blk.grown (H3.out.alloc _) hgrow (fun e => by have := own_ge h4 e.symm; omega)); have d0 : w1.cell? ⟨g, 0, none⟩ = some (.slice av t.out.length cv) := B0.out.cell 0; have d1 : w1.cell? ⟨g + 1, 0, none⟩ = some (.string (bs t.tx)) := B1.out.cell 0; have d2 : w1.cell? ⟨g + 2, 0, none⟩ = some (.bool true) := B2.out.cell 0; have e0 := B0.out.frozen 0; have e1 := B1.out.frozen 0; have e2 := B2.out.frozen 0; have hg1 : g + 2 < w1.heap.size := B2.out.lt)
    go_end0
    refine ⟨rfl, ?_⟩
    rw [HE.out]
    have hb1 : Below w.heap.size w w1 := below_own (h5.alloc h5.size _) (h4.alloc _) hgrow (by omega) (by simp; have := h5.size; omega)
    refine ⟨.slice (some ⟨gg, 0, none⟩) (t.out.length + 1) cap, ?_, ?_, ?_, ?_, ?_, h6⟩
    · exact ((B0.out.set_ 0 _).far (p := ⟨g + 1, 0, none⟩) (by simp) _).far (p := ⟨g + 2, 0, none⟩) (by simp) _
    · exact (((B1.out.far (p := ⟨g, 0, none⟩) (by simp) _)).set_ 0 _).far (p := ⟨g + 2, 0, none⟩) (by simp) _
    · exact ((B2.out.far (p := ⟨g, 0, none⟩) (by simp) _).far (p := ⟨g + 1, 0, none⟩) (by simp) _).set_ 0 _
    · have o0 := hown1.kept (only_setCell (p := ⟨g, 0, none⟩) (World.grownBy.refl w1 (some g)) (.inl rfl) (.slice (some ⟨gg, 0, none⟩) (t.out.length + 1) cap)) (.inr (fun e => by have := own_ge hown1 e; omega))
      have o1 := o0.kept (only_setCell (p := ⟨g + 1, 0, none⟩) (World.grownBy.refl _ (some (g + 1))) (.inl rfl) (.string ⟨#[]⟩)) (.inr (fun e => by have := own_ge hown1 e; omega))
      have o2 := o1.kept (only_setCell (p := ⟨g + 2, 0, none⟩) (World.grownBy.refl _ (some (g + 2))) (.inl rfl) (.bool false)) (.inr (fun e => by have := own_ge hown1 e; omega))
      simpa [stC] using o2
    · exact ((hb1.setCell (p := ⟨g, 0, none⟩) (by simp; omega) _).setCell (p := ⟨g + 1, 0, none⟩) (by simp; omega) _).setCell (p := ⟨g + 2, 0, none⟩) (by simp; omega) _
end Go.Proofs.Ytiddchpkmcncdaa
