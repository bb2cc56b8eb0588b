/- Walks of layer 47: slices.Clone of links, Graph.Uses. -/
import Derived.Test.YtmjkcanjfjfkfaaT13
import Derived.Test.YtmjkcanjfjfkfaaB11
namespace Go.Proofs.Ytmjkcanjfjfkfaa
open Go.RowKit
set_option linter.unusedSimpArgs false
set_option linter.unusedVariables false
attribute [local go_sem ↓] Go.wp_at_zero Go.wp_at_succ
set_option maxRecDepth 100000 in
theorem cloneLk {w : World} {v : Value} {n : Nat} {xs : List Value} (h : Rd 43 w v n xs) (hl : xs.length = n * 7) (h1 : ∀ u ∈ xs, u.oneCell' = true) (hn : n ≤ 100000) : Calls Try.prog 48 #[v] w (CloP 43 7 n xs w) := by
  obtain ⟨i0, hi, hz0, hz1, hz2⟩ := info_parts infoLk
  obtain ⟨A, c, rfl, hc⟩ := h.form
  have H := Lib.hid h
  have HL := Lib.hid hl
  have H1 := Lib.hid h1
  cases A with
  | none =>
    obtain ⟨rfl, hx⟩ : n = 0 ∧ xs = [] := by
      obtain ⟨A', c', hv, _, _, h0 | ⟨b, o, cs, fr, hA, _⟩⟩ := h
      · exact h0
      · injection hv with hv; rw [hA] at hv; cases hv
    subst hx
    clear h hl h1
    have he := fun w : World => Lib.run_eql_slice_nil (P := Try.prog) (w := w) 32
    go_enter Try.func48, Try.ntmps48
    go_wp2
    go_ret
    exact ⟨_, rfl, World.ownsRow_nil _ _ _ _, Below.refl _ _⟩
  | some ad =>
    have HE := Lib.hid (own_empty w w.heap.size 43 7 (Nat.le_refl _))
    have HR := Lib.hid (H.out.next ((Below.refl w.heap.size w).alloc (Nat.le_refl _) (.cells #[] 43)))
    clear h hl h1
    have he := Lib.run_eql_slice_nil (P := Try.prog) w 32 43 (some ad) n c 0 0 Try.underlying32
    simp only [Option.isNone] at he
    go_enter Try.func48, Try.ntmps48
    go_wp2_with (at_builtin; refine wpList_append_rd _ rfl _ _ _ rfl w.heap.size 43 i0 _ 7 72 Try.underlying32 hi hz0 hz1 hz2 rfl (by omega) _ 0 [] (by rfl) HE.out _ n xs (by rfl) HR.out HL.out H1.out (by unfold maxLen; omega) (by omega) (by simp) ?_; intro ao cap w2 hown2 hgrow2; simp only [Nat.zero_add, List.nil_append] at hown2; have HG := Lib.hid hgrow2; have HO := Lib.hid hown2; clear hown2 hgrow2)
    go_ret
    exact ⟨_, rfl, by simpa using HO.out, below_own ((Below.refl w.heap.size w).alloc (Nat.le_refl _) (.cells #[] 43)) HE.out HG.out (Nat.le_refl _) (by simp)⟩
theorem lk_fm_len : ∀ l : List Lk, (l.flatMap lkC).length = l.length * 7
  | [] => rfl
  | x :: l => by rw [List.flatMap_cons, List.length_append, lk_fm_len l, List.length_cons, lkC_len]; omega
theorem lk_one : ∀ {l : List Lk}, ∀ u ∈ l.flatMap lkC, u.oneCell' = true := by
  intro l u hu
  obtain ⟨x, _, hx⟩ := List.mem_flatMap.1 hu
  simp only [lkC, List.mem_cons, List.not_mem_nil, or_false] at hx
  rcases hx with rfl | rfl | rfl | rfl | rfl | rfl | rfl <;> rfl
set_option maxRecDepth 100000 in
theorem uses_is {w : World} {B g : Nat} {l : List Ac} {k : Nat} (hg : GAt w B g l) (hk : k < l.length) (hl : l.length ≤ 100) (hr : ∀ a ∈ l, a.reads.length ≤ 10) : Calls Try.prog 28 #[.pointer (some ⟨g, 0, none⟩), .int .i64 k] w fun e w' => ∃ v, e = .returned (.tuple #[v, .int .i64 0]) ∧ RdLk w' v ((UT l.length (lnkD l).flatten)[k]'(by rw [UT_len]; exact hk)) ∧ Below w.heap.size w w' := by
  have ha := (Below.refl w.heap.size w).alloc (Nat.le_refl _) (.cells #[.int .i64 k] 3)
  have HA := Lib.hid ha
  have HC := Lib.hid (gcheck_is (hg.next ha) (rd_new1 w k) (by omega) (by simp))
  have HE := Lib.hid (show chk2 l.length [(k : Int)] = 0 by unfold chk2; rw [if_pos]; simp [inR]; omega)
  have hfl := flat_le hr l.length (Nat.le_refl _)
  rw [List.take_of_length_le (Nat.le_refl _)] at hfl
  obtain ⟨row, hrow⟩ : ∃ row, (UT l.length (lnkD l).flatten)[k]'(by rw [UT_len]; exact hk) = row := ⟨_, rfl⟩
  have hrl : row.length ≤ 1000 := by
    rw [← hrow, UT_get]
    exact Nat.le_trans (List.length_filter_le _ _) (by omega)
  obtain ⟨bl, c, A, c2, g0, g1, g2, g3⟩ := hg.urow hk
  rw [hrow] at g2 g3 ⊢
  have HX := Lib.hid g3
  have HGL := Lib.hid hg.lt
  have G1 := Lib.hid g1
  have G2 := Lib.hid g2
  have j0 : (0 : Int) ≤ (k : Int) := by omega
  have j1 : (k : Int) < (l.length : Int) := by omega
  clear hg ha hrow g1 g2 g3 hfl
  go_enter Try.func28, Try.ntmps28
  go_wp2_with fail
  go_at_call 37
  refine HC.out.mono ?_
  rintro e w1 ⟨rfl, hb1⟩
  rw [HE.out]
  have HB1 := Lib.hid (HA.out.trans (hb1.mono HA.out.size))
  have g1 := (HB1.out.cell (p := ⟨g, 2, none⟩) HGL.out).trans G1.out
  have g2 := (HB1.out.cell (p := ⟨bl, k, none⟩) g0).trans G2.out
  have HX1 := Lib.hid (RdP.next HX.out HB1.out)
  clear hb1 HC HA
  go_wp2_with fail
  go_at_call 48
  refine (cloneLk HX1.out (lk_fm_len row) lk_one (by omega)).mono ?_
  rintro e w2 ⟨v', rfl, hown, hb⟩
  have HR := Lib.hid (show RdLk w2 v' row from Rd.of_own hown)
  have HB2 := Lib.hid (HB1.out.trans (hb.mono HB1.out.size))
  obtain ⟨A7, c7, rfl, _⟩ := own_len hown
  clear hown hb
  go_wp2_with fail
  go_ret2
  exact ⟨_, rfl, HR.out, HB2.out⟩
end Go.Proofs.Ytmjkcanjfjfkfaa
