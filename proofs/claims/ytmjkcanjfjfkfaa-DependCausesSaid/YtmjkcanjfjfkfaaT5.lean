/- Walks of layer 47: causes and effects. -/
import Derived.Test.YtmjkcanjfjfkfaaT4
namespace Go.Proofs.Ytmjkcanjfjfkfaa
open Go.RowKit
set_option linter.unusedSimpArgs false
set_option linter.unusedVariables false
attribute [local go_sem ↓] Go.wp_at_zero Go.wp_at_succ
open Go.MapKept Go.ChangeMaps
def stpC (l : List Ac) (i : Int) : List Int := sucC ((lnkD l).getD i.toNat [])
def stpE (l : List Ac) (i : Int) : List Int := sucE ((UT l.length (lnkD l).flatten).getD i.toNat [])
theorem getD_at {α : Type} {L : List (List α)} {i : Int} {x : α} (hx : x ∈ L.getD i.toNat []) : ∃ h : i.toNat < L.length, x ∈ L[i.toNat] := by
  rw [List.getD_eq_getElem?_getD] at hx
  by_cases h : i.toNat < L.length
  · rw [List.getElem?_eq_getElem h, Option.getD_some] at hx
    exact ⟨h, hx⟩
  · rw [List.getElem?_eq_none (by omega), Option.getD_none] at hx
    cases hx
theorem lnkA_frm {d : List Ac} {a : Ac} {x : Lk} (h : x ∈ lnkA d a) : -1 ≤ x.frm ∧ x.frm < d.length := by
  obtain ⟨c, _, rfl⟩ := List.mem_map.1 h
  simp only
  rcases wrI_mem (wls d c.name) d.length with e | e
  · rw [e]; omega
  · have := wls_bd e; omega
theorem lnkF_frm : ∀ (d r : List Ac), ∀ x ∈ (lnkF d r).flatten, -1 ≤ x.frm ∧ x.frm < (d.length : Int) + r.length
  | d, [], x, h => by simp [lnkF] at h
  | d, a :: r, x, h => by
    simp only [lnkF, List.flatten_cons, List.mem_append] at h
    simp only [List.length_cons]
    rcases h with h | h
    · have := lnkA_frm h
      omega
    · have := lnkF_frm (d ++ [a]) r x h
      simp only [List.length_append, List.length_singleton] at this
      omega
theorem lnkD_frm {l : List Ac} {x : Lk} (h : x ∈ (lnkD l).flatten) : -1 ≤ x.frm ∧ x.frm < (l.length : Int) := by
  have := lnkF_frm [] l x h
  simpa using this
theorem stpC_rg (l : List Ac) : ∀ i : Int, 0 ≤ i ∧ i < (l.length : Int) → ∀ x ∈ stpC l i, 0 ≤ x ∧ x < (l.length : Int) := by
  intro i hi x hx
  unfold stpC sucC srcs at hx
  obtain ⟨y, hy, rfl⟩ := List.mem_map.1 hx
  rw [List.mem_filter] at hy
  obtain ⟨h1, h2⟩ := getD_at hy.1
  have h3 := of_decide_eq_true hy.2
  have h4 := lnkD_frm (List.mem_flatten.2 ⟨_, List.getElem_mem h1, h2⟩)
  omega
theorem stpE_rg (l : List Ac) : ∀ i : Int, 0 ≤ i ∧ i < (l.length : Int) → ∀ x ∈ stpE l i, 0 ≤ x ∧ x < (l.length : Int) := by
  intro i hi x hx
  unfold stpE sucE at hx
  obtain ⟨y, hy, rfl⟩ := List.mem_map.1 hx
  obtain ⟨h1, h2⟩ := getD_at hy
  exact UT_row_to h1 _ h2
/-- What a search from a list finds, in order. -/
def seaS (succ : Int → List Int) (own : Int → Option Bs) (N : Nat) (t0 : Bs → List Int) (xs : List Int) : List Int := srtI (xs.foldl (visF succ own N) (t0, [])).2
theorem chk2_rg {N : Nat} {xs : List Int} (h : chk2 N xs = 0) : ∀ x ∈ xs, 0 ≤ x ∧ x < (N : Int) := by
  intro x hx
  unfold chk2 at h
  split at h
  · rename_i ha
    have := List.all_eq_true.1 ha x hx
    unfold inR at this
    simp only [Bool.and_eq_true, decide_eq_true_eq] at this
    exact this
  · cases h
set_option maxRecDepth 100000 in
set_option maxHeartbeats 1000000 in
theorem causes_is {w : World} {B g : Nat} {l : List Ac} {v : Value} {xs : List Int} (hg : GAt w B g l) (hx : RdA w v xs) (hl : l.length ≤ 100) (hr : ∀ a ∈ l, a.reads.length ≤ 10) (hxl : xs.length ≤ 1000000) : Calls Try.prog 21 #[.pointer (some ⟨g, 0, none⟩), v] w fun e w' => ∃ v', e = .returned (.tuple #[v', .int .i64 (chk2 l.length xs)]) ∧ RdIn w' v' (if chk2 l.length xs = 0 then seaS (stpC l) (fun _ => none) l.length (fun _ => []) xs else []) ∧ Below w.heap.size w w' := by
  obtain ⟨A, c, rfl, hc⟩ := RdA.form hx
  have ha := (Below.refl w.heap.size w).alloc (Nat.le_refl _) (.cells #[ptrV g] 28)
  have zb := Blk.new w 28 #[ptrV g]
  have y0 := zb.cell 0
  simp only [List.getElem?_toArray, List.getElem?_cons_zero] at y0
  have ZB := Lib.hid zb
  have HA := Lib.hid ha
  have HC := Lib.hid (gcheckA_is (hg.next ha) (RdA.next hx ha) (by omega) hxl)
  have HX := Lib.hid hx
  have HG := Lib.hid hg
  have HR := Lib.hid hr
  obtain ⟨q, hq⟩ : ∃ q, chk2 l.length xs = q := ⟨_, rfl⟩
  rw [hq] at HC ⊢
  have HQ := Lib.hid hq
  clear hg hx ha hr zb hq
  by_cases h0 : q = 0
  · have e0 : (q != 0) = false := by rw [h0]; rfl
    have HQ0 := Lib.hid h0
    clear h0
    go_enter Try.func21, Try.ntmps21
    go_wp2_with fail
    go_at_call 37
    refine HC.out.mono ?_
    rintro e w1 ⟨rfl, hb1⟩
    have HB1 := Lib.hid (HA.out.trans (hb1.mono HA.out.size))
    have Z1 := Lib.hid (ZB.out.next hb1 ZB.out.lt)
    clear hb1 y0 HC
    go_wp2_with fail
    go_at_call 43
    refine (reach_is w g w.heap.size l.length _ _ _ (stpC l) (fun _ => none) (fun _ _ => True) HB1.out Z1.out HX.out hl hxl (chk2_rg (HQ.out.trans HQ0.out)) (stpC_rg l) (fun _ => []) (fun _ x hx => by cases hx) trivial (fun _ _ _ _ _ => trivial) (vis_allC _ l B HG.out hl HR.out rfl rfl rfl (stpC_rg l) (fun _ _ _ _ _ => trivial) rfl l.length)).mono ?_
    rintro e w2 ⟨v2, rfl, hr2, hb2⟩
    have HR2 := Lib.hid hr2
    have HB2 := Lib.hid hb2
    clear hr2 hb2
    go_wp2_with fail
    go_ret2
    exact ⟨_, rfl, HR2.out, HB2.out⟩
  · have e0 : (q != 0) = true := by rw [bne_iff_ne]; exact h0
    have HQ0 := Lib.hid h0
    clear h0
    go_enter Try.func21, Try.ntmps21
    go_wp2_with fail
    go_at_call 37
    refine HC.out.mono ?_
    rintro e w1 ⟨rfl, hb1⟩
    have HB1 := Lib.hid (HA.out.trans (hb1.mono HA.out.size))
    clear hb1 y0 HC
    go_wp2_with fail
    go_ret2
    exact ⟨_, rfl, RdP.nil, HB1.out⟩
set_option maxRecDepth 100000 in
set_option maxHeartbeats 1000000 in
theorem effects_is {w : World} {B g : Nat} {l : List Ac} {v : Value} {xs : List Int} (hg : GAt w B g l) (hx : RdA w v xs) (hl : l.length ≤ 100) (hr : ∀ a ∈ l, a.reads.length ≤ 10) (hxl : xs.length ≤ 1000000) : Calls Try.prog 29 #[.pointer (some ⟨g, 0, none⟩), v] w fun e w' => ∃ v', e = .returned (.tuple #[v', .int .i64 (chk2 l.length xs)]) ∧ RdIn w' v' (if chk2 l.length xs = 0 then seaS (stpE l) (fun _ => none) l.length (fun _ => []) xs else []) ∧ Below w.heap.size w w' := by
  obtain ⟨A, c, rfl, hc⟩ := RdA.form hx
  have ha := (Below.refl w.heap.size w).alloc (Nat.le_refl _) (.cells #[ptrV g] 28)
  have zb := Blk.new w 28 #[ptrV g]
  have y0 := zb.cell 0
  simp only [List.getElem?_toArray, List.getElem?_cons_zero] at y0
  have ZB := Lib.hid zb
  have HA := Lib.hid ha
  have HC := Lib.hid (gcheckA_is (hg.next ha) (RdA.next hx ha) (by omega) hxl)
  have HX := Lib.hid hx
  have HG := Lib.hid hg
  have HR := Lib.hid hr
  obtain ⟨q, hq⟩ : ∃ q, chk2 l.length xs = q := ⟨_, rfl⟩
  rw [hq] at HC ⊢
  have HQ := Lib.hid hq
  clear hg hx ha hr zb hq
  by_cases h0 : q = 0
  · have e0 : (q != 0) = false := by rw [h0]; rfl
    have HQ0 := Lib.hid h0
    clear h0
    go_enter Try.func29, Try.ntmps29
    go_wp2_with fail
    go_at_call 37
    refine HC.out.mono ?_
    rintro e w1 ⟨rfl, hb1⟩
    have HB1 := Lib.hid (HA.out.trans (hb1.mono HA.out.size))
    have Z1 := Lib.hid (ZB.out.next hb1 ZB.out.lt)
    clear hb1 y0 HC
    go_wp2_with fail
    go_at_call 43
    refine (reach_is w g w.heap.size l.length _ _ _ (stpE l) (fun _ => none) (fun _ _ => True) HB1.out Z1.out HX.out hl hxl (chk2_rg (HQ.out.trans HQ0.out)) (stpE_rg l) (fun _ => []) (fun _ x hx => by cases hx) trivial (fun _ _ _ _ _ => trivial) (vis_allE _ l B HG.out hl HR.out rfl rfl rfl (stpE_rg l) (fun _ _ _ _ _ => trivial) rfl l.length)).mono ?_
    rintro e w2 ⟨v2, rfl, hr2, hb2⟩
    have HR2 := Lib.hid hr2
    have HB2 := Lib.hid hb2
    clear hr2 hb2
    go_wp2_with fail
    go_ret2
    exact ⟨_, rfl, HR2.out, HB2.out⟩
  · have e0 : (q != 0) = true := by rw [bne_iff_ne]; exact h0
    have HQ0 := Lib.hid h0
    clear h0
    go_enter Try.func29, Try.ntmps29
    go_wp2_with fail
    go_at_call 37
    refine HC.out.mono ?_
    rintro e w1 ⟨rfl, hb1⟩
    have HB1 := Lib.hid (HA.out.trans (hb1.mono HA.out.size))
    clear hb1 y0 HC
    go_wp2_with fail
    go_ret2
    exact ⟨_, rfl, RdP.nil, HB1.out⟩
end Go.Proofs.Ytmjkcanjfjfkfaa
