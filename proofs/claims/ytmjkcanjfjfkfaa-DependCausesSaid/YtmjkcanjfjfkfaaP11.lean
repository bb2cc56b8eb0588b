/- Plain facts of layer 47: the causes of one action. -/
import Derived.Test.YtmjkcanjfjfkfaaP10
import Derived.Test.YtmjkcanjfjfkfaaP9
namespace Go.Proofs.Ytmjkcanjfjfkfaa
set_option linter.unusedSimpArgs false
set_option linter.unusedVariables false
theorem cau_set {l : List Ac} {t : Nat} (ht : t < l.length) {C : List Int} (hC : seaS (stpC l) (fun _ => none) l.length (fun _ => []) [(t : Int)] = C) :
    C.Pairwise (· < ·) ∧ (∀ x ∈ C, 0 ≤ x ∧ x < (l.length : Int)) ∧ (∀ x ∈ C, ∀ z ∈ (lnkD l).flatten, z.to_ = x → 0 ≤ z.frm → z.frm ∈ C) ∧ ∃ (m : Nat) (h : m < C.length), C.length = m + 1 ∧ C[m] = (t : Int) := by
  obtain ⟨v1, v2, v3⟩ := vis_lst (own := fun _ => none) (stpC_rg l) (t0 := fun _ => []) (fun _ x hx => by cases hx) (l := [(t : Int)]) (fun x hx => by rw [List.mem_singleton] at hx; subst hx; omega)
  have hm : ∀ x, x ∈ C ↔ x ∈ ([(t : Int)].foldl (visF (stpC l) (fun _ => none) l.length) ((fun _ => []), [])).2 := fun x => by rw [← hC]; unfold seaS; exact srtI_mem
  have hasc : C.Pairwise (· < ·) := by rw [← hC]; unfold seaS; exact srtI_asc v2
  have hrg : ∀ x ∈ C, 0 ≤ x ∧ x < (l.length : Int) := fun x hx => v3 x ((hm x).1 hx)
  have htC : (t : Int) ∈ C := (hm _).2 (v1.has _ (by simp))
  have hle : ∀ x ∈ C, x ≤ (t : Int) := fun x hx => v1.min (fun j => 0 ≤ j → j < (l.length : Int) → j ≤ (t : Int)) (fun j hj => by rw [List.mem_singleton] at hj; subst hj; intro _ _; exact Int.le_refl _) (fun j hj y hy h0 h1 => by
    by_cases hr : 0 ≤ j ∧ j < (l.length : Int)
    · obtain ⟨z, hz, z0, z1, z2⟩ := (stpC_mem hr.1 hr.2).1 hy
      have := lnkD_back hz
      have := hj hr.1 hr.2
      omega
    · exfalso
      unfold stpC sucC srcs at hy
      obtain ⟨z, hz, rfl⟩ := List.mem_map.1 hy
      rw [List.mem_filter] at hz
      obtain ⟨g1, g2⟩ := getD_at hz.1
      rw [lnkD_len] at g1
      by_cases hj0 : 0 ≤ j
      · omega
      · have e : j.toNat = 0 := by omega
        have g3 := List.mem_flatten.2 ⟨_, List.getElem_mem (by rw [lnkD_len]; exact g1), g2⟩
        have g4 : z ∈ (lnkD l).flatten.filter (fun x => decide (x.to_ = ((j.toNat : Nat) : Int))) := by
          rw [lnkD_row l j.toNat (by rw [lnkD_len]; exact g1)]; exact g2
        have g5 := of_decide_eq_true (List.mem_filter.1 g4).2
        have := lnkD_back g3
        have := of_decide_eq_true hz.2
        omega) (fun _ _ _ h => by cases h) x ((hm x).1 hx) (hrg x hx).1 (hrg x hx).2
  refine ⟨hasc, hrg, fun x hx z hz hzx hz0 => ?_, ?_⟩
  · have hr := hrg x hx
    exact (hm _).2 (v1.clo x ((hm x).1 hx) _ ((stpC_mem hr.1 hr.2).2 ⟨z, hz, hz0, hzx, rfl⟩))
  · obtain ⟨q, hq, hqe⟩ := List.getElem_of_mem htC
    refine ⟨C.length - 1, by omega, by omega, ?_⟩
    have h1 := hle _ (List.getElem_mem (show C.length - 1 < C.length by omega))
    rcases Nat.lt_or_ge q (C.length - 1) with h | h
    · have := List.pairwise_iff_getElem.1 hasc q (C.length - 1) hq (by omega) h
      omega
    · have : q = C.length - 1 := by omega
      subst this
      exact hqe
end Go.Proofs.Ytmjkcanjfjfkfaa
