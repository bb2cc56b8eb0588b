/- Plain facts of layer 54: the origin in the run that ends with an action. -/
import Derived.Test.YtamjllakfgphnaaDoorQ2
import Derived.Test.YtamjllakfgphnaaDoorQA
namespace Go.Proofs.YtamjllakfgphnaaDoor
set_option linter.unusedVariables false
theorem backL_take_run {l : List Ac} {s0 : St} {n : Nm} {k : Nat} (hk : k ≤ l.length) : backL k (verL s0 l n) = backL k (verL s0 (l.take k) n) := by
  have e : verL s0 l n = verL s0 (l.take k) n ++ vers n k (l.drop k) := by
    unfold verL
    conv => lhs; rw [← List.take_append_drop k l]
    rw [vers_append, List.length_take, Nat.min_eq_left hk, Nat.zero_add]
    rfl
  rw [e]
  unfold backL
  rw [List.reverse_append, List.filter_append]
  have h1 : (vers n k (l.drop k)).reverse.filter (fun v => decide (v.idx < (k : Int))) = [] := by
    rw [List.filter_eq_nil_iff]
    intro u hu
    have := (vers_idx n k _ u (List.mem_reverse.1 hu)).1
    simp; omega
  rw [h1, List.nil_append]
theorem orgR_stays {l : List Ac} {s0 : St} {n : Nm} {k : Nat} (a : Int) (hk : k ≤ l.length) : orgR (l.take k).length (verL s0 (l.take k) n) a k = orgR l.length (verL s0 l n) a k := by
  have e : (l.take k).length = k := by rw [List.length_take]; omega
  unfold orgR
  rw [e, backL_take_run hk]
  by_cases h : a < 0
  · rw [if_pos (.inr (.inr h)), if_pos (.inr (.inr h))]
  · rw [if_neg (by omega), if_neg (by omega)]
theorem orgR_lt {N : Nat} {vs : List Ver} {a : Int} {k : Nat} (h : (orgR N vs a k).2 = 0) : (orgR N vs a k).1 < (k : Int) := by
  unfold orgR at h ⊢
  split at h
  · simp at h
  · rename_i h1
    rw [if_neg h1]
    cases ho : orgF a.toNat none (backL k vs) with
    | none => rw [ho] at h; simp at h
    | some ob =>
      obtain ⟨o, b⟩ := ob
      rcases orgF_idx a.toNat _ _ o b ho with ⟨v, hv, e⟩ | e
      · have := (backL_mem hv).2
        simp only
        omega
      · cases e
end Go.Proofs.YtamjllakfgphnaaDoor
