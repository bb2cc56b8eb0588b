/- Plain facts of layer 47: what a deed reads and writes. -/
import Derived.Test.YtmjkcanjfjfkfaaP1
namespace Go.Proofs.Ytmjkcanjfjfkfaa
set_option linter.unusedSimpArgs false
set_option linter.unusedVariables false
theorem addN_len (l : List Nm) (n : Nm) : (addN l n).length ≤ l.length + 1 := by
  unfold addN; split <;> simp
theorem addN_mem {l : List Nm} {n m : Nm} : m ∈ addN l n ↔ m ∈ l ∨ m = n := by
  unfold addN
  split
  · rename_i h
    constructor
    · exact .inl
    · rintro (h1 | rfl)
      · exact h1
      · exact h
  · simp
theorem addN_nodup {l : List Nm} {n : Nm} (h : l.Nodup) : (addN l n).Nodup := by
  unfold addN
  split
  · exact h
  · rename_i hn
    rw [List.nodup_append]
    exact ⟨h, by simp, fun a ha b hb => by rw [List.mem_singleton] at hb; subst hb; exact fun e => hn (e ▸ ha)⟩
theorem putM_len {κ ν : Type} [DecidableEq κ] (n : κ) (x : ν) : ∀ l : List (κ × ν), (putM n x l).length ≤ l.length + 1
  | [] => by simp [putM]
  | (a, y) :: l => by
    have := putM_len n x l
    simp only [putM]
    split
    · simp
    · simp only [List.length_cons]; omega
theorem putM_mem {κ ν : Type} [DecidableEq κ] {n : κ} {x : ν} {p : κ × ν} : ∀ {l : List (κ × ν)}, p ∈ putM n x l → p = (n, x) ∨ p ∈ l
  | [], h => by simp [putM] at h; exact .inl h
  | (a, y) :: l, h => by
    simp only [putM] at h
    split at h
    · rcases List.mem_cons.1 h with h | h
      · exact .inl h
      · exact .inr (List.mem_cons_of_mem _ h)
    · rcases List.mem_cons.1 h with h | h
      · exact .inr (by rw [h]; exact List.mem_cons_self ..)
      · rcases putM_mem h with h | h
        · exact .inl h
        · exact .inr (List.mem_cons_of_mem _ h)
theorem prt_ob : ∀ i < 6, prtN (1 + ((i : Nat) : Int)) ∈ objs := by decide
theorem prc_ob : ∀ s ∈ ([[49], [50], [51]] : List Bs), prcN s ∈ objs := by decide
theorem who_ob {n : Nat} (h1 : 1 ≤ n) (h2 : n ≤ 3) : whoS n ∈ ([[49], [50], [51]] : List Bs) := by
  rcases (show n = 1 ∨ n = 2 ∨ n = 3 by omega) with rfl | rfl | rfl <;> decide
/-- What is known of a state, a key and a deed. -/
structure PIn (s : S47) (k : Ky) (d : De) : Prop where
  vl : ∀ n, ((s n).getD []).length ≤ 3
  de : d.who < 256 ∧ d.reads < 256 ∧ d.writes < 256 ∧ d.spawn < 256
  ky : (k.cls = 0 ∧ k.lin = []) ∨ (k.cls = 2 ∧ k.lin ∈ ([[49], [50], [51]] : List Bs))
theorem rdTo_succ (s : S47) (k : Ky) (d : De) (m : Nat) : rdTo s k d (m + 1) = rd1 s d (rdTo s k d m) m := by
  unfold rdTo
  rw [List.range_succ, List.foldl_append]
  rfl
theorem wrTo_succ (d : De) (r : RdS) (m : Nat) : wrTo d r (m + 1) = if bitN d.writes m && (r.all || decide (m < 3)) then putM (prtN (1 + (m : Nat))) r.value (wrTo d r m) else wrTo d r m := by
  unfold wrTo
  rw [List.range_succ, List.foldl_append]
  rfl
theorem val47_len (v x : Bs) : (val47 v x).length ≤ 3 := by
  unfold val47
  rw [List.length_cons, List.length_take]
  omega
theorem rdTo_len (s : S47) (k : Ky) (d : De) : ∀ m, (rdTo s k d m).value.length ≤ 3
  | 0 => by show [118].length ≤ 3; decide
  | m + 1 => by
    rw [rdTo_succ]
    have ih := rdTo_len s k d m
    unfold rd1
    split
    · exact ih
    · show (if d.same then _ else _ : Bs).length ≤ 3
      split
      · exact ih
      · exact val47_len _ _
theorem rdTo_ok {s : S47} {k : Ky} {d : De} (h : PIn s k d) : ∀ m, m ≤ 6 → (rdTo s k d m).names.length ≤ m + 1 ∧ (rdTo s k d m).names.Nodup ∧ ∀ n ∈ (rdTo s k d m).names, n ∈ objs
  | 0, _ => by
    show (if k.cls = 0 then [] else [prcN k.lin] : List Nm).length ≤ 1 ∧ (if k.cls = 0 then [] else [prcN k.lin] : List Nm).Nodup ∧ ∀ n ∈ (if k.cls = 0 then [] else [prcN k.lin] : List Nm), n ∈ objs
    rcases h.ky with ⟨h1, h2⟩ | ⟨h1, h2⟩
    · rw [if_pos h1]; simp
    · rw [if_neg (by rw [h1]; decide)]
      refine ⟨by simp, by simp, ?_⟩
      intro n hn
      rw [List.mem_singleton] at hn
      subst hn
      exact prc_ob _ h2
  | m + 1, hm => by
    obtain ⟨h1, h2, h3⟩ := rdTo_ok h m (by omega)
    rw [rdTo_succ]
    unfold rd1
    split
    · exact ⟨by omega, h2, h3⟩
    · refine ⟨Nat.le_trans (addN_len _ _) (by omega), addN_nodup h2, fun n hn => ?_⟩
      rcases addN_mem.1 hn with hn | rfl
      · exact h3 n hn
      · exact prt_ob m (by omega)
theorem rds_ok {s : S47} {k : Ky} {d : De} (h : PIn s k d) : (rds s k d).length ≤ 8 ∧ (rds s k d).Nodup ∧ ∀ n ∈ rds s k d, n ∈ objs := by
  obtain ⟨h1, h2, h3⟩ := rdTo_ok h 6 (Nat.le_refl _)
  unfold rds
  by_cases hs : spw d = true
  · rw [if_pos hs]
    unfold spw at hs
    simp only [Bool.and_eq_true, decide_eq_true_eq] at hs
    refine ⟨Nat.le_trans (addN_len _ _) (by unfold rdA; omega), addN_nodup h2, fun n hn => ?_⟩
    rcases addN_mem.1 hn with hn | rfl
    · exact h3 n hn
    · exact prc_ob _ (who_ob hs.1 hs.2)
  · rw [if_neg hs]
    exact ⟨by unfold rdA; omega, h2, h3⟩
theorem wrTo_ok (d : De) (r : RdS) (hr : r.value.length ≤ 3) : ∀ m, m ≤ 6 → (wrTo d r m).length ≤ m ∧ (wrTo d r m).Pairwise (fun p q => p.1 ≠ q.1) ∧ ∀ p ∈ wrTo d r m, p.1 ∈ objs ∧ p.2.length ≤ 3
  | 0, _ => ⟨Nat.le_refl _, List.Pairwise.nil, by simp [wrTo]⟩
  | m + 1, hm => by
    obtain ⟨h1, h2, h3⟩ := wrTo_ok d r hr m (by omega)
    rw [wrTo_succ]
    split
    · refine ⟨Nat.le_trans (putM_len _ _ _) (by omega), ?_, fun p hp => ?_⟩
      · exact (put_pair (R := fun _ _ => True) (h2.imp fun h => ⟨h, trivial⟩) (fun _ _ _ => ⟨trivial, trivial⟩)).imp fun h => h.1
      · rcases putM_mem hp with rfl | hp
        · exact ⟨prt_ob m (by omega), hr⟩
        · exact h3 p hp
    · exact ⟨by omega, h2, h3⟩
theorem wrs_ok {s : S47} {k : Ky} {d : De} (h : PIn s k d) : (wrs s k d).length ≤ 7 ∧ (wrs s k d).Pairwise (fun p q => p.1 ≠ q.1) ∧ ∀ p ∈ wrs s k d, p.1 ∈ objs ∧ p.2.length ≤ 3 := by
  obtain ⟨h1, h2, h3⟩ := wrTo_ok d (rdA s k d) (rdTo_len s k d 6) 6 (Nat.le_refl _)
  unfold wrs
  by_cases hs : spw d = true
  · rw [if_pos hs]
    unfold spw at hs
    simp only [Bool.and_eq_true, decide_eq_true_eq] at hs
    refine ⟨Nat.le_trans (putM_len _ _ _) (by omega), ?_, fun p hp => ?_⟩
    · exact (put_pair (R := fun _ _ => True) (h2.imp fun h => ⟨h, trivial⟩) (fun _ _ _ => ⟨trivial, trivial⟩)).imp fun h => h.1
    · rcases putM_mem hp with rfl | hp
      · exact ⟨prc_ob _ (who_ob hs.1 hs.2), by show [112].length ≤ 3; decide⟩
      · exact h3 p hp
  · rw [if_neg hs]
    exact ⟨by omega, h2, h3⟩
theorem nxt_vl {s : S47} {k : Ky} {d : De} (h : PIn s k d) (n : Nm) : ((nxtS s k d n).getD []).length ≤ 3 := by
  unfold nxtS putS
  cases hl : lookM n (wrs s k d) with
  | some v => exact ((wrs_ok h).2.2 _ (look_mem hl)).2
  | none => exact h.vl n
theorem ob_own {l : List Nm} (h : ∀ n ∈ l, n ∈ objs) : ∀ n ∈ l, OwnE n := fun n hn => IsOb.own (h n hn)
theorem sortU_len {l : List Nm} (h : ∀ n ∈ l, n ∈ objs) : (sortU cmpN l).length ≤ 10 := by
  have h1 := strict_sortU ordN l (ob_own h)
  have h2 : (sortU cmpN l).Nodup := by
    refine h1.imp_of_mem ?_
    intro a b ha hb hab e
    subst e
    rw [cmpN_eq.2 rfl] at hab
    omega
  have h3 : (sortU cmpN l) ⊆ objs := fun n hn => h n ((mem_sortU ordN l (ob_own h)).1 hn)
  have := h2.length_le_of_subset h3
  simpa [objs] using this
end Go.Proofs.Ytmjkcanjfjfkfaa
