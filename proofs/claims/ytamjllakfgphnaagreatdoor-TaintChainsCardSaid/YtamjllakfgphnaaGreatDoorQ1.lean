/- Plain facts of layer 54: the runs. -/
import Derived.Test.YtamjllakfgphnaaGreatDoorGB
namespace Go.Proofs.YtamjllakfgphnaaGreatDoor
set_option linter.unusedVariables false
structure A54 where
  wait : Int
  who : Int
  reads : Int
  writes : Int
  value : Bs
  absent : Bool
/-- The objects in ascending order, each with its bit. -/
def obs : List (Nm × Nat) := [(obT, 2), (obC, 3), (obA, 0), (obB, 1)]
def hasB (x : Int) (b : Nat) : Bool := decide (IntKind.u8.wrap ((BitVec.ofInt 8 (x.fdiv (2 ^ b)) &&& BitVec.ofInt 8 1).toNat : Nat) = 1)
def lin4 (k : Int) : Bs := if k = 0 then [50] else if k = 1 then [50, 46, 49] else if k = 2 then [51] else [49]
def key54 (t i : Int) (a : A54) : Ky := if a.who % 5 = 4 then ⟨t, 0, i + 1, []⟩ else ⟨t, 2, 0, lin4 (a.who % 4)⟩
def inp54 (i : Int) (a : A54) : Int := if a.who % 5 = 4 then i + 1 else i
def rdC (s : St) (n : Nm) : Ch := ⟨n, (look cmpN n s).getD [], (look cmpN n s).isNone⟩
def wrC (a : A54) (n : Nm) : Ch := ⟨n, if a.absent then [] else a.value.take 6, a.absent⟩
def rdsU (s : St) (a : A54) (k : Nat) : List Ch := ((obs.take k).filter fun p => hasB a.reads p.2).map fun p => rdC s p.1
def wrsU (a : A54) (k : Nat) : List Ch := ((obs.take k).filter fun p => hasB a.writes p.2).map fun p => wrC a p.1
def ac54 (s : St) (t i : Int) (a : A54) : Ac := ⟨key54 t i a, rdsU s a 4, wrsU a 4⟩
structure B54 where
  now : St
  tick : Int
  inp : Int
  l : List Ac
def step54 (b : B54) (a : A54) : B54 := ⟨appS b.now (wrsU a 4), b.tick + 1 + a.wait % 2, inp54 b.inp a, b.l ++ [ac54 b.now (b.tick + 1 + a.wait % 2) b.inp a]⟩
def base54 : St := [(obB, [98, 97, 115, 101])]
def fold54 (l : List A54) : B54 := l.foldl step54 ⟨base54, 0, 0, []⟩
/-- The run. -/
def W54 (l : List A54) : List Ac := (fold54 (l.take 20)).l
theorem fold54_take (l : List A54) (k : Nat) (hk : k < l.length) : fold54 (l.take (k + 1)) = step54 (fold54 (l.take k)) l[k] := by
  unfold fold54
  rw [List.take_succ_eq_append_getElem hk, List.foldl_append]; rfl
theorem obs_ob : ∀ p ∈ obs, IsOb p.1 := by unfold IsOb; decide +kernel
theorem obs_pair : obs.Pairwise fun p q => cmpN p.1 q.1 < 0 := by decide +kernel
theorem ord_of : ∀ {l : List Ch}, l.Pairwise (fun a b => cmpN a.name b.name < 0) → (∀ c ∈ l, okCh c = true) → ordCh l = true
  | [], _, _ => rfl
  | c :: l, h, ho => by
    obtain ⟨h1, h2⟩ := List.pairwise_cons.1 h
    simp only [ordCh, Bool.and_eq_true]
    refine ⟨⟨ho c (by simp), ?_⟩, ord_of h2 fun d hd => ho d (by simp [hd])⟩
    cases l with
    | nil => rfl
    | cons d r => simp only [decide_eq_true_eq]; exact h1 d (by simp)
theorem okCh_of {c : Ch} (h1 : IsOb c.name) (h2 : c.value.length ≤ 65536) (h3 : c.absent = true → c.value = []) : okCh c = true := by
  unfold okCh okN
  simp only [Bool.and_eq_true, decide_eq_true_eq]
  refine ⟨⟨h1, h2⟩, ?_⟩
  cases ha : c.absent with
  | false => rfl
  | true => rw [h3 ha]; rfl
theorem look_len {s : St} (h : StV s) (n : Nm) : ((look cmpN n s).getD []).length ≤ 65536 := by
  have h2 := h.2
  clear h
  induction s with
  | nil => simp [look]
  | cons p s ih =>
    unfold look
    have := h2 p (by simp)
    have ih := ih fun q hq => h2 q (by simp [hq])
    split
    · simpa using this
    · exact ih
theorem rds_mem {s : St} {a : A54} {c : Ch} (h : c ∈ rdsU s a 4) : ∃ p ∈ obs, c = rdC s p.1 := by
  unfold rdsU at h
  obtain ⟨p, hp, rfl⟩ := List.mem_map.1 h
  exact ⟨p, List.mem_of_mem_take (List.mem_filter.1 hp).1, rfl⟩
theorem wrs_mem {a : A54} {c : Ch} (h : c ∈ wrsU a 4) : ∃ p ∈ obs, c = wrC a p.1 := by
  unfold wrsU at h
  obtain ⟨p, hp, rfl⟩ := List.mem_map.1 h
  exact ⟨p, List.mem_of_mem_take (List.mem_filter.1 hp).1, rfl⟩
theorem wrC_v (a : A54) (n : Nm) (hn : IsOb n) : ChV (wrC a n) := ⟨hn, by unfold wrC; simp only; split <;> simp; omega⟩
theorem wrs_v (a : A54) : ∀ c ∈ wrsU a 4, ChV c := fun c hc => by
  obtain ⟨p, hp, rfl⟩ := wrs_mem hc
  exact wrC_v a _ (obs_ob p hp)
theorem rds_ord {s : St} (h : StV s) (a : A54) : ordCh (rdsU s a 4) = true := by
  refine ord_of ?_ fun c hc => ?_
  · unfold rdsU
    rw [List.pairwise_map]
    exact (obs_pair.sublist (List.take_sublist 4 obs)).filter _
  · obtain ⟨p, hp, rfl⟩ := rds_mem hc
    refine okCh_of (obs_ob p hp) (look_len h _) fun e => ?_
    simp only [rdC] at e ⊢
    rw [Option.isNone_iff_eq_none] at e
    rw [e]; rfl
theorem wrs_ord (a : A54) : ordCh (wrsU a 4) = true := by
  refine ord_of ?_ fun c hc => ?_
  · unfold wrsU
    rw [List.pairwise_map]
    exact (obs_pair.sublist (List.take_sublist 4 obs)).filter _
  · obtain ⟨p, hp, rfl⟩ := wrs_mem hc
    refine okCh_of (obs_ob p hp) (wrC_v a _ (obs_ob p hp)).2 fun e => ?_
    simp only [wrC] at e ⊢
    rw [if_pos e]
theorem u_len {α : Type} (f : Nm × Nat → Bool) (g : Nm × Nat → α) : (((obs.take 4).filter f).map g).length ≤ 10 := by
  rw [List.length_map]
  refine Nat.le_trans (List.length_filter_le _ _) ?_
  show 4 ≤ 10
  omega
theorem lin4_mem (k : Int) : lin4 k ∈ lin5 ∧ lin4 k ≠ [] := by
  unfold lin4 lin5
  split
  · simp
  · split
    · simp
    · split <;> simp
theorem key54_r {t i : Int} {a : A54} (h1 : 0 ≤ t) (h2 : t ≤ 100) (h3 : 0 ≤ i) (h4 : i ≤ 100) : KyR (key54 t i a) ∧ okKy (key54 t i a) = true := by
  unfold key54
  split
  · refine ⟨⟨⟨by simp only; omega, by simp only; omega⟩, by simp [lin5], .inl ⟨rfl, by simp only; omega, by simp only; omega, rfl⟩⟩, ?_⟩
    unfold okKy
    simp only [Bool.and_eq_true, Bool.or_eq_true, decide_eq_true_eq]
    exact ⟨h1, .inr (by omega)⟩
  · refine ⟨⟨⟨by simp only; omega, by simp only; omega⟩, (lin4_mem _).1, .inr ⟨rfl, rfl, (lin4_mem _).2⟩⟩, ?_⟩
    unfold okKy
    simp only [Bool.and_eq_true, Bool.or_eq_true, decide_eq_true_eq]
    exact ⟨h1, .inl trivial⟩
theorem key54_tick (t i : Int) (a : A54) : (key54 t i a).tick = t := by unfold key54; split <;> rfl
/-- A run so far. -/
structure Good (b : B54) (k : Nat) : Prop where
  len : b.l.length = k
  v : StV b.now
  now : b.now = stS base54 b.l
  t0 : 0 ≤ b.tick
  t1 : b.tick ≤ 2 * k
  i0 : 0 ≤ b.inp
  i1 : b.inp ≤ k
  all : ∀ a ∈ b.l, AcR a ∧ okAc a = true ∧ a.key.tick ≤ b.tick
  app : ∀ j (hj : j < b.l.length), appR (b.l.take j) b.l[j] = 0
theorem base54_v : StV base54 := by
  refine ⟨⟨by simp [base54], fun p hp => ?_⟩, fun p hp => ?_⟩
  · simp only [base54, List.mem_singleton] at hp
    subst hp
    unfold IsOb; decide +kernel
  · simp only [base54, List.mem_singleton] at hp
    subst hp
    simp
theorem good_nil : Good ⟨base54, 0, 0, []⟩ 0 := ⟨rfl, base54_v, rfl, by simp, by simp, by simp, by simp, by simp, by simp⟩
theorem wait_mod {x : Int} : 0 ≤ x % 2 ∧ x % 2 ≤ 1 := ⟨Int.emod_nonneg _ (by omega), by omega⟩
theorem good_step {b : B54} {k : Nat} (h : Good b k) (hk : k < 20) (a : A54) : Good (step54 b a) (k + 1) := by
  have hw := wait_mod (x := a.wait)
  obtain ⟨ht, ht2⟩ : 0 ≤ b.tick + 1 + a.wait % 2 ∧ b.tick + 1 + a.wait % 2 ≤ 2 * (k + 1) := by have := h.t0; have := h.t1; omega
  have hkr := key54_r (t := b.tick + 1 + a.wait % 2) (i := b.inp) (a := a) ht (by omega) h.i0 (by have := h.i1; omega)
  have hc : AcR (ac54 b.now (b.tick + 1 + a.wait % 2) b.inp a) := ⟨hkr.1, fun c hc => by
      obtain ⟨p, hp, rfl⟩ := rds_mem hc
      exact ⟨.inl (obs_ob p hp), Nat.le_trans (look_len h.v _) (by omega)⟩, fun c hc => ⟨.inl (wrs_v a c hc).1, Nat.le_trans (wrs_v a c hc).2 (by omega)⟩, u_len _ _, u_len _ _⟩
  have ho : okAc (ac54 b.now (b.tick + 1 + a.wait % 2) b.inp a) = true := by
    unfold okAc
    simp only [Bool.and_eq_true]
    exact ⟨⟨hkr.2, rds_ord h.v a⟩, wrs_ord a⟩
  have htk : (ac54 b.now (b.tick + 1 + a.wait % 2) b.inp a).key.tick = b.tick + 1 + a.wait % 2 := key54_tick _ _ _
  refine ⟨by simp [step54, h.len], StV.appS h.v (wrs_v a), by show appS b.now _ = stS _ (b.l ++ [_]); rw [stS_snoc, ← h.now]; rfl, ht, ht2, ?_, ?_, ?_, ?_⟩
  · show 0 ≤ inp54 b.inp a
    have := h.i0
    unfold inp54; split <;> omega
  · show inp54 b.inp a ≤ _
    have := h.i1
    unfold inp54; split <;> omega
  · intro x hx
    rcases List.mem_append.1 hx with hx | hx
    · obtain ⟨h1, h2, h3⟩ := h.all x hx
      exact ⟨h1, h2, by show _ ≤ b.tick + 1 + a.wait % 2; omega⟩
    · rw [List.mem_singleton] at hx
      subst hx
      exact ⟨hc, ho, by rw [htk]; exact Int.le_refl _⟩
  · intro j hj
    simp only [step54] at hj ⊢
    by_cases hjl : j < b.l.length
    · rw [List.take_append_of_le_length (by omega), List.getElem_append_left hjl]
      exact h.app j hjl
    · obtain rfl : j = b.l.length := by simp at hj; omega
      rw [List.take_left, List.getElem_append_right (Nat.le_refl _)]
      simp only [Nat.sub_self, List.getElem_cons_zero]
      rcases List.eq_nil_or_concat b.l with hn | ⟨d, y, hd⟩
      · rw [hn]; exact appR_nil ho
      · rw [hd, List.concat_eq_append, appR_snoc ho, if_pos]
        have := (h.all y (by rw [hd]; simp)).2.2
        unfold cmpK or4 or3
        have e : cmpI y.key.tick (ac54 b.now (b.tick + 1 + a.wait % 2) b.inp a).key.tick = -1 := by
          unfold cmpI
          rw [if_pos (by rw [htk]; omega)]
        rw [e]
        simp
theorem good_fold (l : List A54) : ∀ k, k ≤ l.length → k ≤ 20 → Good (fold54 (l.take k)) k
  | 0, _, _ => by rw [List.take_zero]; exact good_nil
  | k + 1, h1, h2 => by
    rw [fold54_take l k (by omega)]
    exact good_step (good_fold l k (by omega) (by omega)) (by omega) _
/-- The whole run. -/
theorem good_W (l : List A54) : Good (fold54 (l.take 20)) (min 20 l.length) := by
  have h := good_fold (l.take 20) (min 20 l.length) (by rw [List.length_take]; exact Nat.le_refl _) (Nat.min_le_left _ _)
  rwa [List.take_take, Nat.min_eq_left (by omega), ← List.take_eq_take_min] at h
theorem W54_bld (l : List A54) : bldR [] (W54 l) = 0 := bldR_all fun j hj => by rw [List.nil_append]; exact (good_W l).app j hj
end Go.Proofs.YtamjllakfgphnaaGreatDoor
