/- Plain facts of layer 46: states of a run, kept states. -/
import Derived.Test.YtamjllakfgphnaaGreatDoorGA
import Derived.Test.YtamjllakfgphnaaGreatDoorGS
namespace Go.Proofs.YtamjllakfgphnaaGreatDoor
set_option linter.unusedVariables false
def stS (s0 : St) (l : List Ac) : St := l.foldl (fun s a => appS s a.writes) s0
theorem stS_snoc (s0 : St) (l : List Ac) (a : Ac) : stS s0 (l ++ [a]) = appS (stS s0 l) a.writes := by
  unfold stS
  rw [List.foldl_append]; rfl
theorem stS_take (s0 : St) (l : List Ac) (k : Nat) (hk : k < l.length) : stS s0 (l.take (k + 1)) = appS (stS s0 (l.take k)) l[k].writes := by
  rw [List.take_succ_eq_append_getElem hk, stS_snoc]
def keptS (s0 : St) (l : List Ac) : List St := (List.range ((l.length + 15) / 16)).map fun j => stS s0 (l.take (j * 16))
theorem keptS_nil (s0 : St) : keptS s0 [] = [] := rfl
theorem keptS_len (s0 : St) (l : List Ac) : (keptS s0 l).length = (l.length + 15) / 16 := by simp [keptS]
theorem keptS_snoc (s0 : St) (l : List Ac) (a : Ac) : keptS s0 (l ++ [a]) = if l.length % 16 = 0 then keptS s0 l ++ [stS s0 l] else keptS s0 l := by
  have hm : ∀ m, m * 16 ≤ l.length + 15 → (List.range m).map (fun j => stS s0 ((l ++ [a]).take (j * 16))) = (List.range m).map fun j => stS s0 (l.take (j * 16)) := by
    intro m hm
    apply List.map_congr_left
    intro j hj
    rw [List.mem_range] at hj
    have : j * 16 ≤ l.length := by omega
    rw [List.take_append_of_le_length this]
  unfold keptS
  by_cases h : l.length % 16 = 0
  · rw [if_pos h]
    have e : ((l ++ [a]).length + 15) / 16 = (l.length + 15) / 16 + 1 := by simp; omega
    rw [e, List.range_succ, List.map_append, hm _ (by omega)]
    have e2 : (l.length + 15) / 16 * 16 = l.length := by omega
    simp only [List.map_cons, List.map_nil]
    rw [e2, List.take_append_of_le_length (Nat.le_refl _), List.take_length]
  · rw [if_neg h]
    have e : ((l ++ [a]).length + 15) / 16 = (l.length + 15) / 16 := by simp; omega
    rw [e, hm _ (by omega)]
theorem keptS_get (s0 : St) (l : List Ac) (j : Nat) (hj : j * 16 < l.length) : (keptS s0 l)[j]? = some (stS s0 (l.take (j * 16))) := by
  unfold keptS
  rw [List.getElem?_map, List.getElem?_range (by omega)]
  rfl
theorem stS_v {s0 : St} : ∀ {l : List Ac}, StV s0 → (∀ a ∈ l, ∀ c ∈ a.writes, ChV c) → StV (stS s0 l) := by
  intro l
  induction l generalizing s0 with
  | nil => intro h _; exact h
  | cons a l ih =>
    intro h hl
    exact ih (StV.appS h (hl a (by simp))) fun b hb => hl b (by simp [hb])
/-- What the runs' actions are like. -/
def AcR (a : Ac) : Prop := KyR a.key ∧ (∀ c ∈ a.reads, ChR c) ∧ (∀ c ∈ a.writes, ChR c) ∧ a.reads.length ≤ 10 ∧ a.writes.length ≤ 10
theorem ord_ob {l : List Ch} (h : ordCh l = true) : ∀ c ∈ l, IsOb c.name ∧ c.value.length ≤ 65536 := by
  intro c hc
  have h1 := (ord_nodup h).2 c hc
  refine ⟨okCh_ob h1, ?_⟩
  unfold okCh at h1
  simp only [Bool.and_eq_true, decide_eq_true_eq] at h1
  exact h1.1.2
end Go.Proofs.YtamjllakfgphnaaGreatDoor
/- Plain facts of layer 46: what Append answers; versions and readers while changes are written. -/
namespace Go.Proofs.YtamjllakfgphnaaGreatDoor
set_option linter.unusedVariables false
theorem cmpI_neg (a b : Int) : cmpI a b = -cmpI b a := by unfold cmpI; split <;> split <;> (try split) <;> omega
theorem cmpS_neg (a b : Bs) : cmpS a b = -cmpS b a := by
  unfold cmpS
  cases h1 : blt a b <;> cases h2 : blt b a
  · rfl
  · rfl
  · rfl
  · rw [blt_asymm h1] at h2; cases h2
theorem cmpK_neg (a b : Ky) : cmpK a b = -cmpK b a := by
  unfold cmpK or4 or3
  rw [cmpI_neg a.tick b.tick, cmpI_neg a.cls b.cls, cmpI_neg a.num b.num, cmpS_neg a.lin b.lin]
  by_cases h1 : cmpI b.tick a.tick = 0 <;> by_cases h2 : cmpI b.cls a.cls = 0 <;> by_cases h3 : cmpI b.num a.num = 0 <;> simp [h1, h2, h3]
/-- What Append answers. -/
def appR (l : List Ac) (a : Ac) : Int := if okAc a then (match l.getLast? with | none => 0 | some b => if cmpK b.key a.key < 0 then 0 else 32) else 3
theorem appR_bad {l : List Ac} {a : Ac} (h : okAc a = false) : appR l a = 3 := by unfold appR; rw [h]; rfl
theorem appR_nil {a : Ac} (h : okAc a = true) : appR [] a = 0 := by unfold appR; rw [h]; rfl
theorem appR_snoc {l : List Ac} {a b : Ac} (h : okAc a = true) : appR (l ++ [b]) a = if cmpK b.key a.key < 0 then 0 else 32 := by
  unfold appR
  rw [h, List.getLast?_append]
  rfl
/-- The versions of a name behind the first writes of the next action. -/
def versT (l : List Ac) (ws : List Ch) (n : Nm) : List Ver := vers n 0 l ++ (ws.filter fun c => c.name == n).map fun c => ⟨(l.length : Int), c.value, c.absent⟩
def rdrsT (l : List Ac) (rs : List Ch) (n : Nm) : List Int := rdrs n 0 l ++ (rs.filter fun c => c.name == n).map fun _ => (l.length : Int)
theorem versT_nil (l : List Ac) (n : Nm) : versT l [] n = vers n 0 l := by simp [versT]
theorem rdrsT_nil (l : List Ac) (n : Nm) : rdrsT l [] n = rdrs n 0 l := by simp [rdrsT]
theorem versT_all (l : List Ac) (a : Ac) (n : Nm) : versT l a.writes n = vers n 0 (l ++ [a]) := by rw [vers_snoc]; simp [versT]
theorem rdrsT_all (l : List Ac) (a : Ac) (n : Nm) : rdrsT l a.reads n = rdrs n 0 (l ++ [a]) := by rw [rdrs_snoc]; simp [rdrsT]
theorem versT_take (l : List Ac) (ws : List Ch) (k : Nat) (hk : k < ws.length) (n : Nm) : versT l (ws.take (k + 1)) n = if n = ws[k].name then versT l (ws.take k) ws[k].name ++ [⟨(l.length : Int), ws[k].value, ws[k].absent⟩] else versT l (ws.take k) n := by
  unfold versT
  rw [List.take_succ_eq_append_getElem hk, List.filter_append, List.map_append]
  by_cases h : n = ws[k].name
  · rw [if_pos h, h]
    simp
  · rw [if_neg h]
    have : (ws[k].name == n) = false := by simpa using fun e => h e.symm
    simp [this]
theorem rdrsT_take (l : List Ac) (rs : List Ch) (k : Nat) (hk : k < rs.length) (n : Nm) : rdrsT l (rs.take (k + 1)) n = if n = rs[k].name then rdrsT l (rs.take k) rs[k].name ++ [(l.length : Int)] else rdrsT l (rs.take k) n := by
  unfold rdrsT
  rw [List.take_succ_eq_append_getElem hk, List.filter_append, List.map_append]
  by_cases h : n = rs[k].name
  · rw [if_pos h, h]
    simp
  · rw [if_neg h]
    have : (rs[k].name == n) = false := by simpa using fun e => h e.symm
    simp [this]
theorem filt_len (l : List Ch) (n : Nm) : (l.filter fun c => c.name == n).length ≤ l.length := List.length_filter_le _ _
theorem vers_len (n : Nm) : ∀ (i : Nat) (l : List Ac), (∀ a ∈ l, a.writes.length ≤ 10) → (vers n i l).length ≤ l.length * 10
  | i, [], _ => by simp [vers]
  | i, a :: l, h => by
    have h1 := vers_len n (i + 1) l fun b hb => h b (by simp [hb])
    have h2 := h a (by simp)
    have h3 := filt_len a.writes n
    simp only [vers, List.length_append, List.length_map, List.length_cons]
    omega
theorem rdrs_len (n : Nm) : ∀ (i : Nat) (l : List Ac), (∀ a ∈ l, a.reads.length ≤ 10) → (rdrs n i l).length ≤ l.length * 10
  | i, [], _ => by simp [rdrs]
  | i, a :: l, h => by
    have h1 := rdrs_len n (i + 1) l fun b hb => h b (by simp [hb])
    have h2 := h a (by simp)
    have h3 := filt_len a.reads n
    simp only [rdrs, List.length_append, List.length_map, List.length_cons]
    omega
end Go.Proofs.YtamjllakfgphnaaGreatDoor
/- Plain facts of layer 46: what Build answers. -/
namespace Go.Proofs.YtamjllakfgphnaaGreatDoor
set_option linter.unusedVariables false
def bldR : List Ac → List Ac → Int
  | _, [] => 0
  | d, a :: l => if appR d a = 0 then bldR (d ++ [a]) l else appR d a
theorem bldR_stop : ∀ {l d : List Ac} {k : Nat}, (∀ j (hj : j < l.length), j < k → appR (d ++ l.take j) l[j] = 0) → ∀ hk : k < l.length, appR (d ++ l.take k) l[k] ≠ 0 → bldR d l = appR (d ++ l.take k) l[k]
  | [], d, k, _, hk, _ => by simp at hk
  | a :: l, d, 0, h, hk, hne => by
    simp only [List.take_zero, List.append_nil, List.getElem_cons_zero] at hne ⊢
    unfold bldR
    rw [if_neg hne]
  | a :: l, d, k + 1, h, hk, hne => by
    have h0 := h 0 (by simp) (by omega)
    simp only [List.take_zero, List.append_nil, List.getElem_cons_zero] at h0
    unfold bldR
    rw [if_pos h0]
    have hk' : k < l.length := by simpa using hk
    have := bldR_stop (l := l) (d := d ++ [a]) (k := k) (fun j hj hjk => by
      have := h (j + 1) (by simpa using hj) (by omega)
      simpa using this) hk' (by simpa using hne)
    rw [this]
    simp
theorem bldR_all : ∀ {l d : List Ac}, (∀ j (hj : j < l.length), appR (d ++ l.take j) l[j] = 0) → bldR d l = 0
  | [], _, _ => rfl
  | a :: l, d, h => by
    have h0 := h 0 (by simp)
    simp only [List.take_zero, List.append_nil, List.getElem_cons_zero] at h0
    unfold bldR
    rw [if_pos h0]
    exact bldR_all fun j hj => by
      have := h (j + 1) (by simpa using hj)
      simpa using this
theorem bldR_zero : ∀ {l d : List Ac}, bldR d l = 0 → ∀ j (hj : j < l.length), appR (d ++ l.take j) l[j] = 0
  | [], _, _, j, hj => by simp at hj
  | a :: l, d, h, j, hj => by
    unfold bldR at h
    split at h
    · rename_i h0
      cases j with
      | zero => simpa using h0
      | succ j =>
        have := bldR_zero h j (by simpa using hj)
        simpa using this
    · rename_i h0
      exact absurd h h0
theorem appR_ok {l : List Ac} {a : Ac} (h : appR l a = 0) : okAc a = true := by
  cases ho : okAc a with
  | true => rfl
  | false => rw [appR_bad ho] at h; cases h
/-- All actions so far are well-formed. -/
theorem ok_take {l : List Ac} {k : Nat} (h : ∀ j (hj : j < l.length), j < k → appR (l.take j) l[j] = 0) : ∀ a ∈ l.take k, okAc a = true := by
  intro a ha
  obtain ⟨j, hj, e⟩ := List.getElem_of_mem ha
  rw [List.length_take] at hj
  rw [List.getElem_take] at e
  rw [← e]
  exact appR_ok (h j (by omega) (by omega))
theorem ok_all {l : List Ac} (h : bldR [] l = 0) : ∀ a ∈ l, okAc a = true := by
  intro a ha
  have := ok_take (l := l) (k := l.length) (fun j hj _ => by simpa using bldR_zero h j hj) a
  rw [List.take_length] at this
  exact this ha
theorem ok_ch {a : Ac} (h : okAc a = true) : ordCh a.reads = true ∧ ordCh a.writes = true := by
  unfold okAc at h
  simp only [Bool.and_eq_true] at h
  exact ⟨h.1.2, h.2⟩
theorem stS_ok {s0 : St} (h0 : StV s0) {l : List Ac} (h : ∀ a ∈ l, okAc a = true) : StV (stS s0 l) := stS_v h0 fun a ha c hc => ord_ob (ok_ch (h a ha)).2 c hc
end Go.Proofs.YtamjllakfgphnaaGreatDoor
/- Plain facts of layer 46: searching. -/
namespace Go.Proofs.YtamjllakfgphnaaGreatDoor
set_option linter.unusedVariables false
theorem srch_is {l : List Ver} (h : Inc l) (t : Int) {i : Nat} (hi : i ≤ l.length) (h1 : ∀ q (hq : q < l.length), q < i → l[q].idx < t) (h2 : ∀ q (hq : q < l.length), i ≤ q → t ≤ l[q].idx) : i = srch l t := by
  obtain ⟨s1, s2⟩ := srch_split h t
  have s3 := srch_le l t
  rcases Nat.lt_trichotomy i (srch l t) with hlt | he | hgt
  · have hq : i < l.length := by omega
    have a := s1 l[i] (by rw [List.mem_take_iff_getElem]; exact ⟨i, by omega, rfl⟩)
    have b := h2 i hq (Nat.le_refl _)
    omega
  · exact he
  · have hq : srch l t < l.length := by omega
    have a := h1 (srch l t) hq hgt
    have b := s2 l[srch l t] (by rw [List.mem_drop_iff_getElem]; exact ⟨0, by omega, by simp⟩)
    omega
/-- The search so far. -/
def Bis (l : List Ver) (t : Int) (i j : Nat) : Prop := i ≤ j ∧ j ≤ l.length ∧ (∀ q (hq : q < l.length), q < i → l[q].idx < t) ∧ ∀ q (hq : q < l.length), j ≤ q → t ≤ l[q].idx
theorem Bis.start (l : List Ver) (t : Int) : Bis l t 0 l.length := ⟨Nat.zero_le _, Nat.le_refl _, fun q _ h => by omega, fun q hq h => by omega⟩
theorem inc_lt {l : List Ver} (h : Inc l) {a b : Nat} (hb : b < l.length) (hab : a < b) : l[a].idx < l[b].idx := List.pairwise_iff_getElem.1 h a b (by omega) hb hab
theorem Bis.up {l : List Ver} (h : Inc l) {t : Int} {i j m : Nat} (hb : Bis l t i j) (hm : m < j) (him : i ≤ m) (hlt : (l[m]'(by have := hb.2.1; omega)).idx < t) : Bis l t (m + 1) j := by
  obtain ⟨h1, h2, h3, h4⟩ := hb
  refine ⟨by omega, h2, fun q hq hqm => ?_, h4⟩
  by_cases e : q = m
  · subst e; exact hlt
  · have := inc_lt h (a := q) (b := m) (by omega) (by omega)
    omega
theorem Bis.down {l : List Ver} (h : Inc l) {t : Int} {i j m : Nat} (hb : Bis l t i j) (hm : m < j) (him : i ≤ m) (hge : t ≤ (l[m]'(by have := hb.2.1; omega)).idx) : Bis l t i m := by
  obtain ⟨h1, h2, h3, h4⟩ := hb
  refine ⟨him, by omega, h3, fun q hq hqm => ?_⟩
  by_cases e : q = m
  · subst e; exact hge
  · have := inc_lt h (a := m) (b := q) hq (by omega)
    omega
theorem Bis.done {l : List Ver} (h : Inc l) {t : Int} {i j : Nat} (hb : Bis l t i j) (he : ¬ i < j) : i = srch l t := by
  obtain ⟨h1, h2, h3, h4⟩ := hb
  have : i = j := by omega
  subst this
  exact srch_is h t h2 h3 h4
theorem cmpI_neg1 {a b : Int} : cmpI a b < 0 ↔ a < b := cmpI_lt
end Go.Proofs.YtamjllakfgphnaaGreatDoor
/- Plain facts of layer 46: consistent runs, readers of versions. -/
namespace Go.Proofs.YtamjllakfgphnaaGreatDoor
set_option linter.unusedVariables false
section
variable {α : Type}
/-- The first index with f, or the end. -/
def conR (f : Nat → α → Bool) : Nat → List α → Nat
  | i, [] => i
  | i, a :: l => if f i a then i else conR f (i + 1) l
theorem conR_stop {f : Nat → α → Bool} : ∀ {l : List α} {i k : Nat}, (∀ j (hj : j < l.length), j < k → f (i + j) l[j] = false) → ∀ hk : k < l.length, f (i + k) l[k] = true → conR f i l = i + k
  | [], i, k, _, hk, _ => by simp at hk
  | a :: l, i, 0, h, hk, ht => by
    simp only [List.getElem_cons_zero, Nat.add_zero] at ht ⊢
    unfold conR
    rw [if_pos ht]
  | a :: l, i, k + 1, h, hk, ht => by
    have h0 := h 0 (by simp) (by omega)
    simp only [List.getElem_cons_zero, Nat.add_zero] at h0
    unfold conR
    rw [h0, if_neg (by simp)]
    have := conR_stop (f := f) (l := l) (i := i + 1) (k := k) (fun j hj hjk => by
      have := h (j + 1) (by simpa using hj) (by omega)
      rw [List.getElem_cons_succ] at this
      rw [← this]; congr 1; omega) (by simpa using hk) (by
      rw [List.getElem_cons_succ] at ht
      rw [← ht]; congr 1; omega)
    rw [this]; omega
theorem conR_all {f : Nat → α → Bool} : ∀ {l : List α} {i : Nat}, (∀ j (hj : j < l.length), f (i + j) l[j] = false) → conR f i l = i + l.length
  | [], i, _ => rfl
  | a :: l, i, h => by
    have h0 := h 0 (by simp)
    simp only [List.getElem_cons_zero, Nat.add_zero] at h0
    unfold conR
    rw [h0, if_neg (by simp)]
    have := conR_all (f := f) (l := l) (i := i + 1) (fun j hj => by
      have := h (j + 1) (by simpa using hj)
      rw [List.getElem_cons_succ] at this
      rw [← this]; congr 1; omega)
    rw [this]; simp; omega
end
/-- A read of something else than what was found. -/
def badC (s0 : St) (l : List Ac) (i : Nat) (c : Ch) : Bool := ((befr i (ver0 s0 c.name) (vers c.name 0 l)).absent != c.absent) || ((befr i (ver0 s0 c.name) (vers c.name 0 l)).value != c.value)
def badA (s0 : St) (l : List Ac) (i : Nat) (a : Ac) : Bool := a.reads.any (badC s0 l i)
def conS (s0 : St) (l : List Ac) : Nat := conR (badA s0 l) 0 l
theorem any_stop {α : Type} {f : α → Bool} {l : List α} {m : Nat} (hm : m < l.length) (h : f l[m] = true) : l.any f = true := List.any_eq_true.2 ⟨l[m], List.getElem_mem hm, h⟩
theorem any_none {α : Type} {f : α → Bool} {l : List α} (h : ∀ j (hj : j < l.length), f l[j] = false) : l.any f = false := by
  rw [List.any_eq_false]
  intro x hx
  obtain ⟨j, hj, rfl⟩ := List.getElem_of_mem hx
  rw [h j hj]; simp
end Go.Proofs.YtamjllakfgphnaaGreatDoor
/- Plain facts of layer 46: what Readers answers. -/
namespace Go.Proofs.YtamjllakfgphnaaGreatDoor
set_option linter.unusedVariables false
def lastOf (n : Nat) (vs : List Ver) (a : Nat) : Int := if h : a < vs.length then vs[a].idx else n
def rdF (t z : Int) (i : Int) : Bool := decide (t < i) && decide (i ≤ z)
def rdrA (l : List Ac) (n : Nm) (t : Int) : Int × List Int :=
  if t < -1 ∨ (l.length : Int) ≤ t then (2, []) else
  if t = -1 then (0, (rdrs n 0 l).filter (rdF t (lastOf l.length (vers n 0 l) 0))) else
  if h : srch (vers n 0 l) t < (vers n 0 l).length then
    if ((vers n 0 l)[srch (vers n 0 l) t]).idx = t then (0, (rdrs n 0 l).filter (rdF t (lastOf l.length (vers n 0 l) (srch (vers n 0 l) t + 1)))) else (8, [])
  else (8, [])
theorem filter_take {α : Type} (f : α → Bool) (l : List α) (k : Nat) (hk : k < l.length) : (l.take (k + 1)).filter f = (l.take k).filter f ++ if f l[k] then [l[k]] else [] := by
  rw [List.take_succ_eq_append_getElem hk, List.filter_append]
  congr 1
  simp only [List.filter_cons, List.filter_nil]
theorem rdF_t {t z i : Int} (h1 : t < i) (h2 : i ≤ z) : rdF t z i = true := by unfold rdF; rw [decide_eq_true h1, decide_eq_true h2]; rfl
theorem rdF_f1 {t z i : Int} (h1 : ¬ t < i) : rdF t z i = false := by unfold rdF; rw [decide_eq_false h1]; rfl
theorem rdF_f2 {t z i : Int} (h1 : ¬ i ≤ z) : rdF t z i = false := by unfold rdF; rw [decide_eq_false h1, Bool.and_false]
theorem rdrA_mem {l : List Ac} {n : Nm} {t : Int} : ∀ i ∈ (rdrA l n t).2, i ∈ rdrs n 0 l := by
  intro i hi
  unfold rdrA at hi
  split at hi
  · cases hi
  · split at hi
    · exact (List.mem_filter.1 hi).1
    · split at hi
      · split at hi
        · exact (List.mem_filter.1 hi).1
        · cases hi
      · cases hi
theorem rdrs_bound (n : Nm) : ∀ (i : Nat) (l : List Ac), ∀ v ∈ rdrs n i l, (i : Int) ≤ v ∧ v < i + l.length
  | i, [], v, h => by simp [rdrs] at h
  | i, a :: l, v, h => by
    simp only [rdrs, List.mem_append, List.mem_map] at h
    rcases h with ⟨c, _, rfl⟩ | h
    · simp; omega
    · have := rdrs_bound n (i + 1) l v h
      simp at this ⊢; omega
end Go.Proofs.YtamjllakfgphnaaGreatDoor
/- Plain facts of layer 46: the reference's readers. -/
namespace Go.Proofs.YtamjllakfgphnaaGreatDoor
set_option linter.unusedVariables false
def refF (v0 : Ver) (vs : List Ver) (t : Int) (i : Int) : Bool := decide ((befr i v0 vs).idx = t)
def hasI (vs : List Ver) (t : Int) : Bool := vs.any fun v => decide (v.idx = t)
def refR (s0 : St) (l : List Ac) (n : Nm) (t : Int) : Int × List Int :=
  if t < -1 ∨ (l.length : Int) ≤ t then (2, []) else
  if hasI (verL s0 l n) t then (0, (rdrs n 0 l).filter (refF (ver0 s0 n) (vers n 0 l) t)) else (8, [])
def nxtI (n : Nat) : List Ver → Int
  | [] => n
  | u :: _ => u.idx
theorem lastOf_zero (n : Nat) (vs : List Ver) : lastOf n vs 0 = nxtI n vs := by
  cases vs with
  | nil => rfl
  | cons u r => simp [lastOf, nxtI]
theorem lastOf_drop (n : Nat) (vs : List Ver) (k : Nat) : lastOf n vs k = nxtI n (vs.drop k) := by
  unfold lastOf
  by_cases h : k < vs.length
  · rw [dif_pos h, List.drop_eq_getElem_cons h]; rfl
  · rw [dif_neg h, List.drop_of_length_le (by omega)]; rfl
theorem befr_iff2 (v0 : Ver) (h0 : v0.idx = -1) (vs l r : List Ver) (hv : l ++ r = vs) (n : Nat) (hi : Inc vs) (hb : ∀ u ∈ vs, 0 ≤ u.idx ∧ u.idx < n) (i : Int) (hi0 : 0 ≤ i) (hin : i ≤ n) :
    (befr i v0 vs).idx = ((v0 :: l).getLast (by simp)).idx ↔ ((v0 :: l).getLast (by simp)).idx < i ∧ i ≤ nxtI n r := by
  subst hv
  have h := befr_iff v0 h0 l r n hi hb i hi0 hin
  cases r with
  | nil => exact h
  | cons u r => exact h
theorem rdF_dec (t z i : Int) : rdF t z i = decide (t < i ∧ i ≤ z) := by
  unfold rdF
  by_cases h1 : t < i <;> by_cases h2 : i ≤ z <;> simp [h1, h2]
/-- The reference's readers are the program's. -/
theorem refR_eq (s0 : St) (l : List Ac) (n : Nm) (t : Int) (ho : ∀ a ∈ l, ordCh a.writes = true) : refR s0 l n t = rdrA l n t := by
  unfold refR rdrA
  by_cases h0 : t < -1 ∨ (l.length : Int) ≤ t
  · rw [if_pos h0, if_pos h0]
  · rw [if_neg h0, if_neg h0]
    have hinc : Inc (vers n 0 l) := vers_inc n 0 l ho
    have hb : ∀ u ∈ vers n 0 l, 0 ≤ u.idx ∧ u.idx < (l.length : Nat) := by
      intro u hu
      have := vers_idx n 0 l u hu
      simpa using this
    have hrb := rdrs_bound n 0 l
    have hv0 : (ver0 s0 n).idx = -1 := rfl
    generalize ver0 s0 n = v0 at *
    by_cases h1 : t = -1
    · rw [if_pos h1]
      have : hasI (verL s0 l n) t = true := by
        unfold hasI verL
        simp [h1, ver0]
      rw [if_pos this]
      congr 1
      apply List.filter_congr
      intro i hi
      have hi' := hrb i hi
      have hiff := befr_iff2 v0 hv0 (vers n 0 l) [] (vers n 0 l) rfl l.length hinc hb i (by omega) (by omega)
      simp only [List.getLast_singleton, hv0] at hiff
      rw [rdF_dec, lastOf_zero]
      unfold refF
      rw [h1]
      exact decide_eq_decide.2 hiff
    · rw [if_neg h1]
      by_cases h2 : hasI (verL s0 l n) t = true
      · rw [if_pos h2]
        unfold hasI verL at h2
        rw [List.any_cons] at h2
        have e0 : decide ((ver0 s0 n).idx = t) = false := decide_eq_false (by simp [ver0]; omega)
        rw [e0, Bool.false_or, List.any_eq_true] at h2
        obtain ⟨u, hu, hut⟩ := h2
        have hut := of_decide_eq_true hut
        obtain ⟨q, hq, rfl⟩ := List.getElem_of_mem hu
        obtain ⟨s1, s2⟩ := srch_split hinc t
        have s3 := srch_le (vers n 0 l) t
        have hqs : srch (vers n 0 l) t ≤ q := by
          refine Nat.le_of_not_lt fun hlt => ?_
          have := s1 _ (by rw [List.mem_take_iff_getElem]; exact ⟨q, by omega, rfl⟩)
          omega
        have hsl : srch (vers n 0 l) t < (vers n 0 l).length := by omega
        have hge := s2 ((vers n 0 l)[srch (vers n 0 l) t]) (by rw [List.mem_drop_iff_getElem]; exact ⟨0, by omega, by simp⟩)
        have hqe : srch (vers n 0 l) t = q := by
          refine Nat.le_antisymm hqs (Nat.le_of_not_lt fun hlt => ?_)
          have := inc_lt hinc hq hlt
          omega
        have heq : ((vers n 0 l)[srch (vers n 0 l) t]).idx = t := by simp only [hqe]; exact hut
        rw [dif_pos hsl, if_pos heq]
        congr 1
        apply List.filter_congr
        intro i hi
        have hi' := hrb i hi
        generalize srch (vers n 0 l) t = k at *
        have hiff := befr_iff2 v0 hv0 (vers n 0 l) ((vers n 0 l).take (k + 1)) ((vers n 0 l).drop (k + 1)) (List.take_append_drop _ _) l.length hinc hb i (by omega) (by omega)
        have hne : (vers n 0 l).take (k + 1) ≠ [] := by
          intro he
          have := congrArg List.length he
          rw [List.length_take, List.length_nil] at this
          omega
        have hgl : ((v0 :: (vers n 0 l).take (k + 1)).getLast (by simp)).idx = t := by
          rw [List.getLast_cons hne, List.getLast_eq_getElem, List.getElem_take]
          have e : ((vers n 0 l).take (k + 1)).length - 1 = k := by rw [List.length_take]; omega
          simp only [e]
          exact heq
        rw [hgl] at hiff
        rw [rdF_dec, lastOf_drop]
        unfold refF
        exact decide_eq_decide.2 hiff
      · rw [if_neg h2]
        split
        · rename_i hs
          rw [if_neg]
          intro he
          apply h2
          unfold hasI verL
          rw [List.any_cons, Bool.or_eq_true, List.any_eq_true]
          exact .inr ⟨_, List.getElem_mem hs, decide_eq_true he⟩
        · rfl
end Go.Proofs.YtamjllakfgphnaaGreatDoor
/- Plain facts of layer 46: every read is that of one version. -/
namespace Go.Proofs.YtamjllakfgphnaaGreatDoor
set_option linter.unusedVariables false
def sumN : List Nat → Nat
  | [] => 0
  | a :: l => a + sumN l
theorem sumN_append (a b : List Nat) : sumN (a ++ b) = sumN a + sumN b := by
  induction a with
  | nil => simp [sumN]
  | cons x a ih => simp only [List.cons_append, sumN, ih]; omega
theorem sumN_take {α : Type} (f : α → Nat) (l : List α) (k : Nat) (hk : k < l.length) : sumN ((l.take (k + 1)).map f) = sumN ((l.take k).map f) + f l[k] := by
  rw [List.take_succ_eq_append_getElem hk, List.map_append, sumN_append]
  simp [sumN]
theorem sumN_add {α : Type} (f g : α → Nat) : ∀ l : List α, sumN (l.map fun x => f x + g x) = sumN (l.map f) + sumN (l.map g)
  | [] => rfl
  | a :: l => by
    simp only [List.map_cons, sumN]
    rw [sumN_add f g l]; omega
theorem sumN_zero {α : Type} (f : α → Nat) : ∀ l : List α, (∀ x ∈ l, f x = 0) → sumN (l.map f) = 0
  | [], _ => rfl
  | a :: l, h => by
    simp only [List.map_cons, sumN]
    rw [sumN_zero f l fun x hx => h x (by simp [hx]), h a (by simp)]
section
variable {α β γ : Type} [DecidableEq γ]
theorem sum_one (g : β → γ) (c : γ) : ∀ vs : List β, (vs.map g).Nodup → c ∈ vs.map g → sumN (vs.map fun v => if c = g v then 1 else 0) = 1
  | [], _, h => by simp at h
  | v :: vs, hn, hc => by
    simp only [List.map_cons, List.nodup_cons] at hn
    simp only [List.map_cons, sumN]
    by_cases h : c = g v
    · rw [if_pos h]
      rw [sumN_zero]
      intro x hx
      rw [if_neg]
      intro e
      apply hn.1
      rw [← h, e]
      exact List.mem_map_of_mem hx
    · rw [if_neg h]
      simp only [List.map_cons, List.mem_cons] at hc
      rw [sum_one g c vs hn.2 (hc.resolve_left h)]
/-- Everything belongs to exactly one. -/
theorem sum_filter (f : α → γ) (g : β → γ) (vs : List β) (hn : (vs.map g).Nodup) : ∀ xs : List α, (∀ x ∈ xs, f x ∈ vs.map g) → sumN (vs.map fun v => (xs.filter fun x => decide (f x = g v)).length) = xs.length
  | [], _ => by
    simp only [List.filter_nil, List.length_nil]
    exact sumN_zero _ _ fun _ _ => rfl
  | x :: xs, h => by
    have ih := sum_filter f g vs hn xs fun y hy => h y (by simp [hy])
    have h1 := sum_one g (f x) vs hn (h x (by simp))
    have e : (fun v => ((x :: xs).filter fun x => decide (f x = g v)).length) = fun v => (if f x = g v then 1 else 0) + (xs.filter fun x => decide (f x = g v)).length := by
      funext v
      rw [List.filter_cons]
      by_cases hx : f x = g v
      · simp [hx]; omega
      · simp [hx]
    rw [e, sumN_add, ih, h1]
    simp; omega
end
theorem befr_in (i : Int) (v : Ver) (l : List Ver) : befr i v l ∈ v :: l := by
  rcases befr_mem i v l with h | ⟨h, _⟩
  · rw [h]; simp
  · simp [h]
theorem verL_nodup (s0 : St) (l : List Ac) (n : Nm) (ho : ∀ a ∈ l, ordCh a.writes = true) : ((verL s0 l n).map fun v => v.idx).Nodup := by
  unfold verL
  rw [List.map_cons, List.nodup_cons]
  constructor
  · intro h
    obtain ⟨v, hv, e⟩ := List.mem_map.1 h
    have := vers_idx n 0 l v hv
    simp [ver0] at e
    omega
  · have := vers_inc n 0 l ho
    unfold List.Nodup
    rw [List.pairwise_map]
    exact this.imp fun h => by omega
theorem rdrA_ok (s0 : St) (l : List Ac) (n : Nm) (ho : ∀ a ∈ l, ordCh a.writes = true) (v : Ver) (hv : v ∈ verL s0 l n) (hl : l ≠ [] ∨ True) (hb : v.idx < (l.length : Int)) : rdrA l n v.idx = (0, (rdrs n 0 l).filter (refF (ver0 s0 n) (vers n 0 l) v.idx)) := by
  rw [← refR_eq s0 l n v.idx ho]
  unfold refR
  have hge : -1 ≤ v.idx := by
    unfold verL at hv
    rcases List.mem_cons.1 hv with rfl | hv
    · simp [ver0]
    · have := vers_idx n 0 l v hv; omega
  rw [if_neg (by omega), if_pos]
  unfold hasI
  rw [List.any_eq_true]
  exact ⟨v, hv, decide_eq_true rfl⟩
theorem verL_idx (s0 : St) (l : List Ac) (n : Nm) : ∀ v ∈ verL s0 l n, -1 ≤ v.idx ∧ v.idx < (l.length : Int) := by
  intro v hv
  unfold verL at hv
  rcases List.mem_cons.1 hv with rfl | hv
  · simp [ver0]; omega
  · have := vers_idx n 0 l v hv; omega
/-- The readers of all versions of a name. -/
theorem found_len (s0 : St) (l : List Ac) (n : Nm) (ho : ∀ a ∈ l, ordCh a.writes = true) : sumN ((verL s0 l n).map fun v => (rdrA l n v.idx).2.length) = (rdrs n 0 l).length := by
  have e : (verL s0 l n).map (fun v => (rdrA l n v.idx).2.length) = (verL s0 l n).map fun v => ((rdrs n 0 l).filter fun i => decide ((befr i (ver0 s0 n) (vers n 0 l)).idx = v.idx)).length := by
    apply List.map_congr_left
    intro v hv
    rw [rdrA_ok s0 l n ho v hv (.inr trivial) (verL_idx s0 l n v hv).2]
    rfl
  rw [e]
  exact sum_filter (fun i => (befr i (ver0 s0 n) (vers n 0 l)).idx) (fun v : Ver => v.idx) _ (verL_nodup s0 l n ho) _ fun i _ => List.mem_map_of_mem (befr_in i _ _)
theorem objs_nodup : objs.Nodup := by unfold objs; decide
theorem rdrs_cons_len (n : Nm) (i : Nat) (a : Ac) (l : List Ac) : (rdrs n i (a :: l)).length = (a.reads.filter fun c => decide (c.name = n)).length + (rdrs n (i + 1) l).length := by
  simp only [rdrs, List.length_append, List.length_map]
  congr 3
theorem rdrs_all : ∀ (i : Nat) (l : List Ac), (∀ a ∈ l, ∀ c ∈ a.reads, IsOb c.name) → sumN (objs.map fun n => (rdrs n i l).length) = sumN (l.map fun a => a.reads.length)
  | i, [], _ => by
    simp only [rdrs, List.length_nil]
    exact sumN_zero _ _ fun _ _ => rfl
  | i, a :: l, h => by
    have ih := rdrs_all (i + 1) l fun b hb => h b (by simp [hb])
    have e : (fun n => (rdrs n i (a :: l)).length) = fun n => (a.reads.filter fun c => decide (c.name = n)).length + (rdrs n (i + 1) l).length := funext fun n => rdrs_cons_len n i a l
    rw [e, sumN_add, ih]
    have h1 := sum_filter (fun c : Ch => c.name) (fun n : Nm => n) objs (by simpa using objs_nodup) a.reads fun c hc => by
      have h1 : c.name ∈ objs := h a (by simp) c hc
      simpa using h1
    rw [h1]
    rfl
theorem reads_found (s0 : St) (l : List Ac) (hok : ∀ a ∈ l, okAc a = true) : sumN (objs.map fun n => sumN ((verL s0 l n).map fun v => (rdrA l n v.idx).2.length)) = sumN (l.map fun a => a.reads.length) := by
  rw [← rdrs_all 0 l fun a ha c hc => (ord_ob (ok_ch (hok a ha)).1 c hc).1]
  congr 1
  apply List.map_congr_left
  intro n _
  exact found_len s0 l n fun a ha => (ok_ch (hok a ha)).2
/-- From the end. -/
theorem conR_drop {f : Nat → Ac → Bool} {l : List Ac} {k : Nat} (hk : k < l.length) : conR f k (l.drop k) = if f k l[k] then k else conR f (k + 1) (l.drop (k + 1)) := by
  rw [List.drop_eq_getElem_cons hk]
  rfl
theorem any_take {α : Type} (f : α → Bool) (l : List α) (k : Nat) (hk : k < l.length) : (l.take (k + 1)).any f = ((l.take k).any f || f l[k]) := by
  rw [List.take_succ_eq_append_getElem hk, List.any_append]
  simp
theorem hasI_take (l : List Ver) (t : Int) (k : Nat) (hk : k < l.length) : hasI (l.take (k + 1)) t = (hasI (l.take k) t || decide (l[k].idx = t)) := any_take _ l k hk
/-- The reference's check. -/
theorem chk_stop {l : List Ac} {k : Nat} (h : ∀ j (hj : j < l.length), j < k → appR (l.take j) l[j] = 0) (hk : k < l.length) {e : Int} (he : appR (l.take k) l[k] = e) (hne : e ≠ 0) : bldR [] l = e := by
  have := bldR_stop (l := l) (d := []) (k := k) (fun j hj hjk => by simpa using h j hj hjk) hk (by simpa [he] using hne)
  rw [this]; simpa using he
theorem chk_all {l : List Ac} (h : ∀ j (hj : j < l.length), appR (l.take j) l[j] = 0) : bldR [] l = 0 := bldR_all fun j hj => by simpa using h j hj
theorem appR_at {l : List Ac} {k : Nat} (hk : k + 1 < l.length) (h : okAc l[k + 1] = true) : appR (l.take (k + 1)) l[k + 1] = if cmpK (l[k]'(by omega)).key l[k + 1].key < 0 then 0 else 32 := by
  rw [List.take_succ_eq_append_getElem (by omega), appR_snoc h]
/-- The reference's version before an index. -/
theorem befr_take (i : Int) (v : Ver) (l : List Ver) (k : Nat) (hk : k < l.length) : befr i v (l.take (k + 1)) = if l[k].idx < i then l[k] else befr i v (l.take k) := by
  rw [List.take_succ_eq_append_getElem hk, befr_append]
  rfl
end Go.Proofs.YtamjllakfgphnaaGreatDoor
/- Plain facts of layer 46: differences of states; states and versions. -/
namespace Go.Proofs.YtamjllakfgphnaaGreatDoor
set_option linter.unusedVariables false
theorem look_c {n : Nm} (hn : IsOb n) {p : Nm × Bs} (hp : IsOb p.1) (l : St) : look cmpN n (p :: l) = if n = p.1 then some p.2 else look cmpN n l := by
  obtain ⟨a, x⟩ := p
  simp only [look]
  by_cases h : n = a
  · rw [if_pos h, if_pos ((ordO.eq hn hp).2 h)]
  · rw [if_neg h, if_neg fun e => h ((ordO.eq hn hp).1 e)]
theorem look_no {n : Nm} (hn : IsOb n) : ∀ {s : St}, (∀ p ∈ s, IsOb p.1) → (∀ p ∈ s, n ≠ p.1) → look cmpN n s = none
  | [], _, _ => rfl
  | p :: s, h1, h2 => by
    rw [look_c hn (h1 p (by simp)), if_neg (h2 p (by simp))]
    exact look_no hn (fun q hq => h1 q (by simp [hq])) fun q hq => h2 q (by simp [hq])
theorem ne_of_lt {a b : Nm} (ha : IsOb a) (h : cmpN a b < 0) : a ≠ b := by
  rintro rfl
  rw [ordO.refl ha] at h
  omega
theorem st_tail {p : Nm × Bs} {s : St} (h : StOk (p :: s)) : StOk s := Srt.tail h
theorem st_head {p : Nm × Bs} {s : St} (h : StOk (p :: s)) : IsOb p.1 := h.2 p (by simp)
theorem look_hd {p : Nm × Bs} {s : St} (h : StOk (p :: s)) : look cmpN p.1 s = none :=
  look_no (st_head h) (fun q hq => h.2 q (by simp [hq])) fun q hq => ne_of_lt (st_head h) (h.gt q hq)
theorem look_lt {n : Nm} (hn : IsOb n) {q : Nm × Bs} {s : St} (h : StOk (q :: s)) (hlt : cmpN n q.1 < 0) : look cmpN n (q :: s) = none :=
  look_no hn h.2 fun p hp => by
    rcases List.mem_cons.1 hp with rfl | hp
    · exact ne_of_lt hn hlt
    · exact ne_of_lt hn (ordO.trans hn (st_head h) (h.2 p (by simp [hp])) hlt (h.gt p hp))
/-- The changes from one state to another. -/
def diffL : St → St → List Ch
  | [], [] => []
  | [], q :: b => ⟨q.1, q.2, false⟩ :: diffL [] b
  | p :: a, [] => ⟨p.1, [], true⟩ :: diffL a []
  | p :: a, q :: b =>
    if cmpN p.1 q.1 < 0 then ⟨p.1, [], true⟩ :: diffL a (q :: b)
    else if 0 < cmpN p.1 q.1 then ⟨q.1, q.2, false⟩ :: diffL (p :: a) b
    else if p.2 = q.2 then diffL a b else ⟨q.1, q.2, false⟩ :: diffL a b
termination_by a b => a.length + b.length
theorem diff_look {n : Nm} (hn : IsOb n) : ∀ (a b : St), StOk a → StOk b → (n ∈ (diffL a b).map Ch.name ↔ look cmpN n a ≠ look cmpN n b)
  | [], [], _, _ => by rw [diffL]; simp
  | [], q :: b, ha, hb => by
    have ih := diff_look hn [] b ha (st_tail hb)
    rw [diffL, look_c hn (st_head hb)]
    simp only [List.map_cons, List.mem_cons, ih]
    by_cases h : n = q.1
    · rw [if_pos h]; simp [h, look]
    · rw [if_neg h]; simp [h]
  | p :: a, [], ha, hb => by
    have ih := diff_look hn a [] (st_tail ha) hb
    rw [diffL, look_c hn (st_head ha)]
    simp only [List.map_cons, List.mem_cons, ih]
    by_cases h : n = p.1
    · rw [if_pos h]; simp [h, look]
    · rw [if_neg h]; simp [h]
  | p :: a, q :: b, ha, hb => by
    rw [diffL]
    by_cases h1 : cmpN p.1 q.1 < 0
    · have ih := diff_look hn a (q :: b) (st_tail ha) hb
      rw [if_pos h1]
      simp only [List.map_cons, List.mem_cons, ih]
      rw [look_c hn (st_head ha)]
      by_cases h : n = p.1
      · rw [if_pos h]
        rw [h, look_lt (st_head ha) hb h1]
        simp
      · rw [if_neg h]; simp [h]
    · rw [if_neg h1]
      by_cases h2 : 0 < cmpN p.1 q.1
      · have ih := diff_look hn (p :: a) b ha (st_tail hb)
        rw [if_pos h2]
        simp only [List.map_cons, List.mem_cons, ih]
        rw [look_c (p := q) hn (st_head hb)]
        by_cases h : n = q.1
        · rw [if_pos h]
          have hlt : cmpN q.1 p.1 < 0 := (ordO.anti (st_head hb) (st_head ha)).2 h2
          rw [h, look_lt (st_head hb) ha hlt]
          simp
        · rw [if_neg h]; simp [h]
      · rw [if_neg h2]
        have he : p.1 = q.1 := (ordO.eq (st_head ha) (st_head hb)).1 (by omega)
        have ih := diff_look hn a b (st_tail ha) (st_tail hb)
        rw [look_c hn (st_head ha), look_c hn (st_head hb)]
        by_cases h3 : p.2 = q.2
        · rw [if_pos h3, ih]
          by_cases h : n = p.1
          · rw [if_pos h, if_pos (h.trans he), h3, h, look_hd ha]
            rw [he, look_hd hb]
            simp
          · rw [if_neg h, if_neg fun e => h (e.trans he.symm)]
        · rw [if_neg h3]
          simp only [List.map_cons, List.mem_cons, ih]
          by_cases h : n = p.1
          · rw [if_pos h, if_pos (h.trans he)]
            simp [h, he, h3]
          · have h' : ¬ n = q.1 := fun e => h (e.trans he.symm)
            rw [if_neg h, if_neg h']
            simp [h']
termination_by a b => a.length + b.length
theorem diff_sub : ∀ (a b : St), ∀ c ∈ diffL a b, (∃ p ∈ a, p.1 = c.name) ∨ ∃ q ∈ b, q.1 = c.name
  | [], [], c, h => by rw [diffL] at h; cases h
  | [], q :: b, c, h => by
    rw [diffL] at h
    rcases List.mem_cons.1 h with rfl | h
    · exact .inr ⟨q, by simp, rfl⟩
    · rcases diff_sub [] b c h with ⟨p, hp, e⟩ | ⟨p, hp, e⟩
      · exact .inl ⟨p, hp, e⟩
      · exact .inr ⟨p, by simp [hp], e⟩
  | p :: a, [], c, h => by
    rw [diffL] at h
    rcases List.mem_cons.1 h with rfl | h
    · exact .inl ⟨p, by simp, rfl⟩
    · rcases diff_sub a [] c h with ⟨p, hp, e⟩ | ⟨p, hp, e⟩
      · exact .inl ⟨p, by simp [hp], e⟩
      · exact .inr ⟨p, hp, e⟩
  | p :: a, q :: b, c, h => by
    have lift : ((∃ p ∈ a, p.1 = c.name) ∨ ∃ q ∈ b, q.1 = c.name) → (∃ x ∈ p :: a, x.1 = c.name) ∨ ∃ x ∈ q :: b, x.1 = c.name := by
      rintro (⟨x, hx, e⟩ | ⟨x, hx, e⟩)
      · exact .inl ⟨x, by simp [hx], e⟩
      · exact .inr ⟨x, by simp [hx], e⟩
    rw [diffL] at h
    split at h
    · rcases List.mem_cons.1 h with rfl | h
      · exact .inl ⟨p, by simp, rfl⟩
      · rcases diff_sub a (q :: b) c h with ⟨p, hp, e⟩ | ⟨p, hp, e⟩
        · exact .inl ⟨p, by simp [hp], e⟩
        · exact .inr ⟨p, hp, e⟩
    · split at h
      · rcases List.mem_cons.1 h with rfl | h
        · exact .inr ⟨q, by simp, rfl⟩
        · rcases diff_sub (p :: a) b c h with ⟨p, hp, e⟩ | ⟨p, hp, e⟩
          · exact .inl ⟨p, hp, e⟩
          · exact .inr ⟨p, by simp [hp], e⟩
      · split at h
        · exact lift (diff_sub a b c h)
        · rcases List.mem_cons.1 h with rfl | h
          · exact .inr ⟨q, by simp, rfl⟩
          · exact lift (diff_sub a b c h)
termination_by a b => a.length + b.length
theorem diff_gt {m : Nm} {a b : St} (ha : ∀ p ∈ a, cmpN m p.1 < 0) (hb : ∀ p ∈ b, cmpN m p.1 < 0) : ∀ c ∈ (diffL a b).map Ch.name, cmpN m c < 0 := by
  intro n hn
  obtain ⟨c, hc, rfl⟩ := List.mem_map.1 hn
  rcases diff_sub a b c hc with ⟨p, hp, e⟩ | ⟨p, hp, e⟩
  · rw [← e]; exact ha p hp
  · rw [← e]; exact hb p hp
theorem diff_strict : ∀ (a b : St), StOk a → StOk b → Strict cmpN ((diffL a b).map Ch.name)
  | [], [], _, _ => by rw [diffL]; exact List.Pairwise.nil
  | [], q :: b, ha, hb => by
    rw [diffL]
    exact List.pairwise_cons.2 ⟨diff_gt (by simp) hb.gt, diff_strict [] b ha (st_tail hb)⟩
  | p :: a, [], ha, hb => by
    rw [diffL]
    exact List.pairwise_cons.2 ⟨diff_gt ha.gt (by simp), diff_strict a [] (st_tail ha) hb⟩
  | p :: a, q :: b, ha, hb => by
    have up : ∀ {m : Nm} {x : Nm × Bs} {s : St}, IsOb m → StOk (x :: s) → cmpN m x.1 < 0 → ∀ y ∈ x :: s, cmpN m y.1 < 0 := by
      intro m x s hm hs h y hy
      rcases List.mem_cons.1 hy with rfl | hy
      · exact h
      · exact ordO.trans hm (st_head hs) (hs.2 y (by simp [hy])) h (hs.gt y hy)
    rw [diffL]
    by_cases h1 : cmpN p.1 q.1 < 0
    · rw [if_pos h1]
      exact List.pairwise_cons.2 ⟨diff_gt ha.gt (up (st_head ha) hb h1), diff_strict a (q :: b) (st_tail ha) hb⟩
    · rw [if_neg h1]
      by_cases h2 : 0 < cmpN p.1 q.1
      · rw [if_pos h2]
        have hlt : cmpN q.1 p.1 < 0 := (ordO.anti (st_head hb) (st_head ha)).2 h2
        exact List.pairwise_cons.2 ⟨diff_gt (up (st_head hb) ha hlt) hb.gt, diff_strict (p :: a) b ha (st_tail hb)⟩
      · rw [if_neg h2]
        have he : p.1 = q.1 := (ordO.eq (st_head ha) (st_head hb)).1 (by omega)
        split
        · exact diff_strict a b (st_tail ha) (st_tail hb)
        · exact List.pairwise_cons.2 ⟨diff_gt (fun x hx => by simp only; rw [← he]; exact ha.gt x hx) hb.gt, diff_strict a b (st_tail ha) (st_tail hb)⟩
termination_by a b => a.length + b.length
theorem diff_ob {a b : St} (ha : StOk a) (hb : StOk b) : ∀ n ∈ (diffL a b).map Ch.name, IsOb n := by
  intro n hn
  obtain ⟨c, hc, rfl⟩ := List.mem_map.1 hn
  rcases diff_sub a b c hc with ⟨p, hp, e⟩ | ⟨p, hp, e⟩
  · rw [← e]; exact ha.2 p hp
  · rw [← e]; exact hb.2 p hp
/-- The names of the differences, among the objects. -/
theorem diff_objs {a b : St} (ha : StOk a) (hb : StOk b) : (diffL a b).map Ch.name = objs.filter fun n => decide (look cmpN n a ≠ look cmpN n b) := by
  refine strict_ext (S := IsOb) ordO (diff_ob ha hb) (diff_strict a b ha hb) (objs_strict.filter _) fun n => ?_
  rw [List.mem_filter]
  constructor
  · intro h
    have hn := diff_ob ha hb n h
    exact ⟨hn, decide_eq_true ((diff_look hn a b ha hb).1 h)⟩
  · rintro ⟨hn, h⟩
    exact (diff_look hn a b ha hb).2 (of_decide_eq_true h)
theorem diff_self {a : St} (ha : StOk a) : diffL a a = [] := by
  have h1 := diff_objs ha ha
  have h2 : objs.filter (fun n => decide (look cmpN n a ≠ look cmpN n a)) = [] := by
    rw [List.filter_eq_nil_iff]
    intro n _
    simp
  rw [h2] at h1
  exact List.map_eq_nil_iff.1 h1
theorem diff_nil : ∀ {a b : St}, StOk a → StOk b → diffL a b = [] → a = b
  | [], [], _, _, _ => rfl
  | [], q :: b, _, _, h => by rw [diffL] at h; cases h
  | p :: a, [], _, _, h => by rw [diffL] at h; cases h
  | p :: a, q :: b, ha, hb, h => by
    rw [diffL] at h
    split at h
    · cases h
    · rename_i h1
      split at h
      · cases h
      · rename_i h2
        have he : p.1 = q.1 := (ordO.eq (st_head ha) (st_head hb)).1 (by omega)
        split at h
        · rename_i h3
          rw [diff_nil (st_tail ha) (st_tail hb) h]
          congr 1
          exact Prod.ext he h3
        · cases h
theorem look_ins {n k : Nm} (hn : IsOb n) (hk : IsOb k) (v : Bs) : ∀ s : St, (∀ p ∈ s, IsOb p.1) → look cmpN n (ins cmpN k v s) = if n = k then some v else look cmpN n s
  | [], _ => by
    rw [ins, look_c hn hk]
  | (a, x) :: s, h => by
    have ha : IsOb a := h (a, x) (by simp)
    have ih := look_ins hn hk v s fun p hp => h p (by simp [hp])
    rw [ins]
    by_cases h1 : cmpN k a < 0
    · rw [if_pos h1, look_c hn hk]
    · rw [if_neg h1]
      by_cases h2 : 0 < cmpN k a
      · rw [if_pos h2, look_c (p := (a, x)) hn ha, look_c (p := (a, x)) hn ha, ih]
        have hne : a ≠ k := by
          rintro rfl
          rw [ordO.refl ha] at h2
          omega
        by_cases e : n = a
        · have : ¬ n = k := fun e2 => hne (e.symm.trans e2)
          rw [if_pos e, if_neg this, if_pos e]
        · rw [if_neg e, if_neg e]
      · rw [if_neg h2]
        have e : k = a := (ordO.eq hk ha).1 (by omega)
        rw [look_c hn hk, look_c (p := (a, x)) hn ha]
        by_cases e2 : n = k
        · rw [if_pos e2, if_pos e2]
        · rw [if_neg e2, if_neg e2, if_neg fun e3 => e2 (e3.trans e.symm)]
theorem look_del {n k : Nm} (hn : IsOb n) (hk : IsOb k) : ∀ s : St, StOk s → look cmpN n (del cmpN k s) = if n = k then none else look cmpN n s
  | [], _ => by rw [del]; simp [look]
  | (a, x) :: s, h => by
    have ha : IsOb a := st_head h
    have ih := look_del hn hk s (st_tail h)
    rw [del]
    by_cases h1 : cmpN k a = 0
    · have e : k = a := (ordO.eq hk ha).1 h1
      rw [if_pos h1, look_c (p := (a, x)) hn ha]
      by_cases e2 : n = k
      · rw [if_pos e2]
        have := look_hd h
        rw [e2, e]
        exact this
      · rw [if_neg e2, if_neg fun e3 => e2 (e3.trans e.symm)]
    · have hne : k ≠ a := fun e => h1 ((ordO.eq hk ha).2 e)
      rw [if_neg h1, look_c (p := (a, x)) hn ha, look_c (p := (a, x)) hn ha, ih]
      by_cases e : n = a
      · rw [if_pos e, if_pos e, if_neg fun e2 => hne (e2.symm.trans e)]
      · rw [if_neg e, if_neg e]
def newO (o : Option Bs) (c : Ch) : Option Bs := if c.absent then none else some c.value
theorem look_app1 {n : Nm} (hn : IsOb n) {s : St} (hs : StOk s) {c : Ch} (hc : IsOb c.name) : look cmpN n (app1 s c) = if n = c.name then newO (look cmpN n s) c else look cmpN n s := by
  unfold app1 newO
  split
  · rename_i h
    rw [look_del hn hc s hs]
  · rename_i h
    rw [look_ins hn hc c.value s hs.2]
theorem look_appS {n : Nm} (hn : IsOb n) : ∀ {ws : List Ch} {s : St}, StOk s → (∀ c ∈ ws, IsOb c.name) → look cmpN n (appS s ws) = (ws.filter fun c => c.name == n).foldl newO (look cmpN n s)
  | [], s, _, _ => rfl
  | c :: ws, s, hs, h => by
    have hc := h c (by simp)
    have ih := look_appS hn (ws := ws) (app1_ok hs hc) fun d hd => h d (by simp [hd])
    have e : appS s (c :: ws) = appS (app1 s c) ws := rfl
    rw [e, ih, look_app1 hn hs hc, List.filter_cons]
    by_cases he : n = c.name
    · have : (c.name == n) = true := by rw [beq_iff_eq]; exact he.symm
      rw [if_pos he, if_pos this]
      rfl
    · have : ¬ (c.name == n) = true := by rw [beq_iff_eq]; exact fun e => he e.symm
      rw [if_neg he, if_neg this]
/-- A version says what a state says. -/
def Says (v : Ver) (o : Option Bs) : Prop := v.absent = o.isNone ∧ v.value = o.getD []
theorem says_new {c : Ch} (h : okCh c = true) (i : Int) (o : Option Bs) : Says ⟨i, c.value, c.absent⟩ (newO o c) := by
  unfold Says newO
  cases ha : c.absent with
  | false => simp
  | true =>
    unfold okCh at h
    simp only [ha, Bool.true_and, Bool.not_not, Bool.and_eq_true] at h
    have := h.2
    simp only [List.isEmpty_iff] at this
    simp [this]
theorem befr_fold (i : Int) : ∀ (v : Ver) (l : List Ver), (∀ u ∈ l, u.idx < i) → befr i v l = l.foldl (fun _ u => u) v
  | v, [], _ => rfl
  | v, u :: l, h => by
    simp only [befr]
    rw [if_pos (h u (by simp)), befr_fold i u l fun x hx => h x (by simp [hx])]
    rfl
theorem vers_append (n : Nm) : ∀ (i : Nat) (l r : List Ac), vers n i (l ++ r) = vers n i l ++ vers n (i + l.length) r
  | i, [], r => by simp [vers]
  | i, a :: l, r => by
    simp only [List.cons_append, vers, List.length_cons]
    rw [vers_append n (i + 1) l r, List.append_assoc]
    congr 3
    omega
theorem says_fold {n : Nm} : ∀ {ws : List Ch} {v : Ver} {o : Option Bs} (i : Int), (∀ c ∈ ws, okCh c = true) → Says v o → Says ((ws.map fun c => (⟨i, c.value, c.absent⟩ : Ver)).foldl (fun _ u => u) v) (ws.foldl newO o)
  | [], v, o, i, _, h => h
  | c :: ws, v, o, i, hc, h => says_fold (n := n) (ws := ws) i (fun d hd => hc d (by simp [hd])) (says_new (hc c (by simp)) i o)
/-- What an action finds is what the state before it says. -/
theorem befr_says {n : Nm} (hn : IsOb n) {s0 : St} (h0 : StOk s0) {l : List Ac} (ho : ∀ a ∈ l, ordCh a.writes = true) (k : Nat) (hk : k ≤ l.length) : Says (befr k (ver0 s0 n) (vers n 0 l)) (look cmpN n (stS s0 (l.take k))) ∧ StOk (stS s0 (l.take k)) := by
  have e : vers n 0 l = vers n 0 (l.take k) ++ vers n (0 + (l.take k).length) (l.drop k) := by
    rw [← vers_append, List.take_append_drop]
  have hlk : (l.take k).length = k := by rw [List.length_take]; omega
  have e2 : befr k (ver0 s0 n) (vers n 0 l) = (vers n 0 (l.take k)).foldl (fun _ u => u) (ver0 s0 n) := by
    rw [e, befr_append, befr_stay, befr_fold]
    · intro u hu
      have := vers_idx n 0 (l.take k) u hu
      omega
    · intro u hu
      have := vers_idx n _ (l.drop k) u hu
      omega
  rw [e2]
  clear e e2 hlk
  induction k with
  | zero =>
    refine ⟨?_, h0⟩
    simp only [List.take_zero, vers, List.foldl_nil]
    exact ⟨rfl, rfl⟩
  | succ k ih =>
    obtain ⟨i1, i2⟩ := ih (by omega)
    have hkl : k < l.length := by omega
    have hw := ho l[k] (List.getElem_mem hkl)
    have hob : ∀ c ∈ l[k].writes, IsOb c.name := fun c hc => okCh_ob ((ord_nodup hw).2 c hc)
    rw [List.take_succ_eq_append_getElem hkl, stS_snoc, vers_snoc]
    refine ⟨?_, appS_ok i2 hob⟩
    rw [look_appS hn i2 hob, List.foldl_append]
    exact says_fold (n := n) _ (fun c hc => (ord_nodup hw).2 c (List.mem_filter.1 hc).1) i1
theorem says_eq {u v : Ver} {a b : Option Bs} (hu : Says u a) (hv : Says v b) : (a ≠ b) ↔ (u.value ≠ v.value ∨ u.absent ≠ v.absent) := by
  obtain ⟨h1, h2⟩ := hu
  obtain ⟨h3, h4⟩ := hv
  rw [h1, h2, h3, h4]
  cases a <;> cases b <;> simp
/-- A loop over changes, orderly so far. -/
def ForRel (l : List Ch) (w : World) (i : Value) (wr : World) : Prop := ∃ k : Nat, k ≤ l.length ∧ i = .int .i64 k ∧ OrdTo l k ∧ Go.RowKit.Below w.heap.size w wr
end Go.Proofs.YtamjllakfgphnaaGreatDoor
