/- Plain facts of layer 47: an action is a function of what it reads; performing the causes of an action alone leads to the same action. -/
import Derived.Test.YtmjkcanjfjfkfaaP5
import Derived.Test.YtmjkcanjfjfkfaaP4
import Derived.Test.YtmjkcanjfjfkfaaP6
import Derived.Test.YtmjkcanjfjfkfaaT13
namespace Go.Proofs.Ytmjkcanjfjfkfaa
set_option linter.unusedSimpArgs false
set_option linter.unusedVariables false
def de0 : De := ⟨0, 0, 0, 0, false⟩
/-- The first deed of a process in a row. -/
def fstQ (lin : Bs) (l : List De) : De := (l.find? fun d => decide (0 < d.who % 4) && decide (whoS (d.who % 4) = lin)).getD de0
/-- The deed of an action. -/
def deedS (ds : List De) (k : Ky) : De := if k.cls = 0 then ds.getD (k.num - 1).toNat de0 else fstQ k.lin (ds.drop (4 * k.tick).toNat)
/-- What an action has written to a name. -/
def wrOf (a : Ac) (n : Nm) : Option Bs := (a.writes.find? fun c => decide (c.name = n)).map Ch.value
def stA (s : S47) (a : Ac) : S47 := fun n => match wrOf a n with
  | some v => some v
  | none => s n
def stL (l : List Ac) : S47 := l.foldl stA s00
theorem stL_snoc (l : List Ac) (a : Ac) : stL (l ++ [a]) = stA (stL l) a := by unfold stL; rw [List.foldl_append]; rfl
theorem find_wrC (W : List (Nm × Bs)) (n : Nm) : ∀ L : List Nm, ((L.map (wrC W)).find? fun c => decide (c.name = n)) = if n ∈ L then some (wrC W n) else none
  | [] => by simp
  | m :: L => by
    rw [List.map_cons, List.find?_cons]
    by_cases h : m = n
    · subst h
      simp [wrC]
    · have : decide ((wrC W m).name = n) = false := decide_eq_false h
      rw [this]
      simp only
      rw [find_wrC W n L]
      have hn : ¬ n = m := fun e => h e.symm
      simp [hn]
theorem lookM_mem {κ ν : Type} [DecidableEq κ] {n : κ} : ∀ {l : List (κ × ν)}, n ∈ l.map Prod.fst ↔ (lookM n l).isSome = true
  | [] => by simp [lookM]
  | (a, v) :: l => by
    simp only [List.map_cons, List.mem_cons, lookM]
    by_cases h : a = n
    · simp [h]
    · rw [if_neg h, lookM_mem (l := l)]
      have hn : ¬ n = a := fun e => h e.symm
      simp [hn]
theorem wrOf_prf {s : S47} {k : Ky} {d : De} (h : PIn s k d) (n : Nm) : wrOf (prf s k d) n = lookM n (wrs s k d) := by
  unfold wrOf prf
  simp only
  rw [find_wrC]
  have hm := mem_sortU ordN (y := n) ((wrs s k d).map Prod.fst) (ob_own (wrs_obj h))
  cases hl : lookM n (wrs s k d) with
  | some v =>
    rw [if_pos (hm.2 (lookM_mem.2 (by rw [hl]; rfl)))]
    simp [wrC, hl]
  | none =>
    rw [if_neg (fun g => by have := lookM_mem.1 (hm.1 g); rw [hl] at this; cases this)]
    rfl
theorem nxt_stA {s : S47} {k : Ky} {d : De} (h : PIn s k d) : nxtS s k d = stA s (prf s k d) := by
  funext n
  unfold nxtS putS stA
  rw [wrOf_prf h]
  cases lookM n (wrs s k d) <;> rfl
/-- A key whose deed is there. -/
def KD (ds : List De) (k : Ky) : Prop := (k.cls = 0 → 1 ≤ k.num ∧ k.num ≤ (ds.length : Int)) ∧ 0 ≤ k.tick ∧ k.tick ≤ 100
/-- How a run came about, with the deeds. -/
inductive Tr2 (ds : List De) : S47 → List Ac → Prop
  | nil : Tr2 ds s00 []
  | snoc {s : S47} {l : List Ac} {k : Ky} : Tr2 ds s l → PIn s k (deedS ds k) → KD ds k → Tr2 ds (nxtS s k (deedS ds k)) (l ++ [prf s k (deedS ds k)])
theorem Tr2.st {ds : List De} {s : S47} {l : List Ac} (h : Tr2 ds s l) : s = stL l := by
  induction h with
  | nil => rfl
  | snoc h hp hk ih => rw [stL_snoc, ← ih, nxt_stA hp]
theorem Tr2.vl {ds : List De} {s : S47} {l : List Ac} (h : Tr2 ds s l) : VL s := by
  induction h with
  | nil => intro n; simp [s00]
  | snoc h hp hk ih => exact fun n => nxt_vl hp n
theorem Tr2.at_ {ds : List De} {s : S47} {l : List Ac} (h : Tr2 ds s l) : ∀ (i : Nat) (hi : i < l.length), l[i] = prf (stL (l.take i)) l[i].key (deedS ds l[i].key) ∧ PIn (stL (l.take i)) l[i].key (deedS ds l[i].key) ∧ KD ds l[i].key := by
  induction h with
  | nil => intro i hi; simp at hi
  | snoc h hp hk ih =>
    rename_i s l k
    intro i hi
    rw [List.length_append, List.length_singleton] at hi
    by_cases hl : i < l.length
    · rw [List.getElem_append_left hl, List.take_append_of_le_length (by omega)]
      exact ih i hl
    · obtain rfl : i = l.length := by omega
      have e : stL l = s := h.st.symm
      simp only [List.getElem_concat_length, List.take_left', e]
      exact ⟨rfl, hp, hk⟩
theorem find_drop {ds : List De} {n t : Nat} {p : Nat → Bool} (h1 : 1 ≤ n) (h2 : n ≤ 3) {d : De} : ∀ (m f : Nat), f + m ≤ ds.length → fstD ds n p ((List.range m).map fun j => f + j) = some d → fstQ (whoS n) (ds.drop f) = d
  | 0, f, _, h => by simp [fstD] at h
  | m + 1, f, hf, h => by
    rw [List.range_succ_eq_map, List.map_cons, List.map_map] at h
    have hfl : f < ds.length := by omega
    rw [List.drop_eq_getElem_cons hfl]
    simp only [Nat.add_zero, fstD, List.getElem?_eq_getElem hfl] at h
    have hpn : p n = true := by
      split at h
      · rename_i hc; exact hc.2
      · exact (fstD_mem h).2.2
    unfold fstQ
    rw [List.find?_cons]
    by_cases hc : ds[f].who % 4 = n
    · rw [if_pos ⟨hc, hpn⟩] at h
      injection h with h
      rw [hc]
      simp [h, decide_eq_true (show 0 < n by omega)]
    · rw [if_neg (fun g => hc g.1)] at h
      have hw : (decide (0 < ds[f].who % 4) && decide (whoS (ds[f].who % 4) = whoS n)) = false := by
        rw [Bool.and_eq_false_iff]
        by_cases h0 : 0 < ds[f].who % 4
        · right
          refine decide_eq_false ?_
          have h4 : ds[f].who % 4 < 4 := Nat.mod_lt _ (by decide)
          generalize ds[f].who % 4 = x at *
          rcases (show x = 1 ∨ x = 2 ∨ x = 3 by omega) with rfl | rfl | rfl <;> rcases (show n = 1 ∨ n = 2 ∨ n = 3 by omega) with rfl | rfl | rfl <;> first | (exact absurd rfl hc) | decide
        · exact .inl (decide_eq_false h0)
      rw [hw]
      simp only
      have := find_drop (ds := ds) (t := t) (p := p) h1 h2 (d := d) m (f + 1) (by omega) (by
        rw [← h]
        congr 1
        apply List.map_congr_left
        intro j _
        show f + 1 + j = f + Nat.succ j
        omega)
      exact this
theorem tr2_in {ds : List De} (hd : DeOk ds) {ins t : Nat} (ht : t ≤ 100) : ∀ (pl : List Nat) (st : S47 × List Ac), Tr2 ds st.1 st.2 → Tr2 ds (pl.foldl (inF ds ins t) st).1 (pl.foldl (inF ds ins t) st).2
  | [], st, h => h
  | i :: pl, st, h => by
    rw [List.foldl_cons]
    refine tr2_in hd ht pl _ ?_
    unfold inF
    cases hi : ds[i]? with
    | none => exact h
    | some d =>
      simp only
      split
      · have hde : deedS ds (kyI t i) = d := by
          unfold deedS kyI
          simp only [if_true]
          rw [show ((i : Int) + 1 - 1).toNat = i by omega, List.getD_eq_getElem?_getD, hi]
          rfl
        have := h.snoc (k := kyI t i) (by rw [hde]; exact pinI h.vl hd (List.mem_of_getElem? hi) t i) ⟨fun _ => by have := (List.getElem?_eq_some_iff.1 hi).1; simp only [kyI]; omega, by simp only [kyI]; omega, by simp only [kyI]; omega⟩
        rw [hde] at this
        exact this
      · exact h
theorem tr2_pr {ds : List De} (hd : DeOk ds) {p : Nat → Bool} {t n : Nat} (ht : t ≤ 100) (h1 : 1 ≤ n) (h2 : n ≤ 3) {st : S47 × List Ac} (h : Tr2 ds st.1 st.2) : Tr2 ds (prF ds p t (places ds.length t) st n).1 (prF ds p t (places ds.length t) st n).2 := by
  unfold prF
  cases hf : fstD ds n p (places ds.length t) with
  | none => exact h
  | some d =>
    simp only
    have hde : deedS ds (kyP t n) = d := by
      unfold deedS kyP
      simp only
      rw [if_neg (by decide), show (4 * (t : Int)).toNat = 4 * t by omega]
      by_cases hlt : 4 * t ≤ ds.length
      · exact find_drop (t := t) h1 h2 _ _ (by omega) hf
      · have : places ds.length t = [] := List.length_eq_zero_iff.1 (by rw [places_len]; omega)
        rw [this] at hf
        cases hf
    have := h.snoc (k := kyP t n) (by rw [hde]; exact pinP h.vl hd (fstD_mem hf).1 t h1 h2) ⟨fun h0 => (by simp only [kyP] at h0; cases h0), by simp only [kyP]; omega, by simp only [kyP]; omega⟩
    rw [hde] at this
    exact this
theorem tr2_to {ds : List De} (hd : DeOk ds) (ins prs : Nat) : ∀ m, m ≤ 100 → Tr2 ds (runTo ds ins prs m).1 (runTo ds ins prs m).2
  | 0, _ => .nil
  | m + 1, hm => by
    rw [runTo_succ]
    have h := tr2_in hd (ins := ins) (t := m) (by omega) (places ds.length m) _ (tr2_to hd ins prs m (by omega))
    unfold tickF
    generalize (places ds.length m).foldl (inF ds ins m) (runTo ds ins prs m) = s1 at *
    generalize (fun n => thr s1.1 n && !bitN prs n) = p
    exact tr2_pr hd (n := 3) (by omega) (by decide) (by decide) (tr2_pr hd (n := 2) (by omega) (by decide) (by decide) (tr2_pr hd (n := 1) (by omega) (by decide) (by decide) h))
theorem runS_tr2 {ds : List De} (hd : DeOk ds) (ins prs : Nat) : Tr2 ds (runTo ds ins prs (ticks ds)).1 (runS ds ins prs) := tr2_to hd ins prs (ticks ds) (Nat.le_trans (ticks_le ds) (by decide))
/-- Names that have been read stay. -/
theorem rdTo_mono (s : S47) (k : Ky) (d : De) {n : Nm} : ∀ {m m' : Nat}, m ≤ m' → n ∈ (rdTo s k d m).names → n ∈ (rdTo s k d m').names
  | m, 0, h, hn => by obtain rfl : m = 0 := by omega
                      exact hn
  | m, m' + 1, h, hn => by
    rcases Nat.eq_or_lt_of_le h with rfl | h
    · exact hn
    · have := rdTo_mono s k d (m := m) (m' := m') (by omega) hn
      rw [rdTo_succ]
      unfold rd1
      split
      · exact this
      · exact addN_mem.2 (.inl this)
theorem rdTo_congr {s s' : S47} {k : Ky} {d : De} (h : ∀ n ∈ (rdTo s k d 6).names, s n = s' n) : ∀ m, m ≤ 6 → rdTo s k d m = rdTo s' k d m
  | 0, _ => rfl
  | m + 1, hm => by
    have ih := rdTo_congr h m (by omega)
    rw [rdTo_succ, rdTo_succ, ← ih]
    have hmem : ¬ (bitN d.reads m = false ∨ (rdTo s k d m).all = false) → s (prtN (1 + (m : Nat))) = s' (prtN (1 + (m : Nat))) := fun hc => by
      refine h _ (rdTo_mono s k d (m := m + 1) (m' := 6) hm ?_)
      rw [rdTo_succ]
      unfold rd1
      rw [if_neg hc]
      exact addN_mem.2 (.inr rfl)
    unfold rd1
    by_cases hc : bitN d.reads m = false ∨ (rdTo s k d m).all = false
    · rw [if_pos hc, if_pos hc]
    · rw [if_neg hc, if_neg hc, hmem hc]
/-- An action is a function of what it reads. -/
theorem prf_congr {s s' : S47} {k : Ky} {d : De} (h : PIn s k d) (hs : ∀ n ∈ rds s k d, s n = s' n) : prf s k d = prf s' k d := by
  have h1 : rdA s k d = rdA s' k d := rdTo_congr (fun n hn => hs n (by
    unfold rds
    split
    · exact addN_mem.2 (.inl hn)
    · exact hn)) 6 (Nat.le_refl _)
  have h2 : rds s k d = rds s' k d := by unfold rds; rw [h1]
  have h3 : wrs s k d = wrs s' k d := by unfold wrs; rw [h1]
  unfold prf
  rw [← h2, ← h3]
  congr 1
  apply List.map_congr_left
  intro n hn
  have := hs n ((mem_sortU ordN _ (ob_own (rds_ok h).2.2)).1 hn)
  unfold rdC
  rw [this]
theorem stL_none {n : Nm} : ∀ {l : List Ac}, (∀ a ∈ l, wrOf a n = none) → ∀ s : S47, l.foldl stA s n = s n
  | [], _, s => rfl
  | a :: l, h, s => by
    rw [List.foldl_cons, stL_none fun b hb => h b (by simp [hb])]
    unfold stA
    rw [h a (by simp)]
theorem stL_last {n : Nm} {A B : List Ac} {a : Ac} {v : Bs} (ha : wrOf a n = some v) (hb : ∀ b ∈ B, wrOf b n = none) : stL (A ++ a :: B) n = some v := by
  unfold stL
  rw [List.foldl_append, List.foldl_cons, stL_none hb]
  unfold stA
  rw [ha]
theorem hasW_wrOf {l : List Ac} {n : Nm} {i : Nat} (hi : i < l.length) : hasW l n i = (wrOf l[i] n).isSome := by
  unfold hasW wrOf
  rw [List.getElem?_eq_getElem hi, Option.isSome_map, List.isSome_find?]
/-- The state ahead of an action: what the last writer has written. -/
theorem stL_take {l : List Ac} {n : Nm} {i : Nat} (hi : i ≤ l.length) : (wrB l n i = -1 ∧ stL (l.take i) n = none) ∨ ∃ (p : Nat) (hp : p < i) (v : Bs), wrB l n i = (p : Int) ∧ wrOf (l[p]'(by omega)) n = some v ∧ stL (l.take i) n = some v ∧ ∀ j (hj : j < i), p < j → wrOf (l[j]'(by omega)) n = none := by
  rcases wrB_spec l n i with ⟨h1, h2⟩ | ⟨p, h1, h2, h3, h4⟩
  · refine .inl ⟨h1, stL_none (fun a ha => ?_) _⟩
    obtain ⟨j, hj, rfl⟩ := List.getElem_of_mem ha
    rw [List.length_take] at hj
    rw [List.getElem_take]
    have := h2 j (by omega)
    rw [hasW_wrOf (by omega)] at this
    simpa using this
  · rw [hasW_wrOf (by omega)] at h3
    obtain ⟨v, hv⟩ := Option.isSome_iff_exists.1 h3
    refine .inr ⟨p, h1, v, h2, hv, ?_, fun j hj hpj => ?_⟩
    · have hsp : l.take i = l.take p ++ l[p]'(by omega) :: (l.take i).drop (p + 1) := by
        have e1 : (l.take i).take p = l.take p := by rw [List.take_take, Nat.min_eq_left (by omega)]
        have e2 : (l.take i)[p]'(by rw [List.length_take]; omega) = l[p]'(by omega) := List.getElem_take ..
        rw [← e1, ← e2, ← List.drop_eq_getElem_cons, List.take_append_drop]
      rw [hsp]
      refine stL_last hv fun b hb => ?_
      obtain ⟨j, hj, rfl⟩ := List.getElem_of_mem hb
      rw [List.length_drop, List.length_take] at hj
      rw [List.getElem_drop, List.getElem_take]
      have := h4 (p + 1 + j) (by omega) (by omega)
      rw [hasW_wrOf (by omega)] at this
      simpa using this
    · have := h4 j hj hpj
      rw [hasW_wrOf (by omega)] at this
      simpa using this
def ac0 : Ac := ⟨⟨0, 0, 0, []⟩, [], []⟩
def acG (l : List Ac) (x : Int) : Ac := l.getD x.toNat ac0
theorem acG_at {l : List Ac} {x : Int} (h0 : 0 ≤ x) (h : x < (l.length : Int)) : acG l x = l[x.toNat]'(by omega) := by
  unfold acG
  rw [List.getD_eq_getElem?_getD, List.getElem?_eq_getElem (by omega)]
  rfl
/-- Performing an action of a run again. -/
def cau1 (ds : List De) (l : List Ac) (st : S47 × Ac) (x : Int) : S47 × Ac := (nxtS st.1 (acG l x).key (deedS ds (acG l x).key), prf st.1 (acG l x).key (deedS ds (acG l x).key))
def cauTo (ds : List De) (l : List Ac) (C : List Int) (m : Nat) : S47 × Ac := (C.take m).foldl (cau1 ds l) (s00, ac0)
theorem cauTo_succ (ds : List De) (l : List Ac) (C : List Int) (m : Nat) (hm : m < C.length) : cauTo ds l C (m + 1) = cau1 ds l (cauTo ds l C m) C[m] := by
  unfold cauTo
  rw [List.take_succ_eq_append_getElem hm, List.foldl_append]
  rfl
/-- An action's links. -/
theorem lnk_of {l : List Ac} (ho : ∀ a ∈ l, ordCh a.writes = true) {i : Nat} (hi : i < l.length) {c : Ch} (hc : c ∈ l[i].reads) : (⟨wrB l c.name i, (i : Int), c.name⟩ : Lk) ∈ (lnkD l).flatten := by
  have h1 : (lnkD l).flatten.filter (fun x => decide (x.to_ = (i : Int))) = (lnkD l)[i]'(by rw [lnkD_len]; exact hi) := lnkD_row l i _
  have h2 : (lnkD l)[i]'(by rw [lnkD_len]; exact hi) = lnkA (l.take i) l[i] := by
    have h3 : (lnkD (l.take (i + 1)))[i]'(by rw [lnkD_len, List.length_take]; omega) = lnkA (l.take i) l[i] := by
      simp only [lnkD_take l i hi]
      rw [List.getElem_append_right (by rw [lnkD_len, List.length_take]; omega)]
      simp [lnkD_len, List.length_take]
    have h4 : ∀ (m : Nat) (hm : i < m) (hml : m ≤ l.length), (lnkD (l.take m))[i]'(by rw [lnkD_len, List.length_take]; omega) = lnkA (l.take i) l[i] := by
      intro m hm hml
      induction m with
      | zero => omega
      | succ m ih =>
        by_cases e : m = i
        · subst e; exact h3
        · have := ih (by omega) (by omega)
          simp only [lnkD_take l m (by omega)]
          rw [List.getElem_append_left (by rw [lnkD_len, List.length_take]; omega)]
          exact this
    have h5 := h4 l.length hi (Nat.le_refl _)
    simp only [List.take_length] at h5
    exact h5
  have h6 : (⟨wrB l c.name i, (i : Int), c.name⟩ : Lk) ∈ lnkA (l.take i) l[i] := by
    unfold lnkA
    refine List.mem_map.2 ⟨c, hc, ?_⟩
    rw [wrI_at ho c.name hi, List.length_take, Nat.min_eq_left (by omega)]
  rw [← h2, ← h1] at h6
  exact (List.mem_filter.1 h6).1
/-- A set of numbers, in order, that is closed under links: performing its actions alone leads to the same actions. -/
theorem cau_is {ds : List De} {l : List Ac} {s : S47} (ht : Tr2 ds s l) (ho : ∀ a ∈ l, ordCh a.writes = true) {C : List Int} (hC : C.Pairwise (· < ·)) (hr : ∀ x ∈ C, 0 ≤ x ∧ x < (l.length : Int)) (hcl : ∀ x ∈ C, ∀ z ∈ (lnkD l).flatten, z.to_ = x → 0 ≤ z.frm → z.frm ∈ C) :
    ∀ m, m ≤ C.length → cauTo ds l C m = (stL ((C.take m).map (acG l)), if h : 0 < m ∧ m ≤ C.length then acG l (C[m - 1]'(by omega)) else ac0) ∧ VL (cauTo ds l C m).1
  | 0, _ => by
    refine ⟨by simp [cauTo, stL], fun n => by simp [cauTo, s00]⟩
  | m + 1, hm => by
    obtain ⟨ih, hv⟩ := cau_is ht ho hC hr hcl m (by omega)
    rw [cauTo_succ ds l C m hm]
    have hx := hr C[m] (List.getElem_mem _)
    obtain ⟨x, hxe⟩ : ∃ x, C[m] = x := ⟨_, rfl⟩
    rw [hxe] at hx ⊢
    have hxi : x.toNat < l.length := by omega
    obtain ⟨e1, e2, _⟩ := ht.at_ x.toNat hxi
    have hac := acG_at hx.1 hx.2
    have hs1 : (cauTo ds l C m).1 = stL ((C.take m).map (acG l)) := by rw [ih]
    have hpin : PIn (cauTo ds l C m).1 l[x.toNat].key (deedS ds l[x.toNat].key) := ⟨hv, e2.de, e2.ky⟩
    have hagree : ∀ n ∈ rds (stL (l.take x.toNat)) l[x.toNat].key (deedS ds l[x.toNat].key), stL (l.take x.toNat) n = (cauTo ds l C m).1 n := by
      intro n hn
      rw [hs1]
      have hread : ∃ c ∈ l[x.toNat].reads, c.name = n := by
        rw [e1]
        exact ⟨rdC _ n, List.mem_map.2 ⟨n, (mem_sortU ordN _ (ob_own (rds_ok e2).2.2)).2 hn, rfl⟩, rfl⟩
      obtain ⟨c, hc, hcn⟩ := hread
      have hlk := lnk_of ho hxi hc
      rw [hcn] at hlk
      have hbelow : ∀ j (hj : j < m), C[j] < x := fun j hj => by
        rw [← hxe]
        exact List.pairwise_iff_getElem.1 hC j m _ _ hj
      rcases stL_take (l := l) (n := n) (i := x.toNat) (by omega) with ⟨h1, h2⟩ | ⟨p, hp, v, h1, h2, h3, h4⟩
      · rw [h2]
        refine (show stL _ n = none from stL_none (fun a ha => ?_) s00).symm
        obtain ⟨y, hy, rfl⟩ := List.mem_map.1 ha
        obtain ⟨j, hj, rfl⟩ := List.getElem_of_mem hy
        rw [List.length_take] at hj
        rw [List.getElem_take]
        have hyr := hr C[j] (List.getElem_mem _)
        have hyb := hbelow j (by omega)
        rw [acG_at hyr.1 hyr.2]
        rcases wrB_spec l n x.toNat with ⟨_, g2⟩ | ⟨q, g1, g2, _⟩
        · have := g2 C[j].toNat (by omega)
          rw [hasW_wrOf (by omega)] at this
          simpa using this
        · rw [h1] at g2; omega
      · rw [h3]
        have hpC := hcl x (by rw [← hxe]; exact List.getElem_mem _) _ hlk (by simp only; omega) (by show (0 : Int) ≤ wrB l n x.toNat; rw [h1]; omega)
        simp only [h1] at hpC
        obtain ⟨q, hq, hqe⟩ := List.getElem_of_mem hpC
        have hqm : q < m := by
          rcases Nat.lt_or_ge q m with h | h
          · exact h
          · rcases Nat.eq_or_lt_of_le h with h | h
            · subst h; rw [hxe] at hqe; omega
            · have := List.pairwise_iff_getElem.1 hC m q hm hq h
              rw [hxe, hqe] at this
              omega
        have hsp : C.take m = C.take q ++ C[q] :: (C.take m).drop (q + 1) := by
          have a1 : (C.take m).take q = C.take q := by rw [List.take_take, Nat.min_eq_left (by omega)]
          have a2 : (C.take m)[q]'(by rw [List.length_take]; omega) = C[q] := List.getElem_take ..
          rw [← a1, ← a2, ← List.drop_eq_getElem_cons, List.take_append_drop]
        rw [hsp, List.map_append, List.map_cons]
        refine (stL_last (v := v) ?_ fun b hb => ?_).symm
        · rw [hqe, acG_at (by omega) (by omega)]
          simpa using h2
        · obtain ⟨y, hy, rfl⟩ := List.mem_map.1 hb
          obtain ⟨j, hj, rfl⟩ := List.getElem_of_mem hy
          rw [List.length_drop, List.length_take] at hj
          rw [List.getElem_drop, List.getElem_take]
          have hyr := hr C[q + 1 + j] (List.getElem_mem _)
          have hyb := hbelow (q + 1 + j) (by omega)
          have hyq := List.pairwise_iff_getElem.1 hC q (q + 1 + j) hq (by omega) (by omega)
          rw [hqe] at hyq
          rw [acG_at hyr.1 hyr.2]
          exact h4 _ (by omega) (by omega)
    have hprf : prf (cauTo ds l C m).1 l[x.toNat].key (deedS ds l[x.toNat].key) = l[x.toNat] := by
      rw [← prf_congr e2 hagree, ← e1]
    have hnxt : nxtS (cauTo ds l C m).1 l[x.toNat].key (deedS ds l[x.toNat].key) = stA (cauTo ds l C m).1 l[x.toNat] := by
      rw [nxt_stA hpin, hprf]
    unfold cau1
    rw [hac]
    refine ⟨?_, fun n => nxt_vl hpin n⟩
    rw [hprf, hnxt, hs1, List.take_succ_eq_append_getElem hm, List.map_append]
    simp only [List.map_cons, List.map_nil, Nat.add_sub_cancel]
    rw [stL_snoc, dif_pos ⟨by omega, hm⟩]
    simp only [hxe, hac]
end Go.Proofs.Ytmjkcanjfjfkfaa
