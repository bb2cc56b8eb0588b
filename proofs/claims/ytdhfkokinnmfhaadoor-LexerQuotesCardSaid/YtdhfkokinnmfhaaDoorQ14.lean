/- Plain lemmas of layer 21: printing. -/
import Derived.Test.YtdhfkokinnmfhaaDoorQ13
import Derived.Lib.Join
namespace Go.Proofs.YtdhfkokinnmfhaaDoor
set_option linter.unusedSimpArgs false
set_option linter.unusedVariables false
/-- No separator first, then single spaces. -/
def spS (i : Nat) : ByteArray := if i = 0 then ⟨#[]⟩ else ⟨#[32]⟩
theorem joinTail_snoc (sep : List UInt8) (r : List (List UInt8)) (y : List UInt8) : Lib.joinTail sep (r ++ [y]) = Lib.joinTail sep r ++ (sep ++ y) := by simp [Lib.joinTail]
theorem join_tx (X : Nat → ByteArray) : ∀ m, Lib.join ((List.range m).map fun i => (X i).data.toList) [32] = (txF spS X m).data.toList
  | 0 => rfl
  | 1 => by
    show Lib.join [(X 0).data.toList] [32] = ((⟨#[]⟩ ++ spS 0) ++ X 0).data.toList
    rw [Lib.join_one]
    simp [spS, ByteArray.data_append]
  | m + 2 => by
    have ih := join_tx X (m + 1)
    rw [List.range_succ_eq_map, List.map_cons, List.map_map, Lib.join_cons] at ih
    rw [List.range_succ, List.map_append, List.map_cons, List.map_nil, List.range_succ_eq_map, List.map_cons, List.map_map, List.cons_append, Lib.join_cons, joinTail_snoc, ← List.append_assoc, ih]
    show _ = ((txF spS X (m + 1) ++ spS (m + 1)) ++ X (m + 1)).data.toList
    simp [spS, ByteArray.data_append]
theorem quoL_knd (s : ByteArray) (f k : Nat) (acc : List Int) (hk : k ≤ s.size) (hf : s.size < f + k) (he : (quoL s f k acc).e = 0) : (quoL s f k acc).kind ≠ 0 := by
  rw [quoL_kind s f k acc hk hf he]; decide
theorem find_kind (x : ByteArray) (a : Att) (hx : 0 < x.size) (h : findS x = some a) (he : a.e = 0) : a.kind ≠ 0 := by
  unfold findS at h
  cases h1 : wordS x with
  | some b =>
    rw [h1] at h; injection h with h; subst h
    unfold wordS at h1
    by_cases c1 : ltrI (bt x 0) = false
    · rw [if_pos c1] at h1; cases h1
    rw [if_neg c1] at h1
    by_cases c2 : 32 < leadB alnI x
    · rw [if_pos c2] at h1; injection h1 with h1; subst h1; exact absurd he (by simp [attE])
    rw [if_neg c2] at h1
    injection h1 with h1
    subst h1
    show (if _ then (4 : Int) else 1) ≠ 0
    split <;> decide
  | none =>
    rw [h1] at h
    cases h2 : numS x with
    | some b =>
      rw [h2] at h; injection h with h; subst h
      unfold numS at h2
      by_cases c1 : digI (bt x 0) = false
      · rw [if_pos c1] at h2; cases h2
      rw [if_neg c1] at h2
      by_cases c2 : (valS (x.extract 0 (leadB alnI x))).2 ≠ 0
      · rw [if_pos c2] at h2; injection h2 with h2; subst h2; exact absurd he c2
      rw [if_neg c2] at h2
      injection h2 with h2
      subst h2
      show (2 : Int) ≠ 0
      decide
    | none =>
      rw [h2] at h
      cases h3 : charS x with
      | some b =>
        rw [h3] at h; injection h with h; subst h
        unfold charS at h3
        by_cases c1 : bt x 0 ≠ 39
        · rw [if_pos c1] at h3; cases h3
        rw [if_neg c1] at h3
        by_cases c2 : (oneS x 1 39).2.2 ≠ 0
        · rw [if_pos c2] at h3; injection h3 with h3; subst h3; exact absurd he c2
        rw [if_neg c2] at h3
        by_cases c3 : (oneS x 1 39).2.1 = x.size
        · rw [if_pos c3] at h3; injection h3 with h3; subst h3; exact absurd he (by simp [attE])
        rw [if_neg c3] at h3
        by_cases c4 : bt x (oneS x 1 39).2.1.toNat ≠ 39
        · rw [if_pos c4] at h3; injection h3 with h3; subst h3; exact absurd he (by simp [attE])
        rw [if_neg c4] at h3
        injection h3 with h3
        subst h3
        show (2 : Int) ≠ 0
        decide
      | none =>
        rw [h3] at h
        cases h4 : quoS x with
        | some b =>
          rw [h4] at h; injection h with h; subst h
          unfold quoS at h4
          by_cases c1 : bt x 0 ≠ 34
          · rw [if_pos c1] at h4; cases h4
          rw [if_neg c1] at h4
          injection h4 with h4
          subst h4
          exact quoL_knd x _ _ _ hx (by omega) he
        | none =>
          rw [h4] at h
          obtain ⟨_, e⟩ := symS_eq x a h
          rw [e]
          show (5 : Int) ≠ 0
          decide
theorem tok_kind (a : Att) (h : TokOK a) : a.kind ≠ 0 := by
  obtain ⟨x, hx, hf, he, _⟩ := h
  exact find_kind x a hx hf he
theorem spS_size (i : Nat) : (spS i).size ≤ 1 := by unfold spS; split <;> decide
theorem spS_ok (i : Nat) : SepOK (spS i) := by
  unfold spS
  split
  · exact sep_nil
  · exact sp_ok
/-- Scanning what is printed gives the same tokens. -/
theorem prints_scan (s : ByteArray) (l : List (Att × Nat)) (h : scanS s = .ok l) : ∃ L, scanS (txF spS (textAt s l) l.length) = .ok L ∧ L.map (·.1) = l.map (·.1) := by
  have eX : ∀ i, i < l.length → textAt s l i = ((l.getD i (endA, 0)).1).text := fun i hi => by
    rw [textAt_eq s l i (l[i]) (by unfold toksL; rw [List.getElem?_append_left hi]; exact List.getElem?_eq_getElem hi), List.getD_eq_getElem?_getD, List.getElem?_eq_getElem hi]
    rfl
  have e : txF spS (textAt s l) l.length = bld ⟨#[]⟩ ((List.range l.length).map fun i => (spS i, (l.getD i (endA, 0)).1)) := by
    rw [tx_congr spS _ (fun i => ((l.getD i (endA, 0)).1).text) l.length eX, ← tx_bld spS (fun i => (l.getD i (endA, 0)).1) l.length, nil_app]
  have hm : ((List.range l.length).map fun i => (spS i, (l.getD i (endA, 0)).1)).map (·.2) = l.map (·.1) := by
    apply List.ext_getElem?
    intro i
    by_cases hi : i < l.length
    · simp [hi]
    · rw [List.getElem?_eq_none (by simp; omega), List.getElem?_eq_none (by simp; omega)]
  have htok := scan_tok s l h
  rw [e]
  have := scans_bld ⟨#[]⟩ sep_nil (.inl rfl) ((List.range l.length).map fun i => (spS i, (l.getD i (endA, 0)).1)) (fun t ht => by
    rw [List.mem_map] at ht
    obtain ⟨i, hi, rfl⟩ := ht
    have hi' : i < l.length := by simpa using hi
    refine ⟨spS_ok i, ?_⟩
    show TokOK (l.getD i (endA, 0)).1
    rw [List.getD_eq_getElem?_getD, List.getElem?_eq_getElem hi']
    exact htok _ (List.getElem_mem hi')) (fun t ht => by
    rw [← List.map_drop, List.mem_map] at ht
    obtain ⟨i, hi, rfl⟩ := ht
    have hi0 : i ≠ 0 := by
      rintro rfl
      obtain ⟨j, hj, hj2⟩ := List.getElem_of_mem hi
      simp at hj2
    show 0 < (spS i).size ∧ Blk (bt (spS i) 0)
    unfold spS
    rw [if_neg hi0]
    exact ⟨by decide, by unfold Blk; decide⟩)
  rw [hm] at this
  exact scans_scan _ _ this
/-- The texts are the same, so is what is printed. -/
theorem prints_again (s P : ByteArray) (l L : List (Att × Nat)) (h : L.map (·.1) = l.map (·.1)) : txF spS (textAt P L) L.length = txF spS (textAt s l) l.length := by
  have hlen : L.length = l.length := by have := congrArg List.length h; simpa using this
  rw [hlen]
  apply tx_congr
  intro i hi
  have h1 := congrArg (fun x => x[i]?) h
  simp only [List.getElem?_map] at h1
  rw [List.getElem?_eq_getElem (by omega), List.getElem?_eq_getElem hi] at h1
  rw [textAt_eq P L i (L[i]'(by omega)) (by unfold toksL; rw [List.getElem?_append_left (by omega)]; exact List.getElem?_eq_getElem (by omega)), textAt_eq s l i (l[i]) (by unfold toksL; rw [List.getElem?_append_left hi]; exact List.getElem?_eq_getElem hi)]
  simp at h1
  rw [h1]
end Go.Proofs.YtdhfkokinnmfhaaDoor
