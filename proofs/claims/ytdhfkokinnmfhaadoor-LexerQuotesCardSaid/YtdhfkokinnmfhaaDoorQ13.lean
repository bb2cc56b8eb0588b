/- Plain lemmas of layer 21: texts with separators. -/
import Derived.Test.YtdhfkokinnmfhaaDoorQ12
namespace Go.Proofs.YtdhfkokinnmfhaaDoor
set_option linter.unusedSimpArgs false
set_option linter.unusedVariables false
def sepsL : List ByteArray := [⟨#[32]⟩, ⟨#[9]⟩, ⟨#[10]⟩, ⟨#[32, 47, 47, 32, 120, 32, 61, 32, 34, 10]⟩, ⟨#[32, 32, 10, 10]⟩, ⟨#[9, 47, 47, 10]⟩]
def sepK (k : Nat) : ByteArray := sepsL.getD k ⟨#[]⟩
theorem sp_ok : SepOK ⟨#[32]⟩ := sep_blank _ rfl (by unfold Blk; decide)
theorem tb_ok : SepOK ⟨#[9]⟩ := sep_blank _ rfl (by unfold Blk; decide)
theorem nl_ok : SepOK ⟨#[10]⟩ := sep_blank _ rfl (by unfold Blk; decide)
theorem c1_ok : SepOK ⟨#[47, 47, 32, 120, 32, 61, 32, 34, 10]⟩ := sep_cmt _ 8 rfl (by omega) (by decide) (by decide) (by decide) (by decide)
theorem c2_ok : SepOK ⟨#[47, 47, 10]⟩ := sep_cmt _ 2 rfl (by omega) (by decide) (by decide) (by decide) (by decide)
theorem sepK_ok (k : Nat) (h : k < 6) : SepOK (sepK k) ∧ 0 < (sepK k).size ∧ (sepK k).size ≤ 10 ∧ Blk (bt (sepK k) 0) := by
  match k, h with
  | 0, _ => exact ⟨sp_ok, by decide, by decide, by unfold Blk; decide⟩
  | 1, _ => exact ⟨tb_ok, by decide, by decide, by unfold Blk; decide⟩
  | 2, _ => exact ⟨nl_ok, by decide, by decide, by unfold Blk; decide⟩
  | 3, _ =>
    have e : sepK 3 = (⟨#[32]⟩ : ByteArray) ++ ⟨#[47, 47, 32, 120, 32, 61, 32, 34, 10]⟩ := by decide
    exact ⟨by rw [e]; exact sep_app _ _ sp_ok c1_ok, by decide, by decide, by unfold Blk; decide⟩
  | 4, _ =>
    have e : sepK 4 = (⟨#[32]⟩ : ByteArray) ++ (⟨#[32]⟩ ++ (⟨#[10]⟩ ++ ⟨#[10]⟩)) := by decide
    exact ⟨by rw [e]; exact sep_app _ _ sp_ok (sep_app _ _ sp_ok (sep_app _ _ nl_ok nl_ok)), by decide, by decide, by unfold Blk; decide⟩
  | 5, _ =>
    have e : sepK 5 = (⟨#[9]⟩ : ByteArray) ++ ⟨#[47, 47, 10]⟩ := by decide
    exact ⟨by rw [e]; exact sep_app _ _ tb_ok c2_ok, by decide, by decide, by unfold Blk; decide⟩
/-- A text put together from the left. -/
def txF (S X : Nat → ByteArray) : Nat → ByteArray
  | 0 => ⟨#[]⟩
  | i + 1 => (txF S X i ++ S i) ++ X i
theorem bld_snoc (z s : ByteArray) (a : Att) : ∀ l, bld z (l ++ [(s, a)]) = bld (s ++ (a.text ++ z)) l
  | [] => rfl
  | (u, b) :: l => by show u ++ (b.text ++ bld z (l ++ [(s, a)])) = _; rw [bld_snoc z s a l]; rfl
theorem tx_bld (S : Nat → ByteArray) (A : Nat → Att) : ∀ (m : Nat) (z : ByteArray), txF S (fun i => (A i).text) m ++ z = bld z ((List.range m).map fun i => (S i, A i))
  | 0, z => app_nil z
  | m + 1, z => by
    rw [List.range_succ, List.map_append, List.map_cons, List.map_nil, bld_snoc, ← tx_bld S A m]
    show ((txF S _ m ++ S m) ++ (A m).text) ++ z = _
    rw [app_assoc, app_assoc]
theorem tx_congr (S X Y : Nat → ByteArray) : ∀ m, (∀ i, i < m → X i = Y i) → txF S X m = txF S Y m
  | 0, _ => rfl
  | m + 1, h => by
    show (txF S X m ++ S m) ++ X m = (txF S Y m ++ S m) ++ Y m
    rw [tx_congr S X Y m (fun i hi => h i (by omega)), h m (by omega)]
/-- The lengths of the first texts. -/
def sumX (X : Nat → ByteArray) : Nat → Nat
  | 0 => 0
  | i + 1 => sumX X i + (X i).size
theorem tx_size (S X : Nat → ByteArray) (c : Nat) (hS : ∀ i, (S i).size ≤ c) : ∀ m, (txF S X m).size ≤ c * m + sumX X m
  | 0 => Nat.le_refl _
  | m + 1 => by
    have h1 := tx_size S X c hS m
    have h2 := hS m
    show ((txF S X m ++ S m) ++ X m).size ≤ c * (m + 1) + (sumX X m + (X m).size)
    rw [size_app, size_app, Nat.mul_succ]
    omega
def textAt (s : ByteArray) (l : List (Att × Nat)) (i : Nat) : ByteArray := ((toksL s l).getD i (endA, 0)).1.text
theorem textAt_eq (s : ByteArray) (l : List (Att × Nat)) (i : Nat) (t : Att × Nat) (h : (toksL s l)[i]? = some t) : textAt s l i = t.1.text := by
  unfold textAt
  rw [List.getD_eq_getElem?_getD, h]
  rfl
theorem sum_le (s : ByteArray) (l : List (Att × Nat)) (h : scanS s = .ok l) : ∀ i t, (toksL s l)[i]? = some t → sumX (textAt s l) i ≤ t.2
  | 0, t, _ => Nat.zero_le _
  | i + 1, t, ht => by
    have hi : i < (toksL s l).length := by have := (List.getElem?_eq_some_iff.1 ht).1; omega
    have hu : (toksL s l)[i]? = some (toksL s l)[i] := List.getElem?_eq_getElem hi
    have ih := sum_le s l h i _ hu
    obtain ⟨x1, _⟩ := toksL_text s l h i _ hu
    show sumX (textAt s l) i + (textAt s l i).size ≤ t.2
    rw [textAt_eq s l i _ hu]
    generalize (toksL s l)[i] = u at *
    rcases toksL_at s l i u hu with ⟨_, h1⟩ | ⟨e1, rfl⟩
    · obtain ⟨g0, g1, g2, g3⟩ := chain_at s l _ i u (scanS_chain s l h) h1
      obtain ⟨k1, k2, _, k4, _⟩ := rest_good s u.2 u.1 g1 g2 g3
      have hz : u.1.text.size = u.1.size := by rw [k4, size_extract _ _ _ k2]; omega
      rcases toksL_at s l (i + 1) t ht with ⟨_, h2⟩ | ⟨_, rfl⟩
      · have := chain_mono s l _ i (i + 1) u t (scanS_chain s l h) (by omega) h1 h2
        omega
      · show _ ≤ s.size
        omega
    · rcases toksL_at s l (i + 1) t ht with ⟨h2, _⟩ | ⟨h2, _⟩ <;> omega
theorem sum_all (s : ByteArray) (l : List (Att × Nat)) (h : scanS s = .ok l) : sumX (textAt s l) (l.length + 1) ≤ s.size := by
  have hlast : (toksL s l)[l.length]? = some (endA, s.size) := by unfold toksL; rw [List.getElem?_append_right (Nat.le_refl _)]; simp
  have := sum_le s l h l.length _ hlast
  show sumX (textAt s l) l.length + (textAt s l l.length).size ≤ s.size
  rw [textAt_eq s l _ _ hlast]
  show sumX (textAt s l) l.length + 0 ≤ s.size
  exact this
theorem sum_mono (X : Nat → ByteArray) (i : Nat) : ∀ n, sumX X i ≤ sumX X (i + n)
  | 0 => Nat.le_refl _
  | n + 1 => Nat.le_trans (sum_mono X i n) (Nat.le_add_right _ _)
theorem tx_bd (s : ByteArray) (l : List (Att × Nat)) (h : scanS s = .ok l) (S : Nat → ByteArray) (c : Nat) (hS : ∀ i, (S i).size ≤ c) (i : Nat) (hi : i ≤ l.length + 1) : (txF S (textAt s l) i).size ≤ c * i + s.size := by
  have h1 := tx_size S (textAt s l) c hS i
  have h2 := sum_mono (textAt s l) i (l.length + 1 - i)
  rw [show i + (l.length + 1 - i) = l.length + 1 by omega] at h2
  have h3 := sum_all s l h
  omega
/-- Blanks between tokens change places only. -/
theorem blanks_scan (s : ByteArray) (l : List (Att × Nat)) (h : scanS s = .ok l) (S : Nat → ByteArray) (hS : ∀ i, SepOK (S i)) (hB : ∀ i, 0 < (S i).size ∧ Blk (bt (S i) 0)) : ∃ L, scanS (txF S (textAt s l) (l.length + 1)) = .ok L ∧ L.map (·.1) = l.map (·.1) := by
  have hlast : (toksL s l)[l.length]? = some (endA, s.size) := by unfold toksL; rw [List.getElem?_append_right (Nat.le_refl _)]; simp
  have eX : ∀ i, i < l.length → textAt s l i = ((l.getD i (endA, 0)).1).text := fun i hi => by
    rw [textAt_eq s l i (l[i]) (by unfold toksL; rw [List.getElem?_append_left hi]; exact List.getElem?_eq_getElem hi), List.getD_eq_getElem?_getD, List.getElem?_eq_getElem hi]
    rfl
  have e : txF S (textAt s l) (l.length + 1) = bld (S l.length) ((List.range l.length).map fun i => (S i, (l.getD i (endA, 0)).1)) := by
    show (txF S (textAt s l) l.length ++ S l.length) ++ textAt s l l.length = _
    rw [textAt_eq s l _ _ hlast]
    show (txF S (textAt s l) l.length ++ S l.length) ++ ⟨#[]⟩ = _
    rw [nil_app, tx_congr S _ (fun i => ((l.getD i (endA, 0)).1).text) l.length eX]
    exact tx_bld S (fun i => (l.getD i (endA, 0)).1) l.length (S l.length)
  have hm : ((List.range l.length).map fun i => (S i, (l.getD i (endA, 0)).1)).map (·.2) = l.map (·.1) := by
    apply List.ext_getElem?
    intro i
    by_cases hi : i < l.length
    · simp [hi]
    · rw [List.getElem?_eq_none (by simp; omega), List.getElem?_eq_none (by simp; omega)]
  have htok := scan_tok s l h
  rw [e]
  have := scans_bld (S l.length) (hS _) (.inr (hB _)) ((List.range l.length).map fun i => (S i, (l.getD i (endA, 0)).1)) (fun t ht => by
    rw [List.mem_map] at ht
    obtain ⟨i, hi, rfl⟩ := ht
    have hi' : i < l.length := by simpa using hi
    refine ⟨hS i, ?_⟩
    show TokOK (l.getD i (endA, 0)).1
    rw [List.getD_eq_getElem?_getD, List.getElem?_eq_getElem hi']
    exact htok _ (List.getElem_mem hi')) (fun t ht => by
    have := List.mem_of_mem_drop ht
    rw [List.mem_map] at this
    obtain ⟨i, _, rfl⟩ := this
    exact hB i)
  rw [hm] at this
  exact scans_scan _ _ this
end Go.Proofs.YtdhfkokinnmfhaaDoor
