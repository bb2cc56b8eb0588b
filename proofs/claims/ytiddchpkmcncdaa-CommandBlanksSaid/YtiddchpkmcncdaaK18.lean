/- Plain functions of layer 41: more blanks between the tokens of the canonical text. -/
import Derived.Test.YtiddchpkmcncdaaG5
namespace Go.Proofs.Ytiddchpkmcncdaa
open Go.RowKit
set_option linter.unusedSimpArgs false
set_option linter.unusedVariables false
/-- A text with more blanks behind its spaces outside of quotation marks; sk: the byte is escaped; q: inside quotation marks. -/
def blkS : Bs → Bool → Bool → List Bool → Bs
  | [], _, _, _ => []
  | b :: r, true, q, bl => b :: blkS r false q bl
  | b :: r, false, q, bl =>
    if b = 92 then b :: blkS r true q bl
    else if b = 34 then b :: blkS r false (!q) bl
    else if b = 32 ∧ q = false then (match bl with
      | [] => b :: blkS r false q []
      | x :: bl' => b :: ((if x then [9, 32] else []) ++ blkS r false q bl'))
    else b :: blkS r false q bl
theorem blkS_92 (c : UInt8) (r : Bs) (q : Bool) (bl : List Bool) : blkS (92 :: c :: r) false q bl = [92, c] ++ blkS r false q bl := by simp [blkS]
theorem blkS_92e (q : Bool) (bl : List Bool) : blkS [92] false q bl = [92] := by simp [blkS]
theorem blkS_34 (r : Bs) (q : Bool) (bl : List Bool) : blkS (34 :: r) false q bl = [34] ++ blkS r false (!q) bl := by simp [blkS]
theorem blkS_32n (r : Bs) : blkS (32 :: r) false false [] = [32] ++ blkS r false false [] := by simp [blkS]
theorem blkS_32 (r : Bs) (x : Bool) (bl : List Bool) : blkS (32 :: r) false false (x :: bl) = [32] ++ (if x then [9, 32] else []) ++ blkS r false false bl := by simp [blkS]
theorem blkS_32q (r : Bs) (bl : List Bool) : blkS (32 :: r) false true bl = [32] ++ blkS r false true bl := by simp [blkS]
theorem blkS_any (b : UInt8) (r : Bs) (q : Bool) (bl : List Bool) (h1 : b ≠ 92) (h2 : b ≠ 34) (h3 : b ≠ 32) : blkS (b :: r) false q bl = [b] ++ blkS r false q bl := by simp [blkS, h1, h2, h3]
/-- What is copied as it is. -/
def Cp (q : Bool) (a : Bs) : Prop := ∀ X bl, blkS (a ++ X) false q bl = a ++ blkS X false q bl
theorem Cp.nil (q : Bool) : Cp q [] := fun X bl => rfl
theorem Cp.app {q : Bool} {a b : Bs} (ha : Cp q a) (hb : Cp q b) : Cp q (a ++ b) := fun X bl => by
  rw [List.append_assoc, ha, hb, List.append_assoc]
theorem Cp.byte {q : Bool} {b : UInt8} (h1 : b ≠ 92) (h2 : b ≠ 34) (h3 : q = true ∨ b ≠ 32) : Cp q [b] := fun X bl => by
  rw [List.singleton_append]
  by_cases h : b = 32
  · subst h
    rcases h3 with rfl | h3
    · exact blkS_32q X bl
    · exact absurd rfl h3
  · exact blkS_any b X q bl h1 h2 h
theorem Cp.all {q : Bool} : ∀ {a : Bs}, (∀ b ∈ a, b ≠ 92 ∧ b ≠ 34 ∧ (q = true ∨ b ≠ 32)) → Cp q a
  | [], _ => Cp.nil q
  | b :: r, h => by
    have h1 := h b (by simp)
    exact Cp.app (a := [b]) (Cp.byte h1.1 h1.2.1 h1.2.2) (Cp.all (fun c hc => h c (by simp [hc])))
theorem Cp.esc {q : Bool} (b : UInt8) : Cp q [92, b] := fun X bl => by
  rw [List.cons_append, List.singleton_append]
  exact blkS_92 b X q bl
theorem Cp.quo {m : Bs} (h : Cp true m) : Cp false ([34] ++ m ++ [34]) := fun X bl => by
  rw [List.append_assoc, List.append_assoc, List.singleton_append, blkS_34, show (!false) = true from rfl, h]
  rw [show [34] ++ X = 34 :: X from rfl, blkS_34]
  simp
theorem esc_no {b : UInt8} (h : escB b = false) : b ≠ 34 ∧ b ≠ 92 := by
  unfold escB at h
  simp only [Bool.or_eq_false_iff, decide_eq_false_iff_not] at h
  exact ⟨fun e => h.1.1 (by subst e; decide), fun e => h.1.2 (by subst e; decide)⟩
theorem Cp.escs : ∀ (t : Bs), Cp true (t.flatMap escS)
  | [] => Cp.nil true
  | b :: r => by
    rw [List.flatMap_cons]
    refine Cp.app ?_ (Cp.escs r)
    unfold escS
    split
    · exact Cp.esc b
    · rename_i h
      have := esc_no (by simpa using h)
      exact Cp.byte this.2 this.1 (.inl rfl)
theorem aln_no {b : UInt8} (h : aln8 b = true) : b ≠ 92 ∧ b ≠ 34 ∧ b ≠ 32 := by
  refine ⟨?_, ?_, ?_⟩ <;> (intro e; subst e; revert h; decide)
theorem pln_no {b : UInt8} (h : plnB b = true) : b ≠ 92 ∧ b ≠ 34 ∧ b ≠ 32 := by
  refine ⟨?_, ?_, ?_⟩ <;> (intro e; subst e; revert h; decide)
theorem Cp.var {q : Bool} {t : Bs} (h : isVarS t = true) : Cp q t := Cp.all (fun b hb => by
  have h1 := isVar_aln h
  rw [List.all_eq_true] at h1
  have := aln_no (h1 b hb)
  exact ⟨this.1, this.2.1, .inr this.2.2⟩)
theorem Cp.pc {a : Bool} {p : Pc} (h : p.var = true → isVarS p.text = true) : Cp false (pcS a p) := by
  unfold pcS
  split
  · rename_i hv
    simp only [Bool.and_eq_true] at hv
    have := Cp.quo (Cp.app (Cp.byte (q := true) (b := 36) (by decide) (by decide) (.inl rfl)) (Cp.var (q := true) (h hv.1)))
    simpa using this
  · split
    · rename_i hv
      exact Cp.app (Cp.byte (by decide) (by decide) (.inr (by decide))) (Cp.var (h hv))
    · split
      · rename_i hp
        simp only [Bool.and_eq_true] at hp
        have h1 := hp.1
        unfold isPlnS at h1
        simp only [Bool.and_eq_true, List.all_eq_true] at h1
        exact Cp.all (fun b hb => by have := pln_no (h1.2 b hb); exact ⟨this.1, this.2.1, .inr this.2.2⟩)
      · exact Cp.quo (Cp.escs _)
theorem Cp.txt : ∀ (w : Wd) (a : Bool), (∀ p ∈ w, p.var = true → isVarS p.text = true) → Cp false (txtS a w)
  | [], _, _ => Cp.nil false
  | p :: r, a, h => Cp.app (Cp.pc (h p (by simp))) (Cp.txt r _ (fun x hx => h x (by simp [hx])))
theorem wchkP_var (n : Nat) : ∀ (w : Wd) (pv : Bool), wchkP n pv w = 0 → ∀ p ∈ w, p.var = true → isVarS p.text = true
  | [], _, _, p, hp, _ => by cases hp
  | x :: r, pv, h, p, hp, hv => by
    rw [wchkP] at h
    by_cases hx : x.var = true
    · rw [if_pos hx] at h
      by_cases hn : isVarS x.text = true
      · rw [if_pos hn] at h
        rcases List.mem_cons.1 hp with rfl | hp
        · exact hn
        · exact wchkP_var n r true h p hp hv
      · rw [if_neg hn] at h; cases h
    · rw [if_neg hx] at h
      rcases List.mem_cons.1 hp with rfl | hp
      · exact absurd hv hx
      · split at h
        · cases h
        · split at h
          · cases h
          · exact wchkP_var n r false h p hp hv
theorem wchk_var {w : Wd} (h : wchk w = 0) : ∀ p ∈ w, p.var = true → isVarS p.text = true := by
  unfold wchk at h
  split at h
  · cases h
  · exact wchkP_var _ w true h
theorem Cp.it {x : It} (h : ItV x) : Cp false (itT x) := by
  cases x with
  | op o =>
    have ho : o ∈ opsL := h
    simp only [opsL, List.mem_cons, List.not_mem_nil, or_false] at ho
    refine Cp.all (fun b hb => ?_)
    have hb' : b ∈ o := hb
    rcases ho with rfl | rfl | rfl | rfl | rfl | rfl | rfl | rfl <;> simp at hb' <;> subst hb' <;> exact ⟨by decide, by decide, .inr (by decide)⟩
  | wd w => exact Cp.txt w false (wchk_var h)
  | asg a =>
    have h1 : achk a = 0 := h
    unfold achk at h1
    by_cases hn : isVarS a.name = true
    · rw [if_pos hn] at h1
      exact Cp.app (Cp.var hn) (Cp.app (a := [61]) (Cp.byte (by decide) (by decide) (.inr (by decide))) (Cp.txt a.value false (wchk_var h1)))
    · rw [if_neg hn] at h1; cases h1
theorem bl_ren : ∀ (its : List (It × Bs)) (bl : List Bool), RenOk its → (∀ p ∈ its, p.2 = [] ∨ p.2 = [32]) → ∃ its', its'.map (·.1) = its.map (·.1) ∧ RenOk its' ∧ blkS (ren its) false false bl = ren its'
  | [], bl, _, _ => ⟨[], rfl, trivial, rfl⟩
  | (x, b) :: r, bl, h, hg => by
    obtain ⟨hv, hb, hs, hr⟩ := h
    have hg1 := hg (x, b) (by simp)
    have hgr : ∀ p ∈ r, p.2 = [] ∨ p.2 = [32] := fun p hp => hg p (by simp [hp])
    have hst : ∀ (b' : Bs) (r' : List (It × Bs)), (b = [] → b' = []) → (b ≠ [] → b' ≠ []) → r'.map (·.1) = r.map (·.1) → (b' ≠ [] ∨ r' = [] ∨ ((∀ o, x ≠ .op o) ∧ ∃ b2 r2, r' = (.op [59], b2) :: r2)) := by
      intro b' r' _ h2 h3
      rcases hs with hs | rfl | ⟨hx, b2, r2, rfl⟩
      · exact .inl (h2 hs)
      · exact .inr (.inl (by simpa using h3))
      · right; right
        refine ⟨hx, ?_⟩
        match r', h3 with
        | (y, b3) :: r3, h3 =>
          simp only [List.map_cons, List.cons.injEq] at h3
          exact ⟨b3, r3, by rw [h3.1]⟩
    rcases hg1 with hb0 | hb0
    · obtain ⟨r', h1, h2, h3⟩ := bl_ren r bl hr hgr
      refine ⟨(x, []) :: r', by simp [h1], ⟨hv, rfl, hst [] r' (fun _ => rfl) (fun h => absurd hb0 h) h1, h2⟩, ?_⟩
      have hb0' : b = [] := hb0
      subst hb0'
      rw [ren, ren, Cp.it hv, List.nil_append, h3, List.nil_append]
    · have hb0' : b = [32] := hb0
      subst hb0'
      cases bl with
      | nil =>
        obtain ⟨r', h1, h2, h3⟩ := bl_ren r [] hr hgr
        refine ⟨(x, [32]) :: r', by simp [h1], ⟨hv, by decide, hst [32] r' (fun h => by cases h) (fun _ => by simp) h1, h2⟩, ?_⟩
        rw [ren, ren, Cp.it hv, show [32] ++ ren r = 32 :: ren r from rfl, blkS_32n, h3]
      | cons y bl =>
        obtain ⟨r', h1, h2, h3⟩ := bl_ren r bl hr hgr
        refine ⟨(x, [32] ++ (if y then [9, 32] else [])) :: r', by simp [h1], ⟨hv, ?_, hst _ r' (fun h => by cases h) (fun _ => by simp) h1, h2⟩, ?_⟩
        · cases y <;> decide
        · rw [ren, ren, Cp.it hv, show [32] ++ ren r = 32 :: ren r from rfl, blkS_32, h3]
theorem lay_gap : ∀ (l : List It), ∀ p ∈ lay l, p.2 = [] ∨ p.2 = [32]
  | [], p, hp => by cases hp
  | [x], p, hp => by
    simp [lay] at hp
    subst hp; exact .inl rfl
  | x :: y :: r, p, hp => by
    rw [lay] at hp
    rcases List.mem_cons.1 hp with rfl | hp
    · show gapB y = [] ∨ gapB y = [32]
      cases y with
      | op o =>
        show (if o = [59] then ([] : Bs) else [32]) = [] ∨ (if o = [59] then ([] : Bs) else [32]) = [32]
        by_cases h : o = [59]
        · rw [if_pos h]; exact .inl rfl
        · rw [if_neg h]; exact .inr rfl
      | wd w => exact .inr rfl
      | asg a => exact .inr rfl
    · exact lay_gap (y :: r) p hp
/-- The canonical text with more blanks reads as the command line. -/
theorem par_blanks (l : Ln) (bl : List Bool) (hc : lchk l = 0) (hlen : (32 :: blkS (lnT l) false false bl).length ≤ 1024) : parS (32 :: blkS (lnT l) false false bl) = .ok l := by
  by_cases hne : l.parts = []
  · have hbg : l.bg = false := by
      cases hb : l.bg with
      | false => rfl
      | true =>
        rw [lchk_1 hb (by rw [hne]; rfl)] at hc
        cases hc
    have e : l = ⟨[], false⟩ := by cases l; simp at hne hbg; rw [hne, hbg]
    rw [e]; rfl
  · obtain ⟨its', h1, h2, h3⟩ := bl_ren (lay (itL l)) bl (itL_ok l hc) (lay_gap _)
    rw [itL_txt l (List.length_pos_iff.2 hne) (lchk_g hc)] at h3
    exact par_ren l _ its' [32] hc hne (h1.trans (lay_map _)) h2 (by decide) (by rw [h3]; rfl) hlen
theorem par_long (L : Bs) (h : 1024 < L.length) : parS L = .err 0 5 := by unfold parS; rw [if_pos h]
/-- A step of the loop: what has been written, and what is left. -/
theorem blk_len : ∀ (s : Bs) (sk q : Bool) (bl : List Bool), (blkS s sk q bl).length ≤ 3 * s.length
  | [], _, _, _ => by simp [blkS]
  | b :: r, true, q, bl => by
    have := blk_len r false q bl
    simp only [blkS, List.length_cons]; omega
  | b :: r, false, q, bl => by
    have h1 := blk_len r true q bl
    have h2 := blk_len r false (!q) bl
    have h3 := fun bl => blk_len r false q bl
    simp only [blkS]
    split
    · simp only [List.length_cons]; omega
    split
    · simp only [List.length_cons]; omega
    split
    · cases bl with
      | nil => have := h3 []; simp only [List.length_cons]; omega
      | cons x bl =>
        have := h3 bl
        simp only [List.length_cons, List.length_append]
        split <;> simp <;> omega
    · have := h3 bl; simp only [List.length_cons]; omega
end Go.Proofs.Ytiddchpkmcncdaa
