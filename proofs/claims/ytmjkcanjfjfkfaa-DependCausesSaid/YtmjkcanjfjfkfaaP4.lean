/- Plain facts of layer 47: what a run makes is good for depend.Build, and each action is what perform makes of the state before it. -/
import Derived.Test.YtmjkcanjfjfkfaaP3
import Derived.Test.YtmjkcanjfjfkfaaB6
namespace Go.Proofs.Ytmjkcanjfjfkfaa
set_option linter.unusedSimpArgs false
set_option linter.unusedVariables false
theorem ordCh_map {f : Nm → Ch} (hn : ∀ n, (f n).name = n) (hv : ∀ n, (f n).value.length ≤ 3) (ha : ∀ n, (f n).absent = true → (f n).value = []) : ∀ {l : List Nm}, Strict cmpN l → (∀ n ∈ l, n ∈ objs) → ordCh (l.map f) = true
  | [], _, _ => rfl
  | n :: l, h, ho => by
    have ih := ordCh_map hn hv ha (l := l) h.tail fun m hm => ho m (List.mem_cons_of_mem _ hm)
    have h1 : okCh (f n) = true := by
      unfold okCh okN
      rw [hn, decide_eq_true (ho n (List.mem_cons_self ..)), decide_eq_true (Nat.le_trans (hv n) (by decide))]
      cases hb : (f n).absent with
      | false => rfl
      | true => rw [ha n hb]; rfl
    cases l with
    | nil => simp only [List.map_cons, List.map_nil, ordCh, h1, Bool.and_self]
    | cons m l =>
      have h2 : cmpN (f n).name (f m).name < 0 := by rw [hn, hn]; exact (List.pairwise_cons.1 h).1 m (List.mem_cons_self ..)
      simp only [List.map_cons] at ih ⊢
      rw [ordCh, ih, h1]
      simp [h2]
theorem look_len {s : S47} {k : Ky} {d : De} (h : PIn s k d) (n : Nm) : ((lookM n (wrs s k d)).getD []).length ≤ 3 := by
  cases hl : lookM n (wrs s k d) with
  | some v => exact ((wrs_ok h).2.2 _ (look_mem hl)).2
  | none => exact Nat.zero_le _
theorem wrs_obj {s : S47} {k : Ky} {d : De} (h : PIn s k d) : ∀ n ∈ (wrs s k d).map Prod.fst, n ∈ objs := fun n hn => by
  obtain ⟨p, hp, rfl⟩ := List.mem_map.1 hn
  exact ((wrs_ok h).2.2 p hp).1
theorem sortU_obj {l : List Nm} (h : ∀ n ∈ l, n ∈ objs) : ∀ n ∈ sortU cmpN l, n ∈ objs := fun n hn => h n ((mem_sortU ordN l (ob_own h)).1 hn)
theorem prf_ord {s : S47} {k : Ky} {d : De} (h : PIn s k d) : okAc (prf s k d) = true := by
  have h1 := (rds_ok h).2.2
  have h2 := wrs_obj h
  unfold okAc prf
  simp only
  rw [ordCh_map (fun _ => rfl) h.vl (fun n hb => by unfold rdC at hb ⊢; simp only at hb ⊢; rw [Option.isNone_iff_eq_none.1 hb]; rfl) (strict_sortU ordN _ (ob_own h1)) (sortU_obj h1),
    ordCh_map (fun _ => rfl) (look_len h) (fun n hb => by unfold wrC at hb; cases hb) (strict_sortU ordN _ (ob_own h2)) (sortU_obj h2)]
  rfl
theorem prf_acR {s : S47} {k : Ky} {d : De} (h : PIn s k d) (hk : KyR k) : AcR (prf s k d) := by
  have h1 := (rds_ok h).2.2
  have h2 := wrs_obj h
  unfold prf
  refine ⟨hk, fun c hc => ?_, fun c hc => ?_, ?_, ?_⟩
  · obtain ⟨n, hn, rfl⟩ := List.mem_map.1 hc
    exact ⟨.inl (sortU_obj h1 n hn), Nat.le_trans (h.vl n) (by decide)⟩
  · obtain ⟨n, hn, rfl⟩ := List.mem_map.1 hc
    exact ⟨.inl (sortU_obj h2 n hn), Nat.le_trans (look_len h n) (by decide)⟩
  · rw [List.length_map]; exact sortU_len h1
  · rw [List.length_map]; exact sortU_len h2
/-- A key of a run and its rank. -/
def GoodK (r : Nat) (k : Ky) : Prop := (∃ t i : Nat, t < 5 ∧ i < 20 ∧ k = kyI t i ∧ r = t * 1000 + i) ∨ (∃ t n : Nat, t < 5 ∧ 1 ≤ n ∧ n ≤ 3 ∧ k = kyP t n ∧ r = t * 1000 + 100 + n)
theorem GoodK.kyR {r : Nat} {k : Ky} (h : GoodK r k) : KyR k := by
  rcases h with ⟨t, i, ht, hi, rfl, _⟩ | ⟨t, n, ht, h1, h2, rfl, _⟩
  · refine ⟨⟨?_, ?_⟩, (show ([] : Bs) ∈ lin5 by decide), .inl ⟨rfl, ?_, ?_, rfl⟩⟩ <;> simp only [kyI] <;> omega
  · refine ⟨⟨?_, ?_⟩, ?_, .inr ⟨rfl, rfl, ?_⟩⟩
    · simp only [kyP]; omega
    · simp only [kyP]; omega
    · show whoS n ∈ lin5
      rcases (show n = 1 ∨ n = 2 ∨ n = 3 by omega) with rfl | rfl | rfl <;> decide
    · show whoS n ≠ []
      rcases (show n = 1 ∨ n = 2 ∨ n = 3 by omega) with rfl | rfl | rfl <;> decide
theorem or4_neg {a b c d : Int} : or4 a b c d < 0 ↔ a < 0 ∨ (a = 0 ∧ (b < 0 ∨ (b = 0 ∧ (c < 0 ∨ (c = 0 ∧ d < 0))))) := by
  unfold or4 or3
  repeat' split
  all_goals omega
theorem GoodK.lt {r r' : Nat} {k k' : Ky} (h : GoodK r k) (h' : GoodK r' k') (hr : r < r') : cmpK k k' < 0 := by
  unfold cmpK
  rw [or4_neg]
  simp only [cmpI_lt, cmpI_eq]
  rcases h with ⟨t, i, ht, hi, rfl, rfl⟩ | ⟨t, n, ht, h1, h2, rfl, rfl⟩ <;> rcases h' with ⟨t', i', ht', hi', rfl, rfl⟩ | ⟨t', n', ht', h1', h2', rfl, rfl⟩
  · simp only [kyI]
    rcases (show t < t' ∨ t = t' by omega) with h | h
    · left; omega
    · right; exact ⟨by omega, .inr ⟨trivial, .inl (by omega)⟩⟩
  · simp only [kyI, kyP]
    rcases (show t < t' ∨ t = t' by omega) with h | h
    · left; omega
    · right; exact ⟨by omega, .inl (by decide)⟩
  · simp only [kyI, kyP]
    left; omega
  · simp only [kyP]
    rcases (show t < t' ∨ t = t' by omega) with h | h
    · left; omega
    · right
      refine ⟨by omega, .inr ⟨trivial, .inr ⟨trivial, ?_⟩⟩⟩
      have hn : n < n' := by omega
      rcases (show (n = 1 ∧ n' = 2) ∨ (n = 1 ∧ n' = 3) ∨ (n = 2 ∧ n' = 3) by omega) with ⟨rfl, rfl⟩ | ⟨rfl, rfl⟩ | ⟨rfl, rfl⟩ <;> decide
/-- How a run came about: each action is what perform makes of the state before it. -/
inductive Trc (ds : List De) : S47 → List Ac → Prop
  | nil : Trc ds s00 []
  | snoc {s : S47} {l : List Ac} {k : Ky} {d : De} : Trc ds s l → d ∈ ds → PIn s k d → (∃ r, GoodK r k) → Trc ds (nxtS s k d) (l ++ [prf s k d])
/-- A run under way whose keys have ranks below R. -/
structure RInv (ds : List De) (R : Nat) (st : S47 × List Ac) : Prop where
  vl : VL st.1
  tr : Trc ds st.1 st.2
  gk : ∀ a ∈ st.2, ∃ r, r < R ∧ GoodK r a.key
  pw : st.2.Pairwise fun a b => cmpK a.key b.key < 0
theorem RInv.mono {ds : List De} {R R' : Nat} {st : S47 × List Ac} (h : RInv ds R st) (hr : R ≤ R') : RInv ds R' st :=
  ⟨h.vl, h.tr, fun a ha => by obtain ⟨r, h1, h2⟩ := h.gk a ha; exact ⟨r, by omega, h2⟩, h.pw⟩
theorem RInv.stp {ds : List De} {R r : Nat} {st : S47 × List Ac} {k : Ky} {d : De} (h : RInv ds R st) (hd : d ∈ ds) (hp : PIn st.1 k d) (hk : GoodK r k) (hr : R ≤ r) : RInv ds (r + 1) (Go.Proofs.Ytmjkcanjfjfkfaa.stp st k d) := by
  refine ⟨stp_vl hp, h.tr.snoc hd hp ⟨r, hk⟩, fun a ha => ?_, ?_⟩
  · rcases List.mem_append.1 ha with ha | ha
    · obtain ⟨r', h1, h2⟩ := h.gk a ha
      exact ⟨r', by omega, h2⟩
    · rw [List.mem_singleton] at ha
      subst ha
      exact ⟨r, by omega, hk⟩
  · refine List.pairwise_append.2 ⟨h.pw, List.pairwise_singleton _ _, fun a ha b hb => ?_⟩
    rw [List.mem_singleton] at hb
    subst hb
    obtain ⟨r', h1, h2⟩ := h.gk a ha
    exact h2.lt hk (by omega)
theorem RInv.inp {ds : List De} (hd : DeOk ds) {ins t i : Nat} {st : S47 × List Ac} (ht : t < 5) (hi : i < 20) (h : RInv ds (t * 1000 + i) st) : RInv ds (t * 1000 + i + 1) (inF ds ins t st i) := by
  unfold inF
  cases hg : ds[i]? with
  | none => exact h.mono (by omega)
  | some d =>
    simp only
    split
    · exact h.stp (List.mem_of_getElem? hg) (pinI h.vl hd (List.mem_of_getElem? hg) t i) (.inl ⟨t, i, ht, hi, rfl, rfl⟩) (Nat.le_refl _)
    · exact h.mono (by omega)
theorem RInv.ins {ds : List De} (hd : DeOk ds) {ins t f : Nat} {st : S47 × List Ac} (ht : t < 5) (h : RInv ds (t * 1000 + f) st) (m : Nat) (hm : f + m ≤ 20) : RInv ds (t * 1000 + f + m) (((List.range m).map fun j => f + j).foldl (inF ds ins t) st) := by
  induction m with
  | zero => exact h.mono (by omega)
  | succ m ih =>
    have ih := ih (by omega)
    rw [List.range_succ, List.map_append, List.foldl_append]
    generalize ((List.range m).map fun j => f + j).foldl (inF ds ins t) st = s2 at *
    have h2 := RInv.inp (i := f + m) hd (ins := ins) ht (by omega) (ih.mono (R' := t * 1000 + (f + m)) (by omega))
    exact h2.mono (by omega)
theorem RInv.prc {ds : List De} (hd : DeOk ds) {p : Nat → Bool} {t n : Nat} {pl : List Nat} {st : S47 × List Ac} (ht : t < 5) (h1 : 1 ≤ n) (h2 : n ≤ 3) (h : RInv ds (t * 1000 + 100 + n) st) : RInv ds (t * 1000 + 100 + n + 1) (prF ds p t pl st n) := by
  unfold prF
  cases hf : fstD ds n p pl with
  | none => exact h.mono (by omega)
  | some d => exact h.stp (fstD_mem hf).1 (pinP h.vl hd (fstD_mem hf).1 t h1 h2) (.inr ⟨t, n, ht, h1, h2, rfl, rfl⟩) (Nat.le_refl _)
theorem RInv.tick {ds : List De} (hd : DeOk ds) {ins prs t : Nat} {st : S47 × List Ac} (ht : t < 5) (h : RInv ds (t * 1000) st) : RInv ds ((t + 1) * 1000) (tickF ds ins prs st t) := by
  have h1 := RInv.ins hd (ins := ins) (f := 4 * t) ht (h.mono (by omega)) (min (min ds.length (4 * t + 4)) 20 - 4 * t) (by omega)
  unfold tickF
  have h2 : RInv ds (t * 1000 + 100 + 1) ((places ds.length t).foldl (inF ds ins t) st) := by unfold places; exact h1.mono (by omega)
  generalize (places ds.length t).foldl (inF ds ins t) st = s1 at *
  generalize (fun n => thr s1.1 n && !bitN prs n) = p
  generalize places ds.length t = pl at *
  exact ((((h2.prc hd (p := p) (pl := pl) ht (by decide) (by decide)).prc hd (p := p) (pl := pl) (n := 2) ht (by decide) (by decide)).prc hd (p := p) (pl := pl) (n := 3) ht (by decide) (by decide)).mono (by omega))
theorem runTo_inv {ds : List De} (hd : DeOk ds) (ins prs : Nat) : ∀ m, m ≤ 5 → RInv ds (m * 1000) (runTo ds ins prs m)
  | 0, _ => ⟨fun n => by simp [runTo, s00], .nil, fun a ha => by simp [runTo] at ha, by simp [runTo]⟩
  | m + 1, hm => by
    rw [runTo_succ]
    exact (runTo_inv hd ins prs m (by omega)).tick hd (by omega)
theorem ticks_le (ds : List De) : ticks ds ≤ 5 := by unfold ticks; omega
theorem Trc.good {ds : List De} {s : S47} {l : List Ac} (h : Trc ds s l) : ∀ a ∈ l, AcR a ∧ okAc a = true := by
  induction h with
  | nil => intro a ha; cases ha
  | snoc _ _ hp hk ih =>
    intro a ha
    rcases List.mem_append.1 ha with ha | ha
    · exact ih a ha
    · rw [List.mem_singleton] at ha
      subst ha
      obtain ⟨r, hk⟩ := hk
      exact ⟨prf_acR hp hk.kyR, prf_ord hp⟩
/-- What Build asks of a run's actions. -/
theorem runS_good {ds : List De} (hd : DeOk ds) (ins prs : Nat) : KS (runS ds ins prs) ∧ (∀ a ∈ runS ds ins prs, AcR a) ∧ (∀ a ∈ runS ds ins prs, okAc a = true) ∧ (runS ds ins prs).length ≤ 35 := by
  have h := runTo_inv hd ins prs (ticks ds) (ticks_le ds)
  have hl := (runTo_vl hd ins prs (ticks ds)).2
  have ht := ticks_le ds
  refine ⟨fun k hk => ?_, fun a ha => (h.tr.good a ha).1, fun a ha => (h.tr.good a ha).2, by unfold runS; omega⟩
  exact List.pairwise_iff_getElem.1 h.pw k (k + 1) _ _ (by omega)
theorem runS_tr {ds : List De} (hd : DeOk ds) (ins prs : Nat) : Trc ds (runTo ds ins prs (ticks ds)).1 (runS ds ins prs) := (runTo_inv hd ins prs (ticks ds) (ticks_le ds)).tr
end Go.Proofs.Ytmjkcanjfjfkfaa
