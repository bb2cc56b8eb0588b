/- Plain facts of layer 47: a run of the small world keeps its values short. -/
import Derived.Test.YtmjkcanjfjfkfaaP2
namespace Go.Proofs.Ytmjkcanjfjfkfaa
set_option linter.unusedSimpArgs false
set_option linter.unusedVariables false
def VL (s : S47) : Prop := ∀ n, ((s n).getD []).length ≤ 3
def DeOk (ds : List De) : Prop := ∀ d ∈ ds, d.who < 256 ∧ d.reads < 256 ∧ d.writes < 256 ∧ d.spawn < 256
theorem who_lin {n : Nat} (h1 : 1 ≤ n) (h2 : n ≤ 3) : whoS n ∈ ([[49], [50], [51]] : List Bs) := who_ob h1 h2
theorem pinI {s : S47} {ds : List De} {d : De} (hs : VL s) (hd : DeOk ds) (h : d ∈ ds) (t i : Nat) : PIn s (kyI t i) d := ⟨hs, hd d h, .inl ⟨rfl, rfl⟩⟩
theorem pinP {s : S47} {ds : List De} {d : De} (hs : VL s) (hd : DeOk ds) (h : d ∈ ds) (t : Nat) {n : Nat} (h1 : 1 ≤ n) (h2 : n ≤ 3) : PIn s (kyP t n) d := ⟨hs, hd d h, .inr ⟨rfl, who_lin h1 h2⟩⟩
theorem stp_vl {st : S47 × List Ac} {k : Ky} {d : De} (h : PIn st.1 k d) : VL (stp st k d).1 := fun n => nxt_vl h n
theorem stp_len (st : S47 × List Ac) (k : Ky) (d : De) : (stp st k d).2.length = st.2.length + 1 := by simp [stp]
theorem inF_vl {ds : List De} (hd : DeOk ds) (ins t : Nat) (st : S47 × List Ac) (i : Nat) (h : VL st.1) : VL (inF ds ins t st i).1 := by
  unfold inF
  cases hi : ds[i]? with
  | none => exact h
  | some d =>
    simp only
    split
    · exact stp_vl (pinI h hd (List.mem_of_getElem? hi) t i)
    · exact h
theorem inF_len (ds : List De) (ins t : Nat) (st : S47 × List Ac) (i : Nat) : (inF ds ins t st i).2.length ≤ st.2.length + 1 := by
  unfold inF
  cases ds[i]? with
  | none => simp
  | some d =>
    simp only
    split
    · rw [stp_len]; exact Nat.le_refl _
    · omega
theorem fstD_mem {ds : List De} {n : Nat} {p : Nat → Bool} : ∀ {l : List Nat} {d : De}, fstD ds n p l = some d → d ∈ ds ∧ d.who % 4 = n ∧ p n = true
  | [], d, h => by simp [fstD] at h
  | i :: l, d, h => by
    rw [fstD] at h
    cases hi : ds[i]? with
    | none => rw [hi] at h; exact fstD_mem h
    | some d' =>
      rw [hi] at h
      simp only at h
      split at h
      · rename_i hc
        injection h with h
        subst h
        exact ⟨List.mem_of_getElem? hi, hc⟩
      · exact fstD_mem h
theorem prF_vl {ds : List De} (hd : DeOk ds) (p : Nat → Bool) (t : Nat) (pl : List Nat) (st : S47 × List Ac) {n : Nat} (h1 : 1 ≤ n) (h2 : n ≤ 3) (h : VL st.1) : VL (prF ds p t pl st n).1 := by
  unfold prF
  cases hf : fstD ds n p pl with
  | none => exact h
  | some d => exact stp_vl (pinP h hd (fstD_mem hf).1 t h1 h2)
theorem prF_len (ds : List De) (p : Nat → Bool) (t : Nat) (pl : List Nat) (st : S47 × List Ac) (n : Nat) : (prF ds p t pl st n).2.length ≤ st.2.length + 1 := by
  unfold prF
  cases fstD ds n p pl with
  | none => simp
  | some d => simp only; rw [stp_len]; exact Nat.le_refl _
theorem fold_vl {ds : List De} (hd : DeOk ds) (ins t : Nat) : ∀ (l : List Nat) (st : S47 × List Ac), VL st.1 → VL (l.foldl (inF ds ins t) st).1 ∧ (l.foldl (inF ds ins t) st).2.length ≤ st.2.length + l.length
  | [], st, h => ⟨h, by simp⟩
  | i :: l, st, h => by
    obtain ⟨h1, h2⟩ := fold_vl hd ins t l (inF ds ins t st i) (inF_vl hd ins t st i h)
    have h3 := inF_len ds ins t st i
    exact ⟨h1, by simp only [List.foldl_cons, List.length_cons]; omega⟩
theorem places_len (N t : Nat) : (places N t).length = min (min N (4 * t + 4)) 20 - 4 * t := by simp [places]
theorem places_le (N t : Nat) : (places N t).length ≤ 4 := by rw [places_len]; omega
theorem places_get (N t j : Nat) (h : j < (places N t).length) : (places N t)[j] = 4 * t + j := by simp [places]
theorem tick_vl {ds : List De} (hd : DeOk ds) (ins prs t : Nat) (st : S47 × List Ac) (h : VL st.1) : VL (tickF ds ins prs st t).1 ∧ (tickF ds ins prs st t).2.length ≤ st.2.length + 7 := by
  unfold tickF
  obtain ⟨h1, h2⟩ := fold_vl hd ins t (places ds.length t) st h
  have hp := places_le ds.length t
  generalize (places ds.length t).foldl (inF ds ins t) st = s1 at *
  generalize (fun n => thr s1.1 n && !bitN prs n) = p
  generalize places ds.length t = pl at *
  simp only [List.foldl_cons, List.foldl_nil]
  have a1 := prF_vl hd p t pl s1 (n := 1) (by decide) (by decide) h1
  have b1 := prF_len ds p t pl s1 1
  have a2 := prF_vl hd p t pl _ (n := 2) (by decide) (by decide) a1
  have b2 := prF_len ds p t pl (prF ds p t pl s1 1) 2
  have a3 := prF_vl hd p t pl _ (n := 3) (by decide) (by decide) a2
  have b3 := prF_len ds p t pl (prF ds p t pl (prF ds p t pl s1 1) 2) 3
  exact ⟨a3, by omega⟩
theorem runTo_succ (ds : List De) (ins prs m : Nat) : runTo ds ins prs (m + 1) = tickF ds ins prs (runTo ds ins prs m) m := by
  unfold runTo
  rw [List.range_succ, List.foldl_append]
  rfl
theorem runTo_vl {ds : List De} (hd : DeOk ds) (ins prs : Nat) : ∀ m, VL (runTo ds ins prs m).1 ∧ (runTo ds ins prs m).2.length ≤ 7 * m
  | 0 => ⟨fun n => by simp [runTo, s00], by simp [runTo]⟩
  | m + 1 => by
    rw [runTo_succ]
    obtain ⟨h1, h2⟩ := runTo_vl hd ins prs m
    obtain ⟨h3, h4⟩ := tick_vl hd ins prs m _ h1
    exact ⟨h3, by omega⟩
end Go.Proofs.Ytmjkcanjfjfkfaa
