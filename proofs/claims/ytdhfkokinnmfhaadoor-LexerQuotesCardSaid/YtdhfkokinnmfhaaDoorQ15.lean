/- Plain lemmas of layer 21: texts of strings. -/
import Derived.Test.YtdhfkokinnmfhaaDoorQ14
namespace Go.Proofs.YtdhfkokinnmfhaaDoor
set_option linter.unusedSimpArgs false
set_option linter.unusedVariables false
def hdC (d : Int) : Int := if d < 10 then 48 + d else 87 + d
/-- The text of one byte. -/
def qB (b : Int) : List Int :=
  if b = 10 then [92, 110] else if b = 9 then [92, 116] else if b = 0 then [92, 48] else if b = 92 ∨ b = 34 then [92, b]
  else if b < 32 ∨ 126 < b then [92, 120, hdC (b / 16), hdC (b % 16)] else [b]
def quN (s : ByteArray) : Nat → List Int
  | 0 => [34]
  | k + 1 => quN s k ++ qB (bt s k)
theorem qB_len (b : Int) : 1 ≤ (qB b).length ∧ (qB b).length ≤ 4 := by
  unfold qB
  (repeat' split) <;> simp
theorem quN_len (s : ByteArray) : ∀ k, k + 1 ≤ (quN s k).length ∧ (quN s k).length ≤ 4 * k + 1
  | 0 => by simp [quN]
  | k + 1 => by
    have h1 := quN_len s k
    have h2 := qB_len (bt s k)
    simp only [quN, List.length_append]
    omega
theorem hdC_bd (d : Int) (h : 0 ≤ d) (h2 : d < 16) : 48 ≤ hdC d ∧ hdC d ≤ 102 ∧ hexI (hdC d) = true ∧ hexV (hdC d) = d := by
  have : ∀ d : Fin 16, 48 ≤ hdC (d.val : Int) ∧ hdC (d.val : Int) ≤ 102 ∧ hexI (hdC (d.val : Int)) = true ∧ hexV (hdC (d.val : Int)) = (d.val : Int) := by decide
  have h3 := this ⟨d.toNat, by omega⟩
  simp only [Int.toNat_of_nonneg h] at h3
  exact h3
theorem qB_rng (b : Int) (h0 : 0 ≤ b) (h1 : b < 256) : ∀ x ∈ qB b, 0 ≤ x ∧ x < 256 := by
  have hd1 := hdC_bd (b / 16) (by omega) (by omega)
  have hd2 := hdC_bd (b % 16) (by omega) (by omega)
  unfold qB
  intro x hx
  (repeat' split at hx) <;> simp at hx <;> omega
theorem quN_rng (s : ByteArray) : ∀ k, ∀ x ∈ quN s k, 0 ≤ x ∧ x < 256
  | 0, x, hx => by simp [quN] at hx; omega
  | k + 1, x, hx => by
    rcases List.mem_append.1 hx with h | h
    · exact quN_rng s k x h
    · exact qB_rng _ (bt_bd s k).1 (bt_bd s k).2 x h
theorem bt_nums (l : List Int) (i : Nat) (h : ∀ x ∈ l, 0 ≤ x ∧ x < 256) (hi : i < l.length) : bt (strOfNums l) i = l.getD i 0 := by
  unfold bt
  rw [strOfNums_data, List.getD_eq_getElem?_getD, List.getD_eq_getElem?_getD, List.getElem?_map, List.getElem?_eq_getElem hi]
  have := h l[i] (List.getElem_mem hi)
  simp
  omega
/-- The whole text, up to the last quote. -/
def quT (s : ByteArray) : List Int := quN s s.size ++ [34]
theorem quT_rng (s : ByteArray) : ∀ x ∈ quT s, 0 ≤ x ∧ x < 256 := by
  intro x hx
  rcases List.mem_append.1 hx with h | h
  · exact quN_rng s _ x h
  · simp at h; omega
theorem quN_pre (s : ByteArray) (k : Nat) : ∀ n, ∃ r, quN s (k + n) = quN s k ++ r
  | 0 => ⟨[], by simp⟩
  | n + 1 => by
    obtain ⟨r, hr⟩ := quN_pre s k n
    exact ⟨r ++ qB (bt s (k + n)), by rw [← Nat.add_assoc]; show quN s (k + n) ++ _ = _; rw [hr, List.append_assoc]⟩
/-- What stands at the place of byte number k. -/
theorem quT_at (s : ByteArray) (k j : Nat) (hk : k < s.size) (hj : j < (qB (bt s k)).length) : bt (strOfNums (quT s)) ((quN s k).length + j) = (qB (bt s k)).getD j 0 := by
  obtain ⟨r, hr⟩ := quN_pre s (k + 1) (s.size - (k + 1))
  rw [show k + 1 + (s.size - (k + 1)) = s.size by omega] at hr
  have e : quT s = quN s k ++ (qB (bt s k) ++ (r ++ [34])) := by
    unfold quT
    rw [hr]
    show (quN s k ++ qB (bt s k) ++ r) ++ [34] = _
    simp [List.append_assoc]
  rw [bt_nums _ _ (quT_rng s) (by rw [e]; simp; omega), e, List.getD_eq_getElem?_getD, List.getElem?_append_right (by omega), Nat.add_sub_cancel_left, List.getElem?_append_left hj, ← List.getD_eq_getElem?_getD]
theorem quT_end (s : ByteArray) : bt (strOfNums (quT s)) (quN s s.size).length = 34 := by
  rw [bt_nums _ _ (quT_rng s) (by unfold quT; simp)]
  unfold quT
  rw [List.getD_eq_getElem?_getD, List.getElem?_append_right (Nat.le_refl _)]
  simp
theorem quT_len (s : ByteArray) (k : Nat) (hk : k < s.size) : (quN s k).length + (qB (bt s k)).length < (quT s).length := by
  obtain ⟨r, hr⟩ := quN_pre s (k + 1) (s.size - (k + 1))
  rw [show k + 1 + (s.size - (k + 1)) = s.size by omega] at hr
  unfold quT
  rw [hr]
  show _ < ((quN s k ++ qB (bt s k) ++ r) ++ [34]).length
  simp
  try omega
theorem one_q (s : ByteArray) (k : Nat) (hk : k < s.size) : oneS (strOfNums (quT s)) (quN s k).length 34 = (bt s k, (((quN s (k + 1)).length : Nat) : Int), 0) ∧ bt (strOfNums (quT s)) (quN s k).length ≠ 34 := by
  have hT := quT_len s k hk
  have hat := fun j hj => quT_at s k j hk hj
  have hsz : (strOfNums (quT s)).size = (quT s).length := strOfNums_size _
  have hb := bt_bd s k
  have hnext : (quN s (k + 1)).length = (quN s k).length + (qB (bt s k)).length := by simp [quN]
  generalize (quN s k).length = p at *
  generalize strOfNums (quT s) = T at *
  rw [hnext]
  generalize bt s k = b at *
  have esc : ∀ c : Int, qB b = [92, c] → c ≠ 120 → c < 128 → escT c = b + 1 → oneS T p 34 = (b, ((p + 2 : Nat) : Int), 0) ∧ bt T p ≠ 34 := by
    intro c hc h120 h128 hesc
    have e0 := hat 0 (by rw [hc]; simp)
    have e1 := hat 1 (by rw [hc]; simp)
    rw [hc] at e0 e1 hT
    simp at e0 e1 hT
    refine ⟨?_, by omega⟩
    unfold oneS
    rw [if_neg (by omega), if_pos e0]
    unfold escS
    rw [if_neg (by omega), e1, if_pos h120, if_neg (by omega), hesc]
    exact tri (by omega) (by omega) rfl
  by_cases h10 : b = 10
  · have hq : qB b = [92, 110] := by subst h10; rfl
    have := esc 110 hq (by decide) (by decide) (by subst h10; rfl)
    rw [hq]; exact this
  by_cases h9 : b = 9
  · have hq : qB b = [92, 116] := by subst h9; rfl
    have := esc 116 hq (by decide) (by decide) (by subst h9; rfl)
    rw [hq]; exact this
  by_cases h0 : b = 0
  · have hq : qB b = [92, 48] := by subst h0; rfl
    have := esc 48 hq (by decide) (by decide) (by subst h0; rfl)
    rw [hq]; exact this
  by_cases h92 : b = 92
  · have hq : qB b = [92, 92] := by subst h92; rfl
    have := esc 92 hq (by decide) (by decide) (by subst h92; rfl)
    rw [hq]; exact this
  by_cases h34 : b = 34
  · have hq : qB b = [92, 34] := by subst h34; rfl
    have := esc 34 hq (by decide) (by decide) (by subst h34; rfl)
    rw [hq]; exact this
  by_cases hx : b < 32 ∨ 126 < b
  · have hq : qB b = [92, 120, hdC (b / 16), hdC (b % 16)] := by unfold qB; rw [if_neg h10, if_neg h9, if_neg h0, if_neg (by omega), if_pos hx]
    have e0 := hat 0 (by rw [hq]; simp)
    have e1 := hat 1 (by rw [hq]; simp)
    have e2 := hat 2 (by rw [hq]; simp)
    have e3 := hat 3 (by rw [hq]; simp)
    rw [hq] at e0 e1 e2 e3 hT ⊢
    simp at e0 e1 e2 e3 hT
    obtain ⟨_, _, x1, x2⟩ := hdC_bd (b / 16) (by omega) (by omega)
    obtain ⟨_, _, y1, y2⟩ := hdC_bd (b % 16) (by omega) (by omega)
    refine ⟨?_, by omega⟩
    unfold oneS
    rw [if_neg (by omega), if_pos e0]
    unfold escS
    rw [if_neg (by omega), e1, if_neg (by simp), if_neg (by omega), e2, if_neg (by rw [x1]; simp), if_neg (by omega), e3, if_neg (by rw [y1]; simp), x2, y2]
    exact tri (by omega) (by simp) rfl
  · have hq : qB b = [b] := by unfold qB; rw [if_neg h10, if_neg h9, if_neg h0, if_neg (by omega), if_neg hx]
    have e0 := hat 0 (by rw [hq]; simp)
    rw [hq] at e0 hT ⊢
    simp at e0 hT
    refine ⟨?_, by omega⟩
    unfold oneS
    rw [if_neg (by omega), e0, if_neg h92, if_neg (by omega)]
    exact tri rfl (by simp) rfl
/-- The bytes of a text, as numbers. -/
def numB (s : ByteArray) (k : Nat) : List Int := (List.range k).map (bt s)
theorem numB_succ (s : ByteArray) (k : Nat) : numB s (k + 1) = numB s k ++ [bt s k] := by unfold numB; rw [List.range_succ, List.map_append]; rfl
theorem numB_all (s : ByteArray) : strOfNums (numB s s.size) = s := by
  have hr : ∀ x ∈ numB s s.size, 0 ≤ x ∧ x < 256 := by
    intro x hx
    unfold numB at hx
    rw [List.mem_map] at hx
    obtain ⟨i, _, rfl⟩ := hx
    exact bt_bd s i
  have hl : (numB s s.size).length = s.size := by simp [numB]
  apply ext_bt
  · rw [strOfNums_size, hl]
  · intro i hi
    rw [strOfNums_size, hl] at hi
    rw [bt_nums _ _ hr (by omega)]
    simp [numB, hi]
theorem quo_run (s : ByteArray) (hs : s.size ≤ 200) : ∀ n k, k + n = s.size → quoL (strOfNums (quT s)) (strOfNums (quT s)).size (quN s k).length (numB s k) = ⟨3, strOfNums (quT s), 0, s, (strOfNums (quT s)).size, 0, 0⟩
  | 0, k, h => by
    have hk : k = s.size := by omega
    subst hk
    have hsz : (strOfNums (quT s)).size = (quN s s.size).length + 1 := by rw [strOfNums_size]; simp [quT]
    have hl : (numB s s.size).length = s.size := by simp [numB]
    rw [hsz, quoL_step, if_pos ⟨by omega, quT_end s⟩, if_neg (by omega), numB_all]
    rw [← hsz, ext_self]
  | n + 1, k, h => by
    have hk : k < s.size := by omega
    obtain ⟨h1, h2⟩ := one_q s k hk
    have ih := quo_run s hs n (k + 1) (by omega)
    have hp := quN_len s k
    have hp2 := quN_len s (k + 1)
    have hT := quT_len s k hk
    have hnext : (quN s (k + 1)).length = (quN s k).length + (qB (bt s k)).length := by simp [quN]
    have hsz : (strOfNums (quT s)).size = (quT s).length := strOfNums_size _
    obtain ⟨f, hf⟩ : ∃ f, (strOfNums (quT s)).size = f + 1 := ⟨(strOfNums (quT s)).size - 1, by omega⟩
    rw [← ih]
    conv => lhs; rw [hf]
    rw [quoL_step, if_neg (fun hh => h2 hh.2), h1, if_neg (by simp), ← numB_succ]
    simp only [Int.toNat_natCast]
    exact quoL_fuel _ _ _ _ _ (by omega) (by omega) (by omega)
/-- Scanning the text of a string gives that string. -/
theorem quote_scan (s : ByteArray) (hs : s.size ≤ 200) : scanS (strOfNums (quT s)) = .ok [(⟨3, strOfNums (quT s), 0, s, (strOfNums (quT s)).size, 0, 0⟩, 0)] := by
  have hl0 : 0 < (quT s).length := by unfold quT; simp
  have hsz : (strOfNums (quT s)).size = (quT s).length := strOfNums_size _
  have b0 : bt (strOfNums (quT s)) 0 = 34 := by
    rw [bt_nums _ _ (quT_rng s) hl0]
    obtain ⟨r, hr⟩ := quN_pre s 0 s.size
    rw [Nat.zero_add] at hr
    unfold quT
    rw [hr]
    rfl
  have hrun := quo_run s hs s.size 0 (by omega)
  have hq : quoS (strOfNums (quT s)) = some ⟨3, strOfNums (quT s), 0, s, (strOfNums (quT s)).size, 0, 0⟩ := by
    unfold quoS
    rw [if_neg (by rw [b0]; simp)]
    exact congrArg some hrun
  generalize strOfNums (quT s) = T at *
  have hsk : skp T 0 = 0 := skp_stop T 0 (by omega) (by omega)
  unfold scanS
  rw [hsk]
  refine chain_scan T _ 0 (Nat.zero_le _) ⟨rfl, by omega, ?_, rfl, ?_⟩
  · rw [ext_self]
    unfold findS
    have w1 : wordS T = none := by unfold wordS; rw [b0]; rfl
    have w2 : numS T = none := by unfold numS; rw [b0]; rfl
    have w3 : charS T = none := by unfold charS; rw [b0]; rfl
    rw [w1, w2, w3, hq]
  · show skp T (0 + T.size) = T.size
    rw [Nat.zero_add]
    exact skp_end T T.size (Nat.le_refl _)
end Go.Proofs.YtdhfkokinnmfhaaDoor
