/- Plain functions of layer 41: what parsing returns is valid and small. -/
import Derived.Test.YtiddchpkmcncdaaG4
import Derived.Test.YtiddchpkmcncdaaG2
namespace Go.Proofs.Ytiddchpkmcncdaa
open Go.RowKit
set_option linter.unusedSimpArgs false
set_option linter.unusedVariables false
def per8 (b : UInt8) : Bool := perI (n8 b)
/-- Whether a text may stand behind a list of pieces. -/
def lp (pv : Bool) (l : Wd) : Bool := match l.getLast? with | none => pv | some q => q.var
theorem lp_nil (pv : Bool) : lp pv [] = pv := rfl
theorem lp_snoc (pv : Bool) (l : Wd) (x : Pc) : lp pv (l ++ [x]) = x.var := by simp [lp]
theorem lp_cons (pv : Bool) (a : Pc) (l : Wd) : lp pv (a :: l) = lp a.var l := by
  cases l with
  | nil => rfl
  | cons b l => simp [lp, List.getLast?_cons]
theorem wchkP_snoc (n : Nat) : ∀ (l : Wd) (pv : Bool) (x : Pc), wchkP n pv l = 0 → wchkP n (lp pv l) [x] = 0 → wchkP n pv (l ++ [x]) = 0
  | [], pv, x, _, h => h
  | a :: l, pv, x, h, h2 => by
    rw [lp_cons] at h2
    rw [List.cons_append]
    rw [wchkP] at h ⊢
    split at h
    · rename_i hv
      split at h
      · rename_i hi
        rw [if_pos hv, if_pos hi]
        rw [hv] at h2
        exact wchkP_snoc n l true x h h2
      · cases h
    · rename_i hv
      rw [if_neg hv]
      split at h
      · cases h
      · rename_i hb
        rw [if_neg hb]
        split at h
        · cases h
        · rename_i hc
          rw [if_neg hc]
          have : a.var = false := by simpa using hv
          rw [this] at h2
          exact wchkP_snoc n l false x h h2
theorem badS_all (l : Bs) (h : l.all per8 = true) : badS l = l.length := badS_none l h
def InvP (M : Nat) (ps : Wd) : Prop := (∀ n, wchkP n true ps = 0) ∧ lp true ps = true ∧ ∀ p ∈ ps, p.text.length ≤ M
theorem invP_nil (M : Nat) : InvP M [] := ⟨fun _ => rfl, rfl, fun p h => by simp at h⟩
theorem lit_one (n : Nat) (tx : Bs) (h : tx.all per8 = true) (hne : tx ≠ []) : wchkP n true [lit tx] = 0 := by
  rw [wchkP, if_neg (by simp [lit])]
  rw [show (lit tx).text = tx from rfl, badS_all tx h, if_neg (by omega)]
  have : tx.isEmpty = false := by cases tx with | nil => exact absurd rfl hne | cons a l => rfl
  rw [this, if_neg (by simp [lit])]
  rfl
theorem InvP.flush {M : Nat} {ps : Wd} {tx : Bs} (h : InvP M ps) (ht : tx.all per8 = true) (hl : tx.length ≤ M) : (∀ n, wchkP n true (flS ps tx) = 0) ∧ ∀ p ∈ flS ps tx, p.text.length ≤ M := by
  unfold flS
  split
  · exact ⟨h.1, h.2.2⟩
  · rename_i hne
    have hne' : tx ≠ [] := fun e => by rw [e] at hne; simp at hne
    refine ⟨fun n => wchkP_snoc n ps true _ (h.1 n) (by rw [h.2.1]; exact lit_one n tx ht hne'), fun p hp => ?_⟩
    rcases List.mem_append.1 hp with hp | hp
    · exact h.2.2 p hp
    · simp at hp; subst hp; exact hl
theorem isVarS_len {t : Bs} (h : isVarS t = true) : t.length ≤ 16 := by
  unfold isVarS at h
  simp only [Bool.and_eq_true, decide_eq_true_eq] at h
  exact h.1.1.2
theorem InvP.var {M : Nat} {ps : Wd} {tx nm : Bs} {q : Bool} (h : InvP M ps) (ht : tx.all per8 = true) (hl : tx.length ≤ M) (hv : isVarS nm = true) (hM : 16 ≤ M) : InvP M (flS ps tx ++ [⟨nm, true, q⟩]) := by
  have h1 := h.flush ht hl
  refine ⟨fun n => wchkP_snoc n _ true _ (h1.1 n) (by rw [wchkP, if_pos rfl, if_pos hv]; rfl), lp_snoc _ _ _, fun p hp => ?_⟩
  rcases List.mem_append.1 hp with hp | hp
  · exact h1.2 p hp
  · simp at hp; subst hp
    have := isVarS_len hv
    show nm.length ≤ M
    omega
theorem fin_inv {M : Nat} {ps : Wd} {tx : Bs} (h : InvP M ps) (ht : tx.all per8 = true) (hl : tx.length ≤ M) : wchk (finS ps tx) = 0 ∧ ∀ p ∈ finS ps tx, p.text.length ≤ M := by
  have h1 := h.flush ht hl
  unfold finS
  split
  · exact ⟨rfl, fun p hp => by simp at hp; subst hp; simp [lit]⟩
  · rename_i hne
    refine ⟨?_, h1.2⟩
    unfold wchk
    rw [if_neg hne]
    exact h1.1 _
theorem all_tw {p q : UInt8 → Bool} {l : Bs} (h : l.all q = true) : (l.takeWhile p).all q = true := by
  rw [List.all_eq_true] at h ⊢
  intro x hx
  exact h x (List.takeWhile_prefix p |>.mem hx)
theorem all_app {q : UInt8 → Bool} {a b : Bs} (h : a.all q = true) (h2 : b.all q = true) : (a ++ b).all q = true := by rw [List.all_append, h, h2]; rfl
theorem hd_all {q : UInt8 → Bool} {l : Bs} (h : l.all q = true) (hne : ¬ l.isEmpty = true) : q (l.headD 0) = true := by
  cases l with
  | nil => exact absurd rfl hne
  | cons a l => simp at h; exact h.1
theorem quoS_inv (M : Nat) (hM : 16 ≤ M) : ∀ (l : Bs) (k p beg : Nat) (ps : Wd) (tx : Bs) (ps' : Wd) (tx' : Bs) (q : Nat), k ≤ l.length → l.all per8 = true → InvP M ps → tx.all per8 = true → tx.length + (l.length - k) ≤ M →
    quoS l k p beg ps tx = .ok (ps', tx', q) → InvP M ps' ∧ tx'.all per8 = true ∧ tx'.length + (p + l.length) ≤ M + q
  | [], k, p, beg, ps, tx, ps', tx', q, _, _, _, _, _, h => by unfold quoS at h; cases h
  | b :: l, k + 1, p, beg, ps, tx, ps', tx', q, hk, ha, hi, ht, hl, h => by
    have ha' : l.all per8 = true := by simp at ha; simpa using ha.2
    have := quoS_inv M hM l k (p + 1) beg ps tx ps' tx' q (by simpa using hk) ha' hi ht (by simp at hl; omega) h
    refine ⟨this.1, this.2.1, ?_⟩
    simp; omega
  | b :: l, 0, p, beg, ps, tx, ps', tx', q, hk, ha, hi, ht, hl, h => by
    have ha' : l.all per8 = true := by simp at ha; simpa using ha.2
    have hb : per8 b = true := by simp at ha; exact ha.1
    simp only [List.length_cons] at hl
    simp only [quoS] at h
    split at h
    · cases h
      exact ⟨hi, ht, by simp; omega⟩
    split at h
    · split at h
      · cases h
      · rename_i hne
        have h1 : 1 ≤ l.length := by cases l with | nil => exact absurd rfl hne | cons a l => simp
        have := quoS_inv M hM l 1 (p + 1) beg ps _ ps' tx' q h1 ha' hi (all_app ht (by rw [List.all_cons, hd_all ha' hne]; rfl)) (by simp; omega) h
        exact ⟨this.1, this.2.1, by simp; omega⟩
    split at h
    · split at h
      · rename_i hv
        have := quoS_inv M hM l _ (p + 1) beg _ [] ps' tx' q (tw_le _ _) ha' (hi.var ht (by omega) hv hM) rfl (by have := tw_le aln8 l; simp; omega) h
        exact ⟨this.1, this.2.1, by simp; omega⟩
      · cases h
    · have := quoS_inv M hM l 0 (p + 1) beg ps _ ps' tx' q (Nat.zero_le _) ha' hi (all_app ht (by simp [hb])) (by simp; omega) h
      exact ⟨this.1, this.2.1, by simp; omega⟩
theorem wordS_inv (M : Nat) (hM : 16 ≤ M) : ∀ (l : Bs) (k p : Nat) (ps : Wd) (tx : Bs) (ps' : Wd) (tx' : Bs) (q : Nat), k ≤ l.length → l.all per8 = true → InvP M ps → tx.all per8 = true → tx.length + (l.length - k) ≤ M →
    wordS l k p ps tx = .ok (ps', tx', q) → InvP M ps' ∧ tx'.all per8 = true ∧ tx'.length ≤ M
  | [], k, p, ps, tx, ps', tx', q, _, _, hi, ht, hl, h => by unfold wordS at h; cases h; exact ⟨hi, ht, by omega⟩
  | b :: l, k + 1, p, ps, tx, ps', tx', q, hk, ha, hi, ht, hl, h => by
    have ha' : l.all per8 = true := by simp at ha; simpa using ha.2
    exact wordS_inv M hM l k (p + 1) ps tx ps' tx' q (by simpa using hk) ha' hi ht (by simp at hl; omega) h
  | b :: l, 0, p, ps, tx, ps', tx', q, hk, ha, hi, ht, hl, h => by
    have ha' : l.all per8 = true := by simp at ha; simpa using ha.2
    have hb : per8 b = true := by simp at ha; exact ha.1
    simp only [List.length_cons] at hl
    simp only [wordS] at h
    split at h
    · cases h; exact ⟨hi, ht, by omega⟩
    split at h
    · split at h
      · rename_i hlt
        exact wordS_inv M hM l _ (p + 1) ps _ ps' tx' q (by omega) ha' hi (all_app ht (all_tw ha')) (by simp; omega) h
      · cases h
    split at h
    · split at h
      · rename_i ps1 tx1 q1 hq
        have h1 := quoS_inv M hM l 0 (p + 1) p ps tx ps1 tx1 q1 (Nat.zero_le _) ha' hi ht (by omega) hq
        have h2 := quoS_pos l 0 (p + 1) p ps tx ps1 tx1 q1 hq
        exact wordS_inv M hM l _ (p + 1) ps1 tx1 ps' tx' q (by omega) ha' h1.1 h1.2.1 (by omega) h
      · cases h
    split at h
    · split at h
      · cases h
      · rename_i hne
        have h1 : 1 ≤ l.length := by cases l with | nil => exact absurd rfl hne | cons a l => simp
        exact wordS_inv M hM l 1 (p + 1) ps _ ps' tx' q h1 ha' hi (all_app ht (by rw [List.all_cons, hd_all ha' hne]; rfl)) (by simp; omega) h
    split at h
    · split at h
      · rename_i hv
        exact wordS_inv M hM l _ (p + 1) _ [] ps' tx' q (tw_le _ _) ha' (hi.var ht (by omega) hv hM) rfl (by have := tw_le aln8 l; simp; omega) h
      · cases h
    · exact wordS_inv M hM l 0 (p + 1) ps _ ps' tx' q (Nat.zero_le _) ha' hi (all_app ht (by simp [hb])) (by simp; omega) h
/-- A valid and small word. -/
def VW (ps : Wd) : Prop := wchk ps = 0 ∧ TxW ps
def TkV (t : Tk) : Prop := (t.op ≠ [] → t.word = [] ∧ t.name = []) ∧ (t.op = [] → VW t.word) ∧ (t.name ≠ [] → isVarS t.name = true ∧ VW (valS t))
theorem word_v (l : Bs) (p : Nat) (ps : Wd) (tx : Bs) (q : Nat) (hl : l.length ≤ 1024) (ha : l.all per8 = true) (h : wordS l 0 p [] [] = .ok (ps, tx, q)) : VW (finS ps tx) := by
  have h1 := wordS_inv 1024 (by omega) l 0 p [] [] ps tx q (Nat.zero_le _) ha (invP_nil _) rfl (by simpa using hl) h
  have h2 := fin_inv h1.1 h1.2.1 h1.2.2
  have h3 := wordS_len l 0 p [] [] ps tx q (Nat.zero_le _) h
  have h4 := wordS_pos l 0 p [] [] ps tx q h
  have h5 := finS_len ps tx
  refine ⟨h2.1, ?_, fun p hp => by have := h2.2 p hp; omega⟩
  simp at h3
  omega
theorem toks_v : ∀ (l : Bs) (k p : Nat) (ts : List Tk), l.length ≤ 1024 → l.all per8 = true → toksS l k p = .ok ts → ∀ t ∈ ts, TkV t
  | [], k, p, ts, _, _, h => by unfold toksS at h; cases h; intro t ht; simp at ht
  | b :: l, k + 1, p, ts, hl, ha, h => by
    have ha' : l.all per8 = true := by simp at ha; simpa using ha.2
    exact toks_v l k (p + 1) ts (by simp at hl; omega) ha' h
  | b :: l, 0, p, ts, hl, ha, h => by
    have ha' : l.all per8 = true := by simp at ha; simpa using ha.2
    have hl' : l.length ≤ 1024 := by simp at hl; omega
    simp only [toksS] at h
    split at h
    · exact toks_v l 0 (p + 1) ts hl' ha' h
    split at h
    · rename_i ho
      obtain ⟨ts', h', rfl⟩ := cons_ok h
      intro t ht
      rcases List.mem_cons.1 ht with rfl | ht
      · exact ⟨fun _ => ⟨rfl, rfl⟩, fun e => by simp at e; rw [e] at ho; simp at ho, fun e => absurd rfl e⟩
      · exact toks_v l _ (p + 1) ts' hl' ha' h' t ht
    · split at h
      · rename_i ps tx q hw
        obtain ⟨ts', h', rfl⟩ := cons_ok h
        intro t ht
        rcases List.mem_cons.1 ht with rfl | ht
        · refine ⟨fun e => absurd rfl e, fun _ => word_v (b :: l) p ps tx q hl ha hw, fun hn => ?_⟩
          obtain ⟨ps1, tx1, h1, h2⟩ := tok_val (b :: l) p ps tx q hw hn
          obtain ⟨_, _, hv, _⟩ := asgS_form (b :: l) hn
          refine ⟨hv, ?_⟩
          rw [h2]
          refine word_v _ _ ps1 tx1 q (by rw [List.length_drop]; omega) ?_ h1
          rw [List.all_eq_true] at ha ⊢
          exact fun x hx => ha x (List.mem_of_mem_drop hx)
        · exact toks_v l _ (p + 1) ts' hl' ha' h' t ht
      · cases h
end Go.Proofs.Ytiddchpkmcncdaa
/- Plain functions of layer 41: what parsing returns is valid. -/
namespace Go.Proofs.Ytiddchpkmcncdaa
open Go.RowKit
set_option linter.unusedSimpArgs false
set_option linter.unusedVariables false
theorem badS_full : ∀ (l : Bs), ¬ badS l < l.length → l.all per8 = true
  | [], _ => rfl
  | b :: l, h => by
    unfold badS at h
    by_cases hb : perI (n8 b) = true
    · rw [List.takeWhile_cons_of_pos (p := fun b => perI (n8 b)) hb] at h
      have := badS_full l (by unfold badS; simpa using h)
      rw [List.all_cons, this]
      simpa [per8] using hb
    · rw [List.takeWhile_cons_of_neg (p := fun b => perI (n8 b)) hb] at h
      simp at h
theorem VW.ne {ps : Wd} (h : VW ps) : ps ≠ [] := by
  intro e
  have := h.1
  rw [e] at this
  cases this
theorem VW.nil {w : Wd} (h : w = [] ∨ VW w) : ochk w = 0 ∧ TxW w := by
  rcases h with rfl | h
  · exact ⟨rfl, by simp, fun p h => by simp at h⟩
  · refine ⟨?_, h.2⟩
    unfold ochk
    split
    · rfl
    · exact h.1
def AccV (c : Sm) : Prop := (∀ a ∈ c.asg, isVarS a.name = true ∧ VW a.value) ∧ (∀ x ∈ c.words, VW x) ∧ c.asg.length ≤ 32 ∧ c.words.length ≤ 32 ∧ (c.inn = [] ∨ VW c.inn) ∧ (c.out = [] ∨ VW c.out) ∧ (c.app = true → c.out ≠ [])
theorem frst_all {α : Type} {f : α → Int} : ∀ {l : List α}, (∀ x ∈ l, f x = 0) → frst (l.map f) = 0
  | [], _ => rfl
  | a :: l, h => by
    rw [List.map_cons, frst, if_pos (h a (by simp))]
    exact frst_all (fun x hx => h x (by simp [hx]))
theorem AccV.ok {c : Sm} (h : AccV c) (hn : smNone c = false) : schk c = 0 ∧ SmIn c := by
  obtain ⟨h1, h2, h3, h4, h5, h6, h7⟩ := h
  refine ⟨?_, by omega, by omega, fun a ha => ⟨by have := isVarS_len (h1 a ha).1; omega, (h1 a ha).2.2⟩, fun x hx => (h2 x hx).2, (VW.nil h5).2, (VW.nil h6).2⟩
  rw [schk_7 (by rw [hn]; simp) (by omega) (frst_all (fun a ha => by unfold achk; rw [if_pos (h1 a ha).1]; exact (h1 a ha).2.1)) (frst_all (fun x hx => (h2 x hx).1)) (VW.nil h5).1 (VW.nil h6).1]
  cases ha : c.app with
  | false => rfl
  | true =>
    have := h7 ha
    cases ho : c.out with
    | nil => exact absurd ho this
    | cons a l => rfl
theorem accV_nil : AccV smE := ⟨fun a h => by simp [smE] at h, fun a h => by simp [smE] at h, by simp [smE], by simp [smE], .inl rfl, .inl rfl, fun h => by simp [smE] at h⟩
theorem hd_word {en : Nat} {ts : List Tk} (hv : ∀ t ∈ ts, TkV t) (h : ¬ (hdT en ts).word.isEmpty = true) : VW (hdT en ts).word := by
  cases ts with
  | nil => exact absurd rfl h
  | cons u r =>
    have hu := hv u (by simp)
    show VW u.word
    by_cases ho : u.op = []
    · exact hu.2.1 ho
    · have := (hu.1 ho).1
      exact absurd (by show u.word.isEmpty = true; rw [this]; rfl) h
theorem simS_v (en : Nat) : ∀ (n : Nat) (ts : List Tk) (c c' : Sm) (ts' : List Tk), ts.length ≤ n → (∀ t ∈ ts, TkV t) → AccV c → simS en ts c = .ok (c', ts') → AccV c' ∧ smNone c' = false
  | 0, ts, c, c', ts', hn, hv, ha, h => by
    obtain rfl : ts = [] := List.length_eq_zero_iff.1 (by omega)
    rw [simS_nil] at h
    split at h
    · cases h
    · rename_i hs; cases h; exact ⟨ha, by simpa using hs⟩
  | n + 1, [], c, c', ts', hn, hv, ha, h => by
    rw [simS_nil] at h
    split at h
    · cases h
    · rename_i hs; cases h; exact ⟨ha, by simpa using hs⟩
  | n + 1, t :: ts, c, c', ts', hn, hv, ha, h => by
    have hn' : ts.length ≤ n := by simpa using hn
    have hv' : ∀ x ∈ ts, TkV x := fun x hx => hv x (by simp [hx])
    have ht := hv t (by simp)
    obtain ⟨a1, a2, a3, a4, a5, a6, a7⟩ := ha
    cases hr : redS t.op with
    | true =>
      rw [simS_red en t ts c hr] at h
      split at h
      · cases h
      split at h
      · cases h
      rename_i hw
      have hu := hd_word (en := en) hv' hw
      refine simS_v en n ts.tail _ c' ts' (by simp; omega) (fun x hx => hv' x (List.mem_of_mem_tail hx)) ?_ h
      unfold redC
      split
      · exact ⟨a1, a2, a3, a4, .inr hu, a6, a7⟩
      · exact ⟨a1, a2, a3, a4, a5, .inr hu, fun _ => hu.ne⟩
    | false =>
      cases hw : t.word.isEmpty with
      | true =>
        rw [simS_stop en t ts c hr hw] at h
        split at h
        · cases h
        · rename_i hs; cases h; exact ⟨⟨a1, a2, a3, a4, a5, a6, a7⟩, by simpa using hs⟩
      | false =>
        rw [simS_word en t ts c hr hw] at h
        split at h
        · rename_i hc
          split at h
          · cases h
          · rename_i h32
            have hnm : t.name ≠ [] := fun e => by rw [e] at hc; simp at hc
            have hx := ht.2.2 hnm
            refine simS_v en n ts _ c' ts' hn' hv' ?_ h
            refine ⟨?_, a2, ?_, a4, a5, a6, a7⟩
            · intro a ha
              rcases List.mem_append.1 ha with ha | ha
              · exact a1 a ha
              · simp at ha; subst ha; exact hx
            · simp; omega
        · split at h
          · cases h
          · rename_i h32
            have ho : t.op = [] := by
              by_cases ho : t.op = []
              · exact ho
              · have := (ht.1 ho).1
                rw [this] at hw; cases hw
            refine simS_v en n ts _ c' ts' hn' hv' ?_ h
            refine ⟨a1, ?_, a3, ?_, a5, a6, a7⟩
            · intro x hx
              rcases List.mem_append.1 hx with hx | hx
              · exact a2 x hx
              · simp at hx; subst hx; exact ht.2.1 ho
            · simp; omega
def StV (c : Sm) : Prop := schk c = 0 ∧ SmIn c
theorem pipS_v (en : Nat) : ∀ (n : Nat) (ts : List Tk) (a q : List Sm) (ts' : List Tk), (∀ t ∈ ts, TkV t) → (∀ c ∈ a, StV c) → a.length + n = 8 → pipS en n ts a = .ok (q, ts') → (∀ c ∈ q, StV c) ∧ 0 < q.length ∧ q.length ≤ 8 ∧ ∀ t ∈ ts', TkV t
  | 0, ts, a, q, ts', hv, ha, hn, h => by unfold pipS at h; cases h
  | n + 1, ts, a, q, ts', hv, ha, hn, h => by
    cases hs : simS en ts smE with
    | err p e => rw [pip_bad en n ts a p e hs] at h; cases h
    | ok x =>
      obtain ⟨c, ts2⟩ := x
      have h1 := simS_v en ts.length ts smE c ts2 (Nat.le_refl _) hv accV_nil hs
      have h2 := h1.1.ok h1.2
      have h3 := (simS_less en ts c ts2 hs).1
      have hv2 : ∀ t ∈ ts2, TkV t := fun t ht => hv t (h3.mem ht)
      have ha2 : ∀ d ∈ a ++ [c], StV d := fun d hd => by
        rcases List.mem_append.1 hd with hd | hd
        · exact ha d hd
        · simp at hd; subst hd; exact h2
      by_cases hu : (hdT en ts2).op = [124]
      · obtain ⟨t, r, rfl, ht⟩ := hd_bar en ts2 [124] (by simp) hu
        cases n with
        | zero => rw [pip_full en ts a c t r hs ht] at h; cases h
        | succ m =>
          rw [pip_more en (m + 1) ts a c t r hs ht (by omega)] at h
          exact pipS_v en (m + 1) r _ q ts' (fun x hx => hv2 x (by simp [hx])) ha2 (by simp; omega) h
      · rw [pip_end en n ts a c ts2 hs hu] at h
        cases h
        exact ⟨ha2, by simp, by simp; omega, hv2⟩
def PlV (q : Pl) : Prop := 0 ≤ q.wh ∧ q.wh ≤ 2 ∧ 0 < q.stages.length ∧ q.stages.length ≤ 8 ∧ ∀ c ∈ q.stages, StV c
theorem linS_v (en : Nat) : ∀ (n : Nat) (ts : List Tk) (wh : Int) (a : List Pl) (l : Ln), (∀ t ∈ ts, TkV t) → (∀ q ∈ a, PlV q) → (∀ q, a.head? = some q → q.wh = 0) → (a = [] → wh = 0) → 0 ≤ wh ∧ wh ≤ 2 → a.length + n = 16 → linS en n ts wh a = .ok l →
    (∀ q ∈ l.parts, PlV q) ∧ (∀ q, l.parts.head? = some q → q.wh = 0) ∧ 0 < l.parts.length ∧ l.parts.length ≤ 16
  | 0, ts, wh, a, l, hv, ha, hf, hw, hwh, hn, h => by unfold linS at h; cases h
  | n + 1, ts, wh, a, l, hv, ha, hf, hw, hwh, hn, h => by
    cases hp : pipS en 8 ts [] with
    | err p e => rw [lin_bad en n ts wh a p e hp] at h; cases h
    | ok x =>
      obtain ⟨q, ts2⟩ := x
      have h1 := pipS_v en 8 ts [] q ts2 hv (fun c hc => by simp at hc) rfl hp
      have ha2 : ∀ d ∈ a ++ [⟨wh, q⟩], PlV d := fun d hd => by
        rcases List.mem_append.1 hd with hd | hd
        · exact ha d hd
        · simp at hd; subst hd; exact ⟨hwh.1, hwh.2, h1.2.1, h1.2.2.1, h1.1⟩
      have hf2 : ∀ d, (a ++ [(⟨wh, q⟩ : Pl)]).head? = some d → d.wh = 0 := fun d hd => by
        cases a with
        | nil => simp at hd; subst hd; exact hw rfl
        | cons x a => simp at hd; subst hd; exact hf x rfl
      have hfin : ∀ b, (∀ d ∈ (⟨a ++ [⟨wh, q⟩], b⟩ : Ln).parts, PlV d) ∧ (∀ d, (⟨a ++ [⟨wh, q⟩], b⟩ : Ln).parts.head? = some d → d.wh = 0) ∧ 0 < (⟨a ++ [⟨wh, q⟩], b⟩ : Ln).parts.length ∧ (⟨a ++ [⟨wh, q⟩], b⟩ : Ln).parts.length ≤ 16 :=
        fun b => ⟨ha2, hf2, by simp, by simp; omega⟩
      have hsep : ∀ (t : Tk) (r : List Tk), ts2 = t :: r → isSep t.op → (∀ d ∈ l.parts, PlV d) ∧ (∀ d, l.parts.head? = some d → d.wh = 0) ∧ 0 < l.parts.length ∧ l.parts.length ≤ 16 := by
        rintro t r rfl hs
        cases n with
        | zero => rw [lin_full en ts wh a q t r hp hs] at h; cases h
        | succ m =>
          rw [lin_more en (m + 1) ts wh a q t r hp hs (by omega)] at h
          refine linS_v en (m + 1) r _ _ l (fun x hx => h1.2.2.2 x (by simp [hx])) ha2 hf2 (fun e => by simp at e) ?_ (by simp; omega) h
          rcases hs with e | e | e <;> rw [e] <;> simp [whOf]
      by_cases o1 : (hdT en ts2).op = [59]
      · obtain ⟨t, r, e, ht⟩ := hd_bar en ts2 [59] (by simp) o1
        exact hsep t r e (.inl ht)
      by_cases o2 : (hdT en ts2).op = [38, 38]
      · obtain ⟨t, r, e, ht⟩ := hd_bar en ts2 [38, 38] (by simp) o2
        exact hsep t r e (.inr (.inl ht))
      by_cases o3 : (hdT en ts2).op = [124, 124]
      · obtain ⟨t, r, e, ht⟩ := hd_bar en ts2 [124, 124] (by simp) o3
        exact hsep t r e (.inr (.inr ht))
      by_cases o4 : (hdT en ts2).op = [38]
      · obtain ⟨t, r, rfl, ht⟩ := hd_bar en ts2 [38] (by simp) o4
        cases r with
        | nil => rw [lin_bg en n ts wh a q t hp ht] at h; cases h; exact hfin true
        | cons u r => rw [lin_bgno en n ts wh a q t u r hp ht] at h; cases h
      · rw [lin_end en n ts wh a q ts2 hp o1 o2 o3 o4] at h
        cases h; exact hfin false
theorem pchks_all : ∀ (L : List Pl) (f : Bool), (∀ q ∈ L, PlV q) → (f = true → ∀ q, L.head? = some q → q.wh = 0) → pchks f L = 0
  | [], _, _, _ => rfl
  | q :: r, f, h, hf => by
    have hq := h q (by simp)
    have h0 : pchk f q = 0 := by
      rw [pchk_4 (by
        rintro (h1 | h1 | h1)
        · have := hq.1; omega
        · have := hq.2.1; omega
        · exact h1.2 (hf h1.1 q rfl)) (by have := hq.2.2.1; omega) (by have := hq.2.2.2.1; omega)]
      exact frst_all (fun c hc => (hq.2.2.2.2 c hc).1)
    rw [pchks, if_pos h0]
    exact pchks_all r false (fun x hx => h x (by simp [hx])) (fun e => by cases e)
/-- What parsing returns is valid and small. -/
theorem par_v (L : Bs) (l : Ln) (h : parS L = .ok l) : lchk l = 0 ∧ LnIn l := by
  unfold parS at h
  split at h
  · cases h
  rename_i h1
  split at h
  · cases h
  rename_i h2
  have hall : L.all per8 = true := badS_full L h2
  split at h
  · cases h
  · cases h; exact ⟨rfl, by simp, fun q hq => by simp at hq⟩
  · rename_i t ts ht
    have hv := toks_v L 0 0 (t :: ts) (by omega) hall ht
    have h3 := linS_v L.length 16 (t :: ts) 0 [] l hv (fun q hq => by simp at hq) (fun q hq => by simp at hq) (fun _ => rfl) (by omega) rfl h
    refine ⟨?_, by have := h3.2.2.2; omega, fun q hq => ⟨by have := (h3.1 q hq).2.2.2.1; omega, fun c hc => ((h3.1 q hq).2.2.2.2 c hc).2⟩⟩
    rw [lchk_3 (by rintro ⟨_, h⟩; omega) (by omega)]
    exact pchks_all _ _ h3.1 (fun _ q hq => h3.2.1 q hq)
end Go.Proofs.Ytiddchpkmcncdaa
/- Plain functions of layer 41: scanning what was printed. -/
namespace Go.Proofs.Ytiddchpkmcncdaa
open Go.RowKit
set_option linter.unusedSimpArgs false
set_option linter.unusedVariables false
/-- Where a word ends. -/
def Stop (X : Bs) : Prop := X = [] ∨ ∃ b l, X = b :: l ∧ (blkI (n8 b) = true ∨ b = 59)
theorem Stop.word {X : Bs} (h : Stop X) (p : Nat) (ps : Wd) (tx : Bs) : wordS X 0 p ps tx = .ok (ps, tx, p) := by
  rcases h with rfl | ⟨b, l, rfl, h⟩
  · unfold wordS; rfl
  · simp only [wordS]
    rw [if_pos]
    rcases h with h | rfl
    · rw [h]; rfl
    · rfl
/-- Behind a name. -/
def NonA (X : Bs) : Prop := X = [] ∨ ∃ b l, X = b :: l ∧ aln8 b = false ∧ neq8 b = true
theorem Stop.nonA {X : Bs} (h : Stop X) : NonA X := by
  rcases h with rfl | ⟨b, l, rfl, h⟩
  · exact .inl rfl
  · refine .inr ⟨b, l, rfl, ?_⟩
    rcases h with h | rfl
    · unfold blkI at h
      unfold aln8 alnI ltrI digI neq8
      simp at h ⊢
      omega
    · decide
theorem NonA.tw {c X : Bs} (h : NonA X) (hc : c.all aln8 = true) : (c ++ X).takeWhile aln8 = c := by
  induction c with
  | nil =>
    rcases h with rfl | ⟨b, l, rfl, h, _⟩
    · rfl
    · rw [List.nil_append, List.takeWhile_cons_of_neg (by rw [h]; decide)]
  | cons b c ih =>
    simp only [List.all_cons, Bool.and_eq_true] at hc
    rw [List.cons_append, List.takeWhile_cons_of_pos hc.1, ih hc.2]
theorem isVar_aln {t : Bs} (h : isVarS t = true) : t.all aln8 = true := by
  unfold isVarS at h
  simp only [Bool.and_eq_true] at h
  exact h.2
theorem txt_head (w : Wd) (X : Bs) (hX : Stop X) : NonA (txtS true w ++ X) := by
  cases w with
  | nil => exact hX.nonA
  | cons p r =>
    rw [txtS]
    refine .inr ?_
    unfold pcS
    split
    · exact ⟨34, _, rfl, by decide, by decide⟩
    split
    · exact ⟨36, _, rfl, by decide, by decide⟩
    · rw [if_neg (by simp)]
      exact ⟨34, _, rfl, by decide, by decide⟩
theorem word_q34 (l : Bs) (p : Nat) (ps : Wd) (tx : Bs) : wordS (34 :: l) 0 p ps tx = (match quoS l 0 (p + 1) p ps tx with
      | .ok (ps', tx', q) => wordS l (q - (p + 1)) (p + 1) ps' tx'
      | .err q e => .err q e) := by
  simp only [wordS]
  rw [if_neg (by rw [show blkI (n8 34) = false from rfl, opAt_nine 34 l (by decide) (by decide) (by decide) (by decide) (by decide)]; decide), if_neg (by decide), if_pos (by decide)]
  generalize quoS l 0 (p + 1) p ps tx = r
  cases r <;> rfl
/-- A quoted text within a word. -/
theorem word_quote (t X : Bs) (p : Nat) (ps : Wd) (tx : Bs) : wordS (quoteS t ++ X) 0 p ps tx = wordS X 0 (p + (quoteS t).length) ps (tx ++ t) := by
  have e : quoteS t ++ X = 34 :: (t.flatMap escS ++ 34 :: X) := by unfold quoteS; simp
  rw [e, word_q34, quoS_esc]
  simp only
  rw [wordS_skip _ _ _ _ _ (by simp; omega)]
  have e1 : p + 1 + (t.flatMap escS).length + 1 - (p + 1) = (t.flatMap escS ++ [34]).length := by simp; omega
  rw [e1, show t.flatMap escS ++ 34 :: X = (t.flatMap escS ++ [34]) ++ X by simp, List.drop_left]
  unfold quoteS
  congr 1
  simp; omega
/-- A quoted variable within a word. -/
theorem word_qvar (nm X : Bs) (p : Nat) (ps : Wd) (tx : Bs) (h : isVarS nm = true) : wordS ([34, 36] ++ nm ++ [34] ++ X) 0 p ps tx = wordS X 0 (p + ([34, 36] ++ nm ++ [34] : Bs).length) (flS ps tx ++ [⟨nm, true, true⟩]) [] := by
  have e : [34, 36] ++ nm ++ [34] ++ X = 34 :: 36 :: (nm ++ 34 :: X) := by simp
  have htw : (nm ++ 34 :: X).takeWhile aln8 = nm := NonA.tw (.inr ⟨34, X, rfl, by decide, by decide⟩) (isVar_aln h)
  have hq : quoS (36 :: (nm ++ 34 :: X)) 0 (p + 1) p ps tx = .ok (flS ps tx ++ [⟨nm, true, true⟩], [], p + 1 + 1 + nm.length + 1) := by
    simp only [quoS]
    rw [if_neg (by decide), if_neg (by decide), if_pos (by decide), htw, if_pos h, quoS_skip _ _ _ _ _ _ (by simp), List.drop_left]
    simp only [quoS]
    rw [if_pos (by decide)]
  rw [e, word_q34, hq]
  simp only
  rw [wordS_skip _ _ _ _ _ (by simp; omega)]
  have e1 : p + 1 + 1 + nm.length + 1 - (p + 1) = (36 :: nm ++ [34]).length := by simp; omega
  rw [e1, show 36 :: (nm ++ 34 :: X) = (36 :: nm ++ [34]) ++ X by simp, List.drop_left]
  congr 1
  simp; omega
theorem word_var (nm X : Bs) (p : Nat) (ps : Wd) (tx : Bs) (h : isVarS nm = true) (hX : NonA X) : wordS ([36] ++ nm ++ X) 0 p ps tx = wordS X 0 (p + ([36] ++ nm : Bs).length) (flS ps tx ++ [⟨nm, true, false⟩]) [] := by
  have htw : (nm ++ X).takeWhile aln8 = nm := hX.tw (isVar_aln h)
  rw [show [36] ++ nm ++ X = 36 :: (nm ++ X) by simp]
  simp only [wordS]
  rw [if_neg (by rw [show blkI (n8 36) = false from rfl, opAt_nine 36 _ (by decide) (by decide) (by decide) (by decide) (by decide)]; decide), if_neg (by decide), if_neg (by decide), if_neg (by decide), if_pos (by decide), htw, if_pos h, wordS_skip _ _ _ _ _ (by simp), List.drop_left]
  congr 1
  simp; omega
theorem lit_of {p : Pc} (h1 : p.var = false) (h2 : p.quo = false) : p = lit p.text := by
  cases p
  simp at h1 h2
  subst h1 h2
  rfl
theorem flS_lit (ps : Wd) (t : Bs) (h : t ≠ []) : flS ps t = ps ++ [lit t] := by
  unfold flS
  rw [if_neg (by cases t with | nil => exact absurd rfl h | cons a l => simp)]
/-- Scanning what was written for a list of pieces. -/
theorem word_txt (n : Nat) : ∀ (r : Wd) (pv a : Bool) (ps : Wd) (tx : Bs) (p : Nat) (X : Bs), wchkP n pv r = 0 → (∀ x ∈ r, x.var = false → x.text ≠ []) → (pv = true → tx = []) → (a = true → pv = true) → Stop X →
    ∃ ps' tx', wordS (txtS a r ++ X) 0 p ps tx = .ok (ps', tx', p + (txtS a r).length) ∧ flS ps' tx' = flS ps tx ++ r
  | [], pv, a, ps, tx, p, X, _, _, _, _, hX => ⟨ps, tx, by simp only [txtS, List.nil_append]; rw [hX.word]; rfl, by simp⟩
  | x :: r, pv, a, ps, tx, p, X, hw, hn, hpv, ha, hX => by
    rw [wchkP] at hw
    cases hv : x.var with
    | true =>
      rw [if_pos hv] at hw
      split at hw
      · rename_i hi
        cases hq : x.quo with
        | true =>
          have ep : pcS a x = [34, 36] ++ x.text ++ [34] := by unfold pcS; rw [hv, hq]; rfl
          obtain ⟨ps', tx', h1, h2⟩ := word_txt n r true false (flS ps tx ++ [x]) [] (p + ([34, 36] ++ x.text ++ [34] : Bs).length) X hw (fun y hy => hn y (by simp [hy])) (fun _ => rfl) (fun e => by cases e) hX
          have ex : x = ⟨x.text, true, true⟩ := by cases x; simp at hv hq; subst hv hq; rfl
          refine ⟨ps', tx', ?_, by rw [h2]; simp [flS]⟩
          rw [txtS, ep, show aftS x = false by unfold aftS; rw [hv, hq]; rfl, List.append_assoc _ (txtS false r) X, word_qvar _ _ _ _ _ hi, ← ex, h1]
          simp only [List.length_append, Nat.add_assoc]
        | false =>
          have ep : pcS a x = [36] ++ x.text := by unfold pcS; rw [hv, hq]; rfl
          obtain ⟨ps', tx', h1, h2⟩ := word_txt n r true true (flS ps tx ++ [x]) [] (p + ([36] ++ x.text : Bs).length) X hw (fun y hy => hn y (by simp [hy])) (fun _ => rfl) (fun _ => rfl) hX
          have ex : x = ⟨x.text, true, false⟩ := by cases x; simp at hv hq; subst hv hq; rfl
          refine ⟨ps', tx', ?_, by rw [h2]; simp [flS]⟩
          rw [txtS, ep, show aftS x = true by unfold aftS; rw [hv, hq]; rfl, List.append_assoc _ (txtS true r) X, word_var _ _ _ _ _ hi (txt_head r X hX), ← ex, h1]
          simp only [List.length_append, Nat.add_assoc]
      · cases hw
    | false =>
      rw [if_neg (by rw [hv]; decide)] at hw
      split at hw
      · cases hw
      split at hw
      · cases hw
      · rename_i hc
        simp only [Bool.or_eq_true, not_or, Bool.not_eq_true'] at hc
        have hq : x.quo = false := by simpa using hc.1.1
        have hpt : pv = true := by simpa using hc.2
        have ht := hpv hpt
        subst ht
        have hne := hn x (by simp) hv
        have ex := lit_of hv hq
        have ea : aftS x = false := by unfold aftS; rw [hv]; rfl
        obtain ⟨ps', tx', h1, h2⟩ := word_txt n r false false ps x.text (p + (pcS a x).length) X hw (fun y hy => hn y (by simp [hy])) (fun e => by cases e) (fun e => by cases e) hX
        refine ⟨ps', tx', ?_, ?_⟩
        · rw [txtS, ea, List.append_assoc]
          have step : wordS (pcS a x ++ (txtS false r ++ X)) 0 p ps [] = wordS (txtS false r ++ X) 0 (p + (pcS a x).length) ps x.text := by
            unfold pcS
            rw [hv, if_neg (by simp), if_neg (by simp)]
            split
            · rename_i hpl
              simp only [Bool.and_eq_true] at hpl
              have := hpl.1
              unfold isPlnS at this
              simp only [Bool.and_eq_true] at this
              rw [wordS_ords _ _ _ _ _ (all_imp _ _ (fun b hb => (pln_ord b hb).1) _ this.2), List.nil_append]
            · rw [word_quote, List.nil_append]
          rw [step, h1]
          simp only [List.length_append, Nat.add_assoc]
        · rw [h2, flS_lit ps x.text hne]
          rw [show flS ps [] = ps from rfl]
          simp [← ex]
theorem wchk_lits {w : Wd} (h : wchk w = 0) (h1 : w ≠ [lit []]) : wchkP w.length true w = 0 ∧ ∀ x ∈ w, x.var = false → x.text ≠ [] := by
  unfold wchk at h
  split at h
  · cases h
  rename_i hne
  refine ⟨h, ?_⟩
  have key : ∀ (n : Nat) (r : Wd) (pv : Bool), 1 < n → wchkP n pv r = 0 → ∀ x ∈ r, x.var = false → x.text ≠ [] := by
    intro n r
    induction r with
    | nil => intro pv _ _ x hx; simp at hx
    | cons y r ih =>
      intro pv hn hw x hx hv e
      rw [wchkP] at hw
      rcases List.mem_cons.1 hx with rfl | hx
      · rw [if_neg (by rw [hv]; decide)] at hw
        split at hw
        · cases hw
        split at hw
        · cases hw
        · rename_i hc
          rw [e] at hc
          simp at hc
          omega
      · split at hw
        · split at hw
          · exact ih true hn hw x hx hv e
          · cases hw
        · split at hw
          · cases hw
          split at hw
          · cases hw
          · exact ih false hn hw x hx hv e
  match w, hne with
  | [x], _ =>
    intro y hy hv e
    simp at hy
    subst hy
    rw [wchkP, if_neg (by rw [hv]; decide)] at h
    split at h
    · cases h
    split at h
    · cases h
    · rename_i hc
      simp only [Bool.or_eq_true, not_or] at hc
      have hq : y.quo = false := by simpa using hc.1.1
      apply h1
      rw [lit_of hv hq, e]
  | x :: y :: r, _ => exact key _ _ _ (by simp) h
theorem word_ok (w : Wd) (p : Nat) (X : Bs) (h : wchk w = 0) (hX : Stop X) : ∃ ps tx, wordS (txtS false w ++ X) 0 p [] [] = .ok (ps, tx, p + (txtS false w).length) ∧ finS ps tx = w := by
  by_cases h1 : w = [lit []]
  · subst h1
    refine ⟨[], [], ?_, rfl⟩
    have e : txtS false [lit []] = quoteS [] := rfl
    rw [e, word_quote, List.nil_append, hX.word]
  · obtain ⟨h2, h3⟩ := wchk_lits h h1
    obtain ⟨ps, tx, h4, h5⟩ := word_txt w.length w true false [] [] p X h2 h3 (fun _ => rfl) (fun e => by cases e) hX
    refine ⟨ps, tx, h4, ?_⟩
    have e : flS [] [] ++ w = w := rfl
    rw [e] at h5
    unfold finS
    rw [h5, if_neg (by cases w with | nil => unfold wchk at h; simp at h | cons a l => simp)]
theorem asgS_non {t X : Bs} (h : t.all neq8 = true) (hX : NonA X) : asgS (t ++ X) = [] := by
  rcases hX with rfl | ⟨b, l, rfl, h1, h2⟩
  · rw [List.append_nil]; exact asgS_none t h
  · have htw : (t ++ b :: l).takeWhile neq8 = t ++ b :: l.takeWhile neq8 := by
      induction t with
      | nil => rw [List.nil_append, List.takeWhile_cons_of_pos h2]; rfl
      | cons c t ih =>
        simp only [List.all_cons, Bool.and_eq_true] at h
        rw [List.cons_append, List.takeWhile_cons_of_pos h.1, ih h.2]; rfl
    unfold asgS
    rw [if_neg]
    rintro ⟨_, hv⟩
    rw [htw] at hv
    have := isVar_aln hv
    simp [h1] at this
/-- The beginning of a word as it is written. -/
theorem head_var {n : Nat} {r : Wd} (h : wchkP n false r = 0) : r = [] ∨ ∃ y r', r = y :: r' ∧ y.var = true := by
  cases r with
  | nil => exact .inl rfl
  | cons y r =>
    refine .inr ⟨y, r, rfl, ?_⟩
    cases hv : y.var with
    | true => rfl
    | false =>
      rw [wchkP, if_neg (by rw [hv]; decide)] at h
      split at h
      · cases h
      · simp at h
theorem txt_form (w : Wd) (X : Bs) (h0 : wchk w = 0) (hX : Stop X) : (∃ t Y, txtS false w ++ X = t ++ Y ∧ t.all neq8 = true ∧ NonA Y) ∧ ∃ b l, txtS false w ++ X = b :: l ∧ blkI (n8 b) = false ∧ opAt (b :: l) = [] := by
  cases w with
  | nil => cases h0
  | cons x r =>
    have hwp : wchkP (x :: r).length true (x :: r) = 0 := h0
    rw [txtS]
    have q34 : ∀ Z : Bs, (∃ t Y, (34 :: Z : Bs) = t ++ Y ∧ t.all neq8 = true ∧ NonA Y) ∧ ∃ b l, (34 :: Z : Bs) = b :: l ∧ blkI (n8 b) = false ∧ opAt (b :: l) = [] :=
      fun Z => ⟨⟨[], 34 :: Z, rfl, rfl, .inr ⟨34, Z, rfl, by decide, by decide⟩⟩, 34, Z, rfl, by decide, opAt_nine 34 _ (by decide) (by decide) (by decide) (by decide) (by decide)⟩
    have q36 : ∀ Z : Bs, (∃ t Y, (36 :: Z : Bs) = t ++ Y ∧ t.all neq8 = true ∧ NonA Y) ∧ ∃ b l, (36 :: Z : Bs) = b :: l ∧ blkI (n8 b) = false ∧ opAt (b :: l) = [] :=
      fun Z => ⟨⟨[], 36 :: Z, rfl, rfl, .inr ⟨36, Z, rfl, by decide, by decide⟩⟩, 36, Z, rfl, by decide, opAt_nine 36 _ (by decide) (by decide) (by decide) (by decide) (by decide)⟩
    have e : pcS false x ++ txtS (aftS x) r ++ X = pcS false x ++ (txtS (aftS x) r ++ X) := List.append_assoc _ _ _
    rw [e]
    cases hv : x.var with
    | true =>
      cases hq : x.quo with
      | true =>
        rw [show pcS false x = 34 :: (36 :: x.text ++ [34]) by unfold pcS; rw [hv, hq]; simp, List.cons_append]
        exact q34 _
      | false =>
        rw [show pcS false x = 36 :: x.text by unfold pcS; rw [hv, hq]; simp, List.cons_append]
        exact q36 _
    | false =>
      cases hp : isPlnS x.text with
      | false =>
        rw [show pcS false x = 34 :: (x.text.flatMap escS ++ [34]) by unfold pcS; rw [hv, hp]; simp [quoteS], List.cons_append]
        exact q34 _
      | true =>
        have ep : pcS false x = x.text := by unfold pcS; rw [hv, hp]; rfl
        rw [ep]
        unfold isPlnS at hp
        simp only [Bool.and_eq_true, Bool.not_eq_true'] at hp
        have hall := hp.2
        refine ⟨⟨x.text, _, rfl, all_imp _ _ (fun b hb => (pln_ord b hb).2.1) _ hall, ?_⟩, ?_⟩
        · have ha : aftS x = false := by unfold aftS; rw [hv]; rfl
          rw [ha]
          rw [wchkP, if_neg (by rw [hv]; decide)] at hwp
          split at hwp
          · cases hwp
          split at hwp
          · cases hwp
          · rcases head_var hwp with rfl | ⟨y, r', rfl, hy⟩
            · exact hX.nonA
            · rw [txtS]
              cases hq : y.quo with
              | true => rw [show pcS false y = 34 :: (36 :: y.text ++ [34]) by unfold pcS; rw [hy, hq]; simp]; exact .inr ⟨34, _, rfl, by decide, by decide⟩
              | false => rw [show pcS false y = 36 :: y.text by unfold pcS; rw [hy, hq]; simp]; exact .inr ⟨36, _, rfl, by decide, by decide⟩
        · cases ht : x.text with
          | nil => rw [ht] at hp; simp at hp
          | cons b l =>
            rw [ht] at hall
            simp only [List.all_cons, Bool.and_eq_true] at hall
            have := pln_ord b hall.1
            exact ⟨b, _, rfl, (ord8_facts b this.1).1, opAt_ord b _ this.1⟩
end Go.Proofs.Ytiddchpkmcncdaa
/- Plain functions of layer 41: parsing what was printed. -/
namespace Go.Proofs.Ytiddchpkmcncdaa
open Go.RowKit
set_option linter.unusedSimpArgs false
set_option linter.unusedVariables false
/-- What is printed between blanks. -/
inductive It where
  | op (o : Bs)
  | wd (w : Wd)
  | asg (a : Asg)
def itT : It → Bs
  | .op o => o
  | .wd w => txtS false w
  | .asg a => asgT a
def TkIs : It → Tk → Prop
  | .op o, t => t.op = o ∧ t.word = [] ∧ t.name = []
  | .wd w, t => t.op = [] ∧ t.word = w ∧ t.name = []
  | .asg a, t => t.op = [] ∧ t.word ≠ [] ∧ t.name = a.name ∧ valS t = a.value
def ItV : It → Prop
  | .op o => o ∈ opsL
  | .wd w => wchk w = 0
  | .asg a => achk a = 0
def Bl (X : Bs) : Prop := X = [] ∨ ∃ b l, X = b :: l ∧ blkI (n8 b) = true
def Aft : It → Bs → Prop
  | .op _, X => Bl X
  | _, X => Stop X
theorem Bl.stop {X : Bs} (h : Bl X) : Stop X := by
  rcases h with rfl | ⟨b, l, rfl, h⟩
  · exact .inl rfl
  · exact .inr ⟨b, l, rfl, .inl h⟩
theorem blk_is {b : UInt8} (h : blkI (n8 b) = true) : b = 32 ∨ b = 9 := by
  unfold blkI at h
  simp only [Bool.or_eq_true, decide_eq_true_eq] at h
  rcases h with h | h
  · left; have := (n8_eq b 32 (by decide)).1 h; simpa using this
  · right; have := (n8_eq b 9 (by decide)).1 h; simpa using this
theorem opAt_op (o X : Bs) (ho : o ∈ opsL) (hX : Bl X) : opAt (o ++ X) = o := by
  have hc : X = [] ∨ ∃ l, X = 32 :: l ∨ X = 9 :: l := by
    rcases hX with rfl | ⟨b, l, rfl, h⟩
    · exact .inl rfl
    · rcases blk_is h with rfl | rfl
      · exact .inr ⟨l, .inl rfl⟩
      · exact .inr ⟨l, .inr rfl⟩
  simp only [opsL, List.mem_cons, List.not_mem_nil, or_false] at ho
  rcases hc with rfl | ⟨l, rfl | rfl⟩ <;> rcases ho with rfl | rfl | rfl | rfl | rfl | rfl | rfl | rfl <;> simp [opAt, opsL, List.find?, List.isPrefixOf]
theorem op_ne {o : Bs} (ho : o ∈ opsL) : o ≠ [] ∧ ∃ c r, o = c :: r ∧ blkI (n8 c) = false := by
  simp only [opsL, List.mem_cons, List.not_mem_nil, or_false] at ho
  rcases ho with rfl | rfl | rfl | rfl | rfl | rfl | rfl | rfl <;> exact ⟨by simp, _, _, rfl, by decide⟩
theorem tok_blank (b : UInt8) (X : Bs) (p : Nat) (h : blkI (n8 b) = true) : toksS (b :: X) 0 p = toksS X 0 (p + 1) := by
  simp only [toksS]
  rw [if_pos h]
theorem tok_blanks : ∀ (bl X : Bs) (p : Nat), bl.all (fun b => blkI (n8 b)) = true → toksS (bl ++ X) 0 p = toksS X 0 (p + bl.length)
  | [], X, p, _ => rfl
  | b :: bl, X, p, h => by
    simp only [List.all_cons, Bool.and_eq_true] at h
    rw [List.cons_append, tok_blank _ _ _ h.1, tok_blanks bl X (p + 1) h.2]
    congr 1
    simp; omega
theorem tok_op (o X : Bs) (p : Nat) (ho : o ∈ opsL) (hX : Bl X) : toksS (o ++ X) 0 p = (toksS X 0 (p + o.length)).cons ⟨p, o, [], []⟩ := by
  have h1 := opAt_op o X ho hX
  obtain ⟨hne, c, r, rfl, hc⟩ := op_ne ho
  rw [List.cons_append] at h1 ⊢
  simp only [toksS]
  rw [if_neg (by rw [hc]; decide), h1, if_pos (by rfl), toksS_skip _ _ _ (by simp)]
  have e1 : (c :: r).length - 1 = r.length := by simp
  rw [e1, List.drop_left]
  congr 2
  simp; omega
theorem tok_word (L X : Bs) (p : Nat) (ps : Wd) (tx : Bs) (hb : ∃ b l, L ++ X = b :: l ∧ blkI (n8 b) = false ∧ opAt (b :: l) = []) (hne : L ≠ []) (h : wordS (L ++ X) 0 p [] [] = .ok (ps, tx, p + L.length)) :
    toksS (L ++ X) 0 p = (toksS X 0 (p + L.length)).cons ⟨p, [], finS ps tx, asgS (L ++ X)⟩ := by
  obtain ⟨b, l, e, hb, ho⟩ := hb
  rw [e] at h ⊢
  simp only [toksS]
  rw [if_neg (by rw [hb]; decide), ho, if_neg (by decide), h]
  simp only
  have hL : 0 < L.length := List.length_pos_iff.2 hne
  have hl : (L ++ X).length = (b :: l).length := by rw [e]
  simp at hl
  rw [toksS_skip _ _ _ (by omega)]
  have e2 : l.drop (p + L.length - (p + 1)) = X := by
    have : (b :: l).drop L.length = X := by rw [← e, List.drop_left]
    rw [show p + L.length - (p + 1) = L.length - 1 by omega]
    rw [show L.length = L.length - 1 + 1 by omega, List.drop_succ_cons] at this
    exact this
  rw [e2, show p + 1 + (p + L.length - (p + 1)) = p + L.length by omega]
theorem txt_ne {w : Wd} (h : wchk w = 0) : txtS false w ≠ [] := by
  cases w with
  | nil => cases h
  | cons x r =>
    rw [txtS]
    intro e
    have e1 := (List.append_eq_nil_iff.1 e).1
    unfold pcS at e1
    split at e1
    · simp at e1
    split at e1
    · simp at e1
    split at e1
    · rename_i hp
      rw [e1] at hp
      simp [isPlnS] at hp
    · simp [quoteS] at e1
theorem tok_it (x : It) (X : Bs) (p : Nat) (hv : ItV x) (hX : Aft x X) : ∃ t, TkIs x t ∧ toksS (itT x ++ X) 0 p = (toksS X 0 (p + (itT x).length)).cons t := by
  cases x with
  | op o => exact ⟨_, ⟨rfl, rfl, rfl⟩, tok_op o X p hv hX⟩
  | wd w =>
    obtain ⟨ps, tx, h1, h2⟩ := word_ok w p X hv hX
    obtain ⟨⟨t, Y, e, ht, hY⟩, hb⟩ := txt_form w X hv hX
    have := tok_word (txtS false w) X p ps tx hb (txt_ne hv) h1
    refine ⟨_, ?_, this⟩
    refine ⟨rfl, h2, ?_⟩
    show asgS (txtS false w ++ X) = []
    rw [e]
    exact asgS_non ht hY
  | asg a =>
    have hn : isVarS a.name = true := by
      have : achk a = 0 := hv
      unfold achk at this
      split at this
      · assumption
      · cases this
    have hw : wchk a.value = 0 := by
      have : achk a = 0 := hv
      unfold achk at this
      rw [if_pos hn] at this
      exact this
    have hal := isVar_aln hn
    have hnm : a.name ≠ [] := by
      intro e; rw [e] at hn; simp [isVarS] at hn
    have e0 : asgT a ++ X = a.name ++ 61 :: (txtS false a.value ++ X) := by unfold asgT; simp
    have hasg : asgS (asgT a ++ X) = a.name := by
      have htw : (asgT a ++ X).takeWhile neq8 = a.name := by
        rw [e0]
        have := (aln_all a.name hal).2.1
        generalize a.name = nm at *
        induction nm with
        | nil => rw [List.nil_append, List.takeWhile_cons_of_neg (by decide)]
        | cons c nm ih =>
          simp only [List.all_cons, Bool.and_eq_true] at this
          rw [List.cons_append, List.takeWhile_cons_of_pos this.1]
          congr 1
          clear ih e0 hn hal hnm hv
          induction nm with
          | nil => rw [List.nil_append, List.takeWhile_cons_of_neg (by decide)]
          | cons d nm ih =>
            have h2 := this.2
            simp only [List.all_cons, Bool.and_eq_true] at h2
            rw [List.cons_append, List.takeWhile_cons_of_pos h2.1, ih ⟨this.1, h2.2⟩]
      unfold asgS
      rw [htw, if_pos]
      refine ⟨?_, hn⟩
      rw [e0]; simp
    have hne2 : asgS (asgT a ++ X) ≠ [] := by rw [hasg]; exact hnm
    obtain ⟨ps1, tx1, h1, h2⟩ := word_ok a.value (p + (a.name.length + 1)) X hw hX
    obtain ⟨l', e1, _, hr⟩ := asg_word (asgT a ++ X) p hne2
    rw [hasg] at e1 hr
    have el : l' = txtS false a.value ++ X := by
      rw [e0] at e1
      have := List.append_cancel_left e1
      injection this with _ this
      exact this.symm
    subst el
    rw [h1] at hr
    have hlen : p + (a.name.length + 1) + (txtS false a.value).length = p + (asgT a).length := by unfold asgT; simp; omega
    rcases hr with ⟨_, _, q, ps0, tx0, e2, e3, _⟩ | ⟨_, _, e2, _⟩
    · injection e2 with e2
      simp only [Prod.mk.injEq] at e2
      obtain ⟨_, _, rfl⟩ := e2
      rw [hlen] at e3
      have hfirst : ∃ b l, asgT a ++ X = b :: l ∧ blkI (n8 b) = false ∧ opAt (b :: l) = [] := by
        rw [e0]
        cases hh : a.name with
        | nil => exact absurd hh hnm
        | cons c nm =>
          rw [hh] at hal
          simp only [List.all_cons, Bool.and_eq_true] at hal
          have hp8 : plain8 c = true := by unfold plain8; rw [hal.1]; rfl
          exact ⟨c, _, rfl, (plain8_facts c hp8).1, opAt_plain c _ hp8⟩
      have := tok_word (asgT a) X p ps0 tx0 hfirst (by unfold asgT; simp) e3
      refine ⟨_, ⟨rfl, finS_ne _ _, hasg, ?_⟩, this⟩
      obtain ⟨ps2, tx2, h3, h4⟩ := tok_val (asgT a ++ X) p ps0 tx0 _ e3 hne2
      rw [h4]
      have hd : (asgT a ++ X).drop ((asgS (asgT a ++ X)).length + 1) = txtS false a.value ++ X := by
        rw [hasg, e0, show a.name ++ 61 :: (txtS false a.value ++ X) = (a.name ++ [61]) ++ (txtS false a.value ++ X) by simp, show a.name.length + 1 = (a.name ++ [61]).length by simp, List.drop_left]
      rw [hd, hasg, h1] at h3
      injection h3 with h3
      simp only [Prod.mk.injEq] at h3
      rw [← h3.1, ← h3.2.1]
      exact h2
    · cases e2
/-- Items, each with the blanks behind it. -/
def ren : List (It × Bs) → Bs
  | [] => []
  | (x, b) :: r => itT x ++ (b ++ ren r)
def RenOk : List (It × Bs) → Prop
  | [] => True
  | (x, b) :: r => ItV x ∧ b.all (fun c => blkI (n8 c)) = true ∧ (b ≠ [] ∨ r = [] ∨ ((∀ o, x ≠ .op o) ∧ ∃ b' r', r = (.op [59], b') :: r')) ∧ RenOk r
def Fa : List It → List Tk → Prop
  | [], [] => True
  | x :: l, t :: ts => TkIs x t ∧ Fa l ts
  | _, _ => False
theorem ren_toks : ∀ (l : List (It × Bs)) (p : Nat), RenOk l → ∃ ts, toksS (ren l) 0 p = .ok ts ∧ Fa (l.map (·.1)) ts
  | [], p, _ => ⟨[], by unfold ren toksS; rfl, trivial⟩
  | (x, b) :: r, p, h => by
    obtain ⟨hv, hb, hs, hr⟩ := h
    have ha : Aft x (b ++ ren r) := by
      rcases hs with hs | rfl | ⟨hx, b', r', rfl⟩
      · have hbl : Bl (b ++ ren r) := by
          cases b with
          | nil => exact absurd rfl hs
          | cons c b => simp only [List.all_cons, Bool.and_eq_true] at hb; exact .inr ⟨c, b ++ ren r, rfl, hb.1⟩
        cases x with
        | op o => exact hbl
        | wd w => exact hbl.stop
        | asg a => exact hbl.stop
      · have hbl : Bl (b ++ ren []) := by
          cases b with
          | nil => exact .inl rfl
          | cons c b => simp only [List.all_cons, Bool.and_eq_true] at hb; exact .inr ⟨c, b ++ ren [], rfl, hb.1⟩
        cases x with
        | op o => exact hbl
        | wd w => exact hbl.stop
        | asg a => exact hbl.stop
      · have hst : Stop (b ++ ren ((.op [59], b') :: r')) := by
          cases b with
          | nil => exact .inr ⟨59, b' ++ ren r', rfl, .inr rfl⟩
          | cons c b => simp only [List.all_cons, Bool.and_eq_true] at hb; exact .inr ⟨c, _, rfl, .inl hb.1⟩
        cases x with
        | op o => exact absurd rfl (hx o)
        | wd w => exact hst
        | asg a => exact hst
    obtain ⟨t, ht, h1⟩ := tok_it x (b ++ ren r) p hv ha
    obtain ⟨ts, h2, h3⟩ := ren_toks r (p + (itT x).length + b.length) hr
    refine ⟨t :: ts, ?_, ht, h3⟩
    rw [ren, h1, tok_blanks b (ren r) _ hb, h2]; rfl
end Go.Proofs.Ytiddchpkmcncdaa
/- Plain functions of layer 41: parsing the tokens of a valid command line. -/
namespace Go.Proofs.Ytiddchpkmcncdaa
open Go.RowKit
set_option linter.unusedSimpArgs false
set_option linter.unusedVariables false
theorem Fa.cons {x : It} {l : List It} {ts : List Tk} (h : Fa (x :: l) ts) : ∃ t ts', ts = t :: ts' ∧ TkIs x t ∧ Fa l ts' := by
  cases ts with
  | nil => exact h.elim
  | cons t ts => exact ⟨t, ts, rfl, h.1, h.2⟩
theorem Fa.nil {ts : List Tk} (h : Fa [] ts) : ts = [] := by
  cases ts with
  | nil => rfl
  | cons t ts => exact h.elim
/-- What may stand behind a simple command. -/
def Rst (R : List It) : Prop := R = [] ∨ ∃ o r, R = .op o :: r ∧ redS o = false
theorem emp_false {α : Type} {l : List α} (h : l ≠ []) : l.isEmpty = false := by cases l with | nil => exact absurd rfl h | cons a l => rfl
theorem sim_asg (en : Nat) (R : List It) : ∀ (A : List Asg) (c : Sm) (ts : List Tk), Fa (A.map .asg ++ R) ts → c.words = [] → c.asg.length + A.length ≤ 32 → (∀ a ∈ A, a.name ≠ []) → ∃ ts', Fa R ts' ∧ simS en ts c = simS en ts' { c with asg := c.asg ++ A }
  | [], c, ts, h, _, _, _ => ⟨ts, h, by simp⟩
  | a :: A, c, ts, h, hw, hl, hn => by
    obtain ⟨t, ts1, rfl, ht, h1⟩ := Fa.cons h
    obtain ⟨t1, t2, t3, t4⟩ := ht
    have hna := hn a (by simp)
    rw [simS_word en t ts1 c (by rw [t1]; rfl) (emp_false t2)]
    rw [if_pos (by rw [t3, hw, emp_false hna]; rfl), if_neg (by simp at hl; omega)]
    obtain ⟨ts', h2, h3⟩ := sim_asg en R A { c with asg := c.asg ++ [⟨t.name, valS t⟩] } ts1 h1 hw (by simp at hl ⊢; omega) (fun x hx => hn x (by simp [hx]))
    refine ⟨ts', h2, ?_⟩
    rw [h3, t3, t4]
    simp
theorem sim_wd (en : Nat) (R : List It) : ∀ (W : List Wd) (c : Sm) (ts : List Tk), Fa (W.map .wd ++ R) ts → c.words.length + W.length ≤ 32 → (∀ w ∈ W, w ≠ []) → ∃ ts', Fa R ts' ∧ simS en ts c = simS en ts' { c with words := c.words ++ W }
  | [], c, ts, h, _, _ => ⟨ts, h, by simp⟩
  | w :: W, c, ts, h, hl, hn => by
    obtain ⟨t, ts1, rfl, ht, h1⟩ := Fa.cons h
    obtain ⟨t1, t2, t3⟩ := ht
    have hna := hn w (by simp)
    rw [simS_word en t ts1 c (by rw [t1]; rfl) (by rw [t2]; exact emp_false hna)]
    rw [t3, if_neg (by simp), if_neg (by simp at hl; omega)]
    obtain ⟨ts', h2, h3⟩ := sim_wd en R W { c with words := c.words ++ [t.word] } ts1 h1 (by simp at hl ⊢; omega) (fun x hx => hn x (by simp [hx]))
    refine ⟨ts', h2, ?_⟩
    rw [h3, t2]
    simp
theorem sim_red (en : Nat) (R : List It) (o : Bs) (w : Wd) (c : Sm) (ts : List Tk) (h : Fa (.op o :: .wd w :: R) ts) (ho : redS o = true) (hd : (if o == [60] then !c.inn.isEmpty else !c.out.isEmpty) = false) (hw : w ≠ []) :
    ∃ ts', Fa R ts' ∧ simS en ts c = simS en ts' (if o == [60] then { c with inn := w } else { c with out := w, app := c.app || o == [62, 62] }) := by
  obtain ⟨t, ts1, rfl, ht, h1⟩ := Fa.cons h
  obtain ⟨u, ts2, rfl, hu, h2⟩ := Fa.cons h1
  obtain ⟨t1, t2, t3⟩ := ht
  obtain ⟨u1, u2, u3⟩ := hu
  refine ⟨ts2, h2, ?_⟩
  rw [simS_red en t (u :: ts2) c (by rw [t1]; exact ho)]
  rw [if_neg (by unfold dupS; rw [t1, hd]; decide)]
  rw [show hdT en (u :: ts2) = u from rfl, u2, if_neg (by rw [emp_false hw]; decide)]
  unfold redC
  rw [t1, u2]
  rfl
theorem sim_end (en : Nat) (R : List It) (c : Sm) (ts : List Tk) (h : Fa R ts) (hR : Rst R) (hn : smNone c = false) : simS en ts c = .ok (c, ts) := by
  rcases hR with rfl | ⟨o, r, rfl, ho⟩
  · rw [Fa.nil h, simS_nil, if_neg (by rw [hn]; decide)]
  · obtain ⟨t, ts1, rfl, ht, h1⟩ := Fa.cons h
    rw [simS_stop en t ts1 c (by rw [ht.1]; exact ho) (by rw [ht.2.1]; rfl), if_neg (by rw [hn]; decide)]
def itR (c : Sm) : List It := (if c.inn.isEmpty then [] else [.op [60], .wd c.inn]) ++ (if c.out.isEmpty then [] else [.op (if c.app then [62, 62] else [62]), .wd c.out])
def itS (c : Sm) : List It := c.asg.map .asg ++ (c.words.map .wd ++ itR c)
theorem achk_nm {a : Asg} (h : achk a = 0) : a.name ≠ [] := by
  unfold achk at h
  split at h
  · rename_i hv; intro e; rw [e] at hv; simp [isVarS] at hv
  · cases h
theorem wchk_ne {w : Wd} (h : wchk w = 0) : w ≠ [] := by intro e; rw [e] at h; cases h
theorem sim_it (en : Nat) (c : Sm) (R : List It) (ts : List Tk) (hc : schk c = 0) (h : Fa (itS c ++ R) ts) (hR : Rst R) : ∃ ts', Fa R ts' ∧ simS en ts smE = .ok (c, ts') := by
  obtain ⟨h0, h1, h2, h3, h4, h5, h6, h7⟩ := schk_0 hc
  unfold itS at h
  rw [List.append_assoc, List.append_assoc] at h
  obtain ⟨ts1, f1, e1⟩ := sim_asg en _ c.asg smE ts h rfl (by simp [smE]; exact h1) (fun a ha => achk_nm (h3 a ha))
  obtain ⟨ts2, f2, e2⟩ := sim_wd en _ c.words { smE with asg := smE.asg ++ c.asg } ts1 f1 (by simp [smE]; exact h2) (fun w hw => wchk_ne (h4 w hw))
  rw [e1, e2]
  have ea : ({ { smE with asg := smE.asg ++ c.asg } with words := ({ smE with asg := smE.asg ++ c.asg } : Sm).words ++ c.words } : Sm) = ⟨c.asg, c.words, [], [], false⟩ := by simp [smE]
  rw [ea]
  unfold itR at f2
  rw [List.append_assoc] at f2
  have hin : ∃ ts3, Fa ((if c.out.isEmpty then [] else [.op (if c.app then [62, 62] else [62]), .wd c.out]) ++ R) ts3 ∧ simS en ts2 ⟨c.asg, c.words, [], [], false⟩ = simS en ts3 ⟨c.asg, c.words, c.inn, [], false⟩ := by
    cases hi : c.inn.isEmpty with
    | true =>
      rw [hi] at f2
      exact ⟨ts2, f2, by rw [List.isEmpty_iff.1 hi]⟩
    | false =>
      rw [hi] at f2
      have hne : c.inn ≠ [] := by intro e; rw [e] at hi; cases hi
      obtain ⟨ts3, f3, e3⟩ := sim_red en _ [60] c.inn ⟨c.asg, c.words, [], [], false⟩ ts2 f2 rfl rfl hne
      exact ⟨ts3, f3, e3⟩
  obtain ⟨ts3, f3, e3⟩ := hin
  rw [e3]
  have hout : ∃ ts4, Fa R ts4 ∧ simS en ts3 ⟨c.asg, c.words, c.inn, [], false⟩ = simS en ts4 c := by
    cases ho : c.out.isEmpty with
    | true =>
      rw [ho] at f3
      refine ⟨ts3, f3, ?_⟩
      have hap : c.app = false := by
        cases hap : c.app with
        | false => rfl
        | true => rw [h7 hap] at ho; cases ho
      have : (⟨c.asg, c.words, c.inn, [], false⟩ : Sm) = c := by
        cases c
        simp at ho hap ⊢
        first | exact ⟨ho, hap⟩ | exact ⟨ho.symm, hap.symm⟩ | exact ⟨ho, hap.symm⟩ | exact ⟨ho.symm, hap⟩
      rw [this]
    | false =>
      rw [ho] at f3
      have hne : c.out ≠ [] := by intro e; rw [e] at ho; cases ho
      cases hap : c.app with
      | true =>
        rw [hap] at f3
        obtain ⟨ts4, f4, e4⟩ := sim_red en _ [62, 62] c.out ⟨c.asg, c.words, c.inn, [], false⟩ ts3 f3 rfl rfl hne
        refine ⟨ts4, f4, ?_⟩
        rw [e4]
        have : c = ⟨c.asg, c.words, c.inn, c.out, true⟩ := by cases c; simp at hap; rw [hap]
        rw [this]; rfl
      | false =>
        rw [hap] at f3
        obtain ⟨ts4, f4, e4⟩ := sim_red en _ [62] c.out ⟨c.asg, c.words, c.inn, [], false⟩ ts3 f3 rfl rfl hne
        refine ⟨ts4, f4, ?_⟩
        rw [e4]
        have : c = ⟨c.asg, c.words, c.inn, c.out, false⟩ := by cases c; simp at hap; rw [hap]
        rw [this]; rfl
  obtain ⟨ts4, f4, e4⟩ := hout
  rw [e4]
  exact ⟨ts4, f4, sim_end en R c ts4 f4 hR h0⟩
/-- The items of the stages of a pipeline; f: it is the first one. -/
def itP : Bool → List Sm → List It
  | _, [] => []
  | f, c :: r => (if f then [] else [.op [124]]) ++ (itS c ++ itP false r)
/-- What may stand behind a pipeline. -/
def Rsp (R : List It) : Prop := R = [] ∨ ∃ o r, R = .op o :: r ∧ (o = [59] ∨ o = [38, 38] ∨ o = [124, 124] ∨ o = [38])
theorem Rsp.rst {R : List It} (h : Rsp R) : Rst R := by
  rcases h with rfl | ⟨o, r, rfl, ho⟩
  · exact .inl rfl
  · refine .inr ⟨o, r, rfl, ?_⟩
    rcases ho with rfl | rfl | rfl | rfl <;> rfl
theorem pip_it (en : Nat) (R : List It) (hR : Rsp R) : ∀ (L : List Sm) (n : Nat) (acc : List Sm) (ts : List Tk), (∀ c ∈ L, schk c = 0) → 0 < L.length → L.length ≤ n → Fa (itP true L ++ R) ts → ∃ ts', Fa R ts' ∧ pipS en n ts acc = .ok (acc ++ L, ts')
  | [], n, acc, ts, _, h0, _, _ => by simp at h0
  | [c], n, acc, ts, hc, _, hn, h => by
    simp only [itP, if_true, List.nil_append, List.append_nil] at h
    obtain ⟨ts1, f1, e1⟩ := sim_it en c R ts (hc c (by simp)) h hR.rst
    obtain ⟨m, rfl⟩ : ∃ m, n = m + 1 := ⟨n - 1, by simp at hn; omega⟩
    refine ⟨ts1, f1, pip_end en m ts acc c ts1 e1 ?_⟩
    rcases hR with rfl | ⟨o, r, rfl, ho⟩
    · rw [Fa.nil f1]; simp [hdT]
    · obtain ⟨t, ts2, rfl, ht, _⟩ := Fa.cons f1
      show t.op ≠ [124]
      rw [ht.1]
      rcases ho with rfl | rfl | rfl | rfl <;> decide
  | c :: d :: r, n, acc, ts, hc, _, hn, h => by
    have e : itP true (c :: d :: r) ++ R = itS c ++ (.op [124] :: (itP true (d :: r) ++ R)) := by simp [itP]
    rw [e] at h
    obtain ⟨ts1, f1, e1⟩ := sim_it en c _ ts (hc c (by simp)) h (.inr ⟨[124], _, rfl, rfl⟩)
    obtain ⟨t, ts2, rfl, ht, f2⟩ := Fa.cons f1
    obtain ⟨m, rfl⟩ : ∃ m, n = m + 1 := ⟨n - 1, by simp at hn; omega⟩
    obtain ⟨ts3, f3, e3⟩ := pip_it en R hR (d :: r) m (acc ++ [c]) ts2 (fun x hx => hc x (by simp at hx ⊢; exact .inr hx)) (by simp) (by simp at hn ⊢; omega) f2
    refine ⟨ts3, f3, ?_⟩
    rw [pip_more en m ts acc c t ts2 e1 ht.1 (by simp at hn; omega), e3]
    simp
def sepO (wh : Int) : Bs := if wh = 0 then [59] else if wh = 1 then [38, 38] else [124, 124]
/-- The items of the parts of a line; f: it is the first one. -/
def itQ : Bool → List Pl → List It
  | _, [] => []
  | f, q :: r => (if f then [] else [.op (sepO q.wh)]) ++ (itP true q.stages ++ itQ false r)
theorem sepO_is {wh : Int} (h0 : 0 ≤ wh) (h2 : wh ≤ 2) : whOf (sepO wh) = wh ∧ isSep (sepO wh) := by
  have : wh = 0 ∨ wh = 1 ∨ wh = 2 := by omega
  rcases this with rfl | rfl | rfl
  · exact ⟨rfl, .inl rfl⟩
  · exact ⟨rfl, .inr (.inl rfl)⟩
  · exact ⟨rfl, .inr (.inr rfl)⟩
theorem lin_it (en : Nat) (bg : Bool) : ∀ (L : List Pl) (n : Nat) (wh : Int) (acc : List Pl) (ts : List Tk), (∀ k (hk : k < L.length), pchk false L[k] = 0) → (∀ q, L.head? = some q → q.wh = wh) → 0 < L.length → L.length ≤ n → Fa (itQ true L ++ (if bg then [.op [38]] else [])) ts → linS en n ts wh acc = .ok ⟨acc ++ L, bg⟩
  | [], n, wh, acc, ts, _, _, h0, _, _ => by simp at h0
  | [q], n, wh, acc, ts, hq, hw, _, hn, h => by
    simp only [itQ, if_true, List.nil_append, List.append_nil] at h
    have h1 := pchk_0 (show pchk false q = 0 from hq 0 (by simp))
    have hqe : (⟨wh, q.stages⟩ : Pl) = q := by rw [← hw q rfl]
    obtain ⟨m, rfl⟩ : ∃ m, n = m + 1 := ⟨n - 1, by simp at hn; omega⟩
    cases bg with
    | false =>
      obtain ⟨ts1, f1, e1⟩ := pip_it en [] (.inl rfl) q.stages 8 [] ts h1.2.2.2.2.2 h1.2.2.2.1 h1.2.2.2.2.1 h
      rw [Fa.nil f1] at e1
      rw [lin_end en m ts wh acc _ [] e1 (by simp [hdT]) (by simp [hdT]) (by simp [hdT]) (by simp [hdT]), List.nil_append, hqe]
    | true =>
      obtain ⟨ts1, f1, e1⟩ := pip_it en [.op [38]] (.inr ⟨[38], [], rfl, .inr (.inr (.inr rfl))⟩) q.stages 8 [] ts h1.2.2.2.2.2 h1.2.2.2.1 h1.2.2.2.2.1 h
      obtain ⟨t, ts2, rfl, ht, f2⟩ := Fa.cons f1
      rw [Fa.nil f2] at e1
      rw [lin_bg en m ts wh acc _ t e1 ht.1, List.nil_append, hqe]
  | q :: d :: r, n, wh, acc, ts, hq, hw, _, hn, h => by
    have h1 := pchk_0 (show pchk false q = 0 from hq 0 (by simp))
    have hd := pchk_0 (show pchk false d = 0 from hq 1 (by simp))
    have hso := sepO_is hd.1 hd.2.1
    have hqe : (⟨wh, q.stages⟩ : Pl) = q := by rw [← hw q rfl]
    have e : itQ true (q :: d :: r) ++ (if bg then [.op [38]] else []) = itP true q.stages ++ (.op (sepO d.wh) :: (itQ true (d :: r) ++ (if bg then [.op [38]] else []))) := by simp [itQ]
    rw [e] at h
    obtain ⟨ts1, f1, e1⟩ := pip_it en _ (.inr ⟨sepO d.wh, _, rfl, by rcases hso.2 with h | h | h <;> rw [h] <;> simp⟩) q.stages 8 [] ts h1.2.2.2.2.2 h1.2.2.2.1 h1.2.2.2.2.1 h
    obtain ⟨t, ts2, rfl, ht, f2⟩ := Fa.cons f1
    obtain ⟨m, rfl⟩ : ∃ m, n = m + 1 := ⟨n - 1, by simp at hn; omega⟩
    have hst : isSep t.op := by rw [ht.1]; exact hso.2
    rw [lin_more en m ts wh acc _ t ts2 e1 hst (by simp at hn; omega), List.nil_append, hqe, ht.1, hso.1]
    rw [lin_it en bg (d :: r) m d.wh (acc ++ [q]) ts2 (fun k hk => by have := hq (k + 1) (by simpa using hk); simpa using this) (fun x hx => by simp at hx; rw [← hx]) (by simp) (by simp at hn ⊢; omega) f2]
    simp
/-- The items of a line. -/
def itL (l : Ln) : List It := itQ true l.parts ++ if l.bg then [.op [38]] else []
theorem pchk_weak {f : Bool} {q : Pl} (h : pchk f q = 0) : pchk false q = 0 := by
  have h1 := pchk_0 h
  rw [pchk_4 (by rintro (h | h | h); · omega
                 · omega
                 · exact absurd h.1 (by decide)) (by omega) (by omega)]
  exact frst_all h1.2.2.2.2.2
theorem lin_ok (en : Nat) (l : Ln) (ts : List Tk) (hc : lchk l = 0) (hne : l.parts ≠ []) (h : Fa (itL l) ts) : linS en 16 ts 0 [] = .ok l := by
  obtain ⟨_, h2, h3⟩ := lchk_0 hc
  have hall := pchks_0 h3
  have := lin_it en l.bg l.parts 16 0 [] ts (fun k hk => pchk_weak (hall k hk)) (fun q hq => by
    cases hp : l.parts with
    | nil => exact absurd hp hne
    | cons a r =>
      rw [hp] at hq
      simp at hq
      subst hq
      have h0 := pchk_0 (hall 0 (by rw [hp]; simp))
      have h4 := h0.2.2.1 (by rfl)
      simp only [hp, List.getElem_cons_zero] at h4
      exact h4) (List.length_pos_iff.2 hne) h2 h
  rw [this]; rfl
end Go.Proofs.Ytiddchpkmcncdaa
/- Plain functions of layer 41: parsing the canonical text yields the command line. -/
namespace Go.Proofs.Ytiddchpkmcncdaa
open Go.RowKit
set_option linter.unusedSimpArgs false
set_option linter.unusedVariables false
/-- The blank ahead of an item. -/
def gapB : It → Bs
  | .op o => if o = [59] then [] else [32]
  | _ => [32]
def lay : List It → List (It × Bs)
  | [] => []
  | [x] => [(x, [])]
  | x :: y :: r => (x, gapB y) :: lay (y :: r)
theorem lay_map : ∀ l : List It, (lay l).map (·.1) = l
  | [] => rfl
  | [x] => rfl
  | x :: y :: r => by rw [lay, List.map_cons, lay_map (y :: r)]
theorem lay_app : ∀ (A : List It) (y : It) (B : List It), ren (lay (A ++ y :: B)) = ren (lay A) ++ ((if A.isEmpty then [] else gapB y) ++ ren (lay (y :: B)))
  | [], y, B => by simp [lay, ren]
  | [x], y, B => by simp [lay, ren]
  | x :: z :: A, y, B => by
    have ih := lay_app (z :: A) y B
    simp only [List.cons_append] at ih ⊢
    rw [lay, ren, ih, lay, ren]
    simp
theorem lay_join : ∀ (l : List It), (∀ x ∈ l, gapB x = [32]) → ren (lay l) = joinB (l.map itT)
  | [], _ => rfl
  | [x], _ => by simp [lay, ren, joinB]
  | x :: y :: r, h => by
    have ih := lay_join (y :: r) (fun z hz => h z (by simp at hz ⊢; exact .inr hz))
    rw [lay, ren, ih, h y (by simp)]
    simp [joinB]
theorem itS_map (c : Sm) : (itS c).map itT = smL c := by
  unfold itS itR smL redT
  simp only [List.map_append, List.map_map]
  rw [List.append_assoc]
  congr 1
  congr 1
  congr 1 <;> split <;> rfl
theorem itS_gap (c : Sm) : ∀ x ∈ itS c, gapB x = [32] := by
  unfold itS itR
  intro x hx
  simp only [List.mem_append, List.mem_map] at hx
  rcases hx with ⟨a, _, rfl⟩ | ⟨a, _, rfl⟩ | hx | hx
  · rfl
  · rfl
  · split at hx
    · simp at hx
    · simp at hx
      rcases hx with rfl | rfl <;> rfl
  · split at hx
    · simp at hx
    · simp at hx
      rcases hx with rfl | rfl
      · split <;> rfl
      · rfl
theorem itS_txt (c : Sm) : ren (lay (itS c)) = smT c := by rw [lay_join _ (itS_gap c), itS_map]; rfl
theorem itS_ne {c : Sm} (h : smNone c = false) : itS c ≠ [] := by
  intro e
  unfold itS at e
  have h1 := List.append_eq_nil_iff.1 e
  have h2 := List.append_eq_nil_iff.1 h1.2
  unfold smNone at h
  rw [List.map_eq_nil_iff.1 h1.1, List.map_eq_nil_iff.1 h2.1] at h
  cases h
theorem itP_txt : ∀ (L : List Sm), (∀ c ∈ L, smNone c = false) → ren (lay (itP true L)) = stT true L
  | [], _ => rfl
  | [c], _ => by simp [itP, stT, itS_txt]
  | c :: d :: r, h => by
    have ih := itP_txt (d :: r) (fun x hx => h x (by simp at hx ⊢; exact .inr hx))
    have e : itP true (c :: d :: r) = itS c ++ .op [124] :: itP true (d :: r) := by simp [itP]
    have hne := itS_ne (h c (by simp))
    have hd := itS_ne (h d (by simp))
    rw [e, lay_app, itS_txt, if_neg (by cases hh : itS c with | nil => exact absurd hh hne | cons a l => simp)]
    have e2 : ren (lay (.op [124] :: itP true (d :: r))) = [124, 32] ++ ren (lay (itP true (d :: r))) := by
      cases hh : itS d with
      | nil => exact absurd hh hd
      | cons x l =>
        have hg := itS_gap d x (by rw [hh]; simp)
        have e3 : itP true (d :: r) = x :: (l ++ itP false r) := by simp [itP, hh]
        rw [e3, lay, ren, hg]
        simp [itT]
    rw [e2, ih, show gapB (.op [124]) = [32] from rfl]
    simp [stT]
theorem itP_ne {L : List Sm} (h : 0 < L.length) (hc : ∀ c ∈ L, smNone c = false) : ∃ x l, itP true L = x :: l ∧ gapB x = [32] := by
  cases L with
  | nil => simp at h
  | cons c r =>
    have := itS_ne (hc c (by simp))
    cases hh : itS c with
    | nil => exact absurd hh this
    | cons x l => exact ⟨x, l ++ itP false r, by simp [itP, hh], itS_gap c x (by rw [hh]; simp)⟩
def PlG (q : Pl) : Prop := 0 ≤ q.wh ∧ q.wh ≤ 2 ∧ 0 < q.stages.length ∧ ∀ c ∈ q.stages, smNone c = false
theorem sepO_gap {wh : Int} (h0 : 0 ≤ wh) (h2 : wh ≤ 2) : gapB (.op (sepO wh)) ++ sepO wh ++ [32] = sepT wh := by
  have : wh = 0 ∨ wh = 1 ∨ wh = 2 := by omega
  rcases this with rfl | rfl | rfl <;> rfl
theorem itQ_txt : ∀ (L : List Pl), (∀ q ∈ L, PlG q) → ren (lay (itQ true L)) = ptT true L
  | [], _ => rfl
  | [q], h => by simp [itQ, ptT, itP_txt _ (h q (by simp)).2.2.2]
  | q :: d :: r, h => by
    have ih := itQ_txt (d :: r) (fun x hx => h x (by simp at hx ⊢; exact .inr hx))
    have hq := h q (by simp)
    have hd := h d (by simp)
    obtain ⟨x, l, hx, hg⟩ := itP_ne hq.2.2.1 hq.2.2.2
    obtain ⟨y, m, hy, hgy⟩ := itP_ne hd.2.2.1 hd.2.2.2
    have e : itQ true (q :: d :: r) = itP true q.stages ++ .op (sepO d.wh) :: itQ true (d :: r) := by simp [itQ]
    rw [e, lay_app, itP_txt _ hq.2.2.2, if_neg (by rw [hx]; simp)]
    have e2 : ren (lay (.op (sepO d.wh) :: itQ true (d :: r))) = sepO d.wh ++ [32] ++ ren (lay (itQ true (d :: r))) := by
      have e3 : itQ true (d :: r) = y :: (m ++ itQ false r) := by simp [itQ, hy]
      rw [e3, lay, ren, hgy]
      simp [itT]
    rw [e2, ih]
    have hs := sepO_gap hd.1 hd.2.1
    have e4 : ptT true (q :: d :: r) = stT true q.stages ++ (sepT d.wh ++ ptT true (d :: r)) := by simp [ptT]
    rw [e4, ← hs]
    simp
theorem itQ_ne {L : List Pl} (h : 0 < L.length) (hc : ∀ q ∈ L, PlG q) : ∃ x l, itQ true L = x :: l := by
  cases L with
  | nil => simp at h
  | cons q r =>
    have hq := hc q (by simp)
    obtain ⟨x, l, hx, _⟩ := itP_ne hq.2.2.1 hq.2.2.2
    exact ⟨x, l ++ itQ false r, by simp [itQ, hx]⟩
theorem itL_txt (l : Ln) (hne : 0 < l.parts.length) (h : ∀ q ∈ l.parts, PlG q) : ren (lay (itL l)) = lnT l := by
  unfold itL lnT
  cases l.bg with
  | false => simp [itQ_txt _ h]
  | true =>
    obtain ⟨x, m, hx⟩ := itQ_ne hne h
    rw [if_pos rfl, if_pos rfl, lay_app, itQ_txt _ h, if_neg (by rw [hx]; simp)]
    rfl
/-! ### The items are valid -/
def isOp : It → Bool
  | .op _ => true
  | _ => false
/-- Valid items, no two operators of which the second is ; beside each other. -/
def Gd : Bool → List It → Prop
  | _, [] => True
  | f, x :: r => ItV x ∧ (x = .op [59] → f = false) ∧ Gd (isOp x) r
theorem Gd.app : ∀ {A B : List It} {f : Bool}, Gd f A → (∀ g, (A = [] → g = f) → (∀ x, A.getLast? = some x → g = isOp x) → Gd g B) → Gd f (A ++ B)
  | [], B, f, _, h => h f (fun _ => rfl) (fun x hx => by simp at hx)
  | x :: A, B, f, ha, h => by
    refine ⟨ha.1, ha.2.1, Gd.app ha.2.2 (fun g h1 h2 => h g (fun e => by simp at e) (fun y hy => ?_))⟩
    cases A with
    | nil => simp at hy; subst hy; exact h1 rfl
    | cons z A => rw [List.getLast?_cons_cons] at hy; exact h2 y hy
theorem gd_ok : ∀ (l : List It) (f : Bool), Gd f l → RenOk (lay l)
  | [], _, _ => trivial
  | [x], _, h => ⟨h.1, rfl, .inr (.inl rfl), trivial⟩
  | x :: y :: r, f, h => by
    have ih := gd_ok (y :: r) (isOp x) h.2.2
    rw [lay]
    refine ⟨h.1, ?_, ?_, ih⟩
    · cases y with
      | op o =>
        show (if o = [59] then [] else [32] : Bs).all _ = true
        split <;> rfl
      | wd w => rfl
      | asg a => rfl
    · by_cases hy : y = .op [59]
      · refine .inr (.inr ⟨fun o e => ?_, ?_⟩)
        · have := h.2.2.2.1 hy
          rw [e] at this
          cases this
        · subst hy
          cases r with
          | nil => exact ⟨[], [], rfl⟩
          | cons z r => exact ⟨_, _, rfl⟩
      · left
        cases y with
        | op o =>
          show (if o = [59] then [] else [32] : Bs) ≠ []
          rw [if_neg (fun e => hy (by rw [e]))]
          simp
        | wd w => simp [gapB]
        | asg a => simp [gapB]
theorem gd_any {l : List It} {f : Bool} (h : ∀ x ∈ l, ItV x ∧ x ≠ .op [59]) : Gd f l := by
  induction l generalizing f with
  | nil => trivial
  | cons x l ih => exact ⟨(h x (by simp)).1, fun e => absurd e (h x (by simp)).2, ih (fun y hy => h y (by simp [hy]))⟩
theorem itS_v {c : Sm} (h : schk c = 0) : ∀ x ∈ itS c, ItV x ∧ x ≠ .op [59] := by
  obtain ⟨_, _, _, h3, h4, h5, h6, _⟩ := schk_0 h
  unfold itS itR
  intro x hx
  simp only [List.mem_append, List.mem_map] at hx
  rcases hx with ⟨a, ha, rfl⟩ | ⟨a, ha, rfl⟩ | hx | hx
  · exact ⟨h3 a ha, by simp⟩
  · exact ⟨h4 a ha, by simp⟩
  · split at hx
    · simp at hx
    · rename_i he
      simp at hx
      rcases hx with rfl | rfl
      · exact ⟨by simp [ItV, opsL], by simp⟩
      · refine ⟨?_, by simp⟩
        unfold ochk at h5
        rw [if_neg he] at h5
        exact h5
  · split at hx
    · simp at hx
    · rename_i he
      simp at hx
      rcases hx with rfl | rfl
      · split <;> exact ⟨by simp [ItV, opsL], by simp⟩
      · refine ⟨?_, by simp⟩
        unfold ochk at h6
        rw [if_neg he] at h6
        exact h6
theorem itP_v : ∀ (L : List Sm) (f : Bool), (∀ c ∈ L, schk c = 0) → ∀ x ∈ itP f L, ItV x ∧ x ≠ .op [59]
  | [], f, _, x, hx => by simp [itP] at hx
  | c :: r, f, h, x, hx => by
    rw [itP] at hx
    simp only [List.mem_append] at hx
    rcases hx with hx | hx | hx
    · split at hx
      · simp at hx
      · simp at hx; subst hx; exact ⟨by simp [ItV, opsL], by simp⟩
    · exact itS_v (h c (by simp)) x hx
    · exact itP_v r false (fun d hd => h d (by simp [hd])) x hx
theorem itS_last {c : Sm} (h : smNone c = false) : ∀ x, (itS c).getLast? = some x → isOp x = false := by
  intro x hx
  unfold itS itR at hx
  by_cases ho : c.out.isEmpty = true
  · by_cases hi : c.inn.isEmpty = true
    · rw [ho, hi] at hx
      simp only [if_true, List.append_nil] at hx
      have hm := List.mem_of_getLast? hx
      simp only [List.mem_append, List.mem_map] at hm
      rcases hm with ⟨a, _, rfl⟩ | ⟨a, _, rfl⟩ <;> rfl
    · rw [if_pos ho, if_neg hi] at hx
      simp at hx
      subst hx; rfl
  · rw [if_neg ho] at hx
    simp at hx
    subst hx; rfl
theorem itP_last : ∀ (L : List Sm) (f : Bool), (∀ c ∈ L, smNone c = false) → 0 < L.length → ∀ x, (itP f L).getLast? = some x → isOp x = false
  | [], f, _, h0, x, _ => by simp at h0
  | [c], f, h, _, x, hx => by
    have hne := itS_ne (h c (by simp))
    have e : itP f [c] = (if f then [] else [.op [124]]) ++ itS c := by simp [itP]
    rw [e, List.getLast?_append] at hx
    cases hh : (itS c).getLast? with
    | none => rw [List.getLast?_eq_none_iff] at hh; exact absurd hh hne
    | some y =>
      rw [hh] at hx
      simp at hx
      subst hx
      exact itS_last (h c (by simp)) _ hh
  | c :: d :: r, f, h, _, x, hx => by
    have e : itP f (c :: d :: r) = ((if f then [] else [.op [124]]) ++ itS c) ++ itP false (d :: r) := by simp [itP]
    rw [e, List.getLast?_append] at hx
    cases hh : (itP false (d :: r)).getLast? with
    | none => rw [List.getLast?_eq_none_iff] at hh; simp [itP] at hh
    | some y =>
      rw [hh] at hx
      simp at hx
      subst hx
      exact itP_last (d :: r) false (fun x hx => h x (by simp at hx ⊢; exact .inr hx)) (by simp) _ hh
theorem itQ_gd : ∀ (L : List Pl) (f : Bool), (∀ k (hk : k < L.length), pchk false L[k] = 0) → Gd false (itQ f L) ∧ (0 < L.length → ∀ x, (itQ f L).getLast? = some x → isOp x = false)
  | [], f, _ => ⟨trivial, fun h => by simp at h⟩
  | q :: r, f, h => by
    have hq := pchk_0 (show pchk false q = 0 from h 0 (by simp))
    have hn : ∀ c ∈ q.stages, smNone c = false := fun c hc => (schk_0 (hq.2.2.2.2.2 c hc)).1
    have hv := itP_v q.stages true hq.2.2.2.2.2
    have hl := itP_last q.stages true hn hq.2.2.2.1
    obtain ⟨x0, l0, hx0, _⟩ := itP_ne hq.2.2.2.1 hn
    have ih := itQ_gd r false (fun k hk => by have := h (k + 1) (by simpa using hk); simpa using this)
    have hmid : ∀ g, Gd g (itP true q.stages ++ itQ false r) := fun g => Gd.app (gd_any hv) (fun g' h1 h2 => by
      have : g' = false := by
        cases hh : (itP true q.stages).getLast? with
        | none => rw [List.getLast?_eq_none_iff, hx0] at hh; cases hh
        | some y => rw [h2 y hh]; exact hl y hh
      rw [this]; exact ih.1)
    have hs := sepO_is hq.1 hq.2.1
    refine ⟨?_, fun _ x hx => ?_⟩
    · rw [itQ]
      cases f with
      | true => exact hmid false
      | false => exact ⟨by show sepO q.wh ∈ opsL; rcases hs.2 with e | e | e <;> rw [e] <;> simp [opsL], fun _ => rfl, hmid _⟩
    · have e : itQ f (q :: r) = ((if f then [] else [.op (sepO q.wh)]) ++ itP true q.stages) ++ itQ false r := by rw [itQ]; simp
      rw [e, List.getLast?_append] at hx
      cases r with
      | nil =>
        simp only [itQ, List.getLast?_nil, Option.none_or] at hx
        rw [List.getLast?_append] at hx
        cases hh : (itP true q.stages).getLast? with
        | none => rw [List.getLast?_eq_none_iff, hx0] at hh; cases hh
        | some y => rw [hh] at hx; simp at hx; subst hx; exact hl _ hh
      | cons d r =>
        cases hh : (itQ false (d :: r)).getLast? with
        | none => rw [List.getLast?_eq_none_iff] at hh; simp [itQ] at hh
        | some y => rw [hh] at hx; simp at hx; subst hx; exact ih.2 (by simp) _ hh
theorem itL_ok (l : Ln) (h : lchk l = 0) : RenOk (lay (itL l)) := by
  obtain ⟨_, _, h3⟩ := lchk_0 h
  have hall : ∀ k (hk : k < l.parts.length), pchk false l.parts[k] = 0 := fun k hk => pchk_weak (pchks_0 h3 k hk)
  refine gd_ok _ false ?_
  unfold itL
  refine Gd.app (itQ_gd l.parts true hall).1 (fun g _ _ => ?_)
  split
  · exact ⟨by simp [ItV, opsL], fun e => by simp at e, trivial⟩
  · trivial
theorem lchk_g {l : Ln} (h : lchk l = 0) : ∀ q ∈ l.parts, PlG q := by
  obtain ⟨_, _, h3⟩ := lchk_0 h
  intro q hq
  obtain ⟨k, hk, rfl⟩ := List.getElem_of_mem hq
  have := pchk_0 (pchks_0 h3 k hk)
  exact ⟨this.1, this.2.1, this.2.2.2.1, fun c hc => (schk_0 (this.2.2.2.2.2 c hc)).1⟩
/-! ### Permitted bytes -/
theorem aln_per (t : Bs) (h : t.all aln8 = true) : t.all per8 = true := (aln_all t h).2.2.1
theorem quote_per (t : Bs) (h : t.all per8 = true) : (quoteS t).all per8 = true := by
  rw [List.all_eq_true] at h ⊢
  intro x hx
  unfold quoteS at hx
  simp only [List.mem_append, List.mem_singleton, List.mem_flatMap] at hx
  rcases hx with (rfl | ⟨y, hy, hxy⟩) | rfl
  · decide
  · unfold escS at hxy
    split at hxy
    · simp only [List.mem_cons, List.not_mem_nil, or_false] at hxy
      rcases hxy with rfl | rfl
      · decide
      · exact h _ hy
    · simp only [List.mem_singleton] at hxy
      rw [hxy]; exact h _ hy
  · decide
theorem txt_per (n : Nat) : ∀ (r : Wd) (pv a : Bool), wchkP n pv r = 0 → (txtS a r).all per8 = true
  | [], _, _, _ => rfl
  | x :: r, pv, a, h => by
    rw [wchkP] at h
    rw [txtS]
    split at h
    · rename_i hv
      split at h
      · rename_i hi
        refine all_app ?_ (txt_per n r true _ h)
        have hp := aln_per _ (isVar_aln hi)
        unfold pcS
        rw [hv]
        cases x.quo with
        | true => simp only [Bool.and_self, if_true]; exact all_app (all_app (by decide) hp) (by decide)
        | false => simp only [Bool.and_false, Bool.false_eq_true, if_false, if_true]; exact all_app (by decide) hp
      · cases h
    · rename_i hv
      split at h
      · cases h
      rename_i hb
      split at h
      · cases h
      · refine all_app ?_ (txt_per n r false _ h)
        have hp := badS_full _ hb
        have hv' : x.var = false := by simpa using hv
        unfold pcS
        rw [hv', if_neg (by simp), if_neg (by simp)]
        split
        · exact hp
        · exact quote_per _ hp
theorem it_per (x : It) (h : ItV x) : (itT x).all per8 = true := by
  cases x with
  | op o =>
    simp only [ItV, opsL, List.mem_cons, List.not_mem_nil, or_false] at h
    rcases h with rfl | rfl | rfl | rfl | rfl | rfl | rfl | rfl <;> decide
  | wd w =>
    have h' : wchk w = 0 := h
    unfold wchk at h'
    split at h'
    · cases h'
    · exact txt_per _ w true false h'
  | asg a =>
    have h' : achk a = 0 := h
    unfold achk at h'
    split at h'
    · rename_i hv
      unfold wchk at h'
      split at h'
      · cases h'
      · show (a.name ++ 61 :: txtS false a.value).all per8 = true
        exact all_app (aln_per _ (isVar_aln hv)) (by rw [List.all_cons, txt_per _ a.value true false h']; decide)
    · cases h'
theorem ren_per : ∀ (l : List (It × Bs)), RenOk l → (ren l).all per8 = true
  | [], _ => rfl
  | (x, b) :: r, h => by
    rw [ren]
    refine all_app (it_per x h.1) (all_app ?_ (ren_per r h.2.2.2))
    have := h.2.1
    rw [List.all_eq_true] at this ⊢
    intro c hc
    rcases blk_is (this c hc) with rfl | rfl <;> decide
/-- A text that reads as the items of a valid command line. -/
theorem par_ren (l : Ln) (L : Bs) (items : List (It × Bs)) (bl : Bs) (hc : lchk l = 0) (hne : l.parts ≠ []) (hi : items.map (·.1) = itL l) (hr : RenOk items) (hb : bl.all (fun c => blkI (n8 c)) = true) (hL : L = bl ++ ren items) (hlen : L.length ≤ 1024) : parS L = .ok l := by
  have hper : L.all per8 = true := by
    rw [hL]
    refine all_app ?_ (ren_per items hr)
    rw [List.all_eq_true] at hb ⊢
    intro c hc
    rcases blk_is (hb c hc) with rfl | rfl <;> decide
  obtain ⟨ts, h1, h2⟩ := ren_toks items (0 + bl.length) hr
  rw [hi] at h2
  have ht : toksS L 0 0 = .ok ts := by rw [hL, tok_blanks bl _ 0 hb, h1]
  have hts : ts ≠ [] := by
    intro e
    subst e
    have hg := lchk_g hc
    obtain ⟨x, m, hx⟩ := itQ_ne (List.length_pos_iff.2 hne) hg
    unfold itL at h2
    rw [hx] at h2
    exact h2.elim
  unfold parS
  rw [if_neg (by omega), if_neg (by rw [badS_all L hper]; omega), ht]
  cases ts with
  | nil => exact absurd rfl hts
  | cons t ts => exact lin_ok _ l (t :: ts) hc hne h2
theorem par_print (l : Ln) (hc : lchk l = 0) (hlen : (lnT l).length ≤ 1024) : parS (lnT l) = .ok l := by
  by_cases hne : l.parts = []
  · have hbg : l.bg = false := by
      cases hb : l.bg with
      | false => rfl
      | true =>
        rw [lchk_1 hb (by rw [hne]; rfl)] at hc
        cases hc
    have e : l = ⟨[], false⟩ := by cases l; simp at hne hbg; rw [hne, hbg]
    rw [e]; rfl
  · refine par_ren l (lnT l) (lay (itL l)) [] hc hne (lay_map _) (itL_ok l hc) rfl ?_ hlen
    rw [List.nil_append, itL_txt l (List.length_pos_iff.2 hne) (lchk_g hc)]
end Go.Proofs.Ytiddchpkmcncdaa
