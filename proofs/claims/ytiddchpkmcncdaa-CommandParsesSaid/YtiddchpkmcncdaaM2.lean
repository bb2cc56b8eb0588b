/- Words for memory: slices that read as lists. -/
import Derived.Test.YtiddchpkmcncdaaM1
namespace Go.Proofs.Ytiddchpkmcncdaa
open Go.RowKit
set_option linter.unusedSimpArgs false
set_option linter.unusedVariables false
/-- A slice of n elements of type e whose cells are xs. -/
def Rd (e : TypeId) (w : World) (v : Value) (n : Nat) (xs : List Value) : Prop :=
  ∃ A c, v = .slice A n c ∧ n ≤ c ∧ c ≤ maxLen ∧ ((n = 0 ∧ xs = []) ∨ ∃ b o cs fr, A = some ⟨b, o, none⟩ ∧ w.heap[b]? = some (.cells cs e fr) ∧ ∀ j u, xs[j]? = some u → cs[o + j]? = some u)
theorem Rd.kept {e : TypeId} {w w' : World} {v : Value} {n : Nat} {xs : List Value} {row : Option Nat} (h : Rd e w v n xs) (hg : w.grownBy w' row) (hne : ∀ g cs fr, row = some g → w.heap[g]? = some (.cells cs e fr) → False) : Rd e w' v n xs := by
  obtain ⟨A, c, hv, hc, hm, h0 | ⟨b, o, cs, fr, hA, hb, hx⟩⟩ := h
  · exact ⟨A, c, hv, hc, hm, .inl h0⟩
  · refine ⟨A, c, hv, hc, hm, .inr ⟨b, o, cs, fr, hA, ?_, hx⟩⟩
    rw [hg.block b (Array.getElem?_eq_some_iff.1 hb).1 (fun h => hne b cs fr h.symm hb)]
    exact hb
theorem Rd.next {e : TypeId} {w w' : World} {v : Value} {n : Nat} {xs : List Value} (h : Rd e w v n xs) (hb : Below w.heap.size w w') : Rd e w' v n xs :=
  h.kept (only_of_below hb none) (fun g cs fr h => by cases h)
theorem Rd.drewN {e : TypeId} {w : World} {v : Value} {n : Nat} {xs : List Value} (h : Rd e w v n xs) (k : Nat) : Rd e (w.drewN k) v n xs := h
theorem Rd.drew {e : TypeId} {w : World} {v : Value} {n : Nat} {xs : List Value} (h : Rd e w v n xs) : Rd e w.drew v n xs := h
/-- Behind an append to a row of another type. -/
theorem Rd.far {e e' : TypeId} {w w' : World} {v v' : Value} {n n' base size : Nat} {xs xs' : List Value} (h : Rd e w v n xs) (ho : w.ownsRow base e' size v' n' xs') (hg : w.grownBy w' v'.ownBlock) (hne : e ≠ e') : Rd e w' v n xs := by
  refine h.kept hg (fun g cs fr hr hh => ?_)
  rcases ho.2 with ⟨rfl, _⟩ | ⟨g', cap, cur, rfl, _, h2, _⟩
  · simp [Value.ownBlock] at hr
  · simp [Value.ownBlock] at hr
    subst hr
    rw [h2] at hh
    injection hh with hh
    injection hh with _ ht
    exact hne ht.symm
/-- Behind stores into a block of another type. -/
theorem Rd.blk {e t : TypeId} {w w' : World} {v : Value} {n g : Nat} {xs : List Value} {cs : Array Value} (h : Rd e w v n xs) (hb : Blk w g t cs) (hg : w.grownBy w' (some g)) (hne : e ≠ t) : Rd e w' v n xs := by
  refine h.kept hg (fun g' cs' fr hr hh => ?_)
  injection hr with hr
  subst hr
  unfold Blk at hb
  rw [hb] at hh
  injection hh with hh
  injection hh with _ ht
  exact hne ht.symm
theorem Rd.of_own {e : TypeId} {w : World} {v : Value} {n base size : Nat} {xs : List Value} (h : w.ownsRow base e size v n xs) : Rd e w v n xs := by
  obtain ⟨h1, ⟨rfl, rfl⟩ | ⟨g, cap, cur, rfl, _, hh, hn, hm, _, hx⟩⟩ := h
  · exact ⟨none, 0, rfl, Nat.le_refl _, Nat.zero_le _, .inl ⟨rfl, by simpa using h1⟩⟩
  · refine ⟨_, cap, rfl, hn, hm, .inr ⟨g, 0, cur, (0, 0), rfl, hh, fun j u hu => ?_⟩⟩
    rw [← hx] at hu
    rw [List.getElem?_take] at hu
    split at hu
    · simpa using hu
    · cases hu
theorem Rd.form {e : TypeId} {w : World} {v : Value} {n : Nat} {xs : List Value} (h : Rd e w v n xs) : ∃ A c, v = .slice A n c ∧ n ≤ c := by
  obtain ⟨A, c, hv, hc, _⟩ := h
  exact ⟨A, c, hv, hc⟩
/-- The address and the cells, where there is an element. -/
theorem Rd.at_ {e : TypeId} {w : World} {v : Value} {n : Nat} {xs : List Value} (h : Rd e w v n xs) (hn : 0 < n) : ∃ b o c, v = .slice (some ⟨b, o, none⟩) n c ∧ n ≤ c ∧ c ≤ maxLen ∧ b < w.heap.size ∧ ∀ j u, xs[j]? = some u → w.cell? ⟨b, o + j, none⟩ = some u := by
  obtain ⟨A, c, hv, hc, hm, h0 | ⟨b, o, cs, fr, hA, hb, hx⟩⟩ := h
  · omega
  · subst hA
    refine ⟨b, o, c, hv, hc, hm, (Array.getElem?_eq_some_iff.1 hb).1, fun j u hu => ?_⟩
    rw [cell_of_row w b (o + j) cs e fr hb]
    exact hx j u hu
/-- What is left behind the first k elements. -/
theorem Rd.cut {e : TypeId} {w : World} {A : Option Addr} {n c : Nat} {xs : List Value} (h : Rd e w (.slice A n c) n xs) (size k : Nat) (hk : k ≤ n) (hx : xs.length = n * size) : Rd e w (.slice (if c = k then A else A.map (·.add (k * size))) (n - k) (c - k)) (n - k) (xs.drop (k * size)) := by
  obtain ⟨A', c', hv, hc, hm, h0⟩ := h
  cases hv
  refine ⟨_, _, rfl, by omega, by omega, ?_⟩
  by_cases hkn : k = n
  · refine .inl ⟨by omega, ?_⟩
    subst hkn
    exact List.drop_eq_nil_of_le (by omega)
  · rcases h0 with ⟨h0, _⟩ | ⟨b, o, cs, fr, rfl, hb, hx'⟩
    · omega
    · rw [if_neg (by omega)]
      refine .inr ⟨b, o + k * size, cs, fr, ?_, hb, fun j u hu => ?_⟩
      · simp only [Option.map_some]
        unfold Addr.add
        split
        · rename_i h; rw [h]; rfl
        · rfl
      · rw [List.getElem?_drop] at hu
        rw [Nat.add_assoc]
        exact hx' _ u hu
/-- A word of the command package. -/
def RdW (w : World) (v : Value) (ps : Wd) : Prop := Rd 61 w v ps.length (pcC ps)
/-- The cells of a token whose word is v. -/
def tkV (t : Tk) (v : Value) : List Value := [.int .i64 (t.pos : Int), .string (bs t.op), v, .string (bs t.name)]
def tkC : List Tk → List Value → List Value
  | t :: l, v :: vs => tkV t v ++ tkC l vs
  | _, _ => []
theorem tkC_snoc : ∀ (l : List Tk) (vs : List Value) (t : Tk) (v : Value), vs.length = l.length → tkC (l ++ [t]) (vs ++ [v]) = tkC l vs ++ tkV t v
  | [], [], t, v, _ => by simp [tkC]
  | a :: l, b :: vs, t, v, h => by
    have := tkC_snoc l vs t v (by simpa using h)
    simp [tkC, this]
  | [], b :: vs, _, _, h => by simp at h
  | a :: l, [], _, _, h => by simp at h
/-- Each word of a list of tokens. -/
def TkW (w : World) (l : List Tk) (vs : List Value) : Prop := vs.length = l.length ∧ ∀ (i : Nat) (t : Tk) (v : Value), l[i]? = some t → vs[i]? = some v → RdW w v t.word
theorem TkW.imp {w w' : World} {l : List Tk} {vs : List Value} (h : TkW w l vs) (hi : ∀ v ps, RdW w v ps → RdW w' v ps) : TkW w' l vs := ⟨h.1, fun i t v h1 h2 => hi _ _ (h.2 i t v h1 h2)⟩
theorem TkW.snoc {w : World} {l : List Tk} {vs : List Value} {t : Tk} {v : Value} (h : TkW w l vs) (hv : RdW w v t.word) : TkW w (l ++ [t]) (vs ++ [v]) := by
  refine ⟨by simp [h.1], fun i t' v' h1 h2 => ?_⟩
  rcases Nat.lt_trichotomy i l.length with hi | hi | hi
  · rw [List.getElem?_append_left hi] at h1
    rw [List.getElem?_append_left (by rw [h.1]; exact hi)] at h2
    exact h.2 i t' v' h1 h2
  · subst hi
    rw [List.getElem?_append_right (Nat.le_refl _)] at h1
    rw [← h.1, List.getElem?_append_right (Nat.le_refl _)] at h2
    simp at h1 h2
    subst h1 h2
    exact hv
  · rw [List.getElem?_eq_none (by simp; omega)] at h1
    cases h1
/-- Tokens in a row of the call's own. -/
def TkOwn (w : World) (base : Nat) (vt : Value) (l : List Tk) : Prop := ∃ vs, TkW w l vs ∧ w.ownsRow base 128 4 vt l.length (tkC l vs)
/-- Tokens in a slice. -/
def RdT (w : World) (v : Value) (l : List Tk) : Prop := ∃ vs, TkW w l vs ∧ Rd 128 w v l.length (tkC l vs)
theorem TkOwn.rd {w : World} {base : Nat} {vt : Value} {l : List Tk} (h : TkOwn w base vt l) : RdT w vt l := by
  obtain ⟨vs, h1, h2⟩ := h
  exact ⟨vs, h1, Rd.of_own h2⟩
theorem RdT.next {w w' : World} {v : Value} {l : List Tk} (h : RdT w v l) (hb : Below w.heap.size w w') : RdT w' v l := by
  obtain ⟨vs, h1, h2⟩ := h
  exact ⟨vs, h1.imp (fun _ _ h => Rd.next h hb), h2.next hb⟩
end Go.Proofs.Ytiddchpkmcncdaa
