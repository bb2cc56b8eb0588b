/- Words for memory: rows of structs with slices inside; what is kept. -/
import Derived.Test.YtiddchpkmcncdaaM2
namespace Go.Proofs.Ytiddchpkmcncdaa
open Go.RowKit
set_option linter.unusedSimpArgs false
set_option linter.unusedVariables false
/-- Blocks whose element type is not listed are as they were. -/
structure Kept (L : List TypeId) (w w' : World) : Prop where
  size : w.heap.size ≤ w'.heap.size
  block : ∀ (b : Nat) (cs : Array Value) (e : TypeId) (fr : Nat × Nat), w.heap[b]? = some (Obj.cells cs e fr) → L.contains e = false → w'.heap[b]? = some (Obj.cells cs e fr)
theorem Kept.refl (L : List TypeId) (w : World) : Kept L w w := ⟨Nat.le_refl _, fun _ _ _ _ h _ => h⟩
theorem Kept.trans {L : List TypeId} {a b c : World} (h : Kept L a b) (k : Kept L b c) : Kept L a c :=
  ⟨Nat.le_trans h.size k.size, fun i cs e fr h1 h2 => k.block i cs e fr (h.block i cs e fr h1 h2) h2⟩
theorem Kept.of_below {w w' : World} (L : List TypeId) (h : Below w.heap.size w w') : Kept L w w' :=
  ⟨h.size, fun b cs e fr h1 _ => by rw [h.block b (Array.getElem?_eq_some_iff.1 h1).1]; exact h1⟩
theorem Kept.of_blk {w w' : World} {g : Nat} {t : TypeId} {cs : Array Value} (L : List TypeId) (hb : Blk w g t cs) (h : w.grownBy w' (some g)) (ht : L.contains t = true) : Kept L w w' :=
  ⟨h.size, fun b cs' e fr h1 h2 => by
    rw [h.block b (Array.getElem?_eq_some_iff.1 h1).1 (fun he => by
      injection he with he
      subst he
      unfold Blk at hb
      rw [hb] at h1
      injection h1 with h1
      injection h1 with _ h3
      subst h3
      rw [ht] at h2; cases h2)]
    exact h1⟩
theorem Kept.of_own {w w' : World} {base e size n : Nat} {v : Value} {xs : List Value} (L : List TypeId) (ho : w.ownsRow base e size v n xs) (h : w.grownBy w' v.ownBlock) (ht : L.contains e = true) : Kept L w w' := by
  rcases ho.2 with ⟨rfl, _⟩ | ⟨g', cap, cur, rfl, _, h2, _⟩
  · exact ⟨h.size, fun b cs e' fr h1 _ => by rw [h.block b (Array.getElem?_eq_some_iff.1 h1).1 (by simp [Value.ownBlock])]; exact h1⟩
  · exact Kept.of_blk L (show Blk w g' e cur from h2) h ht
theorem Kept.drewN {L : List TypeId} {a b : World} (h : Kept L a b) (n : Nat) : Kept L a (b.drewN n) := ⟨h.size, h.block⟩
theorem Kept.drew {L : List TypeId} {a b : World} (h : Kept L a b) : Kept L a b.drew := ⟨h.size, h.block⟩
theorem Kept.alloc {L : List TypeId} {a b : World} (h : Kept L a b) (o : Obj) : Kept L a (b.alloc o) := h.trans (Kept.of_below L ((Below.refl _ _).alloc (Nat.le_refl _) o))
theorem Kept.mono {L L' : List TypeId} {a b : World} (h : Kept L a b) (hl : ∀ e, L'.contains e = false → L.contains e = false) : Kept L' a b := ⟨h.size, fun i cs e fr h1 h2 => h.block i cs e fr h1 (hl e h2)⟩
theorem Rd.keep {e : TypeId} {w w' : World} {v : Value} {n : Nat} {xs : List Value} {L : List TypeId} (h : Rd e w v n xs) (k : Kept L w w') (he : L.contains e = false) : Rd e w' v n xs := by
  obtain ⟨A, c, hv, hc, hm, h0 | ⟨b, o, cs, fr, hA, hb, hx⟩⟩ := h
  · exact ⟨A, c, hv, hc, hm, .inl h0⟩
  · exact ⟨A, c, hv, hc, hm, .inr ⟨b, o, cs, fr, hA, k.block b cs e fr hb he, hx⟩⟩
theorem own_keep {e : TypeId} {w w' : World} {v : Value} {n base size : Nat} {xs : List Value} {L : List TypeId} (h : w.ownsRow base e size v n xs) (k : Kept L w w') (he : L.contains e = false) : w'.ownsRow base e size v n xs := by
  obtain ⟨h1, h2 | ⟨g, cap, cur, hv, hg, hh, r⟩⟩ := h
  · exact ⟨h1, .inl h2⟩
  · exact ⟨h1, .inr ⟨g, cap, cur, hv, hg, k.block g cur e (0, 0) hh he, r⟩⟩
theorem Blk.keep {w w' : World} {g : Nat} {t : TypeId} {cs : Array Value} {L : List TypeId} (h : Blk w g t cs) (k : Kept L w w') (he : L.contains t = false) : Blk w' g t cs := k.block g cs t (0, 0) h he
section
variable {α β : Type}
/-- The cells of a row: f x v: the cells of the element x whose inner slices are v. -/
def rowC (f : α → β → List Value) : List α → List β → List Value
  | x :: l, v :: vs => f x v ++ rowC f l vs
  | _, _ => []
theorem rowC_snoc (f : α → β → List Value) : ∀ (l : List α) (vs : List β) (x : α) (v : β), vs.length = l.length → rowC f (l ++ [x]) (vs ++ [v]) = rowC f l vs ++ f x v
  | [], [], x, v, _ => by simp [rowC]
  | a :: l, b :: vs, x, v, h => by
    have := rowC_snoc f l vs x v (by simpa using h)
    simp [rowC, this]
  | [], b :: vs, _, _, h => by simp at h
  | a :: l, [], _, _, h => by simp at h
/-- Each element's inner slices. -/
def RowW (N : World → β → α → Prop) (w : World) (l : List α) (vs : List β) : Prop := vs.length = l.length ∧ ∀ (i : Nat) (x : α) (v : β), l[i]? = some x → vs[i]? = some v → N w v x
theorem RowW.nil (N : World → β → α → Prop) (w : World) : RowW N w [] [] := ⟨rfl, fun i x v h => by simp at h⟩
theorem RowW.imp {N : World → β → α → Prop} {w w' : World} {l : List α} {vs : List β} (h : RowW N w l vs) (hi : ∀ v x, N w v x → N w' v x) : RowW N w' l vs := ⟨h.1, fun i x v h1 h2 => hi _ _ (h.2 i x v h1 h2)⟩
theorem RowW.snoc {N : World → β → α → Prop} {w : World} {l : List α} {vs : List β} {x : α} {v : β} (h : RowW N w l vs) (hv : N w v x) : RowW N w (l ++ [x]) (vs ++ [v]) := by
  refine ⟨by simp [h.1], fun i x' v' h1 h2 => ?_⟩
  rcases Nat.lt_trichotomy i l.length with hi | hi | hi
  · rw [List.getElem?_append_left hi] at h1
    rw [List.getElem?_append_left (by rw [h.1]; exact hi)] at h2
    exact h.2 i x' v' h1 h2
  · subst hi
    rw [List.getElem?_append_right (Nat.le_refl _)] at h1
    rw [← h.1, List.getElem?_append_right (Nat.le_refl _)] at h2
    simp at h1 h2
    subst h1 h2
    exact hv
  · rw [List.getElem?_eq_none (by simp; omega)] at h1
    cases h1
/-- A row of the call's own. -/
def RowOwn (e : TypeId) (size : Nat) (f : α → β → List Value) (N : World → β → α → Prop) (w : World) (base : Nat) (v : Value) (l : List α) : Prop := ∃ vs, RowW N w l vs ∧ w.ownsRow base e size v l.length (rowC f l vs)
/-- A slice that reads so. -/
def RowRd (e : TypeId) (f : α → β → List Value) (N : World → β → α → Prop) (w : World) (v : Value) (l : List α) : Prop := ∃ vs, RowW N w l vs ∧ Rd e w v l.length (rowC f l vs)
variable {e : TypeId} {size base : Nat} {f : α → β → List Value} {N : World → β → α → Prop} {w w' : World} {v : Value} {l : List α} {L : List TypeId}
theorem RowOwn.nil : RowOwn e size f N w base (.slice none 0 0) [] := ⟨[], RowW.nil N w, World.ownsRow_nil _ _ _ _⟩
theorem RowRd.nil : RowRd e f N w (.slice none 0 0) [] := ⟨[], RowW.nil N w, ⟨none, 0, rfl, Nat.le_refl _, Nat.zero_le _, .inl ⟨rfl, rfl⟩⟩⟩
theorem RowOwn.rd (h : RowOwn e size f N w base v l) : RowRd e f N w v l := by
  obtain ⟨vs, h1, h2⟩ := h
  exact ⟨vs, h1, Rd.of_own h2⟩
theorem RowOwn.keep (h : RowOwn e size f N w base v l) (k : Kept L w w') (he : L.contains e = false) (hN : ∀ v x, N w v x → N w' v x) : RowOwn e size f N w' base v l := by
  obtain ⟨vs, h1, h2⟩ := h
  exact ⟨vs, h1.imp hN, own_keep h2 k he⟩
theorem RowRd.keep (h : RowRd e f N w v l) (k : Kept L w w') (he : L.contains e = false) (hN : ∀ v x, N w v x → N w' v x) : RowRd e f N w' v l := by
  obtain ⟨vs, h1, h2⟩ := h
  exact ⟨vs, h1.imp hN, h2.keep k he⟩
theorem RowRd.form (h : RowRd e f N w v l) : ∃ A c, v = .slice A l.length c ∧ l.length ≤ c := by
  obtain ⟨vs, _, h2⟩ := h
  exact h2.form
theorem rowC_get (f : α → β → List Value) (size : Nat) (hf : ∀ x v, (f x v).length = size) : ∀ (l : List α) (vs : List β), vs.length = l.length → ∀ (i : Nat) (x : α) (v : β) (j : Nat), l[i]? = some x → vs[i]? = some v → j < size → (rowC f l vs)[i * size + j]? = (f x v)[j]?
  | [], _, _, i, x, v, j, h, _, _ => by simp at h
  | a :: l, [], h, _, _, _, _, _, _, _ => by simp at h
  | a :: l, b :: vs, h, 0, x, v, j, h1, h2, hj => by
    simp at h1 h2
    subst h1 h2
    simp only [rowC, Nat.zero_mul, Nat.zero_add]
    rw [List.getElem?_append_left (by rw [hf]; exact hj)]
  | a :: l, b :: vs, h, i + 1, x, v, j, h1, h2, hj => by
    have := rowC_get f size hf l vs (by simpa using h) i x v j (by simpa using h1) (by simpa using h2) hj
    simp only [rowC]
    rw [List.getElem?_append_right (by rw [hf, Nat.add_mul]; omega), hf, ← this]
    congr 1
    rw [Nat.add_mul]; omega
theorem rowC_len (f : α → β → List Value) (size : Nat) (hf : ∀ x v, (f x v).length = size) : ∀ (l : List α) (vs : List β), vs.length = l.length → (rowC f l vs).length = l.length * size
  | [], [], _ => by simp [rowC]
  | [], b :: vs, h => by simp at h
  | a :: l, [], h => by simp at h
  | a :: l, b :: vs, h => by
    have := rowC_len f size hf l vs (by simpa using h)
    simp only [rowC, List.length_append, hf, this, List.length_cons, Nat.add_mul]; omega
theorem rowC_drop (f : α → β → List Value) (size : Nat) (hf : ∀ x v, (f x v).length = size) (a : α) (l : List α) (b : β) (vs : List β) : (rowC f (a :: l) (b :: vs)).drop size = rowC f l vs := by
  simp only [rowC]
  rw [List.drop_append_of_le_length (by rw [hf]; exact Nat.le_refl _), List.drop_eq_nil_of_le (by rw [hf]; exact Nat.le_refl _), List.nil_append]
/-- The cells of one element. -/
theorem RowRd.at_ (h : RowRd e f N w v l) (hf : ∀ x u, (f x u).length = size) {i : Nat} {x : α} (hx : l[i]? = some x) : ∃ b o c u, v = .slice (some ⟨b, o, none⟩) l.length c ∧ l.length ≤ c ∧ b < w.heap.size ∧ N w u x ∧ ∀ j y, (f x u)[j]? = some y → w.cell? ⟨b, o + (i * size + j), none⟩ = some y := by
  obtain ⟨vs, h1, h2⟩ := h
  have hi : i < l.length := by
    rcases Nat.lt_or_ge i l.length with h | h
    · exact h
    · rw [List.getElem?_eq_none h] at hx; cases hx
  have hiv : i < vs.length := by rw [h1.1]; exact hi
  obtain ⟨b, o, c, hv, hc, _, hb, hcell⟩ := h2.at_ (by omega)
  refine ⟨b, o, c, vs[i], hv, hc, hb, h1.2 i x _ hx (List.getElem?_eq_getElem hiv), fun j y hy => ?_⟩
  have hj : j < size := by
    rcases Nat.lt_or_ge j size with h | h
    · exact h
    · rw [List.getElem?_eq_none (by rw [hf]; exact h)] at hy; cases hy
  exact hcell _ _ ((rowC_get f size hf l vs h1.1 i x _ j hx (List.getElem?_eq_getElem hiv) hj).trans hy)
/-- Without the first element. -/
theorem RowRd.tail {A : Option Addr} {n c : Nat} {a : α} (h : RowRd e f N w (.slice A n c) (a :: l)) (hf : ∀ x u, (f x u).length = size) : RowRd e f N w (.slice (if c = 1 then A else A.map (·.add size)) (n - 1) (c - 1)) l := by
  obtain ⟨vs, h1, h2⟩ := h
  match vs, h1 with
  | [], h1 => exact absurd h1.1 (by simp)
  | b :: vs, h1 =>
    obtain ⟨A', c', hv, hc, hm, h0⟩ := id h2
    injection hv with hA hn hcc
    subst hn
    refine ⟨vs, ⟨by simpa using h1.1, fun i x v hx hv => h1.2 (i + 1) x v (by simpa using hx) (by simpa using hv)⟩, ?_⟩
    have := Rd.cut h2 size 1 (by simp) (by rw [rowC_len f size hf _ _ h1.1])
    rw [Nat.one_mul, rowC_drop f size hf] at this
    exact this
theorem RowRd.next (h : RowRd e f N w v l) (hb : Below w.heap.size w w') (hN : ∀ v x, N w v x → N w' v x) : RowRd e f N w' v l := h.keep (Kept.of_below [] hb) rfl hN
end
end Go.Proofs.Ytiddchpkmcncdaa
