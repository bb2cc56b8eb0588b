/- Arguments with depth: slices that came in, opened into cells. -/
import Derived.Test.YtiddchpkmcncdaaM4
import Derived.Deep.Slices
import Derived.ChangeArms
import Derived.Lib.SmallJoins
import Derived.Deep.RegionHeld
namespace Go.Proofs.Ytiddchpkmcncdaa
open Go.RowKit Go.Deep
set_option linter.unusedSimpArgs false
set_option linter.unusedVariables false
/-- A slice of n elements whose cells are xs, in whatever block below B. -/
def Ra (B : Nat) (w : World) (v : Value) (n : Nat) (xs : List Value) : Prop :=
  ∃ A c, v = .slice A n c ∧ n ≤ c ∧ c ≤ maxLen ∧ ((n = 0 ∧ xs = []) ∨ ∃ b o, A = some ⟨b, o, none⟩ ∧ b < B ∧ ∀ j u, xs[j]? = some u → w.cell? ⟨b, o + j, none⟩ = some u)
theorem Ra.below {B : Nat} {w w' : World} {v : Value} {n : Nat} {xs : List Value} (h : Ra B w v n xs) (hb : Below B w w') : Ra B w' v n xs := by
  obtain ⟨A, c, hv, hc, hm, h0 | ⟨b, o, hA, hlt, hx⟩⟩ := h
  · exact ⟨A, c, hv, hc, hm, .inl h0⟩
  · exact ⟨A, c, hv, hc, hm, .inr ⟨b, o, hA, hlt, fun j u hu => (hb.cell (p := ⟨b, o + j, none⟩) hlt).trans (hx j u hu)⟩⟩
theorem Ra.at_ {B : Nat} {w : World} {v : Value} {n : Nat} {xs : List Value} (h : Ra B w v n xs) (hn : 0 < n) : ∃ b o c, v = .slice (some ⟨b, o, none⟩) n c ∧ n ≤ c ∧ c ≤ maxLen ∧ b < B ∧ ∀ j u, xs[j]? = some u → w.cell? ⟨b, o + j, none⟩ = some u := by
  obtain ⟨A, c, hv, hc, hm, h0 | ⟨b, o, hA, hlt, hx⟩⟩ := h
  · omega
  · subst hA
    exact ⟨b, o, c, hv, hc, hm, hlt, hx⟩
theorem Ra.form {B : Nat} {w : World} {v : Value} {n : Nat} {xs : List Value} (h : Ra B w v n xs) : ∃ A c, v = .slice A n c ∧ n ≤ c ∧ c ≤ maxLen := by
  obtain ⟨A, c, hv, hc, hm, _⟩ := h
  exact ⟨A, c, hv, hc, hm⟩
section
variable {α β : Type}
/-- A slice that came in, element by element. -/
def RowRa (f : α → β → List Value) (N : World → β → α → Prop) (B : Nat) (w : World) (v : Value) (l : List α) : Prop := ∃ vs, RowW N w l vs ∧ Ra B w v l.length (rowC f l vs)
variable {f : α → β → List Value} {N : World → β → α → Prop} {B : Nat} {w w' : World} {v : Value} {l : List α}
theorem RowRa.below (h : RowRa f N B w v l) (hb : Below B w w') (hN : ∀ v x, N w v x → N w' v x) : RowRa f N B w' v l := by
  obtain ⟨vs, h1, h2⟩ := h
  exact ⟨vs, h1.imp hN, h2.below hb⟩
theorem RowRa.form (h : RowRa f N B w v l) : ∃ A c, v = .slice A l.length c ∧ l.length ≤ c ∧ c ≤ maxLen := by
  obtain ⟨vs, h1, h2⟩ := h
  exact h2.form
/-- The cells of one element. -/
theorem RowRa.at_ {size : Nat} (h : RowRa f N B w v l) (hf : ∀ x u, (f x u).length = size) (h0 : 0 < l.length) : ∃ b o c, v = .slice (some ⟨b, o, none⟩) l.length c ∧ l.length ≤ c ∧ c ≤ maxLen ∧ b < B ∧ ∀ i (hi : i < l.length), ∃ u, N w u l[i] ∧ ∀ j y, (f l[i] u)[j]? = some y → w.cell? ⟨b, o + (i * size + j), none⟩ = some y := by
  obtain ⟨vs, h1, h2⟩ := h
  obtain ⟨b, o, c, hv, hc, hm, hb, hcell⟩ := h2.at_ h0
  refine ⟨b, o, c, hv, hc, hm, hb, fun i hi => ?_⟩
  have hiv : i < vs.length := by rw [h1.1]; exact hi
  refine ⟨vs[i], h1.2 i _ _ (List.getElem?_eq_getElem hi) (List.getElem?_eq_getElem hiv), fun j y hy => ?_⟩
  have hj : j < size := by
    rcases Nat.lt_or_ge j size with h | h
    · exact h
    · rw [List.getElem?_eq_none (by rw [hf]; exact h)] at hy; cases hy
  exact hcell _ _ ((rowC_get f size hf l vs h1.1 i _ _ j (List.getElem?_eq_getElem hi) (List.getElem?_eq_getElem hiv) hj).trans hy)
end
section
variable {α β H : Type} [Inhabited α] [Inhabited β] {enc : TypeId × Value → H} {P : Program} {w : World} {base : Nat} {spare : Nat → Bool} {held : Bool}
theorem open_row {f : α → β → List Value} {N : World → β → α → Prop} {size : Nat} (hf : ∀ x u, (f x u).length = size) (hs : 0 < size) {t e : TypeId} (ht : P.underlying t = some (.slice e)) (ce : P.cellsOf e = size)
    (hE : ∀ n cs y, DataW.trod enc P w base spare held n e cs = some y → cs.length = size → ∃ x u, cs = f x u ∧ N w u x)
    {fuel : Nat} {v : Value} {x : DataW H × List MemPlace} (h : DataW.trod enc P w base spare held fuel t [v] = some x) : ∃ l : List α, RowRa f N w.heap.size w v l := by
  rcases open_slice ht h with ⟨h0, _⟩ | ⟨a, len, cap, m, n, D, Pl, h0, hb, hl, hm, hmm, _, hx⟩
  · injection h0 with h0
    subst h0
    exact ⟨[], [], RowW.nil N w, none, 0, rfl, Nat.le_refl _, Nat.zero_le _, .inl ⟨rfl, rfl⟩⟩
  injection h0 with h0
  subst h0
  have hlm : len ≤ m := by rw [hmm]; split <;> omega
  have each : ∀ i, i < len → ∃ q : α × β, N w q.2 q.1 ∧ ∀ j y, (f q.1 q.2)[j]? = some y → w.cell? ((a.add (i * size)).add j) = some y := by
    intro i hi
    obtain ⟨cs', h1, h2⟩ := hx i (by omega)
    rw [ce] at h1
    obtain ⟨_, hlen, hcell⟩ := World.cells?_some h1
    obtain ⟨x, u, hcs, hN⟩ := hE _ _ _ h2 hlen
    refine ⟨(x, u), hN, fun j y hy => ?_⟩
    have hj : j < size := by
      rcases Nat.lt_or_ge j size with h | h
      · exact h
      · rw [List.getElem?_eq_none (by rw [hf]; exact h)] at hy; cases hy
    have := hcell j hj
    rw [this, hcs]
    exact hy
  obtain ⟨q, hq⟩ := choose_lt each
  let xs : List α := (List.range len).map fun i => (q i).1
  let us : List β := (List.range len).map fun i => (q i).2
  have lx : xs.length = len := by simp [xs]
  have lu : us.length = xs.length := by simp [xs, us]
  have gx : ∀ i, i < len → xs[i]? = some (q i).1 := fun i hi => by simp [xs, hi]
  have gu : ∀ i, i < len → us[i]? = some (q i).2 := fun i hi => by simp [us, hi]
  have hw : RowW N w xs us := by
    refine ⟨lu, fun i x u h1 h2 => ?_⟩
    have hi : i < len := by
      rcases Nat.lt_or_ge i len with h | h
      · exact h
      · rw [List.getElem?_eq_none (by omega)] at h1; cases h1
    rw [gx i hi] at h1
    rw [gu i hi] at h2
    cases h1; cases h2
    exact (hq i hi).1
  refine ⟨xs, us, hw, some a, cap, by rw [lx], by omega, hm, ?_⟩
  rcases Nat.eq_zero_or_pos len with h0 | h0
  · left
    refine ⟨by omega, ?_⟩
    have : xs = [] := List.length_eq_zero_iff.1 (by omega)
    rw [this]; rfl
  right
  have hcell : ∀ j u, (rowC f xs us)[j]? = some u → w.cell? (a.add j) = some u := by
    intro j u hu
    have hlen := rowC_len f size hf xs us lu
    have hj : j < len * size := by
      rcases Nat.lt_or_ge j (len * size) with h | h
      · exact h
      · rw [List.getElem?_eq_none (by rw [hlen, lx]; exact h)] at hu; cases hu
    have hi : j / size < len := (Nat.div_lt_iff_lt_mul hs).2 hj
    have hr : j % size < size := Nat.mod_lt _ hs
    have hjj : j / size * size + j % size = j := Nat.div_add_mod' j size
    have h3 := rowC_get f size hf xs us lu (j / size) _ _ (j % size) (gx _ hi) (gu _ hi) hr
    rw [hjj, hu] at h3
    have h4 := (hq _ hi).2 (j % size) u h3.symm
    rw [add_add, hjj] at h4
    exact h4
  have hfirst : ∃ u, w.cell? a = some u := by
    have hlen := rowC_len f size hf xs us lu
    have hpos : 0 < (rowC f xs us).length := by rw [hlen, lx]; exact Nat.mul_pos h0 hs
    exact ⟨_, hcell 0 _ (List.getElem?_eq_getElem hpos)⟩
  obtain ⟨u0, hu0⟩ := hfirst
  have hspot : a.spot = none ∧ a.block < w.heap.size := by
    unfold World.cell? at hu0
    split at hu0
    · rename_i hh
      refine ⟨?_, (Array.getElem?_eq_some_iff.1 hh).1⟩
      cases hs' : a.spot with
      | none => rfl
      | some k => rw [hs'] at hu0; simp at hu0
    · cases hu0
  obtain ⟨b, o, sp⟩ := a
  obtain ⟨hsp, hbl⟩ := hspot
  simp only at hsp hbl
  subst hsp
  refine ⟨b, o, rfl, hbl, fun j u hu => ?_⟩
  have := hcell j u hu
  rwa [add_off] at this
end
end Go.Proofs.Ytiddchpkmcncdaa
/- Words for memory: lines of whatever package; a struct under construction. -/
namespace Go.Proofs.Ytiddchpkmcncdaa
open Go.RowKit
set_option linter.unusedSimpArgs false
set_option linter.unusedVariables false
/-- p, wt, at, st: the types of pieces, words, assignments, simple commands. -/
def NWp (p : TypeId) (w : World) (v : Value) (ps : Wd) : Prop := Rd p w v ps.length (pcC ps)
def NAp (p : TypeId) (w : World) (v : Value) (a : Asg) : Prop := NWp p w v a.value
def NSp (p wt ta : TypeId) (w : World) (v : V4) (c : Sm) : Prop := RowRd ta asgV (NAp p) w v.a c.asg ∧ RowRd wt wdV (NWp p) w v.b c.words ∧ NWp p w v.c c.inn ∧ NWp p w v.d c.out
def NPp (p wt ta st : TypeId) (w : World) (v : Value) (q : Pl) : Prop := RowRd st smV (NSp p wt ta) w v q.stages
theorem NSp_c : NSp 61 42 140 = NS := rfl
theorem NPp_c : NPp 61 42 140 46 = NP := rfl
section
variable {w w' : World} {L : List TypeId} {p wt ta st : TypeId}
theorem NWp.keep {v : Value} {a : Wd} (h : NWp p w v a) (k : Kept L w w') (h1 : L.contains p = false) : NWp p w' v a := Rd.keep h k h1
theorem NAp.keep {v : Value} {a : Asg} (h : NAp p w v a) (k : Kept L w w') (h1 : L.contains p = false) : NAp p w' v a := Rd.keep h k h1
theorem NSp.keep {v : V4} {c : Sm} (h : NSp p wt ta w v c) (k : Kept L w w') (h1 : L.contains p = false) (h2 : L.contains wt = false) (h3 : L.contains ta = false) : NSp p wt ta w' v c :=
  ⟨RowRd.keep h.1 k h3 (fun _ _ h => NAp.keep h k h1), RowRd.keep h.2.1 k h2 (fun _ _ h => NWp.keep h k h1), NWp.keep h.2.2.1 k h1, NWp.keep h.2.2.2 k h1⟩
theorem NPp.keep {v : Value} {q : Pl} (h : NPp p wt ta st w v q) (k : Kept L w w') (h1 : L.contains p = false) (h2 : L.contains wt = false) (h3 : L.contains ta = false) (h4 : L.contains st = false) : NPp p wt ta st w' v q :=
  RowRd.keep h k h4 (fun _ _ h => NSp.keep h k h1 h2 h3)
theorem NWp.next {v : Value} {a : Wd} (h : NWp p w v a) (hb : Below w.heap.size w w') : NWp p w' v a := h.keep (Kept.of_below [] hb) rfl
theorem NAp.next {v : Value} {a : Asg} (h : NAp p w v a) (hb : Below w.heap.size w w') : NAp p w' v a := h.keep (Kept.of_below [] hb) rfl
theorem NSp.next {v : V4} {c : Sm} (h : NSp p wt ta w v c) (hb : Below w.heap.size w w') : NSp p wt ta w' v c := h.keep (Kept.of_below [] hb) rfl rfl rfl
theorem NPp.next {v : Value} {q : Pl} (h : NPp p wt ta st w v q) (hb : Below w.heap.size w w') : NPp p wt ta st w' v q := h.keep (Kept.of_below [] hb) rfl rfl rfl rfl
end
section
variable {α β : Type} {e : TypeId} {size base : Nat} {f : α → β → List Value} {N : World → β → α → Prop}
theorem RowOwn.next {w w' : World} {v : Value} {l : List α} (h : RowOwn e size f N w base v l) (hb : Below w.heap.size w w') (hN : ∀ v x, N w v x → N w' v x) : RowOwn e size f N w' base v l := h.keep (Kept.of_below [] hb) rfl hN
theorem RowOwn.low {w : World} {b0 : Nat} {v : Value} {l : List α} (h : RowOwn e size f N w base v l) (hb : b0 ≤ base) : RowOwn e size f N w b0 v l := by
  obtain ⟨vs, h1, h2⟩ := h
  exact ⟨vs, h1, own_base h2 hb⟩
/-- An element is appended to the row whose header lies in cell k of block g: W: before the call that made the element; W': before the append; w1: behind it. -/
theorem push_cell {W W' w1 : World} {g k : Nat} {ts : TypeId} {cs : Array Value} {v v' : Value} {l : List α} {vs : List β} {x : α} {u : β}
    (B : Blk W g ts cs) (hne : [e].contains ts = false) (h2 : RowW N W l vs) (h3 : W.ownsRow base e size v l.length (rowC f l vs)) (hb : Below W.heap.size W W') (hk : W'.grownBy w1 v.ownBlock)
    (hown : w1.ownsRow base e size v' (l.length + 1) (rowC f l vs ++ f x u)) (hu : N W' u x) (hN : ∀ (L : List TypeId) (a b : World), Kept L a b → (∀ t ∈ L, t = e ∨ t = ts) → ∀ v x, N a v x → N b v x) :
    Kept [e] W w1 ∧ Kept [ts] w1 (w1.setCell ⟨g, k, none⟩ v') ∧ Blk w1 g ts cs ∧ Blk (w1.setCell ⟨g, k, none⟩ v') g ts (cs.setIfInBounds k v') ∧ RowOwn e size f N (w1.setCell ⟨g, k, none⟩ v') base v' (l ++ [x]) := by
  have ee : [e].contains e = true := by simp
  have K0 : Kept [] W W' := Kept.of_below _ hb
  have K1 : Kept [e] W' w1 := Kept.of_own [e] (own_next h3 hb) hk ee
  have K : Kept [e] W w1 := (Kept.of_below _ hb).trans K1
  have B1 := B.keep K hne
  have K2 : Kept [ts] w1 (w1.setCell ⟨g, k, none⟩ v') := Kept.of_blk [ts] B1 (only_setCell (p := ⟨g, k, none⟩) (World.grownBy.refl _ _) (.inl rfl) _) (by simp)
  refine ⟨K, K2, B1, B1.set_ k v', ?_⟩
  refine RowOwn.keep (RowOwn.push h2 hown (fun v x h => hN _ _ _ K (by simp) v x h) (hN _ _ _ K1 (by simp) u x hu)) K2 ?_ (fun v x h => hN _ _ _ K2 (by simp) v x h)
  simp only [List.contains_cons, List.contains_nil, Bool.or_false] at hne ⊢
  rw [Bool.beq_comm]; exact hne
end
/-- A simple command under construction in block g; its rows lie from base on. -/
def SmB (p wt ta st : TypeId) (base g : Nat) (c : Sm) (w : World) : Prop :=
  ∃ va vb vi vo, Blk w g st #[va, vb, vi, vo, .bool c.app] ∧ RowOwn ta 2 asgV (NAp p) w base va c.asg ∧ RowOwn wt 1 wdV (NWp p) w base vb c.words ∧ NWp p w vi c.inn ∧ NWp p w vo c.out
section
variable {w w' : World} {L : List TypeId} {p wt ta st : TypeId} {base g : Nat} {c : Sm}
theorem SmB.keep (h : SmB p wt ta st base g c w) (k : Kept L w w') (h1 : L.contains p = false) (h2 : L.contains wt = false) (h3 : L.contains ta = false) (h4 : L.contains st = false) : SmB p wt ta st base g c w' := by
  obtain ⟨va, vb, vi, vo, b, ra, rb, ri, ro⟩ := h
  exact ⟨va, vb, vi, vo, b.keep k h4, ra.keep k h3 (fun _ _ h => NAp.keep h k h1), rb.keep k h2 (fun _ _ h => NWp.keep h k h1), ri.keep k h1, ro.keep k h1⟩
theorem SmB.next (h : SmB p wt ta st base g c w) (hb : Below w.heap.size w w') : SmB p wt ta st base g c w' := h.keep (Kept.of_below [] hb) rfl rfl rfl rfl
theorem SmB.lt (h : SmB p wt ta st base g c w) : g < w.heap.size := by
  obtain ⟨va, vb, vi, vo, b, _⟩ := h
  exact b.lt
/-- A simple command of nothing but what is there at its beginning. -/
theorem SmB.new {vi vo : Value} {inn out : Wd} {ap : Bool} (hb : Blk w g st #[.slice none 0 0, .slice none 0 0, vi, vo, .bool ap]) (hi : NWp p w vi inn) (ho : NWp p w vo out) : SmB p wt ta st base g ⟨[], [], inn, out, ap⟩ w :=
  ⟨_, _, vi, vo, hb, RowOwn.nil, RowOwn.nil, hi, ho⟩
/-- The cells of what is built. -/
theorem SmB.cells (h : SmB p wt ta st base g c w) : ∃ u : V4, Blk w g st (smV c u).toArray ∧ NSp p wt ta w u c := by
  obtain ⟨va, vb, vi, vo, b, ra, rb, ri, ro⟩ := h
  exact ⟨⟨va, vb, vi, vo⟩, b, ra.rd, rb.rd, ri, ro⟩
theorem contains_two {e ts : TypeId} {L : List TypeId} {t : TypeId} (hL : ∀ x ∈ L, x = e ∨ x = ts) (h1 : t ≠ e) (h2 : t ≠ ts) : L.contains t = false := by
  rw [Bool.eq_false_iff]
  intro hc
  rw [List.contains_iff_mem] at hc
  rcases hL _ hc with h | h
  · exact h1 h
  · exact h2 h
end
/-- An assignment is appended. -/
theorem SmB.pushA {W W' w1 : World} {p wt ta st : TypeId} {base g : Nat} {c : Sm} {va vb vi vo v' u : Value} {vs : List Value} {nm : Bs} {val : Wd}
    (d1 : p ≠ ta) (d2 : p ≠ st) (d3 : wt ≠ ta) (d4 : wt ≠ st) (d5 : st ≠ ta)
    (B : Blk W g st #[va, vb, vi, vo, .bool c.app]) (h2 : RowW (NAp p) W c.asg vs) (h3 : W.ownsRow base ta 2 va c.asg.length (rowC asgV c.asg vs)) (rb : RowOwn wt 1 wdV (NWp p) W base vb c.words) (ri : NWp p W vi c.inn) (ro : NWp p W vo c.out)
    (hb : Below W.heap.size W W') (hk : W'.grownBy w1 va.ownBlock) (hown : w1.ownsRow base ta 2 v' (c.asg.length + 1) (rowC asgV c.asg vs ++ [.string (bs nm), u])) (hu : NWp p W' u val) :
    SmB p wt ta st base g { c with asg := c.asg ++ [⟨nm, val⟩] } (w1.setCell ⟨g, 0, none⟩ v') ∧ Blk w1 g st #[va, vb, vi, vo, .bool c.app] := by
  have ct := @contains_two ta st
  obtain ⟨K, K2, B1, B2, R⟩ := push_cell (k := 0) (x := (⟨nm, val⟩ : Asg)) B (by simp; exact d5) h2 h3 hb hk hown hu (fun L a b k hL v x h => NAp.keep h k (ct hL d1 d2))
  have cA : ∀ t, t ≠ ta → [ta].contains t = false := fun t h => by simpa using h
  have cS : ∀ t, t ≠ st → [st].contains t = false := fun t h => by simpa using h
  exact ⟨⟨v', vb, vi, vo, blk_cast B2 rfl, R, (rb.keep K (cA _ d3) (fun _ _ h => NWp.keep h K (cA _ d1))).keep K2 (cS _ d4) (fun _ _ h => NWp.keep h K2 (cS _ d2)), (ri.keep K (cA _ d1)).keep K2 (cS _ d2), (ro.keep K (cA _ d1)).keep K2 (cS _ d2)⟩, B1⟩
/-- A word is appended. -/
theorem SmB.pushW {W W' w1 : World} {p wt ta st : TypeId} {base g : Nat} {c : Sm} {va vb vi vo v' u : Value} {vs : List Value} {val : Wd}
    (d1 : p ≠ wt) (d2 : p ≠ st) (d3 : ta ≠ wt) (d4 : ta ≠ st) (d5 : st ≠ wt)
    (B : Blk W g st #[va, vb, vi, vo, .bool c.app]) (h2 : RowW (NWp p) W c.words vs) (h3 : W.ownsRow base wt 1 vb c.words.length (rowC wdV c.words vs)) (ra : RowOwn ta 2 asgV (NAp p) W base va c.asg) (ri : NWp p W vi c.inn) (ro : NWp p W vo c.out)
    (hb : Below W.heap.size W W') (hk : W'.grownBy w1 vb.ownBlock) (hown : w1.ownsRow base wt 1 v' (c.words.length + 1) (rowC wdV c.words vs ++ [u])) (hu : NWp p W' u val) :
    SmB p wt ta st base g { c with words := c.words ++ [val] } (w1.setCell ⟨g, 1, none⟩ v') ∧ Blk w1 g st #[va, vb, vi, vo, .bool c.app] := by
  have ct := @contains_two wt st
  obtain ⟨K, K2, B1, B2, R⟩ := push_cell (k := 1) (x := val) B (by simp; exact d5) h2 h3 hb hk hown hu (fun L a b k hL v x h => NWp.keep h k (ct hL d1 d2))
  have cA : ∀ t, t ≠ wt → [wt].contains t = false := fun t h => by simpa using h
  have cS : ∀ t, t ≠ st → [st].contains t = false := fun t h => by simpa using h
  exact ⟨⟨va, v', vi, vo, blk_cast B2 rfl, (ra.keep K (cA _ d3) (fun _ _ h => NAp.keep h K (cA _ d1))).keep K2 (cS _ d4) (fun _ _ h => NAp.keep h K2 (cS _ d2)), R, (ri.keep K (cA _ d1)).keep K2 (cS _ d2), (ro.keep K (cA _ d1)).keep K2 (cS _ d2)⟩, B1⟩
/-- A pipeline under construction in block g. -/
def PlB (p wt ta st qt : TypeId) (base g : Nat) (q : Pl) (w : World) : Prop :=
  ∃ v, Blk w g qt #[.int .i64 q.wh, v] ∧ RowOwn st 5 smV (NSp p wt ta) w base v q.stages
/-- A line under construction in block g. -/
def LnB (p wt ta st qt lt : TypeId) (base g : Nat) (l : Ln) (w : World) : Prop :=
  ∃ v, Blk w g lt #[v, .bool l.bg] ∧ RowOwn qt 2 plV (NPp p wt ta st) w base v l.parts
section
variable {w w' : World} {L : List TypeId} {p wt ta st qt lt : TypeId} {base g : Nat}
theorem PlB.keep {q : Pl} (h : PlB p wt ta st qt base g q w) (k : Kept L w w') (h1 : L.contains p = false) (h2 : L.contains wt = false) (h3 : L.contains ta = false) (h4 : L.contains st = false) (h5 : L.contains qt = false) : PlB p wt ta st qt base g q w' := by
  obtain ⟨v, b, r⟩ := h
  exact ⟨v, b.keep k h5, r.keep k h4 (fun _ _ h => NSp.keep h k h1 h2 h3)⟩
theorem PlB.next {q : Pl} (h : PlB p wt ta st qt base g q w) (hb : Below w.heap.size w w') : PlB p wt ta st qt base g q w' := h.keep (Kept.of_below [] hb) rfl rfl rfl rfl rfl
theorem LnB.keep {l : Ln} (h : LnB p wt ta st qt lt base g l w) (k : Kept L w w') (h1 : L.contains p = false) (h2 : L.contains wt = false) (h3 : L.contains ta = false) (h4 : L.contains st = false) (h5 : L.contains qt = false) (h6 : L.contains lt = false) : LnB p wt ta st qt lt base g l w' := by
  obtain ⟨v, b, r⟩ := h
  exact ⟨v, b.keep k h6, r.keep k h5 (fun _ _ h => NPp.keep h k h1 h2 h3 h4)⟩
theorem LnB.next {l : Ln} (h : LnB p wt ta st qt lt base g l w) (hb : Below w.heap.size w w') : LnB p wt ta st qt lt base g l w' := h.keep (Kept.of_below [] hb) rfl rfl rfl rfl rfl rfl
theorem PlB.inb {q : Pl} (h : PlB p wt ta st qt base g q w) : g < w.heap.size := by
  obtain ⟨v, b, _⟩ := h
  exact b.lt
theorem LnB.inb {l : Ln} (h : LnB p wt ta st qt lt base g l w) : g < w.heap.size := by
  obtain ⟨v, b, _⟩ := h
  exact b.lt
theorem PlB.new {wh : Int} (hb : Blk w g qt #[.int .i64 wh, .slice none 0 0]) : PlB p wt ta st qt base g ⟨wh, []⟩ w := ⟨_, hb, RowOwn.nil⟩
theorem LnB.new {bg : Bool} (hb : Blk w g lt #[.slice none 0 0, .bool bg]) : LnB p wt ta st qt lt base g ⟨[], bg⟩ w := ⟨_, hb, RowOwn.nil⟩
theorem PlB.cells {q : Pl} (h : PlB p wt ta st qt base g q w) : ∃ u, Blk w g qt #[.int .i64 q.wh, u] ∧ NPp p wt ta st w u q := by
  obtain ⟨v, b, r⟩ := h
  exact ⟨v, b, r.rd⟩
end
/-- A stage is appended. -/
theorem PlB.push {W W' w1 : World} {p wt ta st qt : TypeId} {base g : Nat} {q : Pl} {v v' : Value} {vs : List V4} {x : Sm} {u : V4}
    (d1 : p ≠ st) (d2 : p ≠ qt) (d3 : wt ≠ st) (d4 : wt ≠ qt) (d5 : ta ≠ st) (d6 : ta ≠ qt) (d7 : qt ≠ st)
    (B : Blk W g qt #[.int .i64 q.wh, v]) (h2 : RowW (NSp p wt ta) W q.stages vs) (h3 : W.ownsRow base st 5 v q.stages.length (rowC smV q.stages vs))
    (hb : Below W.heap.size W W') (hk : W'.grownBy w1 v.ownBlock) (hown : w1.ownsRow base st 5 v' (q.stages.length + 1) (rowC smV q.stages vs ++ smV x u)) (hu : NSp p wt ta W' u x) :
    PlB p wt ta st qt base g { q with stages := q.stages ++ [x] } (w1.setCell ⟨g, 1, none⟩ v') ∧ Blk w1 g qt #[.int .i64 q.wh, v] ∧ Kept [st] W w1 ∧ Kept [qt] w1 (w1.setCell ⟨g, 1, none⟩ v') := by
  have ct := @contains_two st qt
  obtain ⟨K, K2, B1, B2, R⟩ := push_cell (k := 1) (x := x) B (by simp; exact d7) h2 h3 hb hk hown hu (fun L a b k hL v x h => NSp.keep h k (ct hL d1 d2) (ct hL d3 d4) (ct hL d5 d6))
  exact ⟨⟨v', blk_cast B2 rfl, R⟩, B1, K, K2⟩
/-- A part is appended. -/
theorem LnB.push {W W' w1 : World} {p wt ta st qt lt : TypeId} {base g : Nat} {l : Ln} {v v' : Value} {vs : List Value} {x : Pl} {u : Value}
    (d1 : p ≠ qt) (d2 : p ≠ lt) (d3 : wt ≠ qt) (d4 : wt ≠ lt) (d5 : ta ≠ qt) (d6 : ta ≠ lt) (d7 : st ≠ qt) (d8 : st ≠ lt) (d9 : lt ≠ qt)
    (B : Blk W g lt #[v, .bool l.bg]) (h2 : RowW (NPp p wt ta st) W l.parts vs) (h3 : W.ownsRow base qt 2 v l.parts.length (rowC plV l.parts vs))
    (hb : Below W.heap.size W W') (hk : W'.grownBy w1 v.ownBlock) (hown : w1.ownsRow base qt 2 v' (l.parts.length + 1) (rowC plV l.parts vs ++ [.int .i64 x.wh, u])) (hu : NPp p wt ta st W' u x) :
    LnB p wt ta st qt lt base g { l with parts := l.parts ++ [x] } (w1.setCell ⟨g, 0, none⟩ v') ∧ Blk w1 g lt #[v, .bool l.bg] := by
  have ct := @contains_two qt lt
  obtain ⟨K, K2, B1, B2, R⟩ := push_cell (k := 0) (x := x) B (by simp; exact d9) h2 h3 hb hk hown hu (fun L a b k hL v x h => NPp.keep h k (ct hL d1 d2) (ct hL d3 d4) (ct hL d5 d6) (ct hL d7 d8))
  exact ⟨⟨v', blk_cast B2 rfl, R⟩, B1⟩
end Go.Proofs.Ytiddchpkmcncdaa
/- A region that draws its order and ends in one operation for which all others come first: the others under one condition on the world, the last one by itself. -/
namespace Go.Proofs.Ytiddchpkmcncdaa
section
variable {P : Program} {ops : Array Oper} {Q : Exit → Act → World → Prop} {md : Region.Mode} {st : Nat}
def aft (ops : Array Oper) (j : Nat) : Array Edge := ((ops[j]?).map (·.after)).getD #[]
/-- Nobody waits for st; everybody else is waited for by a later one. -/
def lastOk (md : Region.Mode) (ops : Array Oper) (st : Nat) : Bool :=
  decide (st < ops.size) && (List.range ops.size).all fun j =>
    ((aft ops j).toList.all fun e => !Region.binds md e || (decide (e.on < j) && !decide (e.on = st))) &&
    (decide (j = st) || (List.range ops.size).any fun k => decide (j < k) && (aft ops k).toList.any fun e => Region.binds md e && decide (e.on = j))
theorem aft_of {j : Nat} {o : Oper} (h : ops[j]? = some o) : aft ops j = o.after := by unfold aft; rw [h]; rfl
theorem last_spec (h : lastOk md ops st = true) : st < ops.size ∧ ∀ j, j < ops.size → (∀ e ∈ aft ops j, Region.binds md e = true → e.on < j ∧ e.on ≠ st) ∧ (j ≠ st → ∃ k, k < ops.size ∧ j < k ∧ ∃ e ∈ aft ops k, Region.binds md e = true ∧ e.on = j) := by
  unfold lastOk at h
  rw [Bool.and_eq_true, decide_eq_true_eq, List.all_eq_true] at h
  refine ⟨h.1, fun j hj => ?_⟩
  have h2 := h.2 j (List.mem_range.2 hj)
  rw [Bool.and_eq_true, List.all_eq_true, Bool.or_eq_true, decide_eq_true_eq, List.any_eq_true] at h2
  refine ⟨fun e he hb => ?_, fun hne => ?_⟩
  · have := h2.1 e (by simpa using he)
    rw [hb] at this
    simpa using this
  · rcases h2.2 with h3 | ⟨k, hk, h3⟩
    · exact absurd h3 hne
    · rw [Bool.and_eq_true, decide_eq_true_eq, List.any_eq_true] at h3
      obtain ⟨hjk, e, he, h4⟩ := h3
      rw [Bool.and_eq_true, decide_eq_true_eq] at h4
      exact ⟨k, List.mem_range.1 hk, hjk, e, by simpa using he, h4⟩
def Closed (md : Region.Mode) (ops : Array Oper) (listed : Array Bool) : Prop :=
  listed.size = ops.size ∧ ∀ k, k < ops.size → listed.getD k false = true → ∀ e ∈ aft ops k, Region.binds md e = true → listed.getD e.on false = true
theorem Closed.set {listed : Array Bool} {i : Nat} (h : Closed md ops listed) (hi : i ∈ Region.ready md ops listed) : Closed md ops (listed.setIfInBounds i true) := by
  refine ⟨by simp [h.1], fun k hk hl e he hb => ?_⟩
  by_cases hik : i = k
  · subst hik
    obtain ⟨_, o, ho, hall⟩ := mem_ready.1 hi
    rw [aft_of ho] at he
    exact getD_set_true (hall e he hb)
  · rw [getD_set_ne false hik] at hl
    exact getD_set_true (h.2 k hk hl e he hb)
theorem getD_true_false {listed : Array Bool} {j : Nat} (hj : j < listed.size) : listed.getD j true = listed.getD j false := by
  simp [Array.getD, hj]
theorem all_before (hl : lastOk md ops st = true) {listed : Array Bool} (hc : Closed md ops listed) (hr : st ∈ Region.ready md ops listed) : ∀ n j, j < ops.size → ops.size - j ≤ n → j ≠ st → listed.getD j false = true
  | 0, j, hj, hn, _ => by omega
  | n + 1, j, hj, hn, hne => by
    obtain ⟨k, hk, hjk, e, he, hb, rfl⟩ := ((last_spec hl).2 j hj).2 hne
    by_cases hks : k = st
    · subst hks
      obtain ⟨_, o, ho, hall⟩ := mem_ready.1 hr
      rw [aft_of ho] at he
      exact hall e he hb
    · exact hc.2 k hk (all_before hl hc hr n k hk (by omega) hks) e he hb
theorem all_listed (hl : lastOk md ops st = true) {listed : Array Bool} (hsz : listed.size = ops.size) (hr : ∀ j, j ≠ st → j ∉ Region.ready md ops listed) : ∀ j, j < ops.size → j ≠ st → listed.getD j false = true := by
  intro j
  induction j using Nat.strongRecOn with
  | _ j ih =>
    intro hj hne
    cases hlj : listed.getD j false with
    | true => rfl
    | false =>
      refine absurd ?_ (hr j hne)
      rw [mem_ready]
      refine ⟨by rw [getD_true_false (by omega)]; exact hlj, ops[j], Array.getElem?_eq_getElem hj, fun e he hb => ?_⟩
      have := ((last_spec hl).2 j hj).1 e (by rw [aft_of (Array.getElem?_eq_getElem hj)]; exact he) hb
      exact ih e.on this.1 (by omega) this.2
theorem ready_set (hl : lastOk md ops st = true) {listed : Array Bool} {j : Nat} (hne : j ≠ st) : j ∈ Region.ready md ops (listed.setIfInBounds st true) ↔ j ∈ Region.ready md ops listed := by
  rw [mem_ready, mem_ready, getD_set_ne true (Ne.symm hne)]
  refine and_congr Iff.rfl ⟨fun ⟨o, ho, h⟩ => ⟨o, ho, fun e he hb => ?_⟩, fun ⟨o, ho, h⟩ => ⟨o, ho, fun e he hb => getD_set_true (h e he hb)⟩⟩
  have hj : j < ops.size := (Array.getElem?_eq_some_iff.1 ho).1
  have := ((last_spec hl).2 j hj).1 e (by rw [aft_of ho]; exact he) hb
  rw [← getD_set_ne false (Ne.symm this.2)]
  exact h e he hb
/-- Behind all but the last one: the last one. -/
def LastQ (P : Program) (ops : Array Oper) (Q : Exit → Act → World → Prop) (st : Nat) : Exit → Act → World → Prop
  | .normal, a, w => wpOp P ops Q st (Q .normal) a w
  | e, a, w => Q e a w
theorem wpOp_lastQ {i : Nat} {K : Act → World → Prop} {a : Act} {w : World} (h : wpOp P ops (LastQ P ops Q st) i K a w) : wpOp P ops Q i K a w := by
  unfold wpOp at *
  split
  · simpa [*] using h
  · rename_i o ho
    simp only [ho] at h
    split
    · rename_i hw
      simp only [hw, if_true] at h
      rcases h with h | ⟨h1, a', w', h2⟩
      · left
        unfold Oper.wp at *
        generalize (execOp a.eval o).run P w = r at *
        cases r with
        | ok n w' =>
          cases n <;> simp only [Oper.upon] at h ⊢ <;>
            first
              | exact h
              | exact Calls.mono h (fun e w'' he => by cases e <;> exact he)
              | exact Rows.mono h (fun _ _ he => he)
        | halt x w' => cases x <;> simp only [Oper.upon] at h ⊢ <;> exact h
      · exact .inr ⟨h1, a', w', h2⟩
    · rename_i hw
      simp only [hw] at h
      exact h
theorem ready_nil {listed : Array Bool} (h : ∀ j, j < ops.size → listed.getD j false = true) (hsz : listed.size = ops.size) : Region.ready md ops listed = [] := by
  refine List.eq_nil_iff_forall_not_mem.2 fun j hj => ?_
  obtain ⟨h0, o, ho, _⟩ := mem_ready.1 hj
  have hlt : j < ops.size := (Array.getElem?_eq_some_iff.1 ho).1
  rw [getD_true_false (by omega), h j hlt] at h0
  cases h0
theorem wpAny_end {fuel : Nat} {listed : Array Bool} {a : Act} {w : World} (hr : Region.ready md ops listed = []) (h : Q .normal a w) : wpAny P md ops Q fuel listed a w := by
  cases fuel with
  | zero => exact ⟨hr, h⟩
  | succ n => exact ⟨fun _ => h, by rw [hr]; simp⟩
theorem wpAny_last (hl : lastOk md ops st = true) : ∀ (fuel : Nat) (listed : Array Bool) (a : Act) (w : World), Closed md ops listed → listed.getD st true = false →
    wpAny P md ops (LastQ P ops Q st) fuel (listed.setIfInBounds st true) a w → wpAny P md ops Q (fuel + 1) listed a w := by
  intro fuel
  induction fuel with
  | zero =>
    intro listed a w hc hs h
    have hstl := (last_spec hl).1
    have hall := all_listed hl (listed := listed) hc.1 (fun j hne hj => by
      have := (ready_set hl (listed := listed) hne).2 hj
      rw [h.1] at this; cases this)
    have hrdy : st ∈ Region.ready md ops listed := by
      rw [mem_ready]
      refine ⟨hs, ops[st], Array.getElem?_eq_getElem hstl, fun e he hb => ?_⟩
      have := ((last_spec hl).2 st hstl).1 e (by rw [aft_of (Array.getElem?_eq_getElem hstl)]; exact he) hb
      exact hall e.on (by omega) this.2
    refine ⟨fun h0 => (by rw [h0] at hrdy; cases hrdy), fun i hi => ?_⟩
    by_cases hne : i = st
    · subst hne
      refine wpOp_mono (fun a' w' h' => wpAny_end (ready_nil (fun j hj => ?_) (by simp [hc.1])) h') h.2
      by_cases hji : j = i
      · subst hji; simp [Array.getD, hc.1, hj]
      · rw [getD_set_ne false (Ne.symm hji)]; exact hall j hj hji
    · have := (ready_set hl (listed := listed) hne).2 hi
      rw [h.1] at this; cases this
  | succ fuel ih =>
    intro listed a w hc hs h
    have hstl := (last_spec hl).1
    have fin : st ∈ Region.ready md ops listed → wpOp P ops Q st (wpAny P md ops Q (fuel + 1) (listed.setIfInBounds st true)) a w := by
      intro hr
      have hall := fun j hj hne => all_before hl hc hr (ops.size - j) j hj (Nat.le_refl _) hne
      have hn : Region.ready md ops (listed.setIfInBounds st true) = [] := ready_nil (fun j hj => by
        by_cases hji : j = st
        · subst hji; simp [Array.getD, hc.1, hj]
        · rw [getD_set_ne false (Ne.symm hji)]; exact hall j hj hji) (by simp [hc.1])
      exact wpOp_mono (fun a' w' h' => wpAny_end hn h') (h.1 hn)
    refine ⟨fun h0 => ?_, fun i hi => ?_⟩
    · exfalso
      have hall := all_listed hl (listed := listed) hc.1 (fun j _ hj => by rw [h0] at hj; cases hj)
      have hrdy : st ∈ Region.ready md ops listed := by
        rw [mem_ready]
        refine ⟨hs, ops[st], Array.getElem?_eq_getElem hstl, fun e he hb => ?_⟩
        have := ((last_spec hl).2 st hstl).1 e (by rw [aft_of (Array.getElem?_eq_getElem hstl)]; exact he) hb
        exact hall e.on (by omega) this.2
      rw [h0] at hrdy; cases hrdy
    · by_cases hne : i = st
      · subst hne; exact fin hi
      · have h1 := h.2 i ((ready_set hl hne).2 hi)
        refine wpOp_mono (fun a' w' h' => ih _ a' w' (hc.set hi) (by rw [getD_set_ne true hne]; exact hs) ?_) (wpOp_lastQ h1)
        rw [Array.setIfInBounds_comm _ _ hne]
        exact h'
/-- The beginning. -/
theorem wp_region_last {S : World → Prop} {id : Nat} {a : Act} {w : World} (st : Nat) (n : Nat) (hn : ops.size = n + 1) (hl : lastOk .any ops st = true) (hm : P.follows .mixedOrders = true) (hS : S w.drew)
    (h : S w.drew → wpAnyH P .any ops (LastQ P ops Q st) S n ((Array.replicate (n + 1) false).setIfInBounds st true) a w.drew) : (Code.region id ops true).wp P Q a w := by
  refine wp_region_any hm ?_
  rw [hn]
  have hc : Closed .any ops (Array.replicate (n + 1) false) := by
    refine ⟨by simp [hn], fun k hk hlk => ?_⟩
    rw [hn] at hk
    simp [Array.getD, hk] at hlk
  refine wpAny_last hl n _ a _ hc ?_ (wpAny_of_held _ _ _ _ (h hS))
  have := (last_spec hl).1
  rw [hn] at this
  simp [Array.getD, this]
theorem lastQ_step {o : Oper} {a : Act} {w : World} (ho : ops[st]? = some o)
    (h : ∀ K' : Act → World → Prop, (∀ a w, Q .normal a w → K' a w) → if Region.wanted o (yielded ops a.tmps) = true then Oper.wp P o a w K' Q else K' (a.put o.dst undef) w) : LastQ P ops Q st .normal a w :=
  wpOp_step ho h
end
end Go.Proofs.Ytiddchpkmcncdaa
