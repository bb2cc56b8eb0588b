/- Walks of layer 41: line. -/
import Derived.Test.YtiddchpkmcncdaaX19
namespace Go.Proofs.Ytiddchpkmcncdaa
open Go.RowKit
set_option linter.unusedSimpArgs false
set_option linter.unusedVariables false
/-- A line that is nothing. -/
abbrev zL : Obj := .cells #[.slice none 0 0, .bool false] 24
theorem NP.next {w w' : World} {v : Value} {q : Pl} (h : NP w v q) (hb : Below w.heap.size w w') : NP w' v q := h.keep (Kept.of_below [] hb) rfl rfl rfl rfl
/-- The parser and the line at which it works. -/
def LSt (w0 : World) (pb lb : Nat) (ts : List Tk) (en : Nat) (wh er : Int) (ps : List Pl) (bg : Bool) (w : World) : Prop :=
  PAt w pb ts en wh er ∧ (∃ vp, Blk w lb 24 #[vp, .bool bg] ∧ RowOwn 49 2 plV NP w w0.heap.size vp ps) ∧ w0.grownBy w (some pb) ∧ pb < w0.heap.size ∧ w0.heap.size ≤ lb
theorem RowOwn49.keep {w w' : World} {base : Nat} {v : Value} {l : List Pl} {L : List TypeId} (h : RowOwn 49 2 plV NP w base v l) (k : Kept L w w') (h0 : L.contains 49 = false) (h1 : L.contains 61 = false) (h2 : L.contains 140 = false) (h3 : L.contains 42 = false) (h4 : L.contains 46 = false) : RowOwn 49 2 plV NP w' base v l :=
  RowOwn.keep h k h0 (fun _ _ h => NP.keep h k h1 h2 h3 h4)
section
variable {w0 w w' : World} {pb lb en : Nat} {ts ts' : List Tk} {wh er wh' er' : Int} {ps : List Pl} {bg : Bool}
theorem LSt.step (h : LSt w0 pb lb ts en wh er ps bg w) (k : Kept [89] w w') (hp : PAt w' pb ts' en wh' er') (hg : w0.grownBy w' (some pb)) : LSt w0 pb lb ts' en wh' er' ps bg w' := by
  obtain ⟨h1, ⟨vp, b, r⟩, h3, h4, h5⟩ := h
  exact ⟨hp, ⟨vp, b.keep k rfl, RowOwn49.keep r k rfl rfl rfl rfl rfl⟩, hg, h4, h5⟩
theorem LSt.par (h : LSt w0 pb lb ts en wh er ps bg w) (hg : w.grownBy w' (some pb)) (hp : PAt w' pb ts' en wh' er') : LSt w0 pb lb ts' en wh' er' ps bg w' :=
  h.step (h.1.kept hg) hp (grown_trans h.2.2.1 hg)
theorem LSt.next (h : LSt w0 pb lb ts en wh er ps bg w) (hb : Below w.heap.size w w') : LSt w0 pb lb ts en wh er ps bg w' :=
  h.step (Kept.of_below _ hb) (h.1.next hb) (grown_trans h.2.2.1 (only_of_below hb _))
theorem LSt.bgr (h : LSt w0 pb lb ts en wh er ps bg w) : LSt w0 pb lb ts en wh er ps true (w.setCell ⟨lb, 1, none⟩ (.bool true)) := by
  obtain ⟨h1, ⟨vp, b, r⟩, h3, h4, h5⟩ := h
  have K : Kept [24] w (w.setCell ⟨lb, 1, none⟩ (.bool true)) := Kept.of_blk [24] b (only_setCell (p := ⟨lb, 1, none⟩) (World.grownBy.refl _ _) (.inl rfl) _) rfl
  exact ⟨h1.keep K rfl rfl rfl, ⟨vp, blk_cast (b.set_ 1 _) rfl, RowOwn49.keep r K rfl rfl rfl rfl rfl⟩, only_setCell (p := ⟨lb, 1, none⟩) h3 (.inr h5) _, h4, h5⟩
/-- A part is appended. -/
theorem LSt.push {W W' w1 : World} {vp v' u : Value} {vs : List Value} {q : Pl} (hP : PAt W pb ts en wh er) (B : Blk W lb 24 #[vp, .bool bg]) (h2 : RowW NP W ps vs) (h3 : W.ownsRow w0.heap.size 49 2 vp ps.length (rowC plV ps vs)) (hg : w0.grownBy W (some pb)) (hp : pb < w0.heap.size) (hc : w0.heap.size ≤ lb)
    (hb : Below W.heap.size W W') (hk : W'.grownBy w1 vp.ownBlock) (hown : w1.ownsRow w0.heap.size 49 2 v' (ps.length + 1) (rowC plV ps vs ++ [.int .i64 q.wh, u])) (hu : NP W u q) :
    LSt w0 pb lb ts en wh er (ps ++ [q]) bg (w1.setCell ⟨lb, 0, none⟩ v') ∧ Blk w1 lb 24 #[vp, .bool bg] := by
  have K : Kept [49] W w1 := (Kept.of_below _ hb).trans (Kept.of_own [49] (own_next h3 hb) hk rfl)
  have B1 := B.keep K rfl
  have g1 : w1.grownBy (w1.setCell ⟨lb, 0, none⟩ v') (some lb) := only_setCell (p := ⟨lb, 0, none⟩) (World.grownBy.refl _ _) (.inl rfl) _
  have K2 : Kept [24] w1 (w1.setCell ⟨lb, 0, none⟩ v') := Kept.of_blk [24] B1 g1 rfl
  have a1 : w0.grownBy w1 (some pb) := only_row (grown_trans hg (only_of_below hb _)) hk (fun i e => own_ge h3 e)
  have rA := RowOwn49.keep (RowOwn.push (f := plV) (x := q) (u := u) h2 hown (fun _ _ h => NP.keep h K rfl rfl rfl rfl) (hu.keep K rfl rfl rfl rfl)) K2 rfl rfl rfl rfl rfl
  exact ⟨⟨(hP.keep K rfl rfl rfl).keep K2 rfl rfl rfl, ⟨v', blk_cast (B1.set_ 0 v') rfl, rA⟩, only_setCell (p := ⟨lb, 0, none⟩) a1 (.inr hc) _, hp, hc⟩, B1⟩
end
theorem lst_begin {w : World} {pb en : Nat} {ts : List Tk} (h : PAt w pb ts en 0 0) : LSt (w.alloc zL) pb (w.heap.size + 1) ts en 0 0 [] false ((w.alloc zL).alloc zL) := by
  have hb : Below w.heap.size w ((w.alloc zL).alloc zL) := ((Below.refl _ _).alloc (Nat.le_refl _) _).alloc (by simp) _
  refine ⟨h.next hb, ⟨.slice none 0 0, ?_, RowOwn.nil⟩, only_alloc (World.grownBy.refl _ _) _, ?_, by simp⟩
  · have := Blk.new (w.alloc zL) 24 #[.slice none 0 0, .bool false]
    simpa using this
  · have := h.lt
    simp; omega
theorem ln_cells {w0 w : World} {pb lb en : Nat} {ts : List Tk} {wh er : Int} {ps : List Pl} {bg : Bool} (h : LSt w0 pb lb ts en wh er ps bg w) : ∃ A c, Blk w lb 24 #[.slice A ps.length c, .bool bg] ∧ RowRd 49 plV NP w (.slice A ps.length c) ps := by
  obtain ⟨h1, ⟨vp, b, r⟩, h3, h4, h5⟩ := h
  obtain ⟨A, c, rfl, _⟩ := r.rd.form
  exact ⟨A, c, b, r.rd⟩
theorem ln_res {w W : World} {pb lb en : Nat} {ts : List Tk} {wh er : Int} {ps : List Pl} {bg : Bool} (h : LSt (w.alloc zL) pb lb ts en wh er ps bg W) (hp : pb < w.heap.size) : Blk W w.heap.size 24 #[.slice none 0 0, .bool false] :=
  (Blk.new w 24 _).grown h.2.2.1 (by intro e; injection e with e; omega)
/-- What line gives. -/
def LinP (w : World) (pb en : Nat) (ts : List Tk) (r : Ending) (w' : World) : Prop :=
  ∃ v l, r = .returned (.agg #[v, .bool (Ln.bg l)]) ∧ RowRd 49 plV NP w' v l.parts ∧ w.grownBy w' (some pb) ∧
    ((linS en 16 ts 0 [] = .ok l ∧ ∃ ts', PAt w' pb ts' en 0 0) ∨ ∃ q e, linS en 16 ts 0 [] = .err q e ∧ e ≠ 0 ∧ PAt w' pb [] en q e)
theorem line_end {w W w' : World} {pb en : Nat} {ts : List Tk} {wh er : Int} {ps : List Pl} {bg : Bool} {v : Value} {cr : Array Value} (h : LSt (w.alloc zL) pb (w.heap.size + 1) ts en wh er ps bg W) (hn : RowRd 49 plV NP W v ps) (hr : Blk W w.heap.size 24 cr) (hg : W.grownBy w' (some w.heap.size)) :
    RowRd 49 plV NP w' v ps ∧ w.grownBy w' (some pb) ∧ PAt w' pb ts en wh er := by
  have K := Kept.of_blk [24] hr hg rfl
  refine ⟨hn.keep K rfl (fun _ _ h => NP.keep h K rfl rfl rfl rfl), ?_, h.1.keep K rfl rfl rfl⟩
  have g0 : w.grownBy W (some pb) := grown_trans (only_alloc (World.grownBy.refl _ _) _) h.2.2.1
  exact only_row g0 hg (fun i e => by injection e with e; omega)
theorem line_ok {w W w' : World} {pb en : Nat} {ts ts' : List Tk} {ps : List Pl} {bg : Bool} {v : Value} {cr : Array Value} (hs : linS en 16 ts 0 [] = .ok ⟨ps, bg⟩) (h : LSt (w.alloc zL) pb (w.heap.size + 1) ts' en 0 0 ps bg W) (hn : RowRd 49 plV NP W v ps) (hr : Blk W w.heap.size 24 cr) (hg : W.grownBy w' (some w.heap.size)) :
    LinP w pb en ts (.returned (.agg #[v, .bool bg])) w' := by
  have HE := line_end h hn hr hg
  exact ⟨v, ⟨ps, bg⟩, rfl, HE.1, HE.2.1, .inl ⟨hs, ts', HE.2.2⟩⟩
theorem line_bad {w W w' : World} {pb en : Nat} {ts : List Tk} {q : Nat} {e : Int} {ps : List Pl} {bg : Bool} {v : Value} {cr : Array Value} (hs : linS en 16 ts 0 [] = .err q e) (he : e ≠ 0) (h : LSt (w.alloc zL) pb (w.heap.size + 1) [] en q e ps bg W) (hn : RowRd 49 plV NP W v ps) (hr : Blk W w.heap.size 24 cr) (hg : W.grownBy w' (some w.heap.size)) :
    LinP w pb en ts (.returned (.agg #[v, .bool bg])) w' := by
  have HE := line_end h hn hr hg
  exact ⟨v, ⟨ps, bg⟩, rfl, HE.1, HE.2.1, .inr ⟨q, e, hs, he, HE.2.2⟩⟩
theorem pip_suf (en : Nat) : ∀ (n : Nat) (ts : List Tk) (a l : List Sm) (ts' : List Tk), pipS en n ts a = .ok (l, ts') → ts' <:+ ts ∧ ts'.length < ts.length
  | 0, ts, a, l, ts', h => by unfold pipS at h; cases h
  | n + 1, ts, a, l, ts', h => by
    cases hs : simS en ts smE with
    | err q e => rw [pip_bad en n ts a q e hs] at h; cases h
    | ok x =>
      obtain ⟨c, ts2⟩ := x
      have h2 := simS_less en ts c ts2 hs
      by_cases hu : (hdT en ts2).op = [124]
      · obtain ⟨t, r, rfl, ht⟩ := hd_bar en ts2 [124] (by simp) hu
        cases n with
        | zero => rw [pip_full en ts a c t r hs ht] at h; cases h
        | succ m =>
          rw [pip_more en (m + 1) ts a c t r hs ht (by omega)] at h
          have h3 := pip_suf en (m + 1) r _ l ts' h
          exact ⟨(h3.1.trans (List.suffix_cons t r)).trans h2.1, by have := h2.2; have := h3.2; simp at *; omega⟩
      · rw [pip_end en n ts a c ts2 hs hu] at h
        cases h
        exact h2
section
variable (en m : Nat) (ts : List Tk) (wh : Int) (a : List Pl) (q : List Sm) (ts' : List Tk)
theorem lin_bad (p : Nat) (e : Int) (h : pipS en 8 ts [] = .err p e) : linS en (m + 1) ts wh a = .err p e := by
  rw [linS, h]
theorem lin_end (h : pipS en 8 ts [] = .ok (q, ts')) (h1 : (hdT en ts').op ≠ [59]) (h2 : (hdT en ts').op ≠ [38, 38]) (h3 : (hdT en ts').op ≠ [124, 124]) (h4 : (hdT en ts').op ≠ [38]) : linS en (m + 1) ts wh a = .ok ⟨a ++ [⟨wh, q⟩], false⟩ := by
  rw [linS, h]
  cases ts' with
  | nil => rfl
  | cons t r =>
    simp only
    rw [if_neg (by simpa [hdT] using h1), if_neg (by simpa [hdT] using h2), if_neg (by simpa [hdT] using h3), if_neg (by simpa [hdT] using h4)]
/-- What an operator between pipelines says of the next one. -/
def whOf (o : Bs) : Int := if o = [59] then 0 else if o = [38, 38] then 1 else 2
def isSep (o : Bs) : Prop := o = [59] ∨ o = [38, 38] ∨ o = [124, 124]
theorem lin_full (t : Tk) (r : List Tk) (h : pipS en 8 ts [] = .ok (q, t :: r)) (hs : isSep t.op) : linS en 1 ts wh a = .err t.pos 9 := by
  rw [linS, h]
  rcases hs with e | e | e <;> simp [e]
theorem lin_more (t : Tk) (r : List Tk) (h : pipS en 8 ts [] = .ok (q, t :: r)) (hs : isSep t.op) (hm : m ≠ 0) : linS en (m + 1) ts wh a = linS en m r (whOf t.op) (a ++ [⟨wh, q⟩]) := by
  rw [linS, h]
  rcases hs with e | e | e <;> simp [e, hm, whOf]
theorem lin_bg (t : Tk) (h : pipS en 8 ts [] = .ok (q, [t])) (hs : t.op = [38]) : linS en (m + 1) ts wh a = .ok ⟨a ++ [⟨wh, q⟩], true⟩ := by
  rw [linS, h]
  simp [hs]
theorem lin_bgno (t u : Tk) (r : List Tk) (h : pipS en 8 ts [] = .ok (q, t :: u :: r)) (hs : t.op = [38]) : linS en (m + 1) ts wh a = .err u.pos 30 := by
  rw [linS, h]
  simp [hs]
end
end Go.Proofs.Ytiddchpkmcncdaa
