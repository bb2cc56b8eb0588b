/- Words for memory: simple commands, pipelines, lines; an append from a slice that reads as cells. -/
import Derived.Test.YtiddchpkmcncdaaX13
namespace Go.Proofs.Ytiddchpkmcncdaa
open Go.RowKit
set_option linter.unusedSimpArgs false
set_option linter.unusedVariables false
theorem add_off (b o j : Nat) : ((⟨b, o, none⟩ : Addr).add j) = ⟨b, o + j, none⟩ := by
  unfold Addr.add
  split
  · rename_i h; subst h; rfl
  · rfl
theorem run_append_rd {P : Program} (w : World) (base : Nat) (t ty e : TypeId) (i : TypeInfo) (z : Value) (size bytes : Nat) (ht : P.underlying t = some (.slice e)) (hi : P.info? e = some i) (hz : i.zero = some z)
    (hsize : i.size = size) (hby : i.bytes = bytes) (hzs : z.cells.size = size) (hsz : 0 < size)
    (v : Value) (n : Nat) (xs : List Value) (hown : w.ownsRow base e size v n xs) (x : Value) (m : Nat) (news : List Value) (hr : Rd e w x m news) (hl : news.length = m * size) (h1 : ∀ u ∈ news, u.oneCell' = true)
    (h63 : n + m ≤ maxLen) (hbytes : (n + m) * bytes ≤ 140737488355328) (hbase : base ≤ w.heap.size) :
    ∃ ao cap w', (Builtin.append_ #[t, t] ty #[v, x]).run P w = .ok (.slice ao (n + m) cap) w' ∧ w'.ownsRow base e size (.slice ao (n + m) cap) (n + m) (xs ++ news) ∧ w.grownBy w' v.ownBlock := by
  have fin : ∀ (ad : Addr) (c : Nat), (∀ j u, news[j]? = some u → w.cell? (ad.add j) = some u) →
      ∃ ao cap w', (Builtin.append_ #[t, t] ty #[v, .slice (some ad) m c]).run P w = .ok (.slice ao (n + m) cap) w' ∧ w'.ownsRow base e size (.slice ao (n + m) cap) (n + m) (xs ++ news) ∧ w.grownBy w' v.ownBlock := by
    intro ad c hc
    obtain ⟨v', w', hrun, h2, h3, _, _⟩ := run_append_own_at (P := P) w base t ty e i z size bytes ht hi hz hsize hby hzs hsz v n xs hown ad m c news hl hc h1 h63 hbytes hbase
    obtain ⟨a, cc, rfl, _⟩ := own_len h2
    exact ⟨a, cc, w', hrun, h2, h3⟩
  obtain ⟨A, c, rfl, hc, hm, ⟨rfl, rfl⟩ | ⟨b, o, cs, fr, rfl, hb, hx⟩⟩ := hr
  · cases A with
    | some ad => exact fin ad c (fun j u h => by simp at h)
    | none =>
      obtain ⟨a, cc, rfl, hle⟩ := own_len hown
      refine ⟨a, cc, w, ?_, by simpa using hown, World.grownBy.refl w _⟩
      rcases hown.2 with ⟨h2, rfl⟩ | ⟨g, cap, cur, h2, _, _, hnc, _⟩
      · cases h2
        simp [Builtin.append_, run_underlying ht, sizeOf, typeInfo, hi, Builtin.lenOf, Builtin.firstCells]
      · cases h2
        simp [Builtin.append_, run_underlying ht, sizeOf, typeInfo, hi, Builtin.lenOf, Builtin.firstCells, hnc, storeCells]
  · refine fin _ c (fun j u h => ?_)
    rw [add_off, cell_of_row w b (o + j) cs e fr hb]
    exact hx j u h
theorem wp_append_rd {P : Program} (w : World) {o : Oper} {a : Act} {K : Act → World → Prop} {Q : Exit → Act → World → Prop} (s x : Operand) (t : TypeId)
    (ho : o.op = .call { callee := .builtin .append, args := #[s, x], argTypes := #[t, t] })
    (base : Nat) (e : TypeId) (i : TypeInfo) (z : Value) (size bytes : Nat) (ht : P.underlying t = some (.slice e)) (hi : P.info? e = some i) (hz : i.zero = some z)
    (hsize : i.size = size) (hby : i.bytes = bytes) (hzs : z.cells.size = size) (hsz : 0 < size)
    (v : Value) (n : Nat) (xs : List Value) (hs : a.eval s = v) (hown : w.ownsRow base e size v n xs)
    (xv : Value) (m : Nat) (news : List Value) (hx : a.eval x = xv) (hr : Rd e w xv m news) (hl : news.length = m * size) (h1 : ∀ u ∈ news, u.oneCell' = true)
    (h63 : n + m ≤ maxLen) (hbytes : (n + m) * bytes ≤ 140737488355328) (hbase : base ≤ w.heap.size)
    (h : ∀ ao cap w', w'.ownsRow base e size (.slice ao (n + m) cap) (n + m) (xs ++ news) → w.grownBy w' v.ownBlock → K (a.put o.dst (.slice ao (n + m) cap)) w') : o.wp P a w K Q := by
  obtain ⟨ao, cap, w', hrun, h2, h3⟩ := run_append_rd (P := P) w base t o.type e i z size bytes ht hi hz hsize hby hzs hsz v n xs hown xv m news hr hl h1 h63 hbytes hbase
  unfold Oper.wp execOp
  simp only [ho, resolve, invoke, builtin, Sem.run_bind, Sem.run_pure, Result.andThen_ok, List.map_toArray, List.map_cons, List.map_nil, hs, hx, hrun]
  exact h ao cap w' h2 h3
theorem wpList_append_rd {P : Program} (w : World) {ops : Array Oper} {rest : List Oper} {o : Oper} {a : Act} {Q : Exit → Act → World → Prop} (hgd : o.guard = none) (s x : Operand) (t : TypeId)
    (ho : o.op = .call { callee := .builtin .append, args := #[s, x], argTypes := #[t, t] })
    (base : Nat) (e : TypeId) (i : TypeInfo) (z : Value) (size bytes : Nat) (ht : P.underlying t = some (.slice e)) (hi : P.info? e = some i) (hz : i.zero = some z)
    (hsize : i.size = size) (hby : i.bytes = bytes) (hzs : z.cells.size = size) (hsz : 0 < size)
    (v : Value) (n : Nat) (xs : List Value) (hs : a.eval s = v) (hown : w.ownsRow base e size v n xs)
    (xv : Value) (m : Nat) (news : List Value) (hx : a.eval x = xv) (hr : Rd e w xv m news) (hl : news.length = m * size) (h1 : ∀ u ∈ news, u.oneCell' = true)
    (h63 : n + m ≤ maxLen) (hbytes : (n + m) * bytes ≤ 140737488355328) (hbase : base ≤ w.heap.size)
    (h : ∀ ao cap w', w'.ownsRow base e size (.slice ao (n + m) cap) (n + m) (xs ++ news) → w.grownBy w' v.ownBlock → wpList P ops Q rest (a.put o.dst (.slice ao (n + m) cap)) w') : wpList P ops Q (o :: rest) a w :=
  wpList_plain hgd fun _ hK => wp_append_rd w s x t ho base e i z size bytes ht hi hz hsize hby hzs hsz v n xs hs hown xv m news hx hr hl h1 h63 hbytes hbase fun ao cap w' h2 h3 => hK _ _ (h ao cap w' h2 h3)
theorem step_append_rd {P : Program} (w : World) {ops : Array Oper} {o : Oper} {a : Act} {K : Act → World → Prop} {Q : Exit → Act → World → Prop} {E : Prop} (hgd : o.guard = none) (s x : Operand) (t : TypeId)
    (ho : o.op = .call { callee := .builtin .append, args := #[s, x], argTypes := #[t, t] })
    (base : Nat) (e : TypeId) (i : TypeInfo) (z : Value) (size bytes : Nat) (ht : P.underlying t = some (.slice e)) (hi : P.info? e = some i) (hz : i.zero = some z)
    (hsize : i.size = size) (hby : i.bytes = bytes) (hzs : z.cells.size = size) (hsz : 0 < size)
    (v : Value) (n : Nat) (xs : List Value) (hs : a.eval s = v) (hown : w.ownsRow base e size v n xs)
    (xv : Value) (m : Nat) (news : List Value) (hx : a.eval x = xv) (hr : Rd e w xv m news) (hl : news.length = m * size) (h1 : ∀ u ∈ news, u.oneCell' = true)
    (h63 : n + m ≤ maxLen) (hbytes : (n + m) * bytes ≤ 140737488355328) (hbase : base ≤ w.heap.size)
    (h : ∀ ao cap w', w'.ownsRow base e size (.slice ao (n + m) cap) (n + m) (xs ++ news) → w.grownBy w' v.ownBlock → K (a.put o.dst (.slice ao (n + m) cap)) w') :
    if Region.wanted o (yielded ops a.tmps) = true then Oper.wp P o a w K Q else E := by
  have hw : Region.wanted o (yielded ops a.tmps) = true := by simp [Region.wanted, hgd]
  rw [if_pos hw]
  exact wp_append_rd w s x t ho base e i z size bytes ht hi hz hsize hby hzs hsz v n xs hs hown xv m news hx hr hl h1 h63 hbytes hbase h
theorem pcC_one (ps : Wd) : ∀ u ∈ pcC ps, u.oneCell' = true := by
  intro u hu
  unfold pcC at hu
  obtain ⟨p, _, h⟩ := List.mem_flatMap.1 hu
  simp [pcV] at h
  rcases h with rfl | rfl | rfl <;> rfl
/-- A slice of one new element. -/
theorem own_new (w : World) (base : Nat) (e : TypeId) (size : Nat) (cs : List Value) (hl : cs.length = size) (hb : base ≤ w.heap.size) : (w.alloc (.cells cs.toArray e)).ownsRow base e size (.slice (some ⟨w.heap.size, 0, none⟩) 1 1) 1 cs := by
  refine ⟨by omega, .inr ⟨w.heap.size, 1, cs.toArray, rfl, hb, heap_alloc_new w _, Nat.le_refl _, by unfold maxLen; omega, by simp [hl], ?_⟩⟩
  simp
  rw [← hl, List.take_length]
/-- Nothing is appended but one block of the call's own grows: all that was is as it was. -/
theorem below_own {B : Nat} {a w w' : World} {base e size n : Nat} {v : Value} {xs : List Value} (h : Below B a w) (ho : w.ownsRow base e size v n xs) (k : w.grownBy w' v.ownBlock) (hb : B ≤ base) (hB : B ≤ w.heap.size) : Below B a w' :=
  ⟨k.os.trans h.os, k.tape.trans h.tape, k.output.trans h.output, Nat.le_trans h.size k.size, fun i hi => (k.block i (Nat.lt_of_lt_of_le hi hB) (by
    intro e
    have := own_ge ho e.symm
    omega)).trans (h.block i hi)⟩
theorem info140 : (Try.prog.info? 140).map (fun i => (i.zero, i.size, i.bytes)) = some (some (.agg #[.string ⟨#[]⟩, .slice none 0 0]), 2, 40) := by kernel_rfl
theorem info42 : (Try.prog.info? 42).map (fun i => (i.zero, i.size, i.bytes)) = some (some (.slice none 0 0), 1, 24) := by kernel_rfl
theorem info46 : (Try.prog.info? 46).map (fun i => (i.zero, i.size, i.bytes)) = some (some (.agg #[.slice none 0 0, .slice none 0 0, .slice none 0 0, .slice none 0 0, .bool false]), 5, 104) := by kernel_rfl
theorem info49 : (Try.prog.info? 49).map (fun i => (i.zero, i.size, i.bytes)) = some (some (.agg #[.int .i64 0, .slice none 0 0]), 2, 32) := by kernel_rfl
def asgV (a : Asg) (v : Value) : List Value := [.string (bs a.name), v]
def NA (w : World) (v : Value) (a : Asg) : Prop := RdW w v a.value
def wdV (_ : Wd) (v : Value) : List Value := [v]
def NW (w : World) (v : Value) (ps : Wd) : Prop := RdW w v ps
/-- The four slices of a simple command. -/
structure V4 where
  a : Value
  b : Value
  c : Value
  d : Value
def smV (c : Sm) (v : V4) : List Value := [v.a, v.b, v.c, v.d, .bool c.app]
def NS (w : World) (v : V4) (c : Sm) : Prop := RowRd 140 asgV NA w v.a c.asg ∧ RowRd 42 wdV NW w v.b c.words ∧ RdW w v.c c.inn ∧ RdW w v.d c.out
def plV (q : Pl) (v : Value) : List Value := [.int .i64 q.wh, v]
def NP (w : World) (v : Value) (q : Pl) : Prop := RowRd 46 smV NS w v q.stages
section
variable {w w' : World} {L : List TypeId}
theorem RdW.keep {v : Value} {ps : Wd} (h : RdW w v ps) (k : Kept L w w') (h1 : L.contains 61 = false) : RdW w' v ps := Rd.keep h k h1
theorem NA.keep {v : Value} {a : Asg} (h : NA w v a) (k : Kept L w w') (h1 : L.contains 61 = false) : NA w' v a := Rd.keep h k h1
theorem NW.keep {v : Value} {a : Wd} (h : NW w v a) (k : Kept L w w') (h1 : L.contains 61 = false) : NW w' v a := Rd.keep h k h1
theorem NS.keep {v : V4} {c : Sm} (h : NS w v c) (k : Kept L w w') (h1 : L.contains 61 = false) (h2 : L.contains 140 = false) (h3 : L.contains 42 = false) : NS w' v c :=
  ⟨RowRd.keep h.1 k h2 (fun _ _ h => NA.keep h k h1), RowRd.keep h.2.1 k h3 (fun _ _ h => NW.keep h k h1), RdW.keep h.2.2.1 k h1, RdW.keep h.2.2.2 k h1⟩
theorem NP.keep {v : Value} {q : Pl} (h : NP w v q) (k : Kept L w w') (h1 : L.contains 61 = false) (h2 : L.contains 140 = false) (h3 : L.contains 42 = false) (h4 : L.contains 46 = false) : NP w' v q :=
  RowRd.keep h k h4 (fun _ _ h => NS.keep h k h1 h2 h3)
end
theorem asgV_len (a : Asg) (v : Value) : (asgV a v).length = 2 := rfl
theorem wdV_len (a : Wd) (v : Value) : (wdV a v).length = 1 := rfl
theorem smV_len (a : Sm) (v : V4) : (smV a v).length = 5 := rfl
theorem plV_len (a : Pl) (v : Value) : (plV a v).length = 2 := rfl
/-- An element is appended to a row of the call's own. -/
theorem RowOwn.push {α β : Type} {e : TypeId} {size base : Nat} {f : α → β → List Value} {N : World → β → α → Prop} {W w1 : World} {l : List α} {vs : List β} {v' : Value} {x : α} {u : β}
    (h2 : RowW N W l vs) (hown : w1.ownsRow base e size v' (l.length + 1) (rowC f l vs ++ f x u)) (imp : ∀ v x, N W v x → N w1 v x) (hu : N w1 u x) : RowOwn e size f N w1 base v' (l ++ [x]) := by
  refine ⟨vs ++ [u], (h2.imp imp).snoc hu, ?_⟩
  rw [rowC_snoc _ _ _ _ _ h2.1, List.length_append]
  exact hown
/-- The parser and the simple command at which it works; w0: the world when the simple command began. -/
def SSt (w0 : World) (pb cb : Nat) (ts : List Tk) (en : Nat) (wh er : Int) (c : Sm) (w : World) : Prop :=
  PAt w pb ts en wh er ∧ (∃ va vb vi vo, Blk w cb 46 #[va, vb, vi, vo, .bool c.app] ∧ RowOwn 140 2 asgV NA w w0.heap.size va c.asg ∧ RowOwn 42 1 wdV NW w w0.heap.size vb c.words ∧ RdW w vi c.inn ∧ RdW w vo c.out) ∧
    w0.grownBy w (some pb) ∧ pb < w0.heap.size ∧ w0.heap.size ≤ cb
theorem SSt.step {w0 : World} {pb cb : Nat} {ts ts' : List Tk} {en : Nat} {wh er wh' er' : Int} {c : Sm} {w w' : World} (h : SSt w0 pb cb ts en wh er c w) (k : Kept [89] w w') (hp : PAt w' pb ts' en wh' er') (hg : w0.grownBy w' (some pb)) : SSt w0 pb cb ts' en wh' er' c w' := by
  obtain ⟨h1, ⟨va, vb, vi, vo, b, ra, rb, ri, ro⟩, h3, h4, h5⟩ := h
  exact ⟨hp, ⟨va, vb, vi, vo, b.keep k rfl, ra.keep k rfl (fun _ _ h => NA.keep h k rfl), rb.keep k rfl (fun _ _ h => NW.keep h k rfl), ri.keep k rfl, ro.keep k rfl⟩, hg, h4, h5⟩
theorem PAt.kept {w w' : World} {pb : Nat} {ts : List Tk} {en : Nat} {wh er : Int} (h : PAt w pb ts en wh er) (hg : w.grownBy w' (some pb)) : Kept [89] w w' := by
  obtain ⟨tv, h1, _⟩ := h
  exact Kept.of_blk [89] h1 hg rfl
/-- Behind what touches the parser alone. -/
theorem SSt.par {w0 : World} {pb cb : Nat} {ts ts' : List Tk} {en : Nat} {wh er wh' er' : Int} {c : Sm} {w w' : World} (h : SSt w0 pb cb ts en wh er c w) (hg : w.grownBy w' (some pb)) (hp : PAt w' pb ts' en wh' er') : SSt w0 pb cb ts' en wh' er' c w' :=
  h.step (h.1.kept hg) hp (grown_trans h.2.2.1 hg)
theorem SSt.next {w0 : World} {pb cb : Nat} {ts : List Tk} {en : Nat} {wh er : Int} {c : Sm} {w w' : World} (h : SSt w0 pb cb ts en wh er c w) (hb : Below w.heap.size w w') : SSt w0 pb cb ts en wh er c w' :=
  h.step (Kept.of_below _ hb) (h.1.next hb) (grown_trans h.2.2.1 (only_of_below hb _))
end Go.Proofs.Ytiddchpkmcncdaa
