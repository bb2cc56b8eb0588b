/- What the listed variable gives: the table of usages lies in block 0. -/
import Derived.Test.YtobkmkplhbaepaaDoorRows
import Derived.Test.YtobkmkplhbaepaaDoorGS
import Derived.ProofKit
import Derived.LaidMore
import Derived.OpenShut
import Derived.Stop.Joined
import Derived.Test.YtobkmkplhbaepaaDoorGV
import Derived.WideShapes
import Derived.Lib.SmallJoins
namespace Go.Proofs.YtobkmkplhbaepaaDoor
open Go.ChangeShapes Go.WideShapes Go.ChangeAt Go.RowKit
set_option linter.unusedSimpArgs false
set_option linter.unusedVariables false
theorem own : ownKnob Tryd.prog.godebug = none := by kernel_rfl
theorem gTab : Tryd.prog.globalNamed "replevin/object.usages" = some 0 := by kernel_rfl
theorem tTab : (Tryd.prog.globals[0]?).map (·.type) = some 127 := by kernel_rfl
theorem cellsU : Tryd.prog.cellsOf 126 = 6 := by kernel_rfl
theorem cellsS : Tryd.prog.cellsOf 9 = 1 := by kernel_rfl
theorem cellsI : Tryd.prog.cellsOf 3 = 1 := by kernel_rfl
theorem cellsB : Tryd.prog.cellsOf 4 = 1 := by kernel_rfl
def useD {H : Type} (k : Nat) : DataW H := .agg [.lit (.string (useT k).word), .lit (.bool (useT k).owner), .lit (.bool (useT k).number), .lit (.bool (useT k).index), .lit (.bool (useT k).text), .lit (.int .i64 (useT k).most)]
def dataL {H : Type} : DataW H → List (DataW H)
  | .agg l => l
  | _ => []
theorem laid_at {H : Type} {k : Nat} (hk : k = 13 ∨ k = 15 ∨ k = 16 ∨ k = 17 ∨ k = 20) : (dataL (Rows.laid_replevin_object_usages : DataW H))[k]? = some (useD k) := by
  rcases hk with rfl | rfl | rfl | rfl | rfl <;> kernel_rfl
theorem at_of_take {α : Type} (l : List α) (a j : Nat) (v : α) (hj : j < 6) (h : (((l.drop a).take 6).drop j).take 1 = [v]) : l[a + j]? = some v := by
  have h0 : ((((l.drop a).take 6).drop j).take 1)[0]? = some v := by rw [h]; rfl
  rw [List.getElem?_take, if_pos (by omega), List.getElem?_drop, List.getElem?_take, if_pos (by omega), List.getElem?_drop] at h0
  simpa using h0
theorem use_of_laid {W : World} (h : laidMetH Tryd.prog [("replevin/object.usages", Rows.laid_replevin_object_usages)] W) : UseAt W := by
  rw [MakeChecks.laidMetH_plain _ _ _ (by kernel_rfl)] at h
  obtain ⟨ps, ⟨g0, t0, cs0, f0, p0, q0, hg0, ht0, hv0, hd0, _, _⟩, _, _⟩ := h
  obtain rfl := Option.some.inj (gTab.symm.trans hg0)
  obtain rfl := Option.some.inj (tTab.symm.trans ht0)
  have hcell : ∀ i, W.cell? ⟨0, i, none⟩ = cs0[i]? := fun i => World.var?_cell hg0 hv0 i
  obtain ⟨xs, m, _, hx, _, hlen, hel⟩ := DataW.trod_array Tryd.underlying127 hd0
  simp only [Prod.mk.injEq] at hx
  have hxs : ∀ k, (k = 13 ∨ k = 15 ∨ k = 16 ∨ k = 17 ∨ k = 20) → (xs.map (·.1))[k]? = some (useD k) := by
    intro k hk
    have h1 := laid_at (H := Unit) hk
    rw [hx.1] at h1
    exact h1
  have key : ∀ k, (k = 13 ∨ k = 15 ∨ k = 16 ∨ k = 17 ∨ k = 20) → cs0[k * 6]? = some (.string (bs (useT k).word)) ∧ cs0[k * 6 + 1]? = some (.bool (useT k).owner) ∧ cs0[k * 6 + 2]? = some (.bool (useT k).number) ∧ cs0[k * 6 + 3]? = some (.bool (useT k).index) ∧ cs0[k * 6 + 4]? = some (.bool (useT k).text) ∧ cs0[k * 6 + 5]? = some (.int .i64 (useT k).most) := by
    intro k hkk
    have hk : k < 21 := by omega
    have h1 := hel k hk
    have hxk : xs[k]? = some (xs[k]'(by omega)) := List.getElem?_eq_getElem (by omega)
    rw [hxk, cellsU] at h1
    have hd : (xs[k]'(by omega)).1 = useD k := by
      have := hxs k hkk
      simpa [hxk] using this
    obtain ⟨ys, n, _, hy, _, hyl, hf⟩ := DataW.trod_struct Tryd.underlying126 h1
    rw [hy] at hd
    simp only [useD, DataW.agg.injEq] at hd
    match ys, hyl, hd, hf with
    | [y0, y1, y2, y3, y4, y5], _, hd, hf =>
      simp only [List.map_cons, List.map_nil, List.cons.injEq, and_true] at hd
      obtain ⟨d0, d1, d2, d3, d4, d5⟩ := hd
      have g0 := hf 0 _ rfl
      have g1 := hf 1 _ rfl
      have g2 := hf 2 _ rfl
      have g3 := hf 3 _ rfl
      have g4 := hf 4 _ rfl
      have g5 := hf 5 _ rfl
      obtain ⟨s, e0, z0, _⟩ := DataW.trod_string Tryd.underlying9 g0
      obtain ⟨n1, e1, z1⟩ := DataW.trod_bool Tryd.underlying4 g1
      obtain ⟨n2, e2, z2⟩ := DataW.trod_bool Tryd.underlying4 g2
      obtain ⟨n3, e3, z3⟩ := DataW.trod_bool Tryd.underlying4 g3
      obtain ⟨n4, e4, z4⟩ := DataW.trod_bool Tryd.underlying4 g4
      obtain ⟨n5, e5, z5, _⟩ := DataW.trod_int Tryd.underlying3 g5
      rw [z0] at d0; rw [z1] at d1; rw [z2] at d2; rw [z3] at d3; rw [z4] at d4; rw [z5] at d5
      simp only [DataW.lit.injEq, Lit.string.injEq, Lit.int.injEq, Lit.bool.injEq, true_and] at d0 d1 d2 d3 d4 d5
      replace e0 : (((cs0.toList.drop (k * 6)).take 6).drop 0).take (Tryd.prog.cellsOf 9) = [.string s] := e0
      replace e1 : (((cs0.toList.drop (k * 6)).take 6).drop 1).take (Tryd.prog.cellsOf 4) = [.bool n1] := e1
      replace e2 : (((cs0.toList.drop (k * 6)).take 6).drop 2).take (Tryd.prog.cellsOf 4) = [.bool n2] := e2
      replace e3 : (((cs0.toList.drop (k * 6)).take 6).drop 3).take (Tryd.prog.cellsOf 4) = [.bool n3] := e3
      replace e4 : (((cs0.toList.drop (k * 6)).take 6).drop 4).take (Tryd.prog.cellsOf 4) = [.bool n4] := e4
      replace e5 : (((cs0.toList.drop (k * 6)).take 6).drop 5).take (Tryd.prog.cellsOf 3) = [.int .i64 n5] := e5
      rw [cellsS] at e0
      rw [cellsB] at e1 e2 e3 e4
      rw [cellsI] at e5
      have q0 := at_of_take _ _ 0 _ (by omega) e0
      have q1 := at_of_take _ _ 1 _ (by omega) e1
      have q2 := at_of_take _ _ 2 _ (by omega) e2
      have q3 := at_of_take _ _ 3 _ (by omega) e3
      have q4 := at_of_take _ _ 4 _ (by omega) e4
      have q5 := at_of_take _ _ 5 _ (by omega) e5
      have hs : s = bs (useT k).word := by
        rw [← d0]
        exact (bs_of s).symm
      rw [hs] at q0
      rw [d1] at q1; rw [d2] at q2; rw [d3] at q3; rw [d4] at q4; rw [d5] at q5
      simp only [Array.getElem?_toList, Nat.add_zero] at q0 q1 q2 q3 q4 q5
      exact ⟨q0, q1, q2, q3, q4, q5⟩
  refine ⟨?_, fun k hk => ?_⟩
  · have := (key 13 (.inl rfl)).1
    rw [← hcell] at this
    apply Nat.lt_of_not_le
    intro hle
    have h0 : W.heap[0]? = .none := by simp; exact Array.size_eq_zero_iff.1 (by omega)
    simp [World.cell?, h0] at this
  · simp only [hcell]
    exact key k hk
end Go.Proofs.YtobkmkplhbaepaaDoor
/- Arguments of layer 46, opened: items, acts, runs. -/
namespace Go.Proofs.YtobkmkplhbaepaaDoor
open Go.RowKit Go.Deep
set_option linter.unusedSimpArgs false
set_option linter.unusedVariables false
instance : Inhabited It := ⟨⟨0, [], false⟩⟩
instance : Inhabited Act := ⟨⟨0, 0, [], [], 0⟩⟩
section
variable {H : Type} {enc : TypeId × Value → H} {P : Program} {w : World} {base : Nat} {spare : Nat → Bool} {held : Bool}
theorem drop_one {α : Type} {cs : List α} {i : Nat} {u : α} (h : cs[i]? = some u) : (cs.drop i).take 1 = [u] := by
  obtain ⟨hi, rfl⟩ := List.getElem?_eq_some_iff.1 h
  rw [List.drop_eq_getElem_cons hi]; rfl
theorem field_get {t : TypeId} {fs : Array Field} {n : Nat} {cs : List Value} {y : DataW H × List MemPlace} (ht : P.underlying t = some (.struct fs)) (h : DataW.trod enc P w base spare held n t cs = some y)
    (i : Nat) (f : Field) (hf : fs[i]? = some f) (h1 : P.cellsOf f.type = 1) (ho : f.offset = i) (u : Value) (hu : cs[i]? = some u) : ∃ m x, DataW.trod enc P w base spare held m f.type [u] = some x := by
  obtain ⟨xs, m, _, _, _, hl, hall⟩ := DataW.trod_struct ht h
  have h2 := hall i f hf
  rw [h1, ho, drop_one hu] at h2
  have hi : i < xs.length := by rw [hl]; exact (Array.getElem?_eq_some_iff.1 hf).1
  rw [List.getElem?_eq_getElem hi] at h2
  exact ⟨m, _, h2⟩
end
theorem list3 {α : Type} {cs : List α} (h : cs.length = 3) : ∃ a b c, cs = [a, b, c] := by
  match cs, h with
  | [a, b, c], _ => exact ⟨a, b, c, rfl⟩
theorem list5 {α : Type} {cs : List α} (h : cs.length = 5) : ∃ a b c d e, cs = [a, b, c, d, e] := by
  match cs, h with
  | [a, b, c, d, e], _ => exact ⟨a, b, c, d, e, rfl⟩
theorem c1_str : Tryd.prog.cellsOf 9 = 1 := by kernel_rfl
theorem c1_bool : Tryd.prog.cellsOf 4 = 1 := by kernel_rfl
theorem c1_u8 : Tryd.prog.cellsOf 5 = 1 := by kernel_rfl
theorem c1_its : Tryd.prog.cellsOf 22 = 1 := by kernel_rfl
theorem c1_acts : Tryd.prog.cellsOf 23 = 1 := by kernel_rfl
theorem c3_it : Tryd.prog.cellsOf 110 = 3 := by kernel_rfl
theorem c5_act : Tryd.prog.cellsOf 77 = 5 := by kernel_rfl
theorem c2_run : Tryd.prog.cellsOf 25 = 2 := by kernel_rfl
theorem rowC_unit {α : Type} (f : α → List Value) : ∀ (l : List α) (us : List Unit), us.length = l.length → rowC (fun x _ => f x) l us = l.flatMap f
  | [], [], _ => rfl
  | x :: l, u :: us, h => by
    simp only [rowC, List.flatMap_cons]
    rw [rowC_unit f l us (by simpa using h)]
  | [], _ :: _, h => by simp at h
  | _ :: _, [], h => by simp at h
section
variable {H : Type} {enc : TypeId × Value → H} {w : World} {base : Nat} {spare : Nat → Bool} {held : Bool}
theorem open_str {n : Nat} {u : Value} {x : DataW H × List MemPlace} (h : DataW.trod enc Tryd.prog w base spare held n 9 [u] = some x) : ∃ t : Bs, u = .string (bs t) := by
  obtain ⟨s, h1, _, h2⟩ := DataW.trod_string Tryd.underlying9 h
  injection h1 with h1
  exact ⟨s.data.toList, by rw [bs_of]; exact h1⟩
theorem open_boo {n : Nat} {u : Value} {x : DataW H × List MemPlace} (h : DataW.trod enc Tryd.prog w base spare held n 4 [u] = some x) : ∃ b : Bool, u = .bool b := by
  obtain ⟨b, h1, _⟩ := DataW.trod_bool Tryd.underlying4 h
  injection h1 with h1
  exact ⟨b, h1⟩
theorem open_u8 {n : Nat} {u : Value} {x : DataW H × List MemPlace} (h : DataW.trod enc Tryd.prog w base spare held n 5 [u] = some x) : ∃ k : Int, u = .int .u8 k ∧ 0 ≤ k ∧ k < 256 := by
  obtain ⟨k, h1, _, h2⟩ := DataW.trod_int Tryd.underlying5 h
  injection h1 with h1
  simp only [Lit.wf, Bool.and_eq_true, decide_eq_true_eq] at h2
  have e1 : IntKind.min .u8 = 0 := by decide
  have e2 : IntKind.max .u8 = 255 := by decide
  rw [e1, e2] at h2
  exact ⟨k, h1, h2.1, by omega⟩
theorem open_It {n : Nat} {cs : List Value} {y : DataW H × List MemPlace} (h : DataW.trod enc Tryd.prog w base spare held n 110 cs = some y) (hl : cs.length = 3) : ∃ (t : It) (u : Unit), cs = itC t ∧ (0 ≤ t.which ∧ t.which < 256) := by
  obtain ⟨a, b, c, rfl⟩ := list3 hl
  obtain ⟨_, _, f0⟩ := field_get Tryd.underlying110 h 0 _ rfl c1_u8 rfl a rfl
  obtain ⟨_, _, f1⟩ := field_get Tryd.underlying110 h 1 _ rfl c1_str rfl b rfl
  obtain ⟨_, _, f2⟩ := field_get Tryd.underlying110 h 2 _ rfl c1_bool rfl c rfl
  obtain ⟨k, rfl, h1, h2⟩ := open_u8 f0
  obtain ⟨t, rfl⟩ := open_str f1
  obtain ⟨z, rfl⟩ := open_boo f2
  exact ⟨⟨k, t, z⟩, (), rfl, h1, h2⟩
theorem open_Its {n : Nat} {v : Value} {y : DataW H × List MemPlace} (h : DataW.trod enc Tryd.prog w base spare held n 22 [v] = some y) : ∃ l : List It, RaIt w.heap.size w v l := by
  obtain ⟨l, us, h1, h2⟩ : ∃ l : List It, RowRa (fun t (_ : Unit) => itC t) (fun _ _ t => 0 ≤ t.which ∧ t.which < 256) w.heap.size w v l :=
    open_row (fun t _ => itC_len t) (by omega) Tryd.underlying22 c3_it (fun n cs y h hl => open_It h hl) h
  rw [rowC_unit itC l us h1.1] at h2
  refine ⟨l, h2, fun t ht => ?_⟩
  obtain ⟨i, hi, rfl⟩ := List.getElem_of_mem ht
  have hiv : i < us.length := by rw [h1.1]; exact hi
  exact h1.2 i _ _ (List.getElem?_eq_getElem hi) (List.getElem?_eq_getElem hiv)
theorem open_Act {n : Nat} {cs : List Value} {y : DataW H × List MemPlace} (h : DataW.trod enc Tryd.prog w base spare held n 77 cs = some y) (hl : cs.length = 5) : ∃ (a : Act) (u : Value × Value), cs = actC a u ∧ NAct w.heap.size w u a := by
  obtain ⟨a, b, c, d, e, rfl⟩ := list5 hl
  obtain ⟨_, _, f0⟩ := field_get Tryd.underlying77 h 0 _ rfl c1_u8 rfl a rfl
  obtain ⟨_, _, f1⟩ := field_get Tryd.underlying77 h 1 _ rfl c1_u8 rfl b rfl
  obtain ⟨_, _, f2⟩ := field_get Tryd.underlying77 h 2 _ rfl c1_its rfl c rfl
  obtain ⟨_, _, f3⟩ := field_get Tryd.underlying77 h 3 _ rfl c1_its rfl d rfl
  obtain ⟨_, _, f4⟩ := field_get Tryd.underlying77 h 4 _ rfl c1_u8 rfl e rfl
  obtain ⟨k, rfl, h1, h2⟩ := open_u8 f0
  obtain ⟨k2, rfl, h3, h4⟩ := open_u8 f1
  obtain ⟨l1, h5⟩ := open_Its f2
  obtain ⟨l2, h6⟩ := open_Its f3
  obtain ⟨k3, rfl, h7, h8⟩ := open_u8 f4
  exact ⟨⟨k, k2, l1, l2, k3⟩, (c, d), rfl, h5, h6, h1, h2, h3, h4, h7, h8⟩
theorem open_Acts {n : Nat} {v : Value} {y : DataW H × List MemPlace} (h : DataW.trod enc Tryd.prog w base spare held n 23 [v] = some y) : ∃ l : List Act, RaAct w.heap.size w v l :=
  open_row actC_len (by omega) Tryd.underlying23 c5_act (fun n cs y h hl => open_Act h hl) h
set_option maxRecDepth 100000 in
theorem open_Run {r : Reach} {b0 : Nat} {v : Value} {d : DataW H} {p : List MemPlace} (hv : Value.okWide Tryd.prog w r b0 25 v) (h : DataW.Trod enc Tryd.prog w base spare held 25 v d p) : ∃ (r : Rn) (v1 v2 : Value), v = .agg #[v1, v2] ∧ RaIt w.heap.size w v1 r.base ∧ RaAct w.heap.size w v2 r.acts := by
  obtain ⟨cs, rfl, hsz⟩ := Go.WideShapes.okWide_struct Tryd.underlying25 hv
  obtain ⟨c0, c1, rfl⟩ := Go.Joins.array2 (hsz.trans c2_run)
  obtain ⟨n, hf⟩ := h
  have hf' : DataW.trod enc Tryd.prog w base spare held n 25 [c0, c1] = some (d, p) := by simpa [Value.cells] using hf
  obtain ⟨_, _, f0⟩ := field_get Tryd.underlying25 hf' 0 _ rfl c1_its rfl c0 rfl
  obtain ⟨_, _, f1⟩ := field_get Tryd.underlying25 hf' 1 _ rfl c1_acts rfl c1 rfl
  obtain ⟨l1, h1⟩ := open_Its f0
  obtain ⟨l2, h2⟩ := open_Acts f1
  exact ⟨⟨l1, l2⟩, c0, c1, rfl, h1, h2⟩
end
end Go.Proofs.YtobkmkplhbaepaaDoor
