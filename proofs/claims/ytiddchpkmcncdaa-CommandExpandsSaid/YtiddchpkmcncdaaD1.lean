/- Arguments of layer 41, opened: words, simple commands, lines, values. -/
import Derived.Test.YtiddchpkmcncdaaS1
namespace Go.Proofs.Ytiddchpkmcncdaa
open Go.RowKit Go.Deep
set_option linter.unusedSimpArgs false
set_option linter.unusedVariables false
instance : Inhabited Pc := ⟨lit []⟩
instance : Inhabited Asg := ⟨⟨[], []⟩⟩
instance : Inhabited Sm := ⟨smE⟩
instance : Inhabited Pl := ⟨⟨0, []⟩⟩
instance : Inhabited V4 := ⟨⟨.nilFunc, .nilFunc, .nilFunc, .nilFunc⟩⟩
section
variable {H : Type} {enc : TypeId × Value → H} {P : Program} {w : World} {base : Nat} {spare : Nat → Bool} {held : Bool}
theorem drop_one {α : Type} {cs : List α} {i : Nat} {u : α} (h : cs[i]? = some u) : (cs.drop i).take 1 = [u] := by
  obtain ⟨hi, rfl⟩ := List.getElem?_eq_some_iff.1 h
  rw [List.drop_eq_getElem_cons hi]; rfl
theorem field_get {t : TypeId} {fs : Array Field} {n : Nat} {cs : List Value} {y : DataW H × List MemPlace} (ht : P.underlying t = some (.struct fs)) (h : DataW.trod enc P w base spare held n t cs = some y)
    (i : Nat) (f : Field) (hf : fs[i]? = some f) (h1 : P.cellsOf f.type = 1) (ho : f.offset = i) (u : Value) (hu : cs[i]? = some u) : ∃ m x, DataW.trod enc P w base spare held m f.type [u] = some x := by
  obtain ⟨xs, m, _, _, _, hl, hall⟩ := DataW.trod_struct ht h
  have h2 := hall i f hf
  rw [h1, ho, drop_one hu] at h2
  have hi : i < xs.length := by rw [hl]; exact (Array.getElem?_eq_some_iff.1 hf).1
  rw [List.getElem?_eq_getElem hi] at h2
  exact ⟨m, _, h2⟩
end
theorem list2 {α : Type} {cs : List α} (h : cs.length = 2) : ∃ a b, cs = [a, b] := by
  match cs, h with
  | [a, b], _ => exact ⟨a, b, rfl⟩
theorem list3 {α : Type} {cs : List α} (h : cs.length = 3) : ∃ a b c, cs = [a, b, c] := by
  match cs, h with
  | [a, b, c], _ => exact ⟨a, b, c, rfl⟩
theorem list5 {α : Type} {cs : List α} (h : cs.length = 5) : ∃ a b c d e, cs = [a, b, c, d, e] := by
  match cs, h with
  | [a, b, c, d, e], _ => exact ⟨a, b, c, d, e, rfl⟩
theorem c1_9 : Try.prog.cellsOf 9 = 1 := by kernel_rfl
theorem c1_4 : Try.prog.cellsOf 4 = 1 := by kernel_rfl
theorem c1_3 : Try.prog.cellsOf 3 = 1 := by kernel_rfl
theorem c1_28 : Try.prog.cellsOf 28 = 1 := by kernel_rfl
theorem c1_39 : Try.prog.cellsOf 39 = 1 := by kernel_rfl
theorem c1_97 : Try.prog.cellsOf 97 = 1 := by kernel_rfl
theorem c1_106 : Try.prog.cellsOf 106 = 1 := by kernel_rfl
theorem c1_107 : Try.prog.cellsOf 107 = 1 := by kernel_rfl
theorem c3_51 : Try.prog.cellsOf 51 = 3 := by kernel_rfl
theorem c2_112 : Try.prog.cellsOf 112 = 2 := by kernel_rfl
theorem c5_109 : Try.prog.cellsOf 109 = 5 := by kernel_rfl
theorem c2_101 : Try.prog.cellsOf 101 = 2 := by kernel_rfl
theorem c2_30 : Try.prog.cellsOf 30 = 2 := by kernel_rfl
theorem c2_56 : Try.prog.cellsOf 56 = 2 := by kernel_rfl
theorem bs_tl' (s : ByteArray) : bs s.data.toList = s := bs_of s
section
variable {H : Type} {enc : TypeId × Value → H} {w : World} {base : Nat} {spare : Nat → Bool} {held : Bool}
theorem open_str {n : Nat} {u : Value} {x : DataW H × List MemPlace} (h : DataW.trod enc Try.prog w base spare held n 9 [u] = some x) : ∃ t : Bs, u = .string (bs t) ∧ t.length ≤ 9223372036854775807 := by
  obtain ⟨s, h1, _, h2⟩ := DataW.trod_string Try.underlying9 h
  injection h1 with h1
  refine ⟨s.data.toList, by rw [bs_of]; exact h1, ?_⟩
  unfold maxLen at h2
  simpa using h2
theorem open_boo {n : Nat} {u : Value} {x : DataW H × List MemPlace} (h : DataW.trod enc Try.prog w base spare held n 4 [u] = some x) : ∃ b : Bool, u = .bool b := by
  obtain ⟨b, h1, _⟩ := DataW.trod_bool Try.underlying4 h
  injection h1 with h1
  exact ⟨b, h1⟩
theorem open_P {n : Nat} {cs : List Value} {y : DataW H × List MemPlace} (h : DataW.trod enc Try.prog w base spare held n 51 cs = some y) (hl : cs.length = 3) : ∃ (p : Pc) (u : Unit), cs = pfc p u ∧ PN w u p := by
  obtain ⟨a, b, c, rfl⟩ := list3 hl
  obtain ⟨_, _, f0⟩ := field_get Try.underlying51 h 0 _ rfl c1_9 rfl a rfl
  obtain ⟨_, _, f1⟩ := field_get Try.underlying51 h 1 _ rfl c1_4 rfl b rfl
  obtain ⟨_, _, f2⟩ := field_get Try.underlying51 h 2 _ rfl c1_4 rfl c rfl
  obtain ⟨t, rfl, ht⟩ := open_str f0
  obtain ⟨x, rfl⟩ := open_boo f1
  obtain ⟨z, rfl⟩ := open_boo f2
  exact ⟨⟨t, x, z⟩, (), rfl, ht⟩
theorem open_W {n : Nat} {v : Value} {y : DataW H × List MemPlace} (h : DataW.trod enc Try.prog w base spare held n 39 [v] = some y) : ∃ ps : Wd, AW w.heap.size w v ps :=
  open_row (f := pfc) (N := PN) pfc_len (by omega) Try.underlying39 c3_51 (fun n cs y h hl => open_P h hl) h
theorem open_A {n : Nat} {cs : List Value} {y : DataW H × List MemPlace} (h : DataW.trod enc Try.prog w base spare held n 112 cs = some y) (hl : cs.length = 2) : ∃ (a : Asg) (u : Value), cs = asgV a u ∧ AA w.heap.size w u a := by
  obtain ⟨a, b, rfl⟩ := list2 hl
  obtain ⟨_, _, f0⟩ := field_get Try.underlying112 h 0 _ rfl c1_9 rfl a rfl
  obtain ⟨_, _, f1⟩ := field_get Try.underlying112 h 1 _ rfl c1_39 rfl b rfl
  obtain ⟨t, rfl, ht⟩ := open_str f0
  obtain ⟨ps, hp⟩ := open_W f1
  exact ⟨⟨t, ps⟩, b, rfl, hp, ht⟩
theorem open_Wc {n : Nat} {cs : List Value} {y : DataW H × List MemPlace} (h : DataW.trod enc Try.prog w base spare held n 39 cs = some y) (hl : cs.length = 1) : ∃ (a : Wd) (u : Value), cs = wdV a u ∧ AW w.heap.size w u a := by
  match cs, hl with
  | [a], _ =>
    obtain ⟨ps, hp⟩ := open_W h
    exact ⟨ps, a, rfl, hp⟩
theorem open_S {n : Nat} {cs : List Value} {y : DataW H × List MemPlace} (h : DataW.trod enc Try.prog w base spare held n 109 cs = some y) (hl : cs.length = 5) : ∃ (c : Sm) (u : V4), cs = smV c u ∧ AS w.heap.size w u c := by
  obtain ⟨a, b, c, d, e, rfl⟩ := list5 hl
  obtain ⟨_, _, f0⟩ := field_get Try.underlying109 h 0 _ rfl c1_106 rfl a rfl
  obtain ⟨_, _, f1⟩ := field_get Try.underlying109 h 1 _ rfl c1_107 rfl b rfl
  obtain ⟨_, _, f2⟩ := field_get Try.underlying109 h 2 _ rfl c1_39 rfl c rfl
  obtain ⟨_, _, f3⟩ := field_get Try.underlying109 h 3 _ rfl c1_39 rfl d rfl
  obtain ⟨_, _, f4⟩ := field_get Try.underlying109 h 4 _ rfl c1_4 rfl e rfl
  obtain ⟨asl, ha⟩ : ∃ l : List Asg, RowRa asgV (AA w.heap.size) w.heap.size w a l := open_row asgV_len (by omega) Try.underlying106 c2_112 (fun n cs y h hl => open_A h hl) f0
  obtain ⟨ws, hw⟩ : ∃ l : List Wd, RowRa wdV (AW w.heap.size) w.heap.size w b l := open_row wdV_len (by omega) Try.underlying107 c1_39 (fun n cs y h hl => open_Wc h hl) f1
  obtain ⟨i, hi⟩ := open_W f2
  obtain ⟨o, ho⟩ := open_W f3
  obtain ⟨z, rfl⟩ := open_boo f4
  exact ⟨⟨asl, ws, i, o, z⟩, ⟨a, b, c, d⟩, rfl, ha, hw, hi, ho⟩
theorem open_Q {n : Nat} {cs : List Value} {y : DataW H × List MemPlace} (h : DataW.trod enc Try.prog w base spare held n 101 cs = some y) (hl : cs.length = 2) : ∃ (q : Pl) (u : Value), cs = plV q u ∧ AP w.heap.size w u q := by
  obtain ⟨a, b, rfl⟩ := list2 hl
  obtain ⟨_, _, f0⟩ := field_get Try.underlying101 h 0 _ rfl c1_3 rfl a rfl
  obtain ⟨_, _, f1⟩ := field_get Try.underlying101 h 1 _ rfl c1_97 rfl b rfl
  obtain ⟨k, h1, _⟩ := DataW.trod_int Try.underlying3 f0
  injection h1 with h1
  subst h1
  obtain ⟨ss, hs⟩ : ∃ l : List Sm, RowRa smV (AS w.heap.size) w.heap.size w b l := open_row smV_len (by omega) Try.underlying97 c5_109 (fun n cs y h hl => open_S h hl) f1
  exact ⟨⟨k, ss⟩, b, rfl, hs⟩
set_option maxRecDepth 100000 in
theorem open_L {r : Reach} {b0 : Nat} {v : Value} {d : DataW H} {p : List MemPlace} (hv : Value.okWide Try.prog w r b0 30 v) (h : DataW.Trod enc Try.prog w base spare held 30 v d p) : ∃ (l : Ln) (u : Value), v = .agg #[u, .bool l.bg] ∧ RowRa plV (AP w.heap.size) w.heap.size w u l.parts := by
  obtain ⟨cs, rfl, hsz⟩ := Go.WideShapes.okWide_struct Try.underlying30 hv
  obtain ⟨c0, c1, rfl⟩ := Go.Joins.array2 (hsz.trans c2_30)
  obtain ⟨n, hf⟩ := h
  have hf' : DataW.trod enc Try.prog w base spare held n 30 [c0, c1] = some (d, p) := by simpa [Value.cells] using hf
  obtain ⟨_, _, f0⟩ := field_get Try.underlying30 hf' 0 _ rfl c1_28 rfl c0 rfl
  obtain ⟨_, _, f1⟩ := field_get Try.underlying30 hf' 1 _ rfl c1_4 rfl c1 rfl
  obtain ⟨qs, hq⟩ : ∃ l : List Pl, RowRa plV (AP w.heap.size) w.heap.size w c0 l := open_row plV_len (by omega) Try.underlying28 c2_101 (fun n cs y h hl => open_Q h hl) f0
  obtain ⟨z, rfl⟩ := open_boo f1
  exact ⟨⟨qs, z⟩, c0, rfl, hq⟩
end
end Go.Proofs.Ytiddchpkmcncdaa
