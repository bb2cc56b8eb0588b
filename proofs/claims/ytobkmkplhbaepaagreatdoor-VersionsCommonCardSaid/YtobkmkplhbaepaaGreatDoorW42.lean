/- Walks of layer 46: the list of the nodes of a state. -/
import Derived.Test.YtobkmkplhbaepaaGreatDoorW41
namespace Go.Proofs.YtobkmkplhbaepaaGreatDoor
open Go.RowKit Go.Shelf
set_option linter.unusedSimpArgs false
set_option linter.unusedVariables false
attribute [local go_sem] Oper.semAt_some
theorem infoNd : (Tryz.prog.info? 117).map (fun i => (i.zero, i.size, i.bytes)) = some (some (.pointer none), 1, 8) := by kernel_rfl
/-- The nodes of a state in a row of the call's own. -/
abbrev OwnNd (w : World) (base : Nat) (v : Value) (s : St) : Prop := RowOwn 117 1 ndC NNd w base v s
def LisP (s : St) (w : World) (e : Ending) (w' : World) : Prop := ∃ v, e = .returned v ∧ OwnNd w' w.heap.size v s ∧ Below w.heap.size w w'
theorem rowC_nd : ∀ (s : St) (xs : List (Option Addr)), xs.length = s.length → rowC ndC s xs = xs.map Value.pointer
  | [], [], _ => rfl
  | q :: s, x :: xs, h => by
    simp only [rowC, ndC, List.map_cons]
    rw [rowC_nd s xs (by simpa using h)]
    rfl
  | [], _ :: _, h => by simp at h
  | _ :: _, [], h => by simp at h
set_option maxRecDepth 100000 in
set_option maxHeartbeats 2000000 in
theorem list_is {w : World} {p : Option Addr} {s : St} (h : StAt w p s) (hsm : s.length ≤ 1000) : Calls Tryz.prog 82 #[.pointer p] w (LisP s w) := by
  have HL := Lib.hid (len_is h)
  obtain ⟨B, q, t, rfl, b, ht, hf, hs⟩ := h
  obtain ⟨xs, hx⟩ := trl_of ht
  have hxl : xs.length = s.length := by rw [hx.len, Tr.sz_flat, hf]
  have hrow : RowW NNd w s xs := by rw [← hf]; exact hx.row
  have hq : w.cell? ⟨B, 0, none⟩ = some (.pointer q) := b.cell 0
  have hB0 := b.lt
  obtain ⟨i0, hi, hz0, hz1, hz2⟩ := info_parts infoNd
  have hmk := run_make (P := Tryz.prog) w 137 117 i0 _ Tryz.underlying137 hi hz0 .i64 .i64 0 (s.length : Int) (by omega) (by omega) (by rw [hz2]; omega) (by omega)
  rw [hz1] at hmk
  simp only [Int.toNat_zero, Int.toNat_natCast, Nat.mul_one] at hmk
  have hown0 := World.ownsRow_made (base := w.heap.size) (size := 1) (e := 117) w (madeCells (Value.pointer none).cells (s.length * 1)) s.length (Nat.le_refl _) (by unfold maxLen; omega) (size_madeCells _ _)
  rw [Nat.mul_one] at hown0
  have HX := Lib.hid hx
  have HRW := Lib.hid hrow
  clear b ht hf hs hx hrow
  refine (callsIn_wide (n := 6)).1 ?_
  refine callsIn_of_wp_marks Tryz.func82 rfl trivial ?_ rfl
  simp only [Tryz.ntmps82, List.size_toArray, List.length_cons, List.length_nil, Nat.reduceAdd, Nat.reduceSub, Array.replicate_succ, Array.replicate_zero, List.push_toArray, List.append_toArray, List.nil_append, List.cons_append]
  gi_wp2_with (first | (refine ⟨trivial, ?_⟩; gi_at_call 65; refine (callsIn_wide.2 HL.out).mono ?_; rintro e w' ⟨rfl, rfl⟩) | ((try refine ⟨trivial, ?_⟩); gi_at_call 78; refine (nodes_in Fence.wide _ trivial rfl _ _).mono ?_; rintro e w' ⟨rfl, rfl⟩))
  have bO := Boxed.new (w.alloc (.cells (madeCells (Value.pointer none).cells s.length) 117)) 137 (.slice (some ⟨w.heap.size, 0, none⟩) 0 s.length)
  rw [World.size_alloc] at bO
  have bN := Boxed.new ((w.alloc (.cells (madeCells (Value.pointer none).cells s.length) 117)).alloc (.cells #[.slice (some ⟨w.heap.size, 0, none⟩) 0 s.length] 137)) 27 (.pointer (some ⟨B, 0, none⟩))
  rw [World.size_alloc, World.size_alloc] at bN
  have hB0' : Below w.heap.size w (((w.alloc (.cells (madeCells (Value.pointer none).cells s.length) 117)).alloc (.cells #[.slice (some ⟨w.heap.size, 0, none⟩) 0 s.length] 137)).alloc (.cells #[.pointer (some ⟨B, 0, none⟩)] 27)) := (((Below.refl _ w).alloc (Nat.le_refl _) _).alloc (by simp) _).alloc (by simp; omega) _
  refine wpIn_rangeFunc_ownG rfl (by omega) (gf := 100) (lb := #[.pointer (some ⟨w.heap.size + 1 + 1, 0, none⟩)]) rfl trivial (enters_of Tryz.func100 (by kernel_rfl) rfl)
    (nodes_stops Fence.wide rfl _ trivial trivial rfl (w.heap.size + 1 + 1) B q t xs w _ (by simp) bN.cell hB0 hq HX.out hB0') belowK_t (belowK_b (by simp; omega)) (Below.refl _ _) (fun _ => rfl)
    (fun pre W => (∃ v, Boxed W (w.heap.size + 1) 137 v ∧ W.ownsRow w.heap.size 117 1 v pre.length (pre.map Value.pointer) ∧ True) ∧ Below w.heap.size w W)
    (fun _ _ _ => False)
    (OwnFrom.and (Own.from (holdsRow_own w.heap.size (w.heap.size + 1) 137 117 1 (fun (pre : List (Option Addr)) => pre.length) (fun (pre : List (Option Addr)) => pre.map Value.pointer) (fun _ _ => True)) _) (ownFrom_below (Nat.le_refl _) (by simp; omega)))
    (fun _ _ _ _ _ hs _ _ => hs)
    ⟨⟨_, bO.alloc _, own_next hown0 (((Below.refl _ _).alloc (by simp) _).alloc (by simp) _), trivial⟩, hB0'⟩
    (fun x => { tmps := #[.pointer (some ⟨B, 0, none⟩), undef, .slice none 0 0, .pointer (some ⟨w.heap.size + 1, 0, none⟩), .pointer x, .pointer (some ⟨B, 0, none⟩), .int .i64 s.length, .slice (some ⟨w.heap.size, 0, none⟩) 0 s.length, .pointer (some ⟨B, 0, none⟩), .func (.func 100) #[] #[.pointer (some ⟨w.heap.size + 1 + 1, 0, none⟩)], .pointer x, undef, undef, undef, undef, undef], defers := [] }) ?assign ?body ?done ?stop
  case assign =>
    intro l x W K hK
    gi_wp2
    exact hK
  case body =>
    rintro l pre x W ⟨⟨v, hv, hrow, _⟩, hB⟩ hlt
    have hc := hv.cell
    have hpl : pre.length < xs.length := hlt
    gi_wp2_with (gi_at_builtin; refine wpListIn_append_own _ rfl _ _ 137 rfl w.heap.size 117 i0 (.pointer none) 1 8 Tryz.underlying137 hi hz0 hz1 hz2 rfl (by decide) _ _ _ rfl (hrow.alloc _) ⟨W.heap.size, 0, none⟩ 1 1 [.pointer x] rfl rfl (cell_one_new _ _ _) (by simp [Value.oneCell']) (by unfold maxLen; omega) (by omega) (by have := hB.size; simp; omega) ?_; intro v' w1 hown' hgrow _; obtain ⟨g', cap', rfl⟩ := ownsRow_succ hown'; obtain ⟨hv1, hv2, hr2, hk2, hb2⟩ := hv.appended (by decide) hrow hB.size (by omega) hown' hgrow; have hc1 := hv1.cell; have hf1 := hv1.frozen)
    exact ⟨hk2.from _, hb2, ⟨_, hv2, by simpa using hr2, trivial⟩, hB.trans hb2⟩
  case done =>
    rintro D ys W hD rfl ⟨⟨v, hv, hrow, _⟩, hB⟩ hK
    have hc := hv.cell
    gi_wp2
    refine ⟨by simp, .inl ⟨_, _, rfl, run_takeDeferred hK, ?_⟩⟩
    have hb := hB.trans (belowK_b (w := w) (Nat.le_refl _) W D _ (.deferred none) (by simp at hD; omega) hK rfl rfl)
    refine ⟨_, results_tmp rfl _ _ _, v, rfl, ⟨ys, HRW.out.imp fun _ _ => NNd.next hb, ?_⟩, hb⟩
    rw [rowC_nd s ys hxl, ← hxl]
    exact ownsRow_putObj hrow _ hK rfl
  case stop =>
    rintro D c pre W _ _ h _
    exact h.elim
end Go.Proofs.YtobkmkplhbaepaaGreatDoor
