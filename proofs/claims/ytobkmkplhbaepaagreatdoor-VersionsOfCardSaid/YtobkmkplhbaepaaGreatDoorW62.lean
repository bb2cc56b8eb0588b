/- Walks of layer 46: the names of a state. -/
import Derived.Test.YtobkmkplhbaepaaGreatDoorW42
import Derived.Test.YtobkmkplhbaepaaGreatDoorGV
namespace Go.Proofs.YtobkmkplhbaepaaGreatDoor
open Go.RowKit Go.Shelf
set_option linter.unusedSimpArgs false
set_option linter.unusedVariables false
attribute [local go_sem] Oper.semAt_some
set_option maxRecDepth 100000 in
set_option maxHeartbeats 2000000 in
theorem each2_in {α : Type} (en : α → Option Addr) (F : Fence) (hd : F.depth = none) (h6 : F.fn 101) (hro : F.round = none) (l N : Nat) (w0 : World) (J Jx : List α → World → Prop)
    (hY : ∀ m pre x W, J pre W → pre.length < N → YieldAt F m Tryz.prog l #[.pointer (en x)] W fun e W' =>
      (e = .returned (.bool true) ∧ J (pre ++ [x]) W' ∧ Below w0.heap.size W W') ∨ (e = .returned (.bool false) ∧ Jx (pre ++ [x]) W')) (T : T46) :
    ∀ (n : Nat) (p : Option Addr) (pre ys : List α) (W : World), TrL w0 p T (ys.map en) → Below w0.heap.size w0 W → J pre W → pre.length + ys.length ≤ N →
      CallsIn F n Tryz.prog 101 #[.pointer p, .func (.yield l) #[] #[]] W fun e W' =>
        (e = .returned (.bool true) ∧ J (pre ++ ys) W' ∧ Below w0.heap.size W W') ∨ (e = .returned (.bool false) ∧ ∃ q, q <+: ys ∧ Jx (pre ++ q) W') := by
  induction T with
  | nil =>
    intro n p pre ys W ht hB hJ _
    obtain ⟨rfl, hys⟩ := ht
    obtain rfl : ys = [] := by simpa using hys
    clear hys
    refine callsIn_of_wp Tryz.func101 rfl h6 ?_ hro
    simp only [Tryz.ntmps101, List.size_toArray, List.length_cons, List.length_nil, Nat.reduceAdd, Nat.reduceSub, Array.replicate_succ, Array.replicate_zero, List.push_toArray, List.append_toArray, List.nil_append, List.cons_append]
    gi_wp2
    all_goals first
      | (exfalso; have hbad : ∃ b, some undef = some (Value.bool b) := ⟨_, by assumption⟩; obtain ⟨b, hbad⟩ := hbad; simp [undef] at hbad; done)
      | (refine ⟨fun _ h => (by cases h), ?_⟩; gi_wp2; go_ret; exact .inl ⟨rfl, by simpa using hJ, Below.refl _ _⟩)
  | node tl k v tr ihl ihr =>
    intro n p pre ys W ht hB hJ hN
    obtain ⟨b, pl, pr, xl0, xr0, rfl, hnd, hl, hr, hys⟩ := ht
    obtain ⟨xl, ym, rfl, rfl, hym⟩ := List.map_eq_append_iff.1 hys
    obtain ⟨yn, xr, rfl, hyn, rfl⟩ := List.map_eq_cons_iff.1 hym
    clear hys hym
    have hb : b < w0.heap.size := hnd.lt
    have hdd : ∀ k : Nat, (F.depth.isSome = true → 1 ≤ k) := fun k h => by rw [hd] at h; cases h
    simp only [List.length_append, List.length_cons] at hN
    have n0 : w0.cell? ⟨b, 0, none⟩ = some (.pointer pl) := hnd.cell 0
    have n1 : w0.cell? ⟨b, 1, none⟩ = some (.pointer pr) := hnd.cell 1
    have c0 := (hB.cell (p := ⟨b, 0, none⟩) hb).trans n0
    have hY' : ∀ m pre W, J pre W → pre.length < N → YieldAt F m Tryz.prog l #[.pointer (some ⟨b, 0, none⟩)] W fun e W' =>
        (e = .returned (.bool true) ∧ J (pre ++ [yn]) W' ∧ Below w0.heap.size W W') ∨ (e = .returned (.bool false) ∧ Jx (pre ++ [yn]) W') := by
      intro m pre W h1 h2
      have h3 := hY m pre yn W h1 h2
      rw [hyn] at h3
      exact h3
    have hy2 : ∀ W1, J (pre ++ xl) W1 → Below w0.heap.size W W1 → YieldAt F (n - 1) Tryz.prog l #[.pointer (some ⟨b, 0, none⟩)] W1 fun e W2 =>
        (e = .returned (.bool true) ∧ J (pre ++ xl ++ [yn]) W2 ∧ Below w0.heap.size W W2 ∧ W2.cell? ⟨b, 1, none⟩ = some (.pointer pr) ∧ Below w0.heap.size w0 W2) ∨ (e = .returned (.bool false) ∧ Jx (pre ++ xl ++ [yn]) W2) := fun W1 hJ1 hb1 =>
      YieldAt.mono (hY' (n - 1) _ W1 hJ1 (by simp; omega)) fun e W2 h => h.elim
        (fun ⟨he, hj, hb2⟩ => .inl ⟨he, hj, hb1.trans hb2, ((hB.trans (hb1.trans hb2)).cell (p := ⟨b, 1, none⟩) hb).trans n1, hB.trans (hb1.trans hb2)⟩) .inr
    have ih1 := (ihl (n - 1) pl pre xl W hl hB hJ (by omega)).mono (R' := fun e W1 =>
        (e = .returned (.bool true) ∧ YieldAt F (n - 1) Tryz.prog l #[.pointer (some ⟨b, 0, none⟩)] W1 fun e W2 =>
          (e = .returned (.bool true) ∧ J (pre ++ xl ++ [yn]) W2 ∧ Below w0.heap.size W W2 ∧ W2.cell? ⟨b, 1, none⟩ = some (.pointer pr) ∧ Below w0.heap.size w0 W2) ∨ (e = .returned (.bool false) ∧ Jx (pre ++ xl ++ [yn]) W2)) ∨
        (e = .returned (.bool false) ∧ ∃ q, q <+: xl ∧ Jx (pre ++ q) W1))
      (fun e W1 h => h.elim (fun ⟨he, hj, hb1⟩ => .inl ⟨he, hy2 W1 hj hb1⟩) .inr)
    clear hy2 ihl
    refine callsIn_of_wp Tryz.func101 rfl h6 ?_ hro
    simp only [Tryz.ntmps101, List.size_toArray, List.length_cons, List.length_nil, Nat.reduceAdd, Nat.reduceSub, Array.replicate_succ, Array.replicate_zero, List.push_toArray, List.append_toArray, List.nil_append, List.cons_append]
    gi_wp2_with (first
      | ((try refine ⟨hdd _, ?_⟩); gi_at_call 101; refine ih1.mono ?_; clear ih1; rintro e W1 (⟨rfl, fn, tmps, assign, body, hy, hR⟩ | ⟨rfl, q, hq, hx1⟩))
      | ((try refine ⟨hdd _, ?_⟩); refine hR.mono ?_; clear hR; rintro e W2 (⟨rfl, hJ2, hb2, c2', hB2⟩ | ⟨rfl, hx2⟩))
      | ((try refine ⟨hdd _, ?_⟩); gi_at_call 101; refine (ihr (n - 1) pr _ xr _ hr hB2 hJ2 (by simp; omega)).mono ?_; rintro e W3 (⟨rfl, hJ3, hb3⟩ | ⟨rfl, q, hq, hx3⟩)))
    · go_ret
      exact .inl ⟨rfl, by simpa [List.append_assoc] using hJ3, hb2.trans hb3⟩
    · go_ret
      obtain ⟨r, hr'⟩ := hq
      exact .inr ⟨rfl, xl ++ yn :: q, ⟨r, by simp [← hr']⟩, by simpa [List.append_assoc] using hx3⟩
    · go_ret
      exact .inr ⟨rfl, xl ++ [yn], ⟨xr, by simp⟩, by simpa [List.append_assoc] using hx2⟩
    · refine ⟨fun _ h => (by cases h), ?_⟩
      gi_wp2
      go_ret
      exact .inr ⟨rfl, q, hq.trans (by simp), hx1⟩
set_option maxHeartbeats 1000000 in
theorem nodes2_in {α : Type} (en : α → Option Addr) (ys0 : List α) (F : Fence) (hd : F.depth = none) (n : Nat) (h5 : F.fn 100) (h6 : F.fn 101) (hro : F.round = none) (l Bt B : Nat) (q : Option Addr) (T : T46) (xs : List (Option Addr)) (w0 : World) (J Jx : List α → World → Prop)
    (hys : ys0.map en = xs) (hY : ∀ pre x W, J pre W → pre.length < ys0.length → YieldAt F (n - 1) Tryz.prog l #[.pointer (en x)] W fun e W' =>
      (e = .returned (.bool true) ∧ J (pre ++ [x]) W' ∧ Below w0.heap.size W W') ∨ (e = .returned (.bool false) ∧ Jx (pre ++ [x]) W'))
    (W : World) (hBt : W.cell? ⟨Bt, 0, none⟩ = some (.pointer (some ⟨B, 0, none⟩))) (hB0 : B < w0.heap.size) (hq : w0.cell? ⟨B, 0, none⟩ = some (.pointer q)) (hT : TrL w0 q T xs) (hb : Below w0.heap.size w0 W) (h0 : J [] W) :
    CallsIn F n Tryz.prog 100 #[.func (.yield l) #[] #[], .pointer (some ⟨Bt, 0, none⟩)] W fun e W' => (∃ v, e = .returned v) ∧
      ((∃ ys, ys = ys0 ∧ J ys W') ∨ (∃ pre, pre <+: ys0 ∧ Jx pre W')) := by
  have hdd : ∀ k : Nat, (F.depth.isSome = true → 1 ≤ k) := fun k h => by rw [hd] at h; cases h
  have hp := each2_in en F hd h6 hro l ys0.length w0 J Jx (fun m pre x W hj hl => YieldAt.anyDepth hd m (hY pre x W hj hl)) T (n - 1) q [] ys0 W (by rw [hys]; exact hT) hb h0 (by simp)
  have hq' := (hb.cell (p := ⟨B, 0, none⟩) hB0).trans hq
  refine callsIn_of_wp Tryz.func100 rfl h5 ?_ hro
  simp only [Tryz.ntmps100, List.size_toArray, List.length_cons, List.length_nil, Nat.reduceAdd, Nat.reduceSub, Array.replicate_succ, Array.replicate_zero, List.push_toArray, List.append_toArray, List.nil_append, List.cons_append]
  gi_wp2_with ((try refine ⟨hdd _, ?_⟩); gi_at_call 101; refine hp.mono ?_; clear hp; rintro e W1 (⟨rfl, hJ1, _⟩ | ⟨rfl, q, hq, hx⟩))
  · go_end0
    exact ⟨⟨_, rfl⟩, .inl ⟨_, rfl, by simpa using hJ1⟩⟩
  · go_end0
    exact ⟨⟨_, rfl⟩, .inr ⟨q, hq, by simpa using hx⟩⟩
theorem nodes2_stops {α : Type} (en : α → Option Addr) (ys0 : List α) (F : Fence) (hd : F.depth = none) (n : Nat) (h5 : F.fn 100) (h6 : F.fn 101) (hro : F.round = none) (Bt B : Nat) (q : Option Addr) (T : T46) (xs : List (Option Addr)) (hys : ys0.map en = xs) (w0 w : World) (hBt : Bt < w.heap.size) (hc : w.cell? ⟨Bt, 0, none⟩ = some (.pointer (some ⟨B, 0, none⟩))) (hB0 : B < w0.heap.size) (hq : w0.cell? ⟨B, 0, none⟩ = some (.pointer q)) (hT : TrL w0 q T xs) (hb : Below w0.heap.size w0 w) :
    SeqStopsK F n Tryz.prog 100 #[.pointer (some ⟨Bt, 0, none⟩)] (fun x : α => #[Value.pointer (en x)]) (Below w0.heap.size) (fun ys => ys = ys0) (fun pre => pre <+: ys0) ys0.length w := fun l J Jx W hW _ _ hY h0 =>
  nodes2_in en ys0 F hd n h5 h6 hro l Bt B q T xs w0 J Jx hys hY W ((hW.cell (p := ⟨Bt, 0, none⟩) hBt).trans hc) hB0 hq hT (hb.trans (hW.mono hb.size)) h0
theorem fin_map {α : Type} (l : List α) {n : Nat} (h : l.length = n) : (List.finRange n).map (fun i : Fin n => l[i.1]'(by rw [h]; exact i.2)) = l := by
  subst h
  exact List.ext_getElem (by simp) fun i h1 h2 => by simp
theorem stepIn_append {F : Fence} {n : Nat} {P : Program} (w : World) {ops : Array Oper} {o : Oper} {a : Go.Act} {K : Go.Act → World → Prop} {Q : Exit → Go.Act → World → Prop} {E : Prop} (hgd : o.guard = none) (s x : Operand) (t : TypeId)
    (hop : o.op = Op.call { callee := Callee.builtin Builtin.append, args := #[s, x], argTypes := #[t, t] }) (v' : Value) (w' : World) (hrun : (Builtin.append_ #[t, t] o.type #[a.eval s, a.eval x]).run P w = .ok v' w') (hK : K (a.put o.dst v') w') :
    if Region.wanted o (yielded ops a.tmps) = true then Oper.wpIn F n P o a w K Q else E := by
  have hw : Region.wanted o (yielded ops a.tmps) = true := by simp [Region.wanted, hgd]
  rw [if_pos hw]
  unfold Oper.wpIn
  refine ⟨?_, ?_⟩
  · simp [Oper.about, hop, resolve, Target.leads, Sem.run_pure]
  · rw [Oper.semAt_plain F _ _ (by rw [hop]; intro c hc'; cases hc')]
    simp [execOp, hop, resolve, invoke, builtin, hrun, Result.andThen]
    exact hK
def NamP (s : St) (w : World) (e : Ending) (w' : World) : Prop := ∃ v, e = .returned v ∧ w'.ownsRow w.heap.size 40 5 v s.length ((s.map Prod.fst).flatMap nmC) ∧ Below w.heap.size w w'
set_option maxRecDepth 100000 in
set_option maxHeartbeats 4000000 in
theorem names_st {w : World} {p : Option Addr} {s : St} (h : StAt w p s) (hsm : s.length ≤ 1000) : Calls Tryz.prog 51 #[.pointer p] w (NamP s w) := by
  obtain ⟨B, q, t, rfl, b, ht, hf, hs⟩ := h
  obtain ⟨xs, hx⟩ := trl_of ht
  have hxl : xs.length = s.length := by rw [hx.len, Tr.sz_flat, hf]
  have hrow : RowW NNd w s xs := by rw [← hf]; exact hx.row
  have hq : w.cell? ⟨B, 0, none⟩ = some (.pointer q) := b.cell 0
  have hB0 := b.lt
  obtain ⟨i0, hi, hz0, hz1, hz2⟩ := info_parts infoNm
  have HX := Lib.hid hx
  have HRW := Lib.hid hrow
  have HF := Lib.hid (fin_map xs hxl)
  clear b ht hf hs hx hrow
  refine (callsIn_wide (n := 6)).1 ?_
  refine callsIn_of_wp_marks Tryz.func51 rfl trivial ?_ rfl
  simp only [Tryz.ntmps51, List.size_toArray, List.length_cons, List.length_nil, Nat.reduceAdd, Nat.reduceSub, Array.replicate_succ, Array.replicate_zero, List.push_toArray, List.append_toArray, List.nil_append, List.cons_append]
  gi_wp2_with ((try refine ⟨trivial, ?_⟩); gi_at_call 78; refine (nodes_in Fence.wide _ trivial rfl _ _).mono ?_; rintro e w' ⟨rfl, rfl⟩)
  have bO := Boxed.new w 36 (.slice none 0 0)
  have bN := Boxed.new (w.alloc (.cells #[.slice none 0 0] 36)) 27 (.pointer (some ⟨B, 0, none⟩))
  rw [World.size_alloc] at bN
  have hB0' : Below w.heap.size w ((w.alloc (.cells #[.slice none 0 0] 36)).alloc (.cells #[.pointer (some ⟨B, 0, none⟩)] 27)) := ((Below.refl _ w).alloc (Nat.le_refl _) _).alloc (by simp) _
  refine wpIn_rangeFunc_ownG rfl (by omega) (gf := 100) (lb := #[.pointer (some ⟨w.heap.size + 1, 0, none⟩)]) rfl trivial (enters_of Tryz.func100 (by kernel_rfl) rfl)
    (nodes2_stops (fun i : Fin s.length => xs[i.1]'(by rw [hxl]; exact i.2)) (List.finRange s.length) Fence.wide rfl _ trivial trivial rfl (w.heap.size + 1) B q t xs HF.out w _ (by simp) bN.cell hB0 hq HX.out hB0') belowK_t (belowK_b (by simp; omega)) (Below.refl _ _) (fun _ => rfl)
    (fun pre W => (∃ v, Boxed W w.heap.size 36 v ∧ W.ownsRow w.heap.size 40 5 v pre.length ((pre.map (fun i : Fin s.length => s[i.1].1)).flatMap nmC) ∧ True) ∧ Below w.heap.size w W)
    (fun _ _ _ => False)
    (OwnFrom.and (Own.from (holdsRow_own w.heap.size w.heap.size 36 40 5 (fun (pre : List (Fin s.length)) => pre.length) (fun (pre : List (Fin s.length)) => (pre.map (fun i : Fin s.length => s[i.1].1)).flatMap nmC) (fun _ _ => True)) _) (ownFrom_below (Nat.le_refl _) (by simp; omega)))
    (fun _ _ _ _ _ hs _ _ => hs)
    ⟨⟨_, bO.alloc _, World.ownsRow_nil _ _ _ _, trivial⟩, hB0'⟩
    (fun (x : Fin s.length) => { tmps := #[.pointer (some ⟨B, 0, none⟩), undef, .slice none 0 0, .pointer (some ⟨w.heap.size, 0, none⟩), .pointer (xs[x.1]'(by rw [hxl]; exact x.2)), .pointer (some ⟨B, 0, none⟩), .func (.func 100) #[] #[.pointer (some ⟨w.heap.size + 1, 0, none⟩)], .pointer (xs[x.1]'(by rw [hxl]; exact x.2)), undef, undef, undef, undef, undef, undef, undef, undef], defers := [] }) ?assign ?body ?done ?stop
  case assign =>
    intro l x W K hK
    gi_wp2
    exact hK
  case body =>
    rintro l pre x W ⟨⟨v, hv, hrow, _⟩, hB⟩ hlt
    have hc := hv.cell
    have hpl : pre.length < s.length := by simpa using hlt
    obtain ⟨b, pl, pr, hh, ss, yy, hxe, hnd⟩ := HRW.out.2 x.1 _ _ (List.getElem?_eq_getElem x.2) (List.getElem?_eq_getElem (by rw [hxl]; exact x.2))
    obtain ⟨n, hn⟩ : ∃ n, s[x.1].1 = n := ⟨_, rfl⟩
    have HN := Lib.hid hn
    rw [hxe]
    rw [hn] at hnd
    have hbl : b < w.heap.size := hnd.lt
    have n2 : W.cell? ⟨b, 2, none⟩ = some (.int .i64 n.kind) := (hB.cell (p := ⟨b, 2, none⟩) hbl).trans (hnd.cell 2)
    have n3 : W.cell? ⟨b, 3, none⟩ = some (.string (bs n.owner)) := (hB.cell (p := ⟨b, 3, none⟩) hbl).trans (hnd.cell 3)
    have n4 : W.cell? ⟨b, 4, none⟩ = some (.int .i64 n.num) := (hB.cell (p := ⟨b, 4, none⟩) hbl).trans (hnd.cell 4)
    have n5 : W.cell? ⟨b, 5, none⟩ = some (.int .i64 n.idx) := (hB.cell (p := ⟨b, 5, none⟩) hbl).trans (hnd.cell 5)
    have n6 : W.cell? ⟨b, 6, none⟩ = some (.string (bs n.text)) := (hB.cell (p := ⟨b, 6, none⟩) hbl).trans (hnd.cell 6)
    clear hn hnd hxe
    obtain ⟨v', w1, hrun, hown', hgrow, _⟩ := run_append_own (P := Tryz.prog) (W.alloc (.cells #[.int .i64 n.kind, .string (bs n.owner), .int .i64 n.num, .int .i64 n.idx, .string (bs n.text)] 40)).drew w.heap.size 36 36 40 i0 _ 5 56 Tryz.underlying36 hi hz0 hz1 hz2 rfl (by decide) v pre.length _ (own_next hrow ((Below.refl _ _).alloc (Nat.le_refl _) _).drew) ⟨W.heap.size, 0, none⟩ 1 1 (nmC n) rfl (by
        intro j u hj
        have h2 := (own_new W 0 40 5 (nmC n) rfl (Nat.zero_le _)).cells (g := W.heap.size) rfl j u hj
        exact h2) (by intro u hu; simp only [nmC, List.mem_cons, List.not_mem_nil, or_false] at hu; rcases hu with rfl | rfl | rfl | rfl | rfl <;> rfl) (by unfold maxLen; omega) (by omega) (by have := hB.size; simp; omega)
    obtain ⟨g', cap', rfl⟩ := ownsRow_succ hown'
    have hgr2 : (W.alloc (.cells #[.int .i64 n.kind, .string (bs n.owner), .int .i64 n.num, .int .i64 n.idx, .string (bs n.text)] 40)).grownBy w1 v.ownBlock := ⟨hgrow.os, hgrow.tape, hgrow.output, hgrow.size, hgrow.block⟩
    obtain ⟨hv1, hv2, hr2, hk2, hb2⟩ := hv.appended (by decide) hrow hB.size (by omega) hown' hgr2
    have hc1 := hv1.cell
    have hBW : w.heap.size < W.heap.size := by
      rcases Nat.lt_or_ge w.heap.size W.heap.size with h | h
      · exact h
      · exfalso; have := hc; simp [World.cell?, Array.getElem?_eq_none h] at this
    have hcA := (((Below.refl W.heap.size W).alloc (Nat.le_refl _) (.cells #[.int .i64 n.kind, .string (bs n.owner), .int .i64 n.num, .int .i64 n.idx, .string (bs n.text)] 40)).cell (p := ⟨w.heap.size, 0, none⟩) hBW).trans hc
    have hf1 := hv1.frozen
    gi_wp2
    refine wpIn_region_any (by kernel_rfl) ?_
    try (change wpAnyIn _ _ _ _ _ _ _ _ _ (World.drew _))
    refine wpAnyIn_ready (rs := [0, 1]) (by kernel_rfl) (by simp) ?_
    refine AllReadyIn.cons rfl (fun K hK => ?_) (AllReadyIn.cons rfl (fun K hK => ?_) AllReadyIn.nil)
    · go_simp
      refine hK _ _ ?_
      clear hK K
      refine wpAnyIn_ready (rs := [1]) (by kernel_rfl) (by simp) ?_
      refine AllReadyIn.cons rfl (fun K hK => ?_) AllReadyIn.nil
      · go_simp
        refine hK _ _ ?_
        clear hK K
        refine wpAnyIn_ready (rs := [2]) (by kernel_rfl) (by simp) ?_
        refine AllReadyIn.cons rfl (fun K hK => ?_) AllReadyIn.nil
        · go_simp
          refine hK _ _ ?_
          clear hK K
          refine wpAnyIn_ready (rs := [3]) (by kernel_rfl) (by simp) ?_
          refine AllReadyIn.cons rfl (fun K hK => ?_) AllReadyIn.nil
          · go_simp
            refine hK _ _ ?_
            clear hK K
            refine wpAnyIn_ready (rs := [4]) (by kernel_rfl) (by simp) ?_
            refine AllReadyIn.cons rfl (fun K hK => ?_) AllReadyIn.nil
            · go_simp
              refine hK _ _ ?_
              clear hK K
              refine wpAnyIn_ready (rs := [5]) (by kernel_rfl) (by simp) ?_
              refine AllReadyIn.cons rfl (fun K hK => ?_) AllReadyIn.nil
              · go_simp
                refine hK _ _ ?_
                clear hK K
                refine wpAnyIn_ready (rs := [6]) (by kernel_rfl) (by simp) ?_
                refine AllReadyIn.cons rfl (fun K hK => ?_) AllReadyIn.nil
                · refine stepIn_append _ rfl _ _ _ rfl (.slice (some ⟨g', 0, none⟩) (pre.length + 1) cap') w1 hrun ?_
                  refine hK _ _ ?_
                  clear hK K
                  refine wpAnyIn_ready (rs := [7]) (by kernel_rfl) (by simp) ?_
                  refine AllReadyIn.cons rfl (fun K hK => ?_) AllReadyIn.nil
                  · go_simp
                    refine hK _ _ ?_
                    clear hK K
                    refine wpAnyIn_done (by kernel_rfl) ?_ _
                    gi_wp2
                    exact ⟨hk2.from _, hb2, ⟨_, hv2, (by rw [List.length_append, List.map_append, List.flatMap_append, List.map_singleton, List.flatMap_singleton, HN.out]; exact hr2), trivial⟩, hB.trans hb2⟩
    · go_simp
      refine hK _ _ ?_
      clear hK K
      refine wpAnyIn_ready (rs := [0, 2]) (by kernel_rfl) (by simp) ?_
      refine AllReadyIn.cons rfl (fun K hK => ?_) (AllReadyIn.cons rfl (fun K hK => ?_) AllReadyIn.nil)
      · go_simp
        refine hK _ _ ?_
        clear hK K
        refine wpAnyIn_ready (rs := [2]) (by kernel_rfl) (by simp) ?_
        refine AllReadyIn.cons rfl (fun K hK => ?_) AllReadyIn.nil
        · go_simp
          refine hK _ _ ?_
          clear hK K
          refine wpAnyIn_ready (rs := [3]) (by kernel_rfl) (by simp) ?_
          refine AllReadyIn.cons rfl (fun K hK => ?_) AllReadyIn.nil
          · go_simp
            refine hK _ _ ?_
            clear hK K
            refine wpAnyIn_ready (rs := [4]) (by kernel_rfl) (by simp) ?_
            refine AllReadyIn.cons rfl (fun K hK => ?_) AllReadyIn.nil
            · go_simp
              refine hK _ _ ?_
              clear hK K
              refine wpAnyIn_ready (rs := [5]) (by kernel_rfl) (by simp) ?_
              refine AllReadyIn.cons rfl (fun K hK => ?_) AllReadyIn.nil
              · go_simp
                refine hK _ _ ?_
                clear hK K
                refine wpAnyIn_ready (rs := [6]) (by kernel_rfl) (by simp) ?_
                refine AllReadyIn.cons rfl (fun K hK => ?_) AllReadyIn.nil
                · refine stepIn_append _ rfl _ _ _ rfl (.slice (some ⟨g', 0, none⟩) (pre.length + 1) cap') w1 hrun ?_
                  refine hK _ _ ?_
                  clear hK K
                  refine wpAnyIn_ready (rs := [7]) (by kernel_rfl) (by simp) ?_
                  refine AllReadyIn.cons rfl (fun K hK => ?_) AllReadyIn.nil
                  · go_simp
                    refine hK _ _ ?_
                    clear hK K
                    refine wpAnyIn_done (by kernel_rfl) ?_ _
                    gi_wp2
                    exact ⟨hk2.from _, hb2, ⟨_, hv2, (by rw [List.length_append, List.map_append, List.flatMap_append, List.map_singleton, List.flatMap_singleton, HN.out]; exact hr2), trivial⟩, hB.trans hb2⟩
      · go_simp
        refine hK _ _ ?_
        clear hK K
        refine wpAnyIn_ready (rs := [0, 3]) (by kernel_rfl) (by simp) ?_
        refine AllReadyIn.cons rfl (fun K hK => ?_) (AllReadyIn.cons rfl (fun K hK => ?_) AllReadyIn.nil)
        · go_simp
          refine hK _ _ ?_
          clear hK K
          refine wpAnyIn_ready (rs := [3]) (by kernel_rfl) (by simp) ?_
          refine AllReadyIn.cons rfl (fun K hK => ?_) AllReadyIn.nil
          · go_simp
            refine hK _ _ ?_
            clear hK K
            refine wpAnyIn_ready (rs := [4]) (by kernel_rfl) (by simp) ?_
            refine AllReadyIn.cons rfl (fun K hK => ?_) AllReadyIn.nil
            · go_simp
              refine hK _ _ ?_
              clear hK K
              refine wpAnyIn_ready (rs := [5]) (by kernel_rfl) (by simp) ?_
              refine AllReadyIn.cons rfl (fun K hK => ?_) AllReadyIn.nil
              · go_simp
                refine hK _ _ ?_
                clear hK K
                refine wpAnyIn_ready (rs := [6]) (by kernel_rfl) (by simp) ?_
                refine AllReadyIn.cons rfl (fun K hK => ?_) AllReadyIn.nil
                · refine stepIn_append _ rfl _ _ _ rfl (.slice (some ⟨g', 0, none⟩) (pre.length + 1) cap') w1 hrun ?_
                  refine hK _ _ ?_
                  clear hK K
                  refine wpAnyIn_ready (rs := [7]) (by kernel_rfl) (by simp) ?_
                  refine AllReadyIn.cons rfl (fun K hK => ?_) AllReadyIn.nil
                  · go_simp
                    refine hK _ _ ?_
                    clear hK K
                    refine wpAnyIn_done (by kernel_rfl) ?_ _
                    gi_wp2
                    exact ⟨hk2.from _, hb2, ⟨_, hv2, (by rw [List.length_append, List.map_append, List.flatMap_append, List.map_singleton, List.flatMap_singleton, HN.out]; exact hr2), trivial⟩, hB.trans hb2⟩
        · go_simp
          refine hK _ _ ?_
          clear hK K
          refine wpAnyIn_ready (rs := [0, 4]) (by kernel_rfl) (by simp) ?_
          refine AllReadyIn.cons rfl (fun K hK => ?_) (AllReadyIn.cons rfl (fun K hK => ?_) AllReadyIn.nil)
          · go_simp
            refine hK _ _ ?_
            clear hK K
            refine wpAnyIn_ready (rs := [4]) (by kernel_rfl) (by simp) ?_
            refine AllReadyIn.cons rfl (fun K hK => ?_) AllReadyIn.nil
            · go_simp
              refine hK _ _ ?_
              clear hK K
              refine wpAnyIn_ready (rs := [5]) (by kernel_rfl) (by simp) ?_
              refine AllReadyIn.cons rfl (fun K hK => ?_) AllReadyIn.nil
              · go_simp
                refine hK _ _ ?_
                clear hK K
                refine wpAnyIn_ready (rs := [6]) (by kernel_rfl) (by simp) ?_
                refine AllReadyIn.cons rfl (fun K hK => ?_) AllReadyIn.nil
                · refine stepIn_append _ rfl _ _ _ rfl (.slice (some ⟨g', 0, none⟩) (pre.length + 1) cap') w1 hrun ?_
                  refine hK _ _ ?_
                  clear hK K
                  refine wpAnyIn_ready (rs := [7]) (by kernel_rfl) (by simp) ?_
                  refine AllReadyIn.cons rfl (fun K hK => ?_) AllReadyIn.nil
                  · go_simp
                    refine hK _ _ ?_
                    clear hK K
                    refine wpAnyIn_done (by kernel_rfl) ?_ _
                    gi_wp2
                    exact ⟨hk2.from _, hb2, ⟨_, hv2, (by rw [List.length_append, List.map_append, List.flatMap_append, List.map_singleton, List.flatMap_singleton, HN.out]; exact hr2), trivial⟩, hB.trans hb2⟩
          · go_simp
            refine hK _ _ ?_
            clear hK K
            refine wpAnyIn_ready (rs := [0, 5]) (by kernel_rfl) (by simp) ?_
            refine AllReadyIn.cons rfl (fun K hK => ?_) (AllReadyIn.cons rfl (fun K hK => ?_) AllReadyIn.nil)
            · go_simp
              refine hK _ _ ?_
              clear hK K
              refine wpAnyIn_ready (rs := [5]) (by kernel_rfl) (by simp) ?_
              refine AllReadyIn.cons rfl (fun K hK => ?_) AllReadyIn.nil
              · go_simp
                refine hK _ _ ?_
                clear hK K
                refine wpAnyIn_ready (rs := [6]) (by kernel_rfl) (by simp) ?_
                refine AllReadyIn.cons rfl (fun K hK => ?_) AllReadyIn.nil
                · refine stepIn_append _ rfl _ _ _ rfl (.slice (some ⟨g', 0, none⟩) (pre.length + 1) cap') w1 hrun ?_
                  refine hK _ _ ?_
                  clear hK K
                  refine wpAnyIn_ready (rs := [7]) (by kernel_rfl) (by simp) ?_
                  refine AllReadyIn.cons rfl (fun K hK => ?_) AllReadyIn.nil
                  · go_simp
                    refine hK _ _ ?_
                    clear hK K
                    refine wpAnyIn_done (by kernel_rfl) ?_ _
                    gi_wp2
                    exact ⟨hk2.from _, hb2, ⟨_, hv2, (by rw [List.length_append, List.map_append, List.flatMap_append, List.map_singleton, List.flatMap_singleton, HN.out]; exact hr2), trivial⟩, hB.trans hb2⟩
            · go_simp
              refine hK _ _ ?_
              clear hK K
              refine wpAnyIn_ready (rs := [0]) (by kernel_rfl) (by simp) ?_
              refine AllReadyIn.cons rfl (fun K hK => ?_) AllReadyIn.nil
              · go_simp
                refine hK _ _ ?_
                clear hK K
                refine wpAnyIn_ready (rs := [6]) (by kernel_rfl) (by simp) ?_
                refine AllReadyIn.cons rfl (fun K hK => ?_) AllReadyIn.nil
                · refine stepIn_append _ rfl _ _ _ rfl (.slice (some ⟨g', 0, none⟩) (pre.length + 1) cap') w1 hrun ?_
                  refine hK _ _ ?_
                  clear hK K
                  refine wpAnyIn_ready (rs := [7]) (by kernel_rfl) (by simp) ?_
                  refine AllReadyIn.cons rfl (fun K hK => ?_) AllReadyIn.nil
                  · go_simp
                    refine hK _ _ ?_
                    clear hK K
                    refine wpAnyIn_done (by kernel_rfl) ?_ _
                    gi_wp2
                    exact ⟨hk2.from _, hb2, ⟨_, hv2, (by rw [List.length_append, List.map_append, List.flatMap_append, List.map_singleton, List.flatMap_singleton, HN.out]; exact hr2), trivial⟩, hB.trans hb2⟩
  case done =>
    rintro D ys W hD rfl ⟨⟨v, hv, hrow, _⟩, hB⟩ hK
    have hc := hv.cell
    gi_wp2
    refine ⟨by simp, .inl ⟨_, _, rfl, run_takeDeferred hK, ?_⟩⟩
    have hb := hB.trans (belowK_b (w := w) (Nat.le_refl _) W D _ (.deferred none) (by simp at hD; omega) hK rfl rfl)
    refine ⟨_, results_tmp rfl _ _ _, v, rfl, ?_, hb⟩
    have e : (List.finRange s.length).map (fun i : Fin s.length => s[i.1].1) = s.map Prod.fst := by
      have := fin_map (s.map Prod.fst) (n := s.length) (by simp)
      simpa using this
    rw [e, List.length_finRange] at hrow
    exact ownsRow_putObj hrow _ hK rfl
  case stop =>
    rintro D c pre W _ _ h _
    exact h.elim
end Go.Proofs.YtobkmkplhbaepaaGreatDoor
