/- Walks of layer 46: Diff of states. -/
import Derived.Test.YtobkmkplhbaepaaGreatDoorW42
import Derived.Deep.CutBlock
import Derived.Deep.DeepCutAuto
import Derived.LaidEqlPtr
import Derived.Test.YtobkmkplhbaepaaGreatDoorGB
import Derived.Test.YtobkmkplhbaepaaGreatDoorGV
namespace Go.Proofs.YtobkmkplhbaepaaGreatDoor
open Go.RowKit
set_option linter.unusedSimpArgs false
set_option linter.unusedVariables false
attribute [local go_sem ↓] Go.wp_at_zero Go.wp_at_succ
theorem ndA_inj {pl pr pl' pr' : Option Addr} {k k' : Nm} {v v' : Bs} {h h' s s' y y' : Nat} (e : ndA pl pr k v h s y = ndA pl' pr' k' v' h' s' y') : pl = pl' ∧ pr = pr' ∧ k = k' ∧ v = v' := by
  unfold ndA at e
  obtain ⟨k1, k2, k3, k4, k5⟩ := k
  obtain ⟨l1, l2, l3, l4, l5⟩ := k'
  simp only [Array.mk.injEq, List.cons.injEq, Value.pointer.injEq, Value.int.injEq, Value.string.injEq, true_and, and_true] at e
  obtain ⟨e1, e2, e3, e4, e5, e6, e7, e8, _⟩ := e
  exact ⟨e1, e2, by rw [e3, bs_inj e4, e5, e6, bs_inj e7], bs_inj e8⟩
theorem NdAt.inj {w : World} {b : Nat} {pl pr pl' pr' : Option Addr} {k k' : Nm} {v v' : Bs} {h h' s s' y y' : Nat} (h1 : NdAt w b pl pr k v h s y) (h2 : NdAt w b pl' pr' k' v' h' s' y') : pl = pl' ∧ pr = pr' ∧ k = k' ∧ v = v' := by
  have h3 : w.heap[b]? = _ := h1
  have h4 : w.heap[b]? = _ := h2
  rw [h3] at h4
  injection h4 with h4
  injection h4 with h4
  exact ndA_inj h4
theorem NNd.same {w : World} {x : Option Addr} {q q' : Nm × Bs} (h1 : NNd w x q) (h2 : NNd w x q') : q = q' := by
  obtain ⟨b, pl, pr, h, s, y, e, hn⟩ := h1
  obtain ⟨b', pl', pr', h', s', y', e', hn'⟩ := h2
  rw [e] at e'
  injection e' with e'
  injection e' with e1
  subst e1
  obtain ⟨_, _, h3, h4⟩ := hn.inj hn'
  exact Prod.ext h3 h4
theorem TrAt.same {w : World} : ∀ {t t' : T46} {p : Option Addr}, TrAt w p t → TrAt w p t' → t = t'
  | .nil, .nil, _, _, _ => rfl
  | .nil, .node l k v r, p, h, ⟨b, _, _, e, _⟩ => by rw [show p = none from h] at e; cases e
  | .node l k v r, .nil, p, ⟨b, _, _, e, _⟩, h => by rw [show p = none from h] at e; cases e
  | .node l k v r, .node l' k' v' r', p, ⟨b, pl, pr, e, hn, hl, hr⟩, ⟨b', pl', pr', e', hn', hl', hr'⟩ => by
    rw [e] at e'
    injection e' with e'
    injection e' with e1
    subst e1
    obtain ⟨h1, h2, h3, h4⟩ := hn.inj hn'
    subst h1 h2 h3 h4
    rw [TrAt.same hl hl', TrAt.same hr hr']
abbrev RdNd (w : World) (v : Value) (s : St) : Prop := RowRd 117 ndC NNd w v s
theorem OwnP.keep_ {α : Type} {e : TypeId} {s : Nat} {f : α → List Value} {L : List TypeId} {w w' : World} {base : Nat} {v : Value} {l : List α} (h : OwnP e s f w base v l) (k : Kept L w w') (he : L.contains e = false) : OwnP e s f w' base v l := own_keep h k he
theorem RdNd.next {w w' : World} {v : Value} {s : St} (h : RdNd w v s) (hb : Below w.heap.size w w') : RdNd w' v s := RowRd.next h hb fun _ _ => NNd.next hb
/-- A node's address, or nil. -/
def PtOk (w : World) (x : Option Addr) : Prop := x = none ∨ ∃ b cs, x = some ⟨b, 0, none⟩ ∧ Blk w b 123 cs
theorem PtOk.of {w w' : World} {x : Option Addr} {t : T46} (h : TrAt w x t) (hb : Below w.heap.size w w') : PtOk w' x := by
  cases t with
  | nil => exact .inl h
  | node l k v r =>
    obtain ⟨b, pl, pr, e, hn, _⟩ := h
    exact .inr ⟨b, _, e, Blk.next hn hb hn.lt⟩
theorem PtOk.node {w : World} {b : Nat} {pl pr : Option Addr} {k : Nm} {v : Bs} {h s y : Nat} (hn : NdAt w b pl pr k v h s y) : PtOk w (some ⟨b, 0, none⟩) := .inr ⟨b, _, rfl, hn⟩
section
variable {P : Program}
theorem eqIn_ptr {tp te : TypeId} {j : TypeInfo} (w : World) (d : Nat) (hp : P.underlying tp = some (.pointer te)) (hte : P.info? te = some j) (hsz : j.size ≠ 0) {x y : Option Addr}
    (hx : x = none ∨ ∃ b cs t, x = some ⟨b, 0, none⟩ ∧ w.heap[b]? = some (.cells cs t (0, 0))) (hy : y = none ∨ ∃ b cs t, y = some ⟨b, 0, none⟩ ∧ w.heap[b]? = some (.cells cs t (0, 0))) :
    (Op.equalIn (d + 1) tp (.pointer x) (.pointer y)).run P w = .ok (decide (x = y)) w := by
  rcases hx with rfl | ⟨b, cs, t, rfl, hb⟩
  · rcases hy with rfl | ⟨b', cs', t', rfl, hb'⟩
    · simp [Op.equalIn, run_underlying hp]
    · simp [Op.equalIn, run_underlying hp]
  · rcases hy with rfl | ⟨b', cs', t', rfl, hb'⟩
    · simp [Op.equalIn, run_underlying hp]
    · by_cases e : b = b'
      · subst e
        simp [Op.equalIn, run_underlying hp, sizeOf, typeInfo, hte, run_sameAddr_same]
      · have hne : (⟨b, 0, none⟩ : Addr) ≠ ⟨b', 0, none⟩ := by
          intro h
          injection h with h
          exact e h
        simp [Op.equalIn, run_underlying hp, sizeOf, typeInfo, hte, hsz, run_sameAddr_other w hne hb hb', e]
theorem eql_ptr {tp te : TypeId} {j : TypeInfo} (w : World) (hp : P.underlying tp = some (.pointer te)) (hte : P.info? te = some j) (hsz : j.size ≠ 0) {x y : Option Addr}
    (hx : x = none ∨ ∃ b cs t, x = some ⟨b, 0, none⟩ ∧ w.heap[b]? = some (.cells cs t (0, 0))) (hy : y = none ∨ ∃ b cs t, y = some ⟨b, 0, none⟩ ∧ w.heap[b]? = some (.cells cs t (0, 0))) :
    (binOp .eql tp (.pointer x) (.pointer y)).run P w = .ok (.bool (decide (x = y))) w := by
  have h := eqIn_ptr (P := P) w 9999 hp hte hsz hx hy
  simp only [binOp]
  simp [Op.equal, Op.maxDepth, h]
theorem neq_ptr {tp te : TypeId} {j : TypeInfo} (w : World) (hp : P.underlying tp = some (.pointer te)) (hte : P.info? te = some j) (hsz : j.size ≠ 0) {x y : Option Addr}
    (hx : x = none ∨ ∃ b cs t, x = some ⟨b, 0, none⟩ ∧ w.heap[b]? = some (.cells cs t (0, 0))) (hy : y = none ∨ ∃ b cs t, y = some ⟨b, 0, none⟩ ∧ w.heap[b]? = some (.cells cs t (0, 0))) :
    (binOp .neq tp (.pointer x) (.pointer y)).run P w = .ok (.bool (!decide (x = y))) w := by
  have h := eqIn_ptr (P := P) w 9999 hp hte hsz hx hy
  simp only [binOp]
  simp [Op.equal, Op.maxDepth, h]
end
theorem infoNode : (Tryz.prog.info? 123).map (fun i => i.size) = some 11 := by kernel_rfl
theorem infoNode2 : ∃ j, Tryz.prog.info? 123 = some j ∧ j.size ≠ 0 := by
  have h := infoNode
  cases hj : Tryz.prog.info? 123 with
  | none => rw [hj] at h; cases h
  | some j =>
    rw [hj] at h
    simp only [Option.map_some, Option.some.injEq] at h
    exact ⟨j, rfl, by omega⟩
theorem PtOk.w {w : World} {x : Option Addr} (h : PtOk w x) : x = none ∨ ∃ b cs t, x = some ⟨b, 0, none⟩ ∧ w.heap[b]? = some (.cells cs t (0, 0)) := by
  rcases h with h | ⟨b, cs, e, h⟩
  · exact .inl h
  · exact .inr ⟨b, cs, _, e, h⟩
theorem eql_nd {w : World} {x y : Option Addr} (hx : PtOk w x) (hy : PtOk w y) : (binOp .eql 117 (.pointer x) (.pointer y)).run Tryz.prog w = .ok (.bool (decide (x = y))) w := by
  obtain ⟨j, hj, hsz⟩ := infoNode2
  exact eql_ptr w Tryz.underlying117 hj hsz hx.w hy.w
theorem neq_nd {w : World} {x y : Option Addr} (hx : PtOk w x) (hy : PtOk w y) : (binOp .neq 117 (.pointer x) (.pointer y)).run Tryz.prog w = .ok (.bool (!decide (x = y))) w := by
  obtain ⟨j, hj, hsz⟩ := infoNode2
  exact neq_ptr w Tryz.underlying117 hj hsz hx.w hy.w
theorem NNd.keep {L : List TypeId} {w w' : World} (k : Kept L w w') (he : L.contains 123 = false) {x : Option Addr} {q : Nm × Bs} (h : NNd w x q) : NNd w' x q := by
  obtain ⟨b, pl, pr, h, s, y, e, hn⟩ := h
  exact ⟨b, pl, pr, h, s, y, e, Blk.keep hn k he⟩
/-- A block of another type is as it was behind an append. -/
theorem far_cell {w w' : World} {o : Obj} {base s n : Nat} {e : TypeId} {v : Value} {xs : List Value} (ho : (w.alloc o).ownsRow base e s v n xs) (hg : (w.alloc o).grownBy w' v.ownBlock) {i : Nat} {cs : Array Value} {t : TypeId} {fr : Nat × Nat} (hb : w.heap[i]? = some (.cells cs t fr)) (hne : t ≠ e) (k : Nat) : w'.cell? ⟨i, k, none⟩ = w.cell? ⟨i, k, none⟩ := by
  have hlt := (Array.getElem?_eq_some_iff.1 hb).1
  have h1 : (w.alloc o).heap[i]? = w.heap[i]? := Below.heap_alloc w o i hlt
  have h2 : w'.heap[i]? = (w.alloc o).heap[i]? := hg.block i (by simp; omega) fun e1 => by
    obtain ⟨cur, hc⟩ := own_cells_of ho e1.symm
    rw [h1, hb] at hc
    injection hc with hc
    injection hc with _ hc _
    exact hne hc
  unfold World.cell?
  rw [h2, h1]
/-- What Diff answers. -/
def DifP (D : List Ch) (w : World) (e : Ending) (w' : World) : Prop := ∃ v, e = .returned v ∧ OwnP 83 7 chC w' w.heap.size v D ∧ Below w.heap.size w w'
def DRel (s1 s2 : St) (w : World) (gk : Nat) (v5 v6 v7 : Value) (wr : World) : Prop := ∃ (a b : St) (D : List Ch), gk = a.length + b.length ∧ RdNd wr v6 a ∧ RdNd wr v7 b ∧ OwnP 83 7 chC wr w.heap.size v5 D ∧ D ++ diffL a b = diffL s1 s2 ∧ StOk a ∧ StOk b ∧ D.length + gk ≤ 12 ∧ Below w.heap.size w wr
theorem Rd.at_blk {e : TypeId} {w : World} {v : Value} {n : Nat} {xs : List Value} (h : Rd e w v n xs) (hn : 0 < n) : ∃ b o c, v = .slice (some ⟨b, o, none⟩) n c ∧ n ≤ c ∧ b < w.heap.size ∧ (∀ j u, xs[j]? = some u → w.cell? ⟨b, o + j, none⟩ = some u) ∧ ∃ cs fr, w.heap[b]? = some (.cells cs e fr) := by
  obtain ⟨b, o, c, hv, hc, _, hb, hcell⟩ := Rd.at_ h hn
  obtain ⟨A, c', hv', _, _, h0 | ⟨b', o', cs, fr, hA, hbb, hx⟩⟩ := h
  · omega
  · rw [hv'] at hv
    injection hv with hA2 _ hcc
    subst hcc
    rw [hA] at hA2
    injection hA2 with hA2
    injection hA2 with e1 e2 _
    subst e1 e2
    exact ⟨b', o', _, by rw [hv', hA], hc, hb, hcell, cs, fr, hbb⟩
theorem RdNd.head {w : World} {v : Value} {q : Nm × Bs} {s : St} (h : RdNd w v (q :: s)) : ∃ b o c b1 pl pr hh ss yy, v = .slice (some ⟨b, o, none⟩) (s.length + 1) c ∧ s.length + 1 ≤ c ∧ b < w.heap.size ∧ w.cell? ⟨b, o, none⟩ = some (.pointer (some ⟨b1, 0, none⟩)) ∧ NdAt w b1 pl pr q.1 q.2 hh ss yy ∧ ∃ cs fr, w.heap[b]? = some (.cells cs 117 fr) := by
  obtain ⟨us, h1, h2⟩ := h
  obtain ⟨b, o, c, hv, hc, hb, hcell, hblk⟩ := Rd.at_blk h2 (by simp)
  match us, h1 with
  | x :: us, h1 =>
    obtain ⟨b1, pl, pr, hh, ss, yy, e, hn⟩ := h1.2 0 q x rfl rfl
    subst e
    exact ⟨b, o, c, b1, pl, pr, hh, ss, yy, by simpa using hv, by simpa using hc, hb, by simpa using hcell 0 _ rfl, hn, hblk⟩
  | [], h1 => exact absurd h1.1 (by simp)
set_option maxRecDepth 100000 in
set_option maxHeartbeats 4000000 in
theorem diff_is {w : World} {p1 p2 : Option Addr} {s1 s2 : St} (h1 : StAt w p1 s1) (h2 : StAt w p2 s2) (o1 : StOk s1) (o2 : StOk s2) : Calls Tryz.prog 56 #[.pointer p1, .pointer p2] w (DifP (diffL s1 s2) w) := by
  have L1 := Lib.hid (fun (w' : World) (hb : Below w.heap.size w w') => list_is (h1.next hb) (by have := st_six o1; omega))
  have L2 := Lib.hid (fun (w' : World) (hb : Below w.heap.size w w') => list_is (h2.next hb) (by have := st_six o2; omega))
  have hsix1 := st_six o1
  have hsix2 := st_six o2
  have O1 := Lib.hid o1
  have O2 := Lib.hid o2
  obtain ⟨B1, q1, t1, rfl, b1, ht1, hf1, hs1⟩ := h1
  obtain ⟨B2, q2, t2, rfl, b2, ht2, hf2, hs2⟩ := h2
  have HE := Lib.hid (fun (w' : World) (hb : Below w.heap.size w w') => eql_nd (PtOk.of ht1 hb) (PtOk.of ht2 hb))
  have L1w := Lib.hid (fun (w' : World) (hb : Below w.heap.size w w') => L1.out w' hb)
  have c1 : w.cell? ⟨B1, 0, none⟩ = some (.pointer q1) := b1.cell 0
  have c2 : w.cell? ⟨B2, 0, none⟩ = some (.pointer q2) := b2.cell 0
  have HQ : Hid (q1 = q2 → diffL s1 s2 = []) := Lib.hid fun e => by
    subst e
    have := TrAt.same ht1 ht2
    subst this
    rw [← hf2, hf1]
    exact diff_self o1
  clear b1 b2 ht1 ht2 hf1 hf2 hs1 hs2 o1 o2
  go_enter Tryz.func56, Tryz.ntmps56
  go_upto_region 1 with (fail)
  obtain ⟨bq, hbq⟩ : ∃ b, decide (q1 = q2) = b := ⟨_, rfl⟩
  have hpe : (binOp .eql 117 (.pointer q1) (.pointer q2)).run Tryz.prog w.drew = .ok (.bool bq) w.drew := by rw [← hbq]; exact HE.out w.drew (Below.refl _ _).drew
  refine wp_region_noPanic ?_
  refine wp_region_held_drew (S := (fun (w' : World) => (binOp .eql 117 (.pointer q1) (.pointer q2)).run Tryz.prog w' = .ok (.bool bq) w' ∧ w'.cell? ⟨B1, 0, none⟩ = some (.pointer q1) ∧ w'.cell? ⟨B2, 0, none⟩ = some (.pointer q2))) (by kernel_rfl) ?_ (fun hHeld => ?_)
  · exact ⟨hpe, c1, c2⟩
  refine wpAnyH_take (i := 0) (v := ?_) rfl (by kernel_rfl) (by kernel_rfl) (by kernel_rfl) (fun _ _ _ h => h) (Or.inl ⟨by kernel_rfl, ?_⟩) hHeld ?_
  rotate_left
  · (intro w hSw; (try dsimp only at hSw); go_simp; try with_reducible rfl)
  try simp only [Act.put, List.setIfInBounds_toArray, List.set_cons_zero, List.set_cons_succ]
  refine wpAnyH_take (i := 1) (v := ?_) rfl (by kernel_rfl) (by kernel_rfl) (by kernel_rfl) (fun _ _ _ h => h) (Or.inl ⟨by kernel_rfl, ?_⟩) hHeld ?_
  rotate_left
  · (intro w hSw; (try dsimp only at hSw); go_simp; try with_reducible rfl)
  try simp only [Act.put, List.setIfInBounds_toArray, List.set_cons_zero, List.set_cons_succ]
  refine wpAnyH_take (i := 2) (v := ?_) rfl (by kernel_rfl) (by kernel_rfl) (by kernel_rfl) (fun _ _ _ h => h) (Or.inl ⟨by kernel_rfl, ?_⟩) hHeld ?_
  rotate_left
  · (intro w hSw; (try dsimp only at hSw); go_simp; try with_reducible rfl)
  try simp only [Act.put, List.setIfInBounds_toArray, List.set_cons_zero, List.set_cons_succ]
  refine wpAnyH_take (i := 3) (v := ?_) rfl (by kernel_rfl) (by kernel_rfl) (by kernel_rfl) (fun _ _ _ h => h) (Or.inl ⟨by kernel_rfl, ?_⟩) hHeld ?_
  rotate_left
  · (intro w hSw; (try dsimp only at hSw); go_simp; try with_reducible rfl)
  try simp only [Act.put, List.setIfInBounds_toArray, List.set_cons_zero, List.set_cons_succ]
  refine wpAnyH_take (i := 4) (v := ?_) rfl (by kernel_rfl) (by kernel_rfl) (by kernel_rfl) (fun _ _ _ h => h) (Or.inl ⟨by kernel_rfl, ?_⟩) hHeld ?_
  rotate_left
  · (intro w hSw; (try dsimp only at hSw); go_simp; try with_reducible rfl)
  try simp only [Act.put, List.setIfInBounds_toArray, List.set_cons_zero, List.set_cons_succ]
  refine wpAnyH_take (i := 5) (v := ?_) rfl (by kernel_rfl) (by kernel_rfl) (by kernel_rfl) (fun _ _ _ h => h) (Or.inl ⟨by kernel_rfl, ?_⟩) hHeld ?_
  rotate_left
  · (intro w hSw; (try dsimp only at hSw); go_simp; try with_reducible rfl)
  try simp only [Act.put, List.setIfInBounds_toArray, List.set_cons_zero, List.set_cons_succ]
  refine wpAnyH_take (i := 6) (v := ?_) rfl (by kernel_rfl) (by kernel_rfl) (by kernel_rfl) (fun _ _ _ h => h) (Or.inl ⟨by kernel_rfl, ?_⟩) hHeld ?_
  rotate_left
  · (intro w hSw; (try dsimp only at hSw); go_simp; try with_reducible rfl)
  try simp only [Act.put, List.setIfInBounds_toArray, List.set_cons_zero, List.set_cons_succ]
  refine wpAnyH_take (i := 7) (v := ?_) rfl (by kernel_rfl) (by kernel_rfl) (by kernel_rfl) (fun _ _ _ h => h) (Or.inl ⟨by kernel_rfl, ?_⟩) hHeld ?_
  rotate_left
  · (intro w hSw; (try dsimp only at hSw); go_simp; try with_reducible rfl)
  try simp only [Act.put, List.setIfInBounds_toArray, List.set_cons_zero, List.set_cons_succ]
  refine wpAnyH_take (i := 8) (v := ?_) rfl (by kernel_rfl) (by kernel_rfl) (by kernel_rfl) (fun _ _ _ h => h) (Or.inl ⟨by kernel_rfl, ?_⟩) hHeld ?_
  rotate_left
  · (intro w hSw; (try dsimp only at hSw); go_simp; try with_reducible rfl)
  try simp only [Act.put, List.setIfInBounds_toArray, List.set_cons_zero, List.set_cons_succ]
  refine wpAnyH_take (i := 9) (v := ?_) rfl (by kernel_rfl) (by kernel_rfl) (by kernel_rfl) (fun _ _ _ h => h) (Or.inl ⟨by kernel_rfl, ?_⟩) hHeld ?_
  rotate_left
  · (intro w hSw; (try dsimp only at hSw); go_simp; try with_reducible rfl)
  try simp only [Act.put, List.setIfInBounds_toArray, List.set_cons_zero, List.set_cons_succ]
  refine wpAnyH_take (i := 10) (v := ?_) rfl (by kernel_rfl) (by kernel_rfl) (by kernel_rfl) (fun _ _ _ h => h) (Or.inl ⟨by kernel_rfl, ?_⟩) hHeld ?_
  rotate_left
  · (intro w hSw; (try dsimp only at hSw); go_simp; try with_reducible rfl)
  try simp only [Act.put, List.setIfInBounds_toArray, List.set_cons_zero, List.set_cons_succ]
  refine wpAnyH_take (i := 11) (v := ?_) rfl (by kernel_rfl) (by kernel_rfl) (by kernel_rfl) (fun _ _ _ h => h) (Or.inl ⟨by kernel_rfl, ?_⟩) hHeld ?_
  rotate_left
  · (intro w hSw; (try dsimp only at hSw); go_simp; try with_reducible rfl)
  try simp only [Act.put, List.setIfInBounds_toArray, List.set_cons_zero, List.set_cons_succ]
  refine wpAnyH_take (i := 12) (v := ?_) rfl (by kernel_rfl) (by kernel_rfl) (by kernel_rfl) (fun _ _ _ h => h) (Or.inl ⟨by kernel_rfl, ?_⟩) hHeld ?_
  rotate_left
  · (intro w hSw; (try dsimp only at hSw); go_simp; try with_reducible rfl)
  try simp only [Act.put, List.setIfInBounds_toArray, List.set_cons_zero, List.set_cons_succ]
  refine wpAnyH_take (i := 13) (v := ?_) rfl (by kernel_rfl) (by kernel_rfl) (by kernel_rfl) (fun _ _ _ h => h) (Or.inl ⟨by kernel_rfl, ?_⟩) hHeld ?_
  rotate_left
  · (intro w hSw; (try dsimp only at hSw); go_simp; try with_reducible rfl)
  try simp only [Act.put, List.setIfInBounds_toArray, List.set_cons_zero, List.set_cons_succ]
  refine wpAnyH_take (i := 14) (v := ?_) rfl (by kernel_rfl) (by kernel_rfl) (by kernel_rfl) (fun _ _ _ h => h) (Or.inl ⟨by kernel_rfl, ?_⟩) hHeld ?_
  rotate_left
  · (intro w hSw; (try dsimp only at hSw); go_simp; try with_reducible rfl)
  try simp only [Act.put, List.setIfInBounds_toArray, List.set_cons_zero, List.set_cons_succ]
  refine wpAnyH_take (i := 15) (v := ?_) rfl (by kernel_rfl) (by kernel_rfl) (by kernel_rfl) (fun _ _ _ h => h) (Or.inl ⟨by kernel_rfl, ?_⟩) hHeld ?_
  rotate_left
  · (intro w hSw; (try dsimp only at hSw); go_simp; try with_reducible rfl)
  try simp only [Act.put, List.setIfInBounds_toArray, List.set_cons_zero, List.set_cons_succ]
  refine wpAnyH_take (i := 16) (v := ?_) rfl (by kernel_rfl) (by kernel_rfl) (by kernel_rfl) (fun _ _ _ h => h) (Or.inl ⟨by kernel_rfl, ?_⟩) hHeld ?_
  rotate_left
  · (intro w hSw; (try dsimp only at hSw); go_simp; try with_reducible rfl)
  try simp only [Act.put, List.setIfInBounds_toArray, List.set_cons_zero, List.set_cons_succ]
  refine wpAnyH_done (by kernel_rfl) ?_ _
  clear hHeld
  try simp only [List.getElem_toArray, List.getElem_cons_zero, List.getElem_cons_succ, Act.put, List.setIfInBounds_toArray, List.set_cons_zero, List.set_cons_succ]
  refine NoPanic.normal ?_
  cases bq with
  | true =>
    have HD := Lib.hid (HQ.out (of_decide_eq_true hbq))
    go_wp2_with fail
    go_ret
    exact ⟨_, rfl, by rw [HD.out]; exact OwnP.nil, (Below.refl _ _).drew⟩
  | false =>
    clear hbq hpe c1 c2 HQ HE
    go_wp2_with (go_at_call 82; refine (L1w.out _ (Below.refl _ _).drew).mono ?_)
    rintro e w2 ⟨v6, rfl, hl1, hb2⟩
    have L2w := Lib.hid (L2.out w2 ((Below.refl _ _).drew.trans hb2))
    have HB2 := Lib.hid (((Below.refl w.heap.size w).drew).trans hb2)
    have HL1 := Lib.hid hl1
    clear hl1 hb2
    go_wp2_with (go_at_call 82; refine L2w.out.mono ?_)
    rintro e w3 ⟨v7, rfl, hl2, hb3⟩
    have H0 : Hid (DRel s1 s2 w (s1.length + s2.length) (.slice none 0 0) v6 v7 w3) := Lib.hid ⟨s1, s2, [], rfl, RdNd.next (RowOwn.rd HL1.out) hb3, RowOwn.rd hl2, OwnP.nil, rfl, O1.out, O2.out, by simp; omega, HB2.out.trans (hb3.mono HB2.out.size)⟩
    clear hl2 hb3 HL1 HB2 L1 L2 L1w L2w O1 O2 hsix1 hsix2
    generalize s1.length + s2.length = gk0 at *
    go_wp2_with fail
    go_loopg [5, 6, 7] gk0 (fun gk v5 v6 v7 wr => DRel s1 s2 w gk v5 v6 v7 wr)
    case atStart => exact H0.out
    case round =>
      clear H0
      obtain ⟨a, b, D, hgk, hra, hrb, hod, hdf, hsa, hsb, hdl, hbw⟩ := hrel
      have HBW := Lib.hid hbw
      have HOD := Lib.hid hod
      have HDF := Lib.hid hdf
      have HRA := Lib.hid hra
      have HRB := Lib.hid hrb
      have HSA := Lib.hid hsa
      have HSB := Lib.hid hsb
      obtain ⟨AD, cD, rfl, hcD⟩ := own_len hod
      obtain ⟨i0, hi, hz0, hz1, hz2⟩ := info_parts infoCh
      clear hod hdf hsa hsb hbw
      cases a with
      | nil =>
        obtain ⟨A6, c6, rfl, hc6⟩ := RowRd.form hra
        cases b with
        | nil =>
          obtain ⟨A7, c7, rfl, hc7⟩ := RowRd.form hrb
          clear hra hrb
          go_wp2_with fail
          go_ret
          have e := HDF.out
          rw [diffL, List.append_nil] at e
          exact ⟨_, rfl, by rw [← e]; exact HOD.out, HBW.out⟩
        | cons xb b =>
          obtain ⟨bb, ob, cb, nb, plb, prb, hhb, ssb, yyb, rfl, hcb, hb1, bp, hnb, csb, frb, hbb⟩ := RdNd.head hrb
          have hb2 : nb < wr.heap.size := hnb.lt
          have b2 : wr.cell? ⟨nb, 2, none⟩ = some (.int .i64 xb.1.kind) := hnb.cell 2
          have b3 : wr.cell? ⟨nb, 3, none⟩ = some (.string (bs xb.1.owner)) := hnb.cell 3
          have b4 : wr.cell? ⟨nb, 4, none⟩ = some (.int .i64 xb.1.num) := hnb.cell 4
          have b5 : wr.cell? ⟨nb, 5, none⟩ = some (.int .i64 xb.1.idx) := hnb.cell 5
          have b6 : wr.cell? ⟨nb, 6, none⟩ = some (.string (bs xb.1.text)) := hnb.cell 6
          have b7 : wr.cell? ⟨nb, 7, none⟩ = some (.string (bs xb.2)) := hnb.cell 7
          simp only [List.length_cons, List.length_nil] at hgk hdl
          have HNB := Lib.hid hnb
          have HBB := Lib.hid hbb
          clear hra hrb hnb hbb
          go_upto_region 15 with (fail)
          refine wp_region_noPanic ?_
          refine wp_region_held_drew (S := (fun (w' : World) => 0 ≤ w'.heap.size)) (by kernel_rfl) ?_ (fun hHeld => ?_)
          · exact Nat.zero_le _
          refine wpAnyH_take (i := 0) (v := ?_) rfl (by kernel_rfl) (by kernel_rfl) (by kernel_rfl) (fun _ _ _ h => h) (Or.inl ⟨by kernel_rfl, ?_⟩) hHeld ?_
          rotate_left
          · (intro w hSw; (try dsimp only at hSw); go_simp; try with_reducible rfl)
          try simp only [Act.put, List.setIfInBounds_toArray, List.set_cons_zero, List.set_cons_succ]
          refine wpAnyH_take (i := 1) (v := ?_) rfl (by kernel_rfl) (by kernel_rfl) (by kernel_rfl) (fun _ _ _ h => h) (Or.inl ⟨by kernel_rfl, ?_⟩) hHeld ?_
          rotate_left
          · (intro w hSw; (try dsimp only at hSw); go_simp; try with_reducible rfl)
          try simp only [Act.put, List.setIfInBounds_toArray, List.set_cons_zero, List.set_cons_succ]
          refine wpAnyH_take (i := 2) (v := ?_) rfl (by kernel_rfl) (by kernel_rfl) (by kernel_rfl) (fun _ _ _ h => h) (Or.inl ⟨by kernel_rfl, ?_⟩) hHeld ?_
          rotate_left
          · (intro w hSw; (try dsimp only at hSw); go_simp; try with_reducible rfl)
          try simp only [Act.put, List.setIfInBounds_toArray, List.set_cons_zero, List.set_cons_succ]
          refine wpAnyH_take (i := 3) (v := undef) rfl (by kernel_rfl) (by kernel_rfl) (by kernel_rfl) (fun _ _ _ h => h) (Or.inr ⟨by kernel_rfl, rfl⟩) hHeld ?_
          try simp only [Act.put, List.setIfInBounds_toArray, List.set_cons_zero, List.set_cons_succ]
          refine wpAnyH_take (i := 4) (v := undef) rfl (by kernel_rfl) (by kernel_rfl) (by kernel_rfl) (fun _ _ _ h => h) (Or.inr ⟨by kernel_rfl, rfl⟩) hHeld ?_
          try simp only [Act.put, List.setIfInBounds_toArray, List.set_cons_zero, List.set_cons_succ]
          refine wpAnyH_take (i := 5) (v := undef) rfl (by kernel_rfl) (by kernel_rfl) (by kernel_rfl) (fun _ _ _ h => h) (Or.inr ⟨by kernel_rfl, rfl⟩) hHeld ?_
          try simp only [Act.put, List.setIfInBounds_toArray, List.set_cons_zero, List.set_cons_succ]
          refine wpAnyH_take (i := 6) (v := undef) rfl (by kernel_rfl) (by kernel_rfl) (by kernel_rfl) (fun _ _ _ h => h) (Or.inr ⟨by kernel_rfl, rfl⟩) hHeld ?_
          try simp only [Act.put, List.setIfInBounds_toArray, List.set_cons_zero, List.set_cons_succ]
          refine wpAnyH_take (i := 7) (v := undef) rfl (by kernel_rfl) (by kernel_rfl) (by kernel_rfl) (fun _ _ _ h => h) (Or.inr ⟨by kernel_rfl, rfl⟩) hHeld ?_
          try simp only [Act.put, List.setIfInBounds_toArray, List.set_cons_zero, List.set_cons_succ]
          refine wpAnyH_take (i := 8) (v := undef) rfl (by kernel_rfl) (by kernel_rfl) (by kernel_rfl) (fun _ _ _ h => h) (Or.inr ⟨by kernel_rfl, rfl⟩) hHeld ?_
          try simp only [Act.put, List.setIfInBounds_toArray, List.set_cons_zero, List.set_cons_succ]
          refine wpAnyH_take (i := 9) (v := undef) rfl (by kernel_rfl) (by kernel_rfl) (by kernel_rfl) (fun _ _ _ h => h) (Or.inr ⟨by kernel_rfl, rfl⟩) hHeld ?_
          try simp only [Act.put, List.setIfInBounds_toArray, List.set_cons_zero, List.set_cons_succ]
          refine wpAnyH_take (i := 10) (v := undef) rfl (by kernel_rfl) (by kernel_rfl) (by kernel_rfl) (fun _ _ _ h => h) (Or.inr ⟨by kernel_rfl, rfl⟩) hHeld ?_
          try simp only [Act.put, List.setIfInBounds_toArray, List.set_cons_zero, List.set_cons_succ]
          refine wpAnyH_take (i := 11) (v := undef) rfl (by kernel_rfl) (by kernel_rfl) (by kernel_rfl) (fun _ _ _ h => h) (Or.inr ⟨by kernel_rfl, rfl⟩) hHeld ?_
          try simp only [Act.put, List.setIfInBounds_toArray, List.set_cons_zero, List.set_cons_succ]
          refine wpAnyH_take (i := 12) (v := undef) rfl (by kernel_rfl) (by kernel_rfl) (by kernel_rfl) (fun _ _ _ h => h) (Or.inr ⟨by kernel_rfl, rfl⟩) hHeld ?_
          try simp only [Act.put, List.setIfInBounds_toArray, List.set_cons_zero, List.set_cons_succ]
          refine wpAnyH_take (i := 13) (v := undef) rfl (by kernel_rfl) (by kernel_rfl) (by kernel_rfl) (fun _ _ _ h => h) (Or.inr ⟨by kernel_rfl, rfl⟩) hHeld ?_
          try simp only [Act.put, List.setIfInBounds_toArray, List.set_cons_zero, List.set_cons_succ]
          refine wpAnyH_take (i := 14) (v := undef) rfl (by kernel_rfl) (by kernel_rfl) (by kernel_rfl) (fun _ _ _ h => h) (Or.inr ⟨by kernel_rfl, rfl⟩) hHeld ?_
          try simp only [Act.put, List.setIfInBounds_toArray, List.set_cons_zero, List.set_cons_succ]
          refine wpAnyH_take (i := 15) (v := undef) rfl (by kernel_rfl) (by kernel_rfl) (by kernel_rfl) (fun _ _ _ h => h) (Or.inr ⟨by kernel_rfl, rfl⟩) hHeld ?_
          try simp only [Act.put, List.setIfInBounds_toArray, List.set_cons_zero, List.set_cons_succ]
          refine wpAnyH_take (i := 16) (v := ?_) rfl (by kernel_rfl) (by kernel_rfl) (by kernel_rfl) (fun _ _ _ h => h) (Or.inl ⟨by kernel_rfl, ?_⟩) hHeld ?_
          rotate_left
          · (intro w hSw; (try dsimp only at hSw); go_simp; try with_reducible rfl)
          try simp only [Act.put, List.setIfInBounds_toArray, List.set_cons_zero, List.set_cons_succ]
          refine wpAnyH_take (i := 17) (v := ?_) rfl (by kernel_rfl) (by kernel_rfl) (by kernel_rfl) (fun _ _ _ h => h) (Or.inl ⟨by kernel_rfl, ?_⟩) hHeld ?_
          rotate_left
          · (intro w hSw; (try dsimp only at hSw); go_simp; try with_reducible rfl)
          try simp only [Act.put, List.setIfInBounds_toArray, List.set_cons_zero, List.set_cons_succ]
          refine wpAnyH_done (by kernel_rfl) ?_ _
          clear hHeld
          try simp only [List.getElem_toArray, List.getElem_cons_zero, List.getElem_cons_succ, Act.put, List.setIfInBounds_toArray, List.set_cons_zero, List.set_cons_succ]
          refine NoPanic.normal ?_
          go_upto_region 16 with (fail)
          refine wp_region_noPanic ?_
          refine wp_region_held_drew (S := (fun (w' : World) => w'.cell? ⟨bb, ob, none⟩ = some (.pointer (some ⟨nb, 0, none⟩)) ∧ w'.cell? ⟨nb, 2, none⟩ = some (.int .i64 xb.1.kind) ∧ w'.cell? ⟨nb, 3, none⟩ = some (.string (bs xb.1.owner)) ∧ w'.cell? ⟨nb, 4, none⟩ = some (.int .i64 xb.1.num) ∧ w'.cell? ⟨nb, 5, none⟩ = some (.int .i64 xb.1.idx) ∧ w'.cell? ⟨nb, 6, none⟩ = some (.string (bs xb.1.text)) ∧ w'.cell? ⟨nb, 7, none⟩ = some (.string (bs xb.2)))) (by kernel_rfl) ?_ (fun hHeld => ?_)
          · exact ⟨bp, b2, b3, b4, b5, b6, b7⟩
          refine wpAnyH_take (i := 0) (v := ?_) rfl (by kernel_rfl) (by kernel_rfl) (by kernel_rfl) (fun _ _ _ h => h) (Or.inl ⟨by kernel_rfl, ?_⟩) hHeld ?_
          rotate_left
          · (intro w hSw; (try dsimp only at hSw); go_simp; try with_reducible rfl)
          try simp only [Act.put, List.setIfInBounds_toArray, List.set_cons_zero, List.set_cons_succ]
          refine wpAnyH_take (i := 1) (v := ?_) rfl (by kernel_rfl) (by kernel_rfl) (by kernel_rfl) (fun _ _ _ h => h) (Or.inl ⟨by kernel_rfl, ?_⟩) hHeld ?_
          rotate_left
          · (intro w hSw; (try dsimp only at hSw); go_simp; try with_reducible rfl)
          try simp only [Act.put, List.setIfInBounds_toArray, List.set_cons_zero, List.set_cons_succ]
          refine wpAnyH_take (i := 2) (v := ?_) rfl (by kernel_rfl) (by kernel_rfl) (by kernel_rfl) (fun _ _ _ h => h) (Or.inl ⟨by kernel_rfl, ?_⟩) hHeld ?_
          rotate_left
          · (intro w hSw; (try dsimp only at hSw); go_simp; try with_reducible rfl)
          try simp only [Act.put, List.setIfInBounds_toArray, List.set_cons_zero, List.set_cons_succ]
          refine wpAnyH_take (i := 3) (v := ?_) rfl (by kernel_rfl) (by kernel_rfl) (by kernel_rfl) (fun _ _ _ h => h) (Or.inl ⟨by kernel_rfl, ?_⟩) hHeld ?_
          rotate_left
          · (intro w hSw; (try dsimp only at hSw); go_simp; try with_reducible rfl)
          try simp only [Act.put, List.setIfInBounds_toArray, List.set_cons_zero, List.set_cons_succ]
          refine wpAnyH_take (i := 4) (v := ?_) rfl (by kernel_rfl) (by kernel_rfl) (by kernel_rfl) (fun _ _ _ h => h) (Or.inl ⟨by kernel_rfl, ?_⟩) hHeld ?_
          rotate_left
          · (intro w hSw; (try dsimp only at hSw); go_simp; try with_reducible rfl)
          try simp only [Act.put, List.setIfInBounds_toArray, List.set_cons_zero, List.set_cons_succ]
          refine wpAnyH_take (i := 5) (v := ?_) rfl (by kernel_rfl) (by kernel_rfl) (by kernel_rfl) (fun _ _ _ h => h) (Or.inl ⟨by kernel_rfl, ?_⟩) hHeld ?_
          rotate_left
          · (intro w hSw; (try dsimp only at hSw); go_simp; try with_reducible rfl)
          try simp only [Act.put, List.setIfInBounds_toArray, List.set_cons_zero, List.set_cons_succ]
          refine wpAnyH_take (i := 6) (v := ?_) rfl (by kernel_rfl) (by kernel_rfl) (by kernel_rfl) (fun _ _ _ h => h) (Or.inl ⟨by kernel_rfl, ?_⟩) hHeld ?_
          rotate_left
          · (intro w hSw; (try dsimp only at hSw); go_simp; try with_reducible rfl)
          try simp only [Act.put, List.setIfInBounds_toArray, List.set_cons_zero, List.set_cons_succ]
          refine wpAnyH_take (i := 7) (v := ?_) rfl (by kernel_rfl) (by kernel_rfl) (by kernel_rfl) (fun _ _ _ h => h) (Or.inl ⟨by kernel_rfl, ?_⟩) hHeld ?_
          rotate_left
          · (intro w hSw; (try dsimp only at hSw); go_simp; try with_reducible rfl)
          try simp only [Act.put, List.setIfInBounds_toArray, List.set_cons_zero, List.set_cons_succ]
          refine wpAnyH_take (i := 8) (v := ?_) rfl (by kernel_rfl) (by kernel_rfl) (by kernel_rfl) (fun _ _ _ h => h) (Or.inl ⟨by kernel_rfl, ?_⟩) hHeld ?_
          rotate_left
          · (intro w hSw; (try dsimp only at hSw); go_simp; try with_reducible rfl)
          try simp only [Act.put, List.setIfInBounds_toArray, List.set_cons_zero, List.set_cons_succ]
          refine wpAnyH_take (i := 9) (v := ?_) rfl (by kernel_rfl) (by kernel_rfl) (by kernel_rfl) (fun _ _ _ h => h) (Or.inl ⟨by kernel_rfl, ?_⟩) hHeld ?_
          rotate_left
          · (intro w hSw; (try dsimp only at hSw); go_simp; try with_reducible rfl)
          try simp only [Act.put, List.setIfInBounds_toArray, List.set_cons_zero, List.set_cons_succ]
          refine wpAnyH_take (i := 10) (v := ?_) rfl (by kernel_rfl) (by kernel_rfl) (by kernel_rfl) (fun _ _ _ h => h) (Or.inl ⟨by kernel_rfl, ?_⟩) hHeld ?_
          rotate_left
          · (intro w hSw; (try dsimp only at hSw); go_simp; try with_reducible rfl)
          try simp only [Act.put, List.setIfInBounds_toArray, List.set_cons_zero, List.set_cons_succ]
          refine wpAnyH_take (i := 11) (v := ?_) rfl (by kernel_rfl) (by kernel_rfl) (by kernel_rfl) (fun _ _ _ h => h) (Or.inl ⟨by kernel_rfl, ?_⟩) hHeld ?_
          rotate_left
          · (intro w hSw; (try dsimp only at hSw); go_simp; try with_reducible rfl)
          try simp only [Act.put, List.setIfInBounds_toArray, List.set_cons_zero, List.set_cons_succ]
          refine wpAnyH_take (i := 12) (v := ?_) rfl (by kernel_rfl) (by kernel_rfl) (by kernel_rfl) (fun _ _ _ h => h) (Or.inl ⟨by kernel_rfl, ?_⟩) hHeld ?_
          rotate_left
          · (intro w hSw; (try dsimp only at hSw); go_simp; try with_reducible rfl)
          try simp only [Act.put, List.setIfInBounds_toArray, List.set_cons_zero, List.set_cons_succ]
          refine wpAnyH_take (i := 13) (v := ?_) rfl (by kernel_rfl) (by kernel_rfl) (by kernel_rfl) (fun _ _ _ h => h) (Or.inl ⟨by kernel_rfl, ?_⟩) hHeld ?_
          rotate_left
          · (intro w hSw; (try dsimp only at hSw); go_simp; try with_reducible rfl)
          try simp only [Act.put, List.setIfInBounds_toArray, List.set_cons_zero, List.set_cons_succ]
          refine wpAnyH_ready (rs := [14]) (by kernel_rfl) (by simp) ?_
          refine AllReadyH.cons rfl (fun K hK => ?_) AllReadyH.nil
          go_simp
          refine hK.out _ _ ?_ (fun hNew => ?_)
          · exact ⟨(((Below.refl _ _).alloc (Nat.le_refl _) _).cell (p := ⟨bb, ob, none⟩) hb1).trans bp, (((Below.refl _ _).alloc (Nat.le_refl _) _).cell (p := ⟨nb, 2, none⟩) hb2).trans b2, (((Below.refl _ _).alloc (Nat.le_refl _) _).cell (p := ⟨nb, 3, none⟩) hb2).trans b3, (((Below.refl _ _).alloc (Nat.le_refl _) _).cell (p := ⟨nb, 4, none⟩) hb2).trans b4, (((Below.refl _ _).alloc (Nat.le_refl _) _).cell (p := ⟨nb, 5, none⟩) hb2).trans b5, (((Below.refl _ _).alloc (Nat.le_refl _) _).cell (p := ⟨nb, 6, none⟩) hb2).trans b6, (((Below.refl _ _).alloc (Nat.le_refl _) _).cell (p := ⟨nb, 7, none⟩) hb2).trans b7⟩
          clear hK K hHeld
          have hHeld := hNew
          clear hNew
          try simp only [Act.put, List.setIfInBounds_toArray, List.set_cons_zero, List.set_cons_succ]
          refine wpAnyH_ready (rs := [15]) (by kernel_rfl) (by simp) ?_
          refine AllReadyH.cons rfl (fun K hK => ?_) AllReadyH.nil
          have kq := own_next HOD.out ((Below.refl wr.heap.size wr).alloc (Nat.le_refl _) (.cells #[.int .i64 xb.1.kind, .string (bs xb.1.owner), .int .i64 xb.1.num, .int .i64 xb.1.idx, .string (bs xb.1.text), .string (bs xb.2), .bool false] 83)); refine step_append_w _ (by rfl) _ _ _ (by rfl) w.heap.size 83 i0 _ 7 80 Tryz.underlying59 hi hz0 hz1 hz2 rfl (by omega) (.slice AD D.length cD) D.length (D.flatMap chC) (by rfl) kq (.slice (some ⟨wr.heap.size, 0, none⟩) 1 1) 1 [.int .i64 xb.1.kind, .string (bs xb.1.owner), .int .i64 xb.1.num, .int .i64 xb.1.idx, .string (bs xb.1.text), .string (bs xb.2), .bool false] (by rfl) (Rd.of_own (own_new wr 0 83 7 [.int .i64 xb.1.kind, .string (bs xb.1.owner), .int .i64 xb.1.num, .int .i64 xb.1.idx, .string (bs xb.1.text), .string (bs xb.2), .bool false] rfl (Nat.zero_le _))) (by omega) (by rfl) (by simp [Value.oneCell']) (by unfold maxLen; omega) (by omega) (by have := HBW.out.size; simp at this ⊢; omega) ?_; intro v5 w5 hown5 hg5' hat5; have hg5 : (wr.alloc (.cells #[.int .i64 xb.1.kind, .string (bs xb.1.owner), .int .i64 xb.1.num, .int .i64 xb.1.idx, .string (bs xb.1.text), .string (bs xb.2), .bool false] 83)).grownBy w5 (Value.slice AD D.length cD).ownBlock := ⟨hg5'.os, hg5'.tape, hg5'.output, hg5'.size, hg5'.block⟩; have HOW5 := Lib.hid hown5; have K5 := Lib.hid ((Kept.of_below [83] ((Below.refl wr.heap.size wr).alloc (Nat.le_refl _) (.cells #[.int .i64 xb.1.kind, .string (bs xb.1.owner), .int .i64 xb.1.num, .int .i64 xb.1.idx, .string (bs xb.1.text), .string (bs xb.2), .bool false] 83))).trans (Kept.of_own [83] kq hg5 rfl)); have B5 := Lib.hid (below_own (HBW.out.alloc HBW.out.size (.cells #[.int .i64 xb.1.kind, .string (bs xb.1.owner), .int .i64 xb.1.num, .int .i64 xb.1.idx, .string (bs xb.1.text), .string (bs xb.2), .bool false] 83)) kq hg5 (Nat.le_refl _) (by have := HBW.out.size; simp at this ⊢; omega)); have fb := fun k => far_cell kq hg5 HBB.out (by decide) k; have fn := fun k => far_cell kq hg5 HNB.out (by decide) k
          refine hK.out _ _ ?_ (fun hNew => ?_)
          · exact ⟨(fb _).trans bp, (fn 2).trans b2, (fn 3).trans b3, (fn 4).trans b4, (fn 5).trans b5, (fn 6).trans b6, (fn 7).trans b7⟩
          clear hK K hHeld
          have hHeld := hNew
          clear hNew
          try simp only [Act.put, List.setIfInBounds_toArray, List.set_cons_zero, List.set_cons_succ]
          refine wpAnyH_take (i := 16) (v := ?_) rfl (by kernel_rfl) (by kernel_rfl) (by kernel_rfl) (fun _ _ _ h => h) (Or.inl ⟨by kernel_rfl, ?_⟩) hHeld ?_
          rotate_left
          · (intro w hSw; (try dsimp only at hSw); go_simp; try with_reducible rfl)
          try simp only [Act.put, List.setIfInBounds_toArray, List.set_cons_zero, List.set_cons_succ]
          refine wpAnyH_done (by kernel_rfl) ?_ _
          clear hHeld
          try simp only [List.getElem_toArray, List.getElem_cons_zero, List.getElem_cons_succ, Act.put, List.setIfInBounds_toArray, List.set_cons_zero, List.set_cons_succ]
          refine NoPanic.normal ?_
          obtain ⟨AE, cE, rfl, hcE⟩ := own_len HOW5.out
          go_wp2_with fail
          all_goals
            go_roundg b.length
            case rel =>
              refine ⟨[], b, D ++ [⟨xb.1, xb.2, false⟩], by (try simp only [List.length_append, List.length_cons, List.length_nil]); (try omega), ?_, ?_, OwnP.snoc (x := (⟨xb.1, xb.2, false⟩ : Ch)) HOW5.out, ?_, HSA.out, st_tail HSB.out, by (try simp only [List.length_append, List.length_cons, List.length_nil]); (try omega), B5.out⟩
              · exact RowRd.keep HRA.out K5.out rfl fun _ _ => NNd.keep K5.out rfl
              · have ht := RowRd.keep (RowRd.tail HRB.out ndC_len) K5.out rfl fun _ _ => NNd.keep K5.out rfl
                simpa [*, Addr.add] using ht
              · have e := HDF.out
                rw [diffL] at e
                rw [← e]
                rw [List.append_assoc]; rfl
            case measure => omega
      | cons xa a =>
        obtain ⟨ba, oa, ca, na, pla, pra, hha, ssa, yya, rfl, hca, ha1, ap, hna, csa, fra, hba⟩ := RdNd.head hra
        have ha2 : na < wr.heap.size := hna.lt
        have a2 : wr.cell? ⟨na, 2, none⟩ = some (.int .i64 xa.1.kind) := hna.cell 2
        have a3 : wr.cell? ⟨na, 3, none⟩ = some (.string (bs xa.1.owner)) := hna.cell 3
        have a4 : wr.cell? ⟨na, 4, none⟩ = some (.int .i64 xa.1.num) := hna.cell 4
        have a5 : wr.cell? ⟨na, 5, none⟩ = some (.int .i64 xa.1.idx) := hna.cell 5
        have a6 : wr.cell? ⟨na, 6, none⟩ = some (.string (bs xa.1.text)) := hna.cell 6
        have a7 : wr.cell? ⟨na, 7, none⟩ = some (.string (bs xa.2)) := hna.cell 7
        cases b with
        | nil =>
          obtain ⟨A7, c7, rfl, hc7⟩ := RowRd.form hrb
          simp only [List.length_cons, List.length_nil] at hgk hdl
          have HNA := Lib.hid hna
          have HBA := Lib.hid hba
          clear hra hrb hna hba
          go_upto_region 14 with (fail)
          go_wp2_with (at_builtin; have kq := own_next HOD.out ((Below.refl wr.heap.size wr).alloc (Nat.le_refl _) (.cells #[.int .i64 xa.1.kind, .string (bs xa.1.owner), .int .i64 xa.1.num, .int .i64 xa.1.idx, .string (bs xa.1.text), .string ⟨#[]⟩, .bool true] 83)); refine wpList_append_w _ rfl _ _ _ rfl w.heap.size 83 i0 _ 7 80 Tryz.underlying59 hi hz0 hz1 hz2 rfl (by omega) (.slice AD D.length cD) D.length (D.flatMap chC) (by rfl) kq (.slice (some ⟨wr.heap.size, 0, none⟩) 1 1) 1 [.int .i64 xa.1.kind, .string (bs xa.1.owner), .int .i64 xa.1.num, .int .i64 xa.1.idx, .string (bs xa.1.text), .string ⟨#[]⟩, .bool true] (by rfl) (Rd.of_own (own_new wr 0 83 7 [.int .i64 xa.1.kind, .string (bs xa.1.owner), .int .i64 xa.1.num, .int .i64 xa.1.idx, .string (bs xa.1.text), .string ⟨#[]⟩, .bool true] rfl (Nat.zero_le _))) (by omega) (by rfl) (by simp [Value.oneCell']) (by unfold maxLen; omega) (by omega) (by have := HBW.out.size; simp at this ⊢; omega) ?_; intro v5 w5 hown5 hg5' hat5; have hg5 : (wr.alloc (.cells #[.int .i64 xa.1.kind, .string (bs xa.1.owner), .int .i64 xa.1.num, .int .i64 xa.1.idx, .string (bs xa.1.text), .string ⟨#[]⟩, .bool true] 83)).grownBy w5 (Value.slice AD D.length cD).ownBlock := ⟨hg5'.os, hg5'.tape, hg5'.output, hg5'.size, hg5'.block⟩; have HOW5 := Lib.hid hown5; have K5 := Lib.hid ((Kept.of_below [83] ((Below.refl wr.heap.size wr).alloc (Nat.le_refl _) (.cells #[.int .i64 xa.1.kind, .string (bs xa.1.owner), .int .i64 xa.1.num, .int .i64 xa.1.idx, .string (bs xa.1.text), .string ⟨#[]⟩, .bool true] 83))).trans (Kept.of_own [83] kq hg5 rfl)); have B5 := Lib.hid (below_own (HBW.out.alloc HBW.out.size (.cells #[.int .i64 xa.1.kind, .string (bs xa.1.owner), .int .i64 xa.1.num, .int .i64 xa.1.idx, .string (bs xa.1.text), .string ⟨#[]⟩, .bool true] 83)) kq hg5 (Nat.le_refl _) (by have := HBW.out.size; simp at this ⊢; omega)); clear hown5 hg5 hat5 hg5')
          obtain ⟨AE, cE, rfl, hcE⟩ := own_len HOW5.out
          go_wp2_with fail
          all_goals
            go_roundg a.length
            case rel =>
              refine ⟨a, [], D ++ [⟨xa.1, [], true⟩], by (try simp only [List.length_append, List.length_cons, List.length_nil]); (try omega), ?_, ?_, OwnP.snoc (x := (⟨xa.1, [], true⟩ : Ch)) HOW5.out, ?_, st_tail HSA.out, HSB.out, by (try simp only [List.length_append, List.length_cons, List.length_nil]); (try omega), B5.out⟩
              · have ht := RowRd.keep (RowRd.tail HRA.out ndC_len) K5.out rfl fun _ _ => NNd.keep K5.out rfl
                simpa [*, Addr.add] using ht
              · exact RowRd.keep HRB.out K5.out rfl fun _ _ => NNd.keep K5.out rfl
              · have e := HDF.out
                rw [diffL] at e
                rw [← e]
                rw [List.append_assoc]; rfl
            case measure => omega
        | cons xb b =>
          obtain ⟨bb, ob, cb, nb, plb, prb, hhb, ssb, yyb, rfl, hcb, hb1, bp, hnb, csb, frb, hbb⟩ := RdNd.head hrb
          have hb2 : nb < wr.heap.size := hnb.lt
          have b2 : wr.cell? ⟨nb, 2, none⟩ = some (.int .i64 xb.1.kind) := hnb.cell 2
          have b3 : wr.cell? ⟨nb, 3, none⟩ = some (.string (bs xb.1.owner)) := hnb.cell 3
          have b4 : wr.cell? ⟨nb, 4, none⟩ = some (.int .i64 xb.1.num) := hnb.cell 4
          have b5 : wr.cell? ⟨nb, 5, none⟩ = some (.int .i64 xb.1.idx) := hnb.cell 5
          have b6 : wr.cell? ⟨nb, 6, none⟩ = some (.string (bs xb.1.text)) := hnb.cell 6
          have b7 : wr.cell? ⟨nb, 7, none⟩ = some (.string (bs xb.2)) := hnb.cell 7
          simp only [List.length_cons, List.length_nil] at hgk hdl
          have HNA := Lib.hid hna
          have HBA := Lib.hid hba
          have HNB := Lib.hid hnb
          have HBB := Lib.hid hbb
          have HOW := Lib.hid (show xa.1.owner = xb.1.owner by rw [(st_head HSA.out).own, (st_head HSB.out).own])
          clear hra hrb hna hba hnb hbb
          obtain ⟨bn, hbn⟩ : ∃ b, (!decide (some (⟨na, 0, none⟩ : Addr) = some ⟨nb, 0, none⟩)) = b := ⟨_, rfl⟩
          have hne : (binOp .neq 117 (.pointer (some ⟨na, 0, none⟩)) (.pointer (some ⟨nb, 0, none⟩))).run Tryz.prog wr.drew = .ok (.bool bn) wr.drew := by rw [← hbn]; exact neq_nd (PtOk.node (Blk.drew HNA.out)) (PtOk.node (Blk.drew HNB.out))
          cases bn with
          | false =>
            have HXX : Hid (xa = xb) := Lib.hid (by
              have e1 : some (⟨na, 0, none⟩ : Addr) = some ⟨nb, 0, none⟩ := by simpa using hbn
              injection e1 with e1
              injection e1 with e1
              subst e1
              exact NNd.same ⟨_, _, _, _, _, _, rfl, HNA.out⟩ ⟨_, _, _, _, _, _, rfl, HNB.out⟩)
            clear hbn
            go_upto_region 11 with (fail)
            refine wp_region_noPanic ?_
            refine wp_region_held_drew (S := (fun (w' : World) => w'.cell? ⟨ba, oa, none⟩ = some (.pointer (some ⟨na, 0, none⟩)) ∧ w'.cell? ⟨bb, ob, none⟩ = some (.pointer (some ⟨nb, 0, none⟩)) ∧ (binOp .neq 117 (.pointer (some ⟨na, 0, none⟩)) (.pointer (some ⟨nb, 0, none⟩))).run Tryz.prog w' = .ok (.bool false) w')) (by kernel_rfl) ?_ (fun hHeld => ?_)
            · exact ⟨ap, bp, hne⟩
            refine wpAnyH_take (i := 0) (v := ?_) rfl (by kernel_rfl) (by kernel_rfl) (by kernel_rfl) (fun _ _ _ h => h) (Or.inl ⟨by kernel_rfl, ?_⟩) hHeld ?_
            rotate_left
            · (intro w hSw; (try dsimp only at hSw); go_simp; try with_reducible rfl)
            try simp only [Act.put, List.setIfInBounds_toArray, List.set_cons_zero, List.set_cons_succ]
            refine wpAnyH_take (i := 1) (v := ?_) rfl (by kernel_rfl) (by kernel_rfl) (by kernel_rfl) (fun _ _ _ h => h) (Or.inl ⟨by kernel_rfl, ?_⟩) hHeld ?_
            rotate_left
            · (intro w hSw; (try dsimp only at hSw); go_simp; try with_reducible rfl)
            try simp only [Act.put, List.setIfInBounds_toArray, List.set_cons_zero, List.set_cons_succ]
            refine wpAnyH_take (i := 2) (v := ?_) rfl (by kernel_rfl) (by kernel_rfl) (by kernel_rfl) (fun _ _ _ h => h) (Or.inl ⟨by kernel_rfl, ?_⟩) hHeld ?_
            rotate_left
            · (intro w hSw; (try dsimp only at hSw); go_simp; try with_reducible rfl)
            try simp only [Act.put, List.setIfInBounds_toArray, List.set_cons_zero, List.set_cons_succ]
            refine wpAnyH_take (i := 3) (v := ?_) rfl (by kernel_rfl) (by kernel_rfl) (by kernel_rfl) (fun _ _ _ h => h) (Or.inl ⟨by kernel_rfl, ?_⟩) hHeld ?_
            rotate_left
            · (intro w hSw; (try dsimp only at hSw); go_simp; try with_reducible rfl)
            try simp only [Act.put, List.setIfInBounds_toArray, List.set_cons_zero, List.set_cons_succ]
            refine wpAnyH_take (i := 4) (v := ?_) rfl (by kernel_rfl) (by kernel_rfl) (by kernel_rfl) (fun _ _ _ h => h) (Or.inl ⟨by kernel_rfl, ?_⟩) hHeld ?_
            rotate_left
            · (intro w hSw; (try dsimp only at hSw); go_simp; try with_reducible rfl)
            try simp only [Act.put, List.setIfInBounds_toArray, List.set_cons_zero, List.set_cons_succ]
            refine wpAnyH_take (i := 5) (v := ?_) rfl (by kernel_rfl) (by kernel_rfl) (by kernel_rfl) (fun _ _ _ h => h) (Or.inl ⟨by kernel_rfl, ?_⟩) hHeld ?_
            rotate_left
            · (intro w hSw; (try dsimp only at hSw); go_simp; try with_reducible rfl)
            try simp only [Act.put, List.setIfInBounds_toArray, List.set_cons_zero, List.set_cons_succ]
            refine wpAnyH_take (i := 6) (v := ?_) rfl (by kernel_rfl) (by kernel_rfl) (by kernel_rfl) (fun _ _ _ h => h) (Or.inl ⟨by kernel_rfl, ?_⟩) hHeld ?_
            rotate_left
            · (intro w hSw; (try dsimp only at hSw); go_simp; try with_reducible rfl)
            try simp only [Act.put, List.setIfInBounds_toArray, List.set_cons_zero, List.set_cons_succ]
            refine wpAnyH_take (i := 7) (v := ?_) rfl (by kernel_rfl) (by kernel_rfl) (by kernel_rfl) (fun _ _ _ h => h) (Or.inl ⟨by kernel_rfl, ?_⟩) hHeld ?_
            rotate_left
            · (intro w hSw; (try dsimp only at hSw); go_simp; try with_reducible rfl)
            try simp only [Act.put, List.setIfInBounds_toArray, List.set_cons_zero, List.set_cons_succ]
            refine wpAnyH_done (by kernel_rfl) ?_ _
            clear hHeld
            try simp only [List.getElem_toArray, List.getElem_cons_zero, List.getElem_cons_succ, Act.put, List.setIfInBounds_toArray, List.set_cons_zero, List.set_cons_succ]
            refine NoPanic.normal ?_
            have HC1 := Lib.hid (show ¬ cmpN xa.1 xb.1 < 0 by rw [HXX.out, ordO.refl (st_head HSB.out)]; omega)
            have HC2 := Lib.hid (show ¬ 0 < cmpN xa.1 xb.1 by rw [HXX.out, ordO.refl (st_head HSB.out)]; omega)
            have HVV := Lib.hid (show xa.2 = xb.2 by rw [HXX.out])
            have k9 := HVV.out
            rw [k9] at a7
            go_upto_region 15 with (fail)
            refine wp_region_noPanic ?_
            refine wp_region_held_drew (S := (fun (w' : World) => w'.cell? ⟨ba, oa, none⟩ = some (.pointer (some ⟨na, 0, none⟩)) ∧ w'.cell? ⟨na, 2, none⟩ = some (.int .i64 xa.1.kind) ∧ w'.cell? ⟨na, 3, none⟩ = some (.string (bs xa.1.owner)) ∧ w'.cell? ⟨na, 4, none⟩ = some (.int .i64 xa.1.num) ∧ w'.cell? ⟨na, 5, none⟩ = some (.int .i64 xa.1.idx) ∧ w'.cell? ⟨na, 6, none⟩ = some (.string (bs xa.1.text)) ∧ w'.cell? ⟨na, 7, none⟩ = some (.string (bs xb.2)) ∧ w'.cell? ⟨bb, ob, none⟩ = some (.pointer (some ⟨nb, 0, none⟩)) ∧ w'.cell? ⟨nb, 2, none⟩ = some (.int .i64 xb.1.kind) ∧ w'.cell? ⟨nb, 3, none⟩ = some (.string (bs xb.1.owner)) ∧ w'.cell? ⟨nb, 4, none⟩ = some (.int .i64 xb.1.num) ∧ w'.cell? ⟨nb, 5, none⟩ = some (.int .i64 xb.1.idx) ∧ w'.cell? ⟨nb, 6, none⟩ = some (.string (bs xb.1.text)) ∧ w'.cell? ⟨nb, 7, none⟩ = some (.string (bs xb.2)))) (by kernel_rfl) ?_ (fun hHeld => ?_)
            · exact ⟨ap, a2, a3, a4, a5, a6, a7, bp, b2, b3, b4, b5, b6, b7⟩
            refine wpAnyH_take (i := 0) (v := ?_) rfl (by kernel_rfl) (by kernel_rfl) (by kernel_rfl) (fun _ _ _ h => h) (Or.inl ⟨by kernel_rfl, ?_⟩) hHeld ?_
            rotate_left
            · (intro w hSw; (try dsimp only at hSw); go_simp; try with_reducible rfl)
            try simp only [Act.put, List.setIfInBounds_toArray, List.set_cons_zero, List.set_cons_succ]
            refine wpAnyH_take (i := 1) (v := ?_) rfl (by kernel_rfl) (by kernel_rfl) (by kernel_rfl) (fun _ _ _ h => h) (Or.inl ⟨by kernel_rfl, ?_⟩) hHeld ?_
            rotate_left
            · (intro w hSw; (try dsimp only at hSw); go_simp; try with_reducible rfl)
            try simp only [Act.put, List.setIfInBounds_toArray, List.set_cons_zero, List.set_cons_succ]
            refine wpAnyH_take (i := 2) (v := ?_) rfl (by kernel_rfl) (by kernel_rfl) (by kernel_rfl) (fun _ _ _ h => h) (Or.inl ⟨by kernel_rfl, ?_⟩) hHeld ?_
            rotate_left
            · (intro w hSw; (try dsimp only at hSw); go_simp; try with_reducible rfl)
            try simp only [Act.put, List.setIfInBounds_toArray, List.set_cons_zero, List.set_cons_succ]
            refine wpAnyH_take (i := 3) (v := ?_) rfl (by kernel_rfl) (by kernel_rfl) (by kernel_rfl) (fun _ _ _ h => h) (Or.inl ⟨by kernel_rfl, ?_⟩) hHeld ?_
            rotate_left
            · (intro w hSw; (try dsimp only at hSw); go_simp; try with_reducible rfl)
            try simp only [Act.put, List.setIfInBounds_toArray, List.set_cons_zero, List.set_cons_succ]
            refine wpAnyH_take (i := 4) (v := ?_) rfl (by kernel_rfl) (by kernel_rfl) (by kernel_rfl) (fun _ _ _ h => h) (Or.inl ⟨by kernel_rfl, ?_⟩) hHeld ?_
            rotate_left
            · (intro w hSw; (try dsimp only at hSw); go_simp; try with_reducible rfl)
            try simp only [Act.put, List.setIfInBounds_toArray, List.set_cons_zero, List.set_cons_succ]
            refine wpAnyH_take (i := 5) (v := ?_) rfl (by kernel_rfl) (by kernel_rfl) (by kernel_rfl) (fun _ _ _ h => h) (Or.inl ⟨by kernel_rfl, ?_⟩) hHeld ?_
            rotate_left
            · (intro w hSw; (try dsimp only at hSw); go_simp; try with_reducible rfl)
            try simp only [Act.put, List.setIfInBounds_toArray, List.set_cons_zero, List.set_cons_succ]
            refine wpAnyH_take (i := 6) (v := ?_) rfl (by kernel_rfl) (by kernel_rfl) (by kernel_rfl) (fun _ _ _ h => h) (Or.inl ⟨by kernel_rfl, ?_⟩) hHeld ?_
            rotate_left
            · (intro w hSw; (try dsimp only at hSw); go_simp; try with_reducible rfl)
            try simp only [Act.put, List.setIfInBounds_toArray, List.set_cons_zero, List.set_cons_succ]
            refine wpAnyH_take (i := 7) (v := ?_) rfl (by kernel_rfl) (by kernel_rfl) (by kernel_rfl) (fun _ _ _ h => h) (Or.inl ⟨by kernel_rfl, ?_⟩) hHeld ?_
            rotate_left
            · (intro w hSw; (try dsimp only at hSw); go_simp; try with_reducible rfl)
            try simp only [Act.put, List.setIfInBounds_toArray, List.set_cons_zero, List.set_cons_succ]
            refine wpAnyH_take (i := 8) (v := ?_) rfl (by kernel_rfl) (by kernel_rfl) (by kernel_rfl) (fun _ _ _ h => h) (Or.inl ⟨by kernel_rfl, ?_⟩) hHeld ?_
            rotate_left
            · (intro w hSw; (try dsimp only at hSw); go_simp; try with_reducible rfl)
            try simp only [Act.put, List.setIfInBounds_toArray, List.set_cons_zero, List.set_cons_succ]
            refine wpAnyH_take (i := 9) (v := ?_) rfl (by kernel_rfl) (by kernel_rfl) (by kernel_rfl) (fun _ _ _ h => h) (Or.inl ⟨by kernel_rfl, ?_⟩) hHeld ?_
            rotate_left
            · (intro w hSw; (try dsimp only at hSw); go_simp; try with_reducible rfl)
            try simp only [Act.put, List.setIfInBounds_toArray, List.set_cons_zero, List.set_cons_succ]
            refine wpAnyH_take (i := 10) (v := ?_) rfl (by kernel_rfl) (by kernel_rfl) (by kernel_rfl) (fun _ _ _ h => h) (Or.inl ⟨by kernel_rfl, ?_⟩) hHeld ?_
            rotate_left
            · (intro w hSw; (try dsimp only at hSw); go_simp; try with_reducible rfl)
            try simp only [Act.put, List.setIfInBounds_toArray, List.set_cons_zero, List.set_cons_succ]
            refine wpAnyH_take (i := 11) (v := ?_) rfl (by kernel_rfl) (by kernel_rfl) (by kernel_rfl) (fun _ _ _ h => h) (Or.inl ⟨by kernel_rfl, ?_⟩) hHeld ?_
            rotate_left
            · (intro w hSw; (try dsimp only at hSw); go_simp; try with_reducible rfl)
            try simp only [Act.put, List.setIfInBounds_toArray, List.set_cons_zero, List.set_cons_succ]
            refine wpAnyH_take (i := 12) (v := ?_) rfl (by kernel_rfl) (by kernel_rfl) (by kernel_rfl) (fun _ _ _ h => h) (Or.inl ⟨by kernel_rfl, ?_⟩) hHeld ?_
            rotate_left
            · (intro w hSw; (try dsimp only at hSw); go_simp; try with_reducible rfl)
            try simp only [Act.put, List.setIfInBounds_toArray, List.set_cons_zero, List.set_cons_succ]
            refine wpAnyH_take (i := 13) (v := ?_) rfl (by kernel_rfl) (by kernel_rfl) (by kernel_rfl) (fun _ _ _ h => h) (Or.inl ⟨by kernel_rfl, ?_⟩) hHeld ?_
            rotate_left
            · (intro w hSw; (try dsimp only at hSw); go_simp; try with_reducible rfl)
            try simp only [Act.put, List.setIfInBounds_toArray, List.set_cons_zero, List.set_cons_succ]
            refine wpAnyH_take (i := 14) (v := ?_) rfl (by kernel_rfl) (by kernel_rfl) (by kernel_rfl) (fun _ _ _ h => h) (Or.inl ⟨by kernel_rfl, ?_⟩) hHeld ?_
            rotate_left
            · (intro w hSw; (try dsimp only at hSw); go_simp; try with_reducible rfl)
            try simp only [Act.put, List.setIfInBounds_toArray, List.set_cons_zero, List.set_cons_succ]
            refine wpAnyH_take (i := 15) (v := ?_) rfl (by kernel_rfl) (by kernel_rfl) (by kernel_rfl) (fun _ _ _ h => h) (Or.inl ⟨by kernel_rfl, ?_⟩) hHeld ?_
            rotate_left
            · (intro w hSw; (try dsimp only at hSw); go_simp; try with_reducible rfl)
            try simp only [Act.put, List.setIfInBounds_toArray, List.set_cons_zero, List.set_cons_succ]
            refine wpAnyH_take (i := 16) (v := ?_) rfl (by kernel_rfl) (by kernel_rfl) (by kernel_rfl) (fun _ _ _ h => h) (Or.inl ⟨by kernel_rfl, ?_⟩) hHeld ?_
            rotate_left
            · (intro w hSw; (try dsimp only at hSw); go_simp; try with_reducible rfl)
            try simp only [Act.put, List.setIfInBounds_toArray, List.set_cons_zero, List.set_cons_succ]
            refine wpAnyH_take (i := 17) (v := ?_) rfl (by kernel_rfl) (by kernel_rfl) (by kernel_rfl) (fun _ _ _ h => h) (Or.inl ⟨by kernel_rfl, ?_⟩) hHeld ?_
            rotate_left
            · (intro w hSw; (try dsimp only at hSw); go_simp; try with_reducible rfl)
            try simp only [Act.put, List.setIfInBounds_toArray, List.set_cons_zero, List.set_cons_succ]
            refine wpAnyH_done (by kernel_rfl) ?_ _
            clear hHeld
            try simp only [List.getElem_toArray, List.getElem_cons_zero, List.getElem_cons_succ, Act.put, List.setIfInBounds_toArray, List.set_cons_zero, List.set_cons_succ]
            refine NoPanic.normal ?_
            have K5 := Lib.hid (((Kept.refl [] wr).drew).drew)
            have B5 := Lib.hid ((HBW.out.drew).drew)
            clear k9
            go_wp2_with fail
            all_goals
              go_roundg (a.length + b.length)
              case rel =>
                refine ⟨a, b, D, by (try simp only [List.length_append, List.length_cons, List.length_nil]); (try omega), ?_, ?_, HOD.out, ?_, st_tail HSA.out, st_tail HSB.out, by (try simp only [List.length_append, List.length_cons, List.length_nil]); (try omega), B5.out⟩
                · have ht := RowRd.keep (RowRd.tail HRA.out ndC_len) K5.out rfl fun _ _ => NNd.keep K5.out rfl
                  simpa [*, Addr.add] using ht
                · have ht := RowRd.keep (RowRd.tail HRB.out ndC_len) K5.out rfl fun _ _ => NNd.keep K5.out rfl
                  simpa [*, Addr.add] using ht
                · have e := HDF.out
                  rw [diffL, if_neg (show ¬ cmpN xa.1 xb.1 < 0 from by have := HC1.out; omega), if_neg (show ¬ 0 < cmpN xa.1 xb.1 from by have := HC2.out; omega), if_pos HVV.out] at e
                  rw [← e]
              case measure => omega
          | true =>
            clear hbn
            go_upto_region 11 with (fail)
            refine wp_region_noPanic ?_
            refine wp_region_held_drew (S := (fun (w' : World) => w'.cell? ⟨ba, oa, none⟩ = some (.pointer (some ⟨na, 0, none⟩)) ∧ w'.cell? ⟨bb, ob, none⟩ = some (.pointer (some ⟨nb, 0, none⟩)) ∧ (binOp .neq 117 (.pointer (some ⟨na, 0, none⟩)) (.pointer (some ⟨nb, 0, none⟩))).run Tryz.prog w' = .ok (.bool true) w')) (by kernel_rfl) ?_ (fun hHeld => ?_)
            · exact ⟨ap, bp, hne⟩
            refine wpAnyH_take (i := 0) (v := ?_) rfl (by kernel_rfl) (by kernel_rfl) (by kernel_rfl) (fun _ _ _ h => h) (Or.inl ⟨by kernel_rfl, ?_⟩) hHeld ?_
            rotate_left
            · (intro w hSw; (try dsimp only at hSw); go_simp; try with_reducible rfl)
            try simp only [Act.put, List.setIfInBounds_toArray, List.set_cons_zero, List.set_cons_succ]
            refine wpAnyH_take (i := 1) (v := ?_) rfl (by kernel_rfl) (by kernel_rfl) (by kernel_rfl) (fun _ _ _ h => h) (Or.inl ⟨by kernel_rfl, ?_⟩) hHeld ?_
            rotate_left
            · (intro w hSw; (try dsimp only at hSw); go_simp; try with_reducible rfl)
            try simp only [Act.put, List.setIfInBounds_toArray, List.set_cons_zero, List.set_cons_succ]
            refine wpAnyH_take (i := 2) (v := ?_) rfl (by kernel_rfl) (by kernel_rfl) (by kernel_rfl) (fun _ _ _ h => h) (Or.inl ⟨by kernel_rfl, ?_⟩) hHeld ?_
            rotate_left
            · (intro w hSw; (try dsimp only at hSw); go_simp; try with_reducible rfl)
            try simp only [Act.put, List.setIfInBounds_toArray, List.set_cons_zero, List.set_cons_succ]
            refine wpAnyH_take (i := 3) (v := ?_) rfl (by kernel_rfl) (by kernel_rfl) (by kernel_rfl) (fun _ _ _ h => h) (Or.inl ⟨by kernel_rfl, ?_⟩) hHeld ?_
            rotate_left
            · (intro w hSw; (try dsimp only at hSw); go_simp; try with_reducible rfl)
            try simp only [Act.put, List.setIfInBounds_toArray, List.set_cons_zero, List.set_cons_succ]
            refine wpAnyH_take (i := 4) (v := ?_) rfl (by kernel_rfl) (by kernel_rfl) (by kernel_rfl) (fun _ _ _ h => h) (Or.inl ⟨by kernel_rfl, ?_⟩) hHeld ?_
            rotate_left
            · (intro w hSw; (try dsimp only at hSw); go_simp; try with_reducible rfl)
            try simp only [Act.put, List.setIfInBounds_toArray, List.set_cons_zero, List.set_cons_succ]
            refine wpAnyH_take (i := 5) (v := ?_) rfl (by kernel_rfl) (by kernel_rfl) (by kernel_rfl) (fun _ _ _ h => h) (Or.inl ⟨by kernel_rfl, ?_⟩) hHeld ?_
            rotate_left
            · (intro w hSw; (try dsimp only at hSw); go_simp; try with_reducible rfl)
            try simp only [Act.put, List.setIfInBounds_toArray, List.set_cons_zero, List.set_cons_succ]
            refine wpAnyH_take (i := 6) (v := ?_) rfl (by kernel_rfl) (by kernel_rfl) (by kernel_rfl) (fun _ _ _ h => h) (Or.inl ⟨by kernel_rfl, ?_⟩) hHeld ?_
            rotate_left
            · (intro w hSw; (try dsimp only at hSw); go_simp; try with_reducible rfl)
            try simp only [Act.put, List.setIfInBounds_toArray, List.set_cons_zero, List.set_cons_succ]
            refine wpAnyH_take (i := 7) (v := ?_) rfl (by kernel_rfl) (by kernel_rfl) (by kernel_rfl) (fun _ _ _ h => h) (Or.inl ⟨by kernel_rfl, ?_⟩) hHeld ?_
            rotate_left
            · (intro w hSw; (try dsimp only at hSw); go_simp; try with_reducible rfl)
            try simp only [Act.put, List.setIfInBounds_toArray, List.set_cons_zero, List.set_cons_succ]
            refine wpAnyH_done (by kernel_rfl) ?_ _
            clear hHeld
            try simp only [List.getElem_toArray, List.getElem_cons_zero, List.getElem_cons_succ, Act.put, List.setIfInBounds_toArray, List.set_cons_zero, List.set_cons_succ]
            refine NoPanic.normal ?_
            go_upto_region 12 with (fail)
            refine wp_region_noPanic ?_
            refine wp_region_held_drew (S := (fun (w' : World) => w'.cell? ⟨ba, oa, none⟩ = some (.pointer (some ⟨na, 0, none⟩)) ∧ w'.cell? ⟨na, 2, none⟩ = some (.int .i64 xa.1.kind) ∧ w'.cell? ⟨na, 3, none⟩ = some (.string (bs xa.1.owner)) ∧ w'.cell? ⟨na, 4, none⟩ = some (.int .i64 xa.1.num) ∧ w'.cell? ⟨na, 5, none⟩ = some (.int .i64 xa.1.idx) ∧ w'.cell? ⟨na, 6, none⟩ = some (.string (bs xa.1.text)) ∧ w'.cell? ⟨na, 7, none⟩ = some (.string (bs xa.2)) ∧ w'.cell? ⟨bb, ob, none⟩ = some (.pointer (some ⟨nb, 0, none⟩)) ∧ w'.cell? ⟨nb, 2, none⟩ = some (.int .i64 xb.1.kind) ∧ w'.cell? ⟨nb, 3, none⟩ = some (.string (bs xb.1.owner)) ∧ w'.cell? ⟨nb, 4, none⟩ = some (.int .i64 xb.1.num) ∧ w'.cell? ⟨nb, 5, none⟩ = some (.int .i64 xb.1.idx) ∧ w'.cell? ⟨nb, 6, none⟩ = some (.string (bs xb.1.text)) ∧ w'.cell? ⟨nb, 7, none⟩ = some (.string (bs xb.2)))) (by kernel_rfl) ?_ (fun hHeld => ?_)
            · exact ⟨ap, a2, a3, a4, a5, a6, a7, bp, b2, b3, b4, b5, b6, b7⟩
            refine wpAnyH_take (i := 0) (v := ?_) rfl (by kernel_rfl) (by kernel_rfl) (by kernel_rfl) (fun _ _ _ h => h) (Or.inl ⟨by kernel_rfl, ?_⟩) hHeld ?_
            rotate_left
            · (intro w hSw; (try dsimp only at hSw); go_simp; try with_reducible rfl)
            try simp only [Act.put, List.setIfInBounds_toArray, List.set_cons_zero, List.set_cons_succ]
            refine wpAnyH_take (i := 1) (v := ?_) rfl (by kernel_rfl) (by kernel_rfl) (by kernel_rfl) (fun _ _ _ h => h) (Or.inl ⟨by kernel_rfl, ?_⟩) hHeld ?_
            rotate_left
            · (intro w hSw; (try dsimp only at hSw); go_simp; try with_reducible rfl)
            try simp only [Act.put, List.setIfInBounds_toArray, List.set_cons_zero, List.set_cons_succ]
            refine wpAnyH_take (i := 2) (v := ?_) rfl (by kernel_rfl) (by kernel_rfl) (by kernel_rfl) (fun _ _ _ h => h) (Or.inl ⟨by kernel_rfl, ?_⟩) hHeld ?_
            rotate_left
            · (intro w hSw; (try dsimp only at hSw); go_simp; try with_reducible rfl)
            try simp only [Act.put, List.setIfInBounds_toArray, List.set_cons_zero, List.set_cons_succ]
            refine wpAnyH_take (i := 3) (v := ?_) rfl (by kernel_rfl) (by kernel_rfl) (by kernel_rfl) (fun _ _ _ h => h) (Or.inl ⟨by kernel_rfl, ?_⟩) hHeld ?_
            rotate_left
            · (intro w hSw; (try dsimp only at hSw); go_simp; try with_reducible rfl)
            try simp only [Act.put, List.setIfInBounds_toArray, List.set_cons_zero, List.set_cons_succ]
            refine wpAnyH_take (i := 4) (v := ?_) rfl (by kernel_rfl) (by kernel_rfl) (by kernel_rfl) (fun _ _ _ h => h) (Or.inl ⟨by kernel_rfl, ?_⟩) hHeld ?_
            rotate_left
            · (intro w hSw; (try dsimp only at hSw); go_simp; try with_reducible rfl)
            try simp only [Act.put, List.setIfInBounds_toArray, List.set_cons_zero, List.set_cons_succ]
            refine wpAnyH_take (i := 5) (v := ?_) rfl (by kernel_rfl) (by kernel_rfl) (by kernel_rfl) (fun _ _ _ h => h) (Or.inl ⟨by kernel_rfl, ?_⟩) hHeld ?_
            rotate_left
            · (intro w hSw; (try dsimp only at hSw); go_simp; try with_reducible rfl)
            try simp only [Act.put, List.setIfInBounds_toArray, List.set_cons_zero, List.set_cons_succ]
            refine wpAnyH_take (i := 6) (v := ?_) rfl (by kernel_rfl) (by kernel_rfl) (by kernel_rfl) (fun _ _ _ h => h) (Or.inl ⟨by kernel_rfl, ?_⟩) hHeld ?_
            rotate_left
            · (intro w hSw; (try dsimp only at hSw); go_simp; try with_reducible rfl)
            try simp only [Act.put, List.setIfInBounds_toArray, List.set_cons_zero, List.set_cons_succ]
            refine wpAnyH_take (i := 7) (v := ?_) rfl (by kernel_rfl) (by kernel_rfl) (by kernel_rfl) (fun _ _ _ h => h) (Or.inl ⟨by kernel_rfl, ?_⟩) hHeld ?_
            rotate_left
            · (intro w hSw; (try dsimp only at hSw); go_simp; try with_reducible rfl)
            try simp only [Act.put, List.setIfInBounds_toArray, List.set_cons_zero, List.set_cons_succ]
            refine wpAnyH_take (i := 8) (v := ?_) rfl (by kernel_rfl) (by kernel_rfl) (by kernel_rfl) (fun _ _ _ h => h) (Or.inl ⟨by kernel_rfl, ?_⟩) hHeld ?_
            rotate_left
            · (intro w hSw; (try dsimp only at hSw); go_simp; try with_reducible rfl)
            try simp only [Act.put, List.setIfInBounds_toArray, List.set_cons_zero, List.set_cons_succ]
            refine wpAnyH_take (i := 9) (v := ?_) rfl (by kernel_rfl) (by kernel_rfl) (by kernel_rfl) (fun _ _ _ h => h) (Or.inl ⟨by kernel_rfl, ?_⟩) hHeld ?_
            rotate_left
            · (intro w hSw; (try dsimp only at hSw); go_simp; try with_reducible rfl)
            try simp only [Act.put, List.setIfInBounds_toArray, List.set_cons_zero, List.set_cons_succ]
            refine wpAnyH_take (i := 10) (v := ?_) rfl (by kernel_rfl) (by kernel_rfl) (by kernel_rfl) (fun _ _ _ h => h) (Or.inl ⟨by kernel_rfl, ?_⟩) hHeld ?_
            rotate_left
            · (intro w hSw; (try dsimp only at hSw); go_simp; try with_reducible rfl)
            try simp only [Act.put, List.setIfInBounds_toArray, List.set_cons_zero, List.set_cons_succ]
            refine wpAnyH_take (i := 11) (v := ?_) rfl (by kernel_rfl) (by kernel_rfl) (by kernel_rfl) (fun _ _ _ h => h) (Or.inl ⟨by kernel_rfl, ?_⟩) hHeld ?_
            rotate_left
            · (intro w hSw; (try dsimp only at hSw); go_simp; try with_reducible rfl)
            try simp only [Act.put, List.setIfInBounds_toArray, List.set_cons_zero, List.set_cons_succ]
            refine wpAnyH_ready (rs := [12]) (by kernel_rfl) (by simp) ?_
            refine AllReadyH.cons rfl (fun K hK => ?_) AllReadyH.nil
            go_simp
            refine (compare_is xa.1 xb.1 _ HOW.out).mono ?_; rintro e w4 ⟨rfl, hb4⟩; have HB4 := Lib.hid ((((Below.refl wr.heap.size wr).drew).drew).trans hb4); clear hb4
            try (go_wp2_with fail)
            refine hK.out _ _ ?_ (fun hNew => ?_)
            · exact ⟨(HB4.out.cell (p := ⟨ba, oa, none⟩) ha1).trans ap, (HB4.out.cell (p := ⟨na, 2, none⟩) ha2).trans a2, (HB4.out.cell (p := ⟨na, 3, none⟩) ha2).trans a3, (HB4.out.cell (p := ⟨na, 4, none⟩) ha2).trans a4, (HB4.out.cell (p := ⟨na, 5, none⟩) ha2).trans a5, (HB4.out.cell (p := ⟨na, 6, none⟩) ha2).trans a6, (HB4.out.cell (p := ⟨na, 7, none⟩) ha2).trans a7, (HB4.out.cell (p := ⟨bb, ob, none⟩) hb1).trans bp, (HB4.out.cell (p := ⟨nb, 2, none⟩) hb2).trans b2, (HB4.out.cell (p := ⟨nb, 3, none⟩) hb2).trans b3, (HB4.out.cell (p := ⟨nb, 4, none⟩) hb2).trans b4, (HB4.out.cell (p := ⟨nb, 5, none⟩) hb2).trans b5, (HB4.out.cell (p := ⟨nb, 6, none⟩) hb2).trans b6, (HB4.out.cell (p := ⟨nb, 7, none⟩) hb2).trans b7⟩
            clear hK K hHeld
            have hHeld := hNew
            clear hNew
            try simp only [Act.put, List.setIfInBounds_toArray, List.set_cons_zero, List.set_cons_succ]
            refine wpAnyH_take (i := 13) (v := ?_) rfl (by kernel_rfl) (by kernel_rfl) (by kernel_rfl) (fun _ _ _ h => h) (Or.inl ⟨by kernel_rfl, ?_⟩) hHeld ?_
            rotate_left
            · (intro w hSw; (try dsimp only at hSw); go_simp; try with_reducible rfl)
            try simp only [Act.put, List.setIfInBounds_toArray, List.set_cons_zero, List.set_cons_succ]
            refine wpAnyH_done (by kernel_rfl) ?_ _
            clear hHeld
            try simp only [List.getElem_toArray, List.getElem_cons_zero, List.getElem_cons_succ, Act.put, List.setIfInBounds_toArray, List.set_cons_zero, List.set_cons_succ]
            refine NoPanic.normal ?_
            replace HRA := Lib.hid (RdNd.next HRA.out HB4.out)
            replace HRB := Lib.hid (RdNd.next HRB.out HB4.out)
            replace HOD := Lib.hid (OwnP.next HOD.out HB4.out)
            replace HBW := Lib.hid (HBW.out.trans (HB4.out.mono HBW.out.size))
            replace HNA := Lib.hid (Blk.next HNA.out HB4.out ha2)
            replace HNB := Lib.hid (Blk.next HNB.out HB4.out hb2)
            replace HBA := Lib.hid ((HB4.out.block ba ha1).trans HBA.out)
            replace HBB := Lib.hid ((HB4.out.block bb hb1).trans HBB.out)
            replace ap := (HB4.out.cell (p := ⟨ba, oa, none⟩) ha1).trans ap
            replace a2 := (HB4.out.cell (p := ⟨na, 2, none⟩) ha2).trans a2
            replace a3 := (HB4.out.cell (p := ⟨na, 3, none⟩) ha2).trans a3
            replace a4 := (HB4.out.cell (p := ⟨na, 4, none⟩) ha2).trans a4
            replace a5 := (HB4.out.cell (p := ⟨na, 5, none⟩) ha2).trans a5
            replace a6 := (HB4.out.cell (p := ⟨na, 6, none⟩) ha2).trans a6
            replace a7 := (HB4.out.cell (p := ⟨na, 7, none⟩) ha2).trans a7
            replace bp := (HB4.out.cell (p := ⟨bb, ob, none⟩) hb1).trans bp
            replace b2 := (HB4.out.cell (p := ⟨nb, 2, none⟩) hb2).trans b2
            replace b3 := (HB4.out.cell (p := ⟨nb, 3, none⟩) hb2).trans b3
            replace b4 := (HB4.out.cell (p := ⟨nb, 4, none⟩) hb2).trans b4
            replace b5 := (HB4.out.cell (p := ⟨nb, 5, none⟩) hb2).trans b5
            replace b6 := (HB4.out.cell (p := ⟨nb, 6, none⟩) hb2).trans b6
            replace b7 := (HB4.out.cell (p := ⟨nb, 7, none⟩) hb2).trans b7
            replace ha1 := Nat.lt_of_lt_of_le ha1 HB4.out.size
            replace ha2 := Nat.lt_of_lt_of_le ha2 HB4.out.size
            replace hb1 := Nat.lt_of_lt_of_le hb1 HB4.out.size
            replace hb2 := Nat.lt_of_lt_of_le hb2 HB4.out.size
            obtain ⟨cc, hcc⟩ : ∃ c, cmpN xa.1 xb.1 = c := ⟨_, rfl⟩
            rw [hcc]
            by_cases hc1 : cc < 0
            · have m1 : decide (cc < 0) = true := decide_eq_true hc1
              have m2 : decide (cc ≤ 0) = true := decide_eq_true (by omega)
              have m3 : decide ((0 : Int) ≤ cc) = false := decide_eq_false (by omega)
              have m4 : decide ((0 : Int) < cc) = false := decide_eq_false (by omega)
              have HC1 := Lib.hid (show cmpN xa.1 xb.1 < 0 by rw [hcc]; exact hc1)
              clear hcc hc1
              go_upto_region 14 with (fail)
              go_wp2_with (at_builtin; have kq := own_next HOD.out ((Below.refl w4.heap.size w4).alloc (Nat.le_refl _) (.cells #[.int .i64 xa.1.kind, .string (bs xa.1.owner), .int .i64 xa.1.num, .int .i64 xa.1.idx, .string (bs xa.1.text), .string ⟨#[]⟩, .bool true] 83)); refine wpList_append_w _ rfl _ _ _ rfl w.heap.size 83 i0 _ 7 80 Tryz.underlying59 hi hz0 hz1 hz2 rfl (by omega) (.slice AD D.length cD) D.length (D.flatMap chC) (by rfl) kq (.slice (some ⟨w4.heap.size, 0, none⟩) 1 1) 1 [.int .i64 xa.1.kind, .string (bs xa.1.owner), .int .i64 xa.1.num, .int .i64 xa.1.idx, .string (bs xa.1.text), .string ⟨#[]⟩, .bool true] (by rfl) (Rd.of_own (own_new w4 0 83 7 [.int .i64 xa.1.kind, .string (bs xa.1.owner), .int .i64 xa.1.num, .int .i64 xa.1.idx, .string (bs xa.1.text), .string ⟨#[]⟩, .bool true] rfl (Nat.zero_le _))) (by omega) (by rfl) (by simp [Value.oneCell']) (by unfold maxLen; omega) (by omega) (by have := HBW.out.size; simp at this ⊢; omega) ?_; intro v5 w5 hown5 hg5' hat5; have hg5 : (w4.alloc (.cells #[.int .i64 xa.1.kind, .string (bs xa.1.owner), .int .i64 xa.1.num, .int .i64 xa.1.idx, .string (bs xa.1.text), .string ⟨#[]⟩, .bool true] 83)).grownBy w5 (Value.slice AD D.length cD).ownBlock := ⟨hg5'.os, hg5'.tape, hg5'.output, hg5'.size, hg5'.block⟩; have HOW5 := Lib.hid hown5; have K5 := Lib.hid ((Kept.of_below [83] ((Below.refl w4.heap.size w4).alloc (Nat.le_refl _) (.cells #[.int .i64 xa.1.kind, .string (bs xa.1.owner), .int .i64 xa.1.num, .int .i64 xa.1.idx, .string (bs xa.1.text), .string ⟨#[]⟩, .bool true] 83))).trans (Kept.of_own [83] kq hg5 rfl)); have B5 := Lib.hid (below_own (HBW.out.alloc HBW.out.size (.cells #[.int .i64 xa.1.kind, .string (bs xa.1.owner), .int .i64 xa.1.num, .int .i64 xa.1.idx, .string (bs xa.1.text), .string ⟨#[]⟩, .bool true] 83)) kq hg5 (Nat.le_refl _) (by have := HBW.out.size; simp at this ⊢; omega)); clear hown5 hg5 hat5 hg5')
              obtain ⟨AE, cE, rfl, hcE⟩ := own_len HOW5.out
              go_wp2_with fail
              all_goals
                go_roundg (a.length + (b.length + 1))
                case rel =>
                  refine ⟨a, (xb :: b), D ++ [⟨xa.1, [], true⟩], by (try simp only [List.length_append, List.length_cons, List.length_nil]); (try omega), ?_, ?_, OwnP.snoc (x := (⟨xa.1, [], true⟩ : Ch)) HOW5.out, ?_, st_tail HSA.out, HSB.out, by (try simp only [List.length_append, List.length_cons, List.length_nil]); (try omega), B5.out⟩
                  · have ht := RowRd.keep (RowRd.tail HRA.out ndC_len) K5.out rfl fun _ _ => NNd.keep K5.out rfl
                    simpa [*, Addr.add] using ht
                  · exact RowRd.keep HRB.out K5.out rfl fun _ _ => NNd.keep K5.out rfl
                  · have e := HDF.out
                    rw [diffL, if_pos (show cmpN xa.1 xb.1 < 0 from by have := HC1.out; omega)] at e
                    rw [← e]
                    rw [List.append_assoc]; rfl
                case measure => omega
            · have HC1 := Lib.hid (show ¬ cmpN xa.1 xb.1 < 0 by rw [hcc]; exact hc1)
              have m1 : decide (cc < 0) = false := decide_eq_false hc1
              by_cases hc2 : 0 < cc
              · have m2 : decide (cc ≤ 0) = false := decide_eq_false (by omega)
                have m3 : decide ((0 : Int) ≤ cc) = true := decide_eq_true (by omega)
                have m4 : decide ((0 : Int) < cc) = true := decide_eq_true hc2
                have HC2 := Lib.hid (show 0 < cmpN xa.1 xb.1 by rw [hcc]; exact hc2)
                clear hcc hc1 hc2
                go_upto_region 15 with (fail)
                refine wp_region_noPanic ?_
                refine wp_region_held_drew (S := (fun (w' : World) => 0 ≤ w'.heap.size)) (by kernel_rfl) ?_ (fun hHeld => ?_)
                · exact Nat.zero_le _
                refine wpAnyH_take (i := 0) (v := ?_) rfl (by kernel_rfl) (by kernel_rfl) (by kernel_rfl) (fun _ _ _ h => h) (Or.inl ⟨by kernel_rfl, ?_⟩) hHeld ?_
                rotate_left
                · (intro w hSw; (try dsimp only at hSw); go_simp; try with_reducible rfl)
                try simp only [Act.put, List.setIfInBounds_toArray, List.set_cons_zero, List.set_cons_succ]
                refine wpAnyH_take (i := 1) (v := ?_) rfl (by kernel_rfl) (by kernel_rfl) (by kernel_rfl) (fun _ _ _ h => h) (Or.inl ⟨by kernel_rfl, ?_⟩) hHeld ?_
                rotate_left
                · (intro w hSw; (try dsimp only at hSw); go_simp; try with_reducible rfl)
                try simp only [Act.put, List.setIfInBounds_toArray, List.set_cons_zero, List.set_cons_succ]
                refine wpAnyH_take (i := 2) (v := ?_) rfl (by kernel_rfl) (by kernel_rfl) (by kernel_rfl) (fun _ _ _ h => h) (Or.inl ⟨by kernel_rfl, ?_⟩) hHeld ?_
                rotate_left
                · (intro w hSw; (try dsimp only at hSw); go_simp; try with_reducible rfl)
                try simp only [Act.put, List.setIfInBounds_toArray, List.set_cons_zero, List.set_cons_succ]
                refine wpAnyH_take (i := 3) (v := undef) rfl (by kernel_rfl) (by kernel_rfl) (by kernel_rfl) (fun _ _ _ h => h) (Or.inr ⟨by kernel_rfl, rfl⟩) hHeld ?_
                try simp only [Act.put, List.setIfInBounds_toArray, List.set_cons_zero, List.set_cons_succ]
                refine wpAnyH_take (i := 4) (v := undef) rfl (by kernel_rfl) (by kernel_rfl) (by kernel_rfl) (fun _ _ _ h => h) (Or.inr ⟨by kernel_rfl, rfl⟩) hHeld ?_
                try simp only [Act.put, List.setIfInBounds_toArray, List.set_cons_zero, List.set_cons_succ]
                refine wpAnyH_take (i := 5) (v := undef) rfl (by kernel_rfl) (by kernel_rfl) (by kernel_rfl) (fun _ _ _ h => h) (Or.inr ⟨by kernel_rfl, rfl⟩) hHeld ?_
                try simp only [Act.put, List.setIfInBounds_toArray, List.set_cons_zero, List.set_cons_succ]
                refine wpAnyH_take (i := 6) (v := undef) rfl (by kernel_rfl) (by kernel_rfl) (by kernel_rfl) (fun _ _ _ h => h) (Or.inr ⟨by kernel_rfl, rfl⟩) hHeld ?_
                try simp only [Act.put, List.setIfInBounds_toArray, List.set_cons_zero, List.set_cons_succ]
                refine wpAnyH_take (i := 7) (v := undef) rfl (by kernel_rfl) (by kernel_rfl) (by kernel_rfl) (fun _ _ _ h => h) (Or.inr ⟨by kernel_rfl, rfl⟩) hHeld ?_
                try simp only [Act.put, List.setIfInBounds_toArray, List.set_cons_zero, List.set_cons_succ]
                refine wpAnyH_take (i := 8) (v := undef) rfl (by kernel_rfl) (by kernel_rfl) (by kernel_rfl) (fun _ _ _ h => h) (Or.inr ⟨by kernel_rfl, rfl⟩) hHeld ?_
                try simp only [Act.put, List.setIfInBounds_toArray, List.set_cons_zero, List.set_cons_succ]
                refine wpAnyH_take (i := 9) (v := undef) rfl (by kernel_rfl) (by kernel_rfl) (by kernel_rfl) (fun _ _ _ h => h) (Or.inr ⟨by kernel_rfl, rfl⟩) hHeld ?_
                try simp only [Act.put, List.setIfInBounds_toArray, List.set_cons_zero, List.set_cons_succ]
                refine wpAnyH_take (i := 10) (v := undef) rfl (by kernel_rfl) (by kernel_rfl) (by kernel_rfl) (fun _ _ _ h => h) (Or.inr ⟨by kernel_rfl, rfl⟩) hHeld ?_
                try simp only [Act.put, List.setIfInBounds_toArray, List.set_cons_zero, List.set_cons_succ]
                refine wpAnyH_take (i := 11) (v := undef) rfl (by kernel_rfl) (by kernel_rfl) (by kernel_rfl) (fun _ _ _ h => h) (Or.inr ⟨by kernel_rfl, rfl⟩) hHeld ?_
                try simp only [Act.put, List.setIfInBounds_toArray, List.set_cons_zero, List.set_cons_succ]
                refine wpAnyH_take (i := 12) (v := undef) rfl (by kernel_rfl) (by kernel_rfl) (by kernel_rfl) (fun _ _ _ h => h) (Or.inr ⟨by kernel_rfl, rfl⟩) hHeld ?_
                try simp only [Act.put, List.setIfInBounds_toArray, List.set_cons_zero, List.set_cons_succ]
                refine wpAnyH_take (i := 13) (v := undef) rfl (by kernel_rfl) (by kernel_rfl) (by kernel_rfl) (fun _ _ _ h => h) (Or.inr ⟨by kernel_rfl, rfl⟩) hHeld ?_
                try simp only [Act.put, List.setIfInBounds_toArray, List.set_cons_zero, List.set_cons_succ]
                refine wpAnyH_take (i := 14) (v := undef) rfl (by kernel_rfl) (by kernel_rfl) (by kernel_rfl) (fun _ _ _ h => h) (Or.inr ⟨by kernel_rfl, rfl⟩) hHeld ?_
                try simp only [Act.put, List.setIfInBounds_toArray, List.set_cons_zero, List.set_cons_succ]
                refine wpAnyH_take (i := 15) (v := undef) rfl (by kernel_rfl) (by kernel_rfl) (by kernel_rfl) (fun _ _ _ h => h) (Or.inr ⟨by kernel_rfl, rfl⟩) hHeld ?_
                try simp only [Act.put, List.setIfInBounds_toArray, List.set_cons_zero, List.set_cons_succ]
                refine wpAnyH_take (i := 16) (v := ?_) rfl (by kernel_rfl) (by kernel_rfl) (by kernel_rfl) (fun _ _ _ h => h) (Or.inl ⟨by kernel_rfl, ?_⟩) hHeld ?_
                rotate_left
                · (intro w hSw; (try dsimp only at hSw); go_simp; try with_reducible rfl)
                try simp only [Act.put, List.setIfInBounds_toArray, List.set_cons_zero, List.set_cons_succ]
                refine wpAnyH_take (i := 17) (v := ?_) rfl (by kernel_rfl) (by kernel_rfl) (by kernel_rfl) (fun _ _ _ h => h) (Or.inl ⟨by kernel_rfl, ?_⟩) hHeld ?_
                rotate_left
                · (intro w hSw; (try dsimp only at hSw); go_simp; try with_reducible rfl)
                try simp only [Act.put, List.setIfInBounds_toArray, List.set_cons_zero, List.set_cons_succ]
                refine wpAnyH_done (by kernel_rfl) ?_ _
                clear hHeld
                try simp only [List.getElem_toArray, List.getElem_cons_zero, List.getElem_cons_succ, Act.put, List.setIfInBounds_toArray, List.set_cons_zero, List.set_cons_succ]
                refine NoPanic.normal ?_
                go_upto_region 16 with (fail)
                refine wp_region_noPanic ?_
                refine wp_region_held_drew (S := (fun (w' : World) => w'.cell? ⟨bb, ob, none⟩ = some (.pointer (some ⟨nb, 0, none⟩)) ∧ w'.cell? ⟨nb, 2, none⟩ = some (.int .i64 xb.1.kind) ∧ w'.cell? ⟨nb, 3, none⟩ = some (.string (bs xb.1.owner)) ∧ w'.cell? ⟨nb, 4, none⟩ = some (.int .i64 xb.1.num) ∧ w'.cell? ⟨nb, 5, none⟩ = some (.int .i64 xb.1.idx) ∧ w'.cell? ⟨nb, 6, none⟩ = some (.string (bs xb.1.text)) ∧ w'.cell? ⟨nb, 7, none⟩ = some (.string (bs xb.2)))) (by kernel_rfl) ?_ (fun hHeld => ?_)
                · exact ⟨bp, b2, b3, b4, b5, b6, b7⟩
                refine wpAnyH_take (i := 0) (v := ?_) rfl (by kernel_rfl) (by kernel_rfl) (by kernel_rfl) (fun _ _ _ h => h) (Or.inl ⟨by kernel_rfl, ?_⟩) hHeld ?_
                rotate_left
                · (intro w hSw; (try dsimp only at hSw); go_simp; try with_reducible rfl)
                try simp only [Act.put, List.setIfInBounds_toArray, List.set_cons_zero, List.set_cons_succ]
                refine wpAnyH_take (i := 1) (v := ?_) rfl (by kernel_rfl) (by kernel_rfl) (by kernel_rfl) (fun _ _ _ h => h) (Or.inl ⟨by kernel_rfl, ?_⟩) hHeld ?_
                rotate_left
                · (intro w hSw; (try dsimp only at hSw); go_simp; try with_reducible rfl)
                try simp only [Act.put, List.setIfInBounds_toArray, List.set_cons_zero, List.set_cons_succ]
                refine wpAnyH_take (i := 2) (v := ?_) rfl (by kernel_rfl) (by kernel_rfl) (by kernel_rfl) (fun _ _ _ h => h) (Or.inl ⟨by kernel_rfl, ?_⟩) hHeld ?_
                rotate_left
                · (intro w hSw; (try dsimp only at hSw); go_simp; try with_reducible rfl)
                try simp only [Act.put, List.setIfInBounds_toArray, List.set_cons_zero, List.set_cons_succ]
                refine wpAnyH_take (i := 3) (v := ?_) rfl (by kernel_rfl) (by kernel_rfl) (by kernel_rfl) (fun _ _ _ h => h) (Or.inl ⟨by kernel_rfl, ?_⟩) hHeld ?_
                rotate_left
                · (intro w hSw; (try dsimp only at hSw); go_simp; try with_reducible rfl)
                try simp only [Act.put, List.setIfInBounds_toArray, List.set_cons_zero, List.set_cons_succ]
                refine wpAnyH_take (i := 4) (v := ?_) rfl (by kernel_rfl) (by kernel_rfl) (by kernel_rfl) (fun _ _ _ h => h) (Or.inl ⟨by kernel_rfl, ?_⟩) hHeld ?_
                rotate_left
                · (intro w hSw; (try dsimp only at hSw); go_simp; try with_reducible rfl)
                try simp only [Act.put, List.setIfInBounds_toArray, List.set_cons_zero, List.set_cons_succ]
                refine wpAnyH_take (i := 5) (v := ?_) rfl (by kernel_rfl) (by kernel_rfl) (by kernel_rfl) (fun _ _ _ h => h) (Or.inl ⟨by kernel_rfl, ?_⟩) hHeld ?_
                rotate_left
                · (intro w hSw; (try dsimp only at hSw); go_simp; try with_reducible rfl)
                try simp only [Act.put, List.setIfInBounds_toArray, List.set_cons_zero, List.set_cons_succ]
                refine wpAnyH_take (i := 6) (v := ?_) rfl (by kernel_rfl) (by kernel_rfl) (by kernel_rfl) (fun _ _ _ h => h) (Or.inl ⟨by kernel_rfl, ?_⟩) hHeld ?_
                rotate_left
                · (intro w hSw; (try dsimp only at hSw); go_simp; try with_reducible rfl)
                try simp only [Act.put, List.setIfInBounds_toArray, List.set_cons_zero, List.set_cons_succ]
                refine wpAnyH_take (i := 7) (v := ?_) rfl (by kernel_rfl) (by kernel_rfl) (by kernel_rfl) (fun _ _ _ h => h) (Or.inl ⟨by kernel_rfl, ?_⟩) hHeld ?_
                rotate_left
                · (intro w hSw; (try dsimp only at hSw); go_simp; try with_reducible rfl)
                try simp only [Act.put, List.setIfInBounds_toArray, List.set_cons_zero, List.set_cons_succ]
                refine wpAnyH_take (i := 8) (v := ?_) rfl (by kernel_rfl) (by kernel_rfl) (by kernel_rfl) (fun _ _ _ h => h) (Or.inl ⟨by kernel_rfl, ?_⟩) hHeld ?_
                rotate_left
                · (intro w hSw; (try dsimp only at hSw); go_simp; try with_reducible rfl)
                try simp only [Act.put, List.setIfInBounds_toArray, List.set_cons_zero, List.set_cons_succ]
                refine wpAnyH_take (i := 9) (v := ?_) rfl (by kernel_rfl) (by kernel_rfl) (by kernel_rfl) (fun _ _ _ h => h) (Or.inl ⟨by kernel_rfl, ?_⟩) hHeld ?_
                rotate_left
                · (intro w hSw; (try dsimp only at hSw); go_simp; try with_reducible rfl)
                try simp only [Act.put, List.setIfInBounds_toArray, List.set_cons_zero, List.set_cons_succ]
                refine wpAnyH_take (i := 10) (v := ?_) rfl (by kernel_rfl) (by kernel_rfl) (by kernel_rfl) (fun _ _ _ h => h) (Or.inl ⟨by kernel_rfl, ?_⟩) hHeld ?_
                rotate_left
                · (intro w hSw; (try dsimp only at hSw); go_simp; try with_reducible rfl)
                try simp only [Act.put, List.setIfInBounds_toArray, List.set_cons_zero, List.set_cons_succ]
                refine wpAnyH_take (i := 11) (v := ?_) rfl (by kernel_rfl) (by kernel_rfl) (by kernel_rfl) (fun _ _ _ h => h) (Or.inl ⟨by kernel_rfl, ?_⟩) hHeld ?_
                rotate_left
                · (intro w hSw; (try dsimp only at hSw); go_simp; try with_reducible rfl)
                try simp only [Act.put, List.setIfInBounds_toArray, List.set_cons_zero, List.set_cons_succ]
                refine wpAnyH_take (i := 12) (v := ?_) rfl (by kernel_rfl) (by kernel_rfl) (by kernel_rfl) (fun _ _ _ h => h) (Or.inl ⟨by kernel_rfl, ?_⟩) hHeld ?_
                rotate_left
                · (intro w hSw; (try dsimp only at hSw); go_simp; try with_reducible rfl)
                try simp only [Act.put, List.setIfInBounds_toArray, List.set_cons_zero, List.set_cons_succ]
                refine wpAnyH_take (i := 13) (v := ?_) rfl (by kernel_rfl) (by kernel_rfl) (by kernel_rfl) (fun _ _ _ h => h) (Or.inl ⟨by kernel_rfl, ?_⟩) hHeld ?_
                rotate_left
                · (intro w hSw; (try dsimp only at hSw); go_simp; try with_reducible rfl)
                try simp only [Act.put, List.setIfInBounds_toArray, List.set_cons_zero, List.set_cons_succ]
                refine wpAnyH_ready (rs := [14]) (by kernel_rfl) (by simp) ?_
                refine AllReadyH.cons rfl (fun K hK => ?_) AllReadyH.nil
                go_simp
                refine hK.out _ _ ?_ (fun hNew => ?_)
                · exact ⟨(((Below.refl _ _).alloc (Nat.le_refl _) _).cell (p := ⟨bb, ob, none⟩) hb1).trans bp, (((Below.refl _ _).alloc (Nat.le_refl _) _).cell (p := ⟨nb, 2, none⟩) hb2).trans b2, (((Below.refl _ _).alloc (Nat.le_refl _) _).cell (p := ⟨nb, 3, none⟩) hb2).trans b3, (((Below.refl _ _).alloc (Nat.le_refl _) _).cell (p := ⟨nb, 4, none⟩) hb2).trans b4, (((Below.refl _ _).alloc (Nat.le_refl _) _).cell (p := ⟨nb, 5, none⟩) hb2).trans b5, (((Below.refl _ _).alloc (Nat.le_refl _) _).cell (p := ⟨nb, 6, none⟩) hb2).trans b6, (((Below.refl _ _).alloc (Nat.le_refl _) _).cell (p := ⟨nb, 7, none⟩) hb2).trans b7⟩
                clear hK K hHeld
                have hHeld := hNew
                clear hNew
                try simp only [Act.put, List.setIfInBounds_toArray, List.set_cons_zero, List.set_cons_succ]
                refine wpAnyH_ready (rs := [15]) (by kernel_rfl) (by simp) ?_
                refine AllReadyH.cons rfl (fun K hK => ?_) AllReadyH.nil
                have kq := own_next HOD.out ((Below.refl w4.heap.size w4).alloc (Nat.le_refl _) (.cells #[.int .i64 xb.1.kind, .string (bs xb.1.owner), .int .i64 xb.1.num, .int .i64 xb.1.idx, .string (bs xb.1.text), .string (bs xb.2), .bool false] 83)); refine step_append_w _ (by rfl) _ _ _ (by rfl) w.heap.size 83 i0 _ 7 80 Tryz.underlying59 hi hz0 hz1 hz2 rfl (by omega) (.slice AD D.length cD) D.length (D.flatMap chC) (by rfl) kq (.slice (some ⟨w4.heap.size, 0, none⟩) 1 1) 1 [.int .i64 xb.1.kind, .string (bs xb.1.owner), .int .i64 xb.1.num, .int .i64 xb.1.idx, .string (bs xb.1.text), .string (bs xb.2), .bool false] (by rfl) (Rd.of_own (own_new w4 0 83 7 [.int .i64 xb.1.kind, .string (bs xb.1.owner), .int .i64 xb.1.num, .int .i64 xb.1.idx, .string (bs xb.1.text), .string (bs xb.2), .bool false] rfl (Nat.zero_le _))) (by omega) (by rfl) (by simp [Value.oneCell']) (by unfold maxLen; omega) (by omega) (by have := HBW.out.size; simp at this ⊢; omega) ?_; intro v5 w5 hown5 hg5' hat5; have hg5 : (w4.alloc (.cells #[.int .i64 xb.1.kind, .string (bs xb.1.owner), .int .i64 xb.1.num, .int .i64 xb.1.idx, .string (bs xb.1.text), .string (bs xb.2), .bool false] 83)).grownBy w5 (Value.slice AD D.length cD).ownBlock := ⟨hg5'.os, hg5'.tape, hg5'.output, hg5'.size, hg5'.block⟩; have HOW5 := Lib.hid hown5; have K5 := Lib.hid ((Kept.of_below [83] ((Below.refl w4.heap.size w4).alloc (Nat.le_refl _) (.cells #[.int .i64 xb.1.kind, .string (bs xb.1.owner), .int .i64 xb.1.num, .int .i64 xb.1.idx, .string (bs xb.1.text), .string (bs xb.2), .bool false] 83))).trans (Kept.of_own [83] kq hg5 rfl)); have B5 := Lib.hid (below_own (HBW.out.alloc HBW.out.size (.cells #[.int .i64 xb.1.kind, .string (bs xb.1.owner), .int .i64 xb.1.num, .int .i64 xb.1.idx, .string (bs xb.1.text), .string (bs xb.2), .bool false] 83)) kq hg5 (Nat.le_refl _) (by have := HBW.out.size; simp at this ⊢; omega)); have fb := fun k => far_cell kq hg5 HBB.out (by decide) k; have fn := fun k => far_cell kq hg5 HNB.out (by decide) k
                refine hK.out _ _ ?_ (fun hNew => ?_)
                · exact ⟨(fb _).trans bp, (fn 2).trans b2, (fn 3).trans b3, (fn 4).trans b4, (fn 5).trans b5, (fn 6).trans b6, (fn 7).trans b7⟩
                clear hK K hHeld
                have hHeld := hNew
                clear hNew
                try simp only [Act.put, List.setIfInBounds_toArray, List.set_cons_zero, List.set_cons_succ]
                refine wpAnyH_take (i := 16) (v := ?_) rfl (by kernel_rfl) (by kernel_rfl) (by kernel_rfl) (fun _ _ _ h => h) (Or.inl ⟨by kernel_rfl, ?_⟩) hHeld ?_
                rotate_left
                · (intro w hSw; (try dsimp only at hSw); go_simp; try with_reducible rfl)
                try simp only [Act.put, List.setIfInBounds_toArray, List.set_cons_zero, List.set_cons_succ]
                refine wpAnyH_done (by kernel_rfl) ?_ _
                clear hHeld
                try simp only [List.getElem_toArray, List.getElem_cons_zero, List.getElem_cons_succ, Act.put, List.setIfInBounds_toArray, List.set_cons_zero, List.set_cons_succ]
                refine NoPanic.normal ?_
                obtain ⟨AE, cE, rfl, hcE⟩ := own_len HOW5.out
                go_wp2_with fail
                all_goals
                  go_roundg (a.length + 1 + b.length)
                  case rel =>
                    refine ⟨(xa :: a), b, D ++ [⟨xb.1, xb.2, false⟩], by (try simp only [List.length_append, List.length_cons, List.length_nil]); (try omega), ?_, ?_, OwnP.snoc (x := (⟨xb.1, xb.2, false⟩ : Ch)) HOW5.out, ?_, HSA.out, st_tail HSB.out, by (try simp only [List.length_append, List.length_cons, List.length_nil]); (try omega), B5.out⟩
                    · exact RowRd.keep HRA.out K5.out rfl fun _ _ => NNd.keep K5.out rfl
                    · have ht := RowRd.keep (RowRd.tail HRB.out ndC_len) K5.out rfl fun _ _ => NNd.keep K5.out rfl
                      simpa [*, Addr.add] using ht
                    · have e := HDF.out
                      rw [diffL, if_neg (show ¬ cmpN xa.1 xb.1 < 0 from by have := HC1.out; omega), if_pos (show 0 < cmpN xa.1 xb.1 from by have := HC2.out; omega)] at e
                      rw [← e]
                      rw [List.append_assoc]; rfl
                  case measure => omega
              · have HC2 := Lib.hid (show ¬ 0 < cmpN xa.1 xb.1 by rw [hcc]; exact hc2)
                obtain rfl : cc = 0 := by omega
                clear hcc hc1 hc2 m1
                by_cases hv : xa.2 = xb.2
                · rw [hv] at a7
                  have HVV := Lib.hid hv
                  clear hv
                  go_upto_region 15 with (fail)
                  refine wp_region_noPanic ?_
                  refine wp_region_held_drew (S := (fun (w' : World) => w'.cell? ⟨ba, oa, none⟩ = some (.pointer (some ⟨na, 0, none⟩)) ∧ w'.cell? ⟨na, 2, none⟩ = some (.int .i64 xa.1.kind) ∧ w'.cell? ⟨na, 3, none⟩ = some (.string (bs xa.1.owner)) ∧ w'.cell? ⟨na, 4, none⟩ = some (.int .i64 xa.1.num) ∧ w'.cell? ⟨na, 5, none⟩ = some (.int .i64 xa.1.idx) ∧ w'.cell? ⟨na, 6, none⟩ = some (.string (bs xa.1.text)) ∧ w'.cell? ⟨na, 7, none⟩ = some (.string (bs xb.2)) ∧ w'.cell? ⟨bb, ob, none⟩ = some (.pointer (some ⟨nb, 0, none⟩)) ∧ w'.cell? ⟨nb, 2, none⟩ = some (.int .i64 xb.1.kind) ∧ w'.cell? ⟨nb, 3, none⟩ = some (.string (bs xb.1.owner)) ∧ w'.cell? ⟨nb, 4, none⟩ = some (.int .i64 xb.1.num) ∧ w'.cell? ⟨nb, 5, none⟩ = some (.int .i64 xb.1.idx) ∧ w'.cell? ⟨nb, 6, none⟩ = some (.string (bs xb.1.text)) ∧ w'.cell? ⟨nb, 7, none⟩ = some (.string (bs xb.2)))) (by kernel_rfl) ?_ (fun hHeld => ?_)
                  · exact ⟨ap, a2, a3, a4, a5, a6, a7, bp, b2, b3, b4, b5, b6, b7⟩
                  refine wpAnyH_take (i := 0) (v := ?_) rfl (by kernel_rfl) (by kernel_rfl) (by kernel_rfl) (fun _ _ _ h => h) (Or.inl ⟨by kernel_rfl, ?_⟩) hHeld ?_
                  rotate_left
                  · (intro w hSw; (try dsimp only at hSw); go_simp; try with_reducible rfl)
                  try simp only [Act.put, List.setIfInBounds_toArray, List.set_cons_zero, List.set_cons_succ]
                  refine wpAnyH_take (i := 1) (v := ?_) rfl (by kernel_rfl) (by kernel_rfl) (by kernel_rfl) (fun _ _ _ h => h) (Or.inl ⟨by kernel_rfl, ?_⟩) hHeld ?_
                  rotate_left
                  · (intro w hSw; (try dsimp only at hSw); go_simp; try with_reducible rfl)
                  try simp only [Act.put, List.setIfInBounds_toArray, List.set_cons_zero, List.set_cons_succ]
                  refine wpAnyH_take (i := 2) (v := ?_) rfl (by kernel_rfl) (by kernel_rfl) (by kernel_rfl) (fun _ _ _ h => h) (Or.inl ⟨by kernel_rfl, ?_⟩) hHeld ?_
                  rotate_left
                  · (intro w hSw; (try dsimp only at hSw); go_simp; try with_reducible rfl)
                  try simp only [Act.put, List.setIfInBounds_toArray, List.set_cons_zero, List.set_cons_succ]
                  refine wpAnyH_take (i := 3) (v := ?_) rfl (by kernel_rfl) (by kernel_rfl) (by kernel_rfl) (fun _ _ _ h => h) (Or.inl ⟨by kernel_rfl, ?_⟩) hHeld ?_
                  rotate_left
                  · (intro w hSw; (try dsimp only at hSw); go_simp; try with_reducible rfl)
                  try simp only [Act.put, List.setIfInBounds_toArray, List.set_cons_zero, List.set_cons_succ]
                  refine wpAnyH_take (i := 4) (v := ?_) rfl (by kernel_rfl) (by kernel_rfl) (by kernel_rfl) (fun _ _ _ h => h) (Or.inl ⟨by kernel_rfl, ?_⟩) hHeld ?_
                  rotate_left
                  · (intro w hSw; (try dsimp only at hSw); go_simp; try with_reducible rfl)
                  try simp only [Act.put, List.setIfInBounds_toArray, List.set_cons_zero, List.set_cons_succ]
                  refine wpAnyH_take (i := 5) (v := ?_) rfl (by kernel_rfl) (by kernel_rfl) (by kernel_rfl) (fun _ _ _ h => h) (Or.inl ⟨by kernel_rfl, ?_⟩) hHeld ?_
                  rotate_left
                  · (intro w hSw; (try dsimp only at hSw); go_simp; try with_reducible rfl)
                  try simp only [Act.put, List.setIfInBounds_toArray, List.set_cons_zero, List.set_cons_succ]
                  refine wpAnyH_take (i := 6) (v := ?_) rfl (by kernel_rfl) (by kernel_rfl) (by kernel_rfl) (fun _ _ _ h => h) (Or.inl ⟨by kernel_rfl, ?_⟩) hHeld ?_
                  rotate_left
                  · (intro w hSw; (try dsimp only at hSw); go_simp; try with_reducible rfl)
                  try simp only [Act.put, List.setIfInBounds_toArray, List.set_cons_zero, List.set_cons_succ]
                  refine wpAnyH_take (i := 7) (v := ?_) rfl (by kernel_rfl) (by kernel_rfl) (by kernel_rfl) (fun _ _ _ h => h) (Or.inl ⟨by kernel_rfl, ?_⟩) hHeld ?_
                  rotate_left
                  · (intro w hSw; (try dsimp only at hSw); go_simp; try with_reducible rfl)
                  try simp only [Act.put, List.setIfInBounds_toArray, List.set_cons_zero, List.set_cons_succ]
                  refine wpAnyH_take (i := 8) (v := ?_) rfl (by kernel_rfl) (by kernel_rfl) (by kernel_rfl) (fun _ _ _ h => h) (Or.inl ⟨by kernel_rfl, ?_⟩) hHeld ?_
                  rotate_left
                  · (intro w hSw; (try dsimp only at hSw); go_simp; try with_reducible rfl)
                  try simp only [Act.put, List.setIfInBounds_toArray, List.set_cons_zero, List.set_cons_succ]
                  refine wpAnyH_take (i := 9) (v := ?_) rfl (by kernel_rfl) (by kernel_rfl) (by kernel_rfl) (fun _ _ _ h => h) (Or.inl ⟨by kernel_rfl, ?_⟩) hHeld ?_
                  rotate_left
                  · (intro w hSw; (try dsimp only at hSw); go_simp; try with_reducible rfl)
                  try simp only [Act.put, List.setIfInBounds_toArray, List.set_cons_zero, List.set_cons_succ]
                  refine wpAnyH_take (i := 10) (v := ?_) rfl (by kernel_rfl) (by kernel_rfl) (by kernel_rfl) (fun _ _ _ h => h) (Or.inl ⟨by kernel_rfl, ?_⟩) hHeld ?_
                  rotate_left
                  · (intro w hSw; (try dsimp only at hSw); go_simp; try with_reducible rfl)
                  try simp only [Act.put, List.setIfInBounds_toArray, List.set_cons_zero, List.set_cons_succ]
                  refine wpAnyH_take (i := 11) (v := ?_) rfl (by kernel_rfl) (by kernel_rfl) (by kernel_rfl) (fun _ _ _ h => h) (Or.inl ⟨by kernel_rfl, ?_⟩) hHeld ?_
                  rotate_left
                  · (intro w hSw; (try dsimp only at hSw); go_simp; try with_reducible rfl)
                  try simp only [Act.put, List.setIfInBounds_toArray, List.set_cons_zero, List.set_cons_succ]
                  refine wpAnyH_take (i := 12) (v := ?_) rfl (by kernel_rfl) (by kernel_rfl) (by kernel_rfl) (fun _ _ _ h => h) (Or.inl ⟨by kernel_rfl, ?_⟩) hHeld ?_
                  rotate_left
                  · (intro w hSw; (try dsimp only at hSw); go_simp; try with_reducible rfl)
                  try simp only [Act.put, List.setIfInBounds_toArray, List.set_cons_zero, List.set_cons_succ]
                  refine wpAnyH_take (i := 13) (v := ?_) rfl (by kernel_rfl) (by kernel_rfl) (by kernel_rfl) (fun _ _ _ h => h) (Or.inl ⟨by kernel_rfl, ?_⟩) hHeld ?_
                  rotate_left
                  · (intro w hSw; (try dsimp only at hSw); go_simp; try with_reducible rfl)
                  try simp only [Act.put, List.setIfInBounds_toArray, List.set_cons_zero, List.set_cons_succ]
                  refine wpAnyH_take (i := 14) (v := ?_) rfl (by kernel_rfl) (by kernel_rfl) (by kernel_rfl) (fun _ _ _ h => h) (Or.inl ⟨by kernel_rfl, ?_⟩) hHeld ?_
                  rotate_left
                  · (intro w hSw; (try dsimp only at hSw); go_simp; try with_reducible rfl)
                  try simp only [Act.put, List.setIfInBounds_toArray, List.set_cons_zero, List.set_cons_succ]
                  refine wpAnyH_take (i := 15) (v := ?_) rfl (by kernel_rfl) (by kernel_rfl) (by kernel_rfl) (fun _ _ _ h => h) (Or.inl ⟨by kernel_rfl, ?_⟩) hHeld ?_
                  rotate_left
                  · (intro w hSw; (try dsimp only at hSw); go_simp; try with_reducible rfl)
                  try simp only [Act.put, List.setIfInBounds_toArray, List.set_cons_zero, List.set_cons_succ]
                  refine wpAnyH_take (i := 16) (v := ?_) rfl (by kernel_rfl) (by kernel_rfl) (by kernel_rfl) (fun _ _ _ h => h) (Or.inl ⟨by kernel_rfl, ?_⟩) hHeld ?_
                  rotate_left
                  · (intro w hSw; (try dsimp only at hSw); go_simp; try with_reducible rfl)
                  try simp only [Act.put, List.setIfInBounds_toArray, List.set_cons_zero, List.set_cons_succ]
                  refine wpAnyH_take (i := 17) (v := ?_) rfl (by kernel_rfl) (by kernel_rfl) (by kernel_rfl) (fun _ _ _ h => h) (Or.inl ⟨by kernel_rfl, ?_⟩) hHeld ?_
                  rotate_left
                  · (intro w hSw; (try dsimp only at hSw); go_simp; try with_reducible rfl)
                  try simp only [Act.put, List.setIfInBounds_toArray, List.set_cons_zero, List.set_cons_succ]
                  refine wpAnyH_done (by kernel_rfl) ?_ _
                  clear hHeld
                  try simp only [List.getElem_toArray, List.getElem_cons_zero, List.getElem_cons_succ, Act.put, List.setIfInBounds_toArray, List.set_cons_zero, List.set_cons_succ]
                  refine NoPanic.normal ?_
                  have K5 := Lib.hid ((Kept.refl [] w4).drew)
                  have B5 := Lib.hid (HBW.out.drew)
                  go_wp2_with fail
                  all_goals
                    go_roundg (a.length + b.length)
                    case rel =>
                      refine ⟨a, b, D, by (try simp only [List.length_append, List.length_cons, List.length_nil]); (try omega), ?_, ?_, HOD.out, ?_, st_tail HSA.out, st_tail HSB.out, by (try simp only [List.length_append, List.length_cons, List.length_nil]); (try omega), B5.out⟩
                      · have ht := RowRd.keep (RowRd.tail HRA.out ndC_len) K5.out rfl fun _ _ => NNd.keep K5.out rfl
                        simpa [*, Addr.add] using ht
                      · have ht := RowRd.keep (RowRd.tail HRB.out ndC_len) K5.out rfl fun _ _ => NNd.keep K5.out rfl
                        simpa [*, Addr.add] using ht
                      · have e := HDF.out
                        rw [diffL, if_neg (show ¬ cmpN xa.1 xb.1 < 0 from by have := HC1.out; omega), if_neg (show ¬ 0 < cmpN xa.1 xb.1 from by have := HC2.out; omega), if_pos HVV.out] at e
                        rw [← e]
                    case measure => omega
                · have k1 : ¬ (bs xa.2).toList = (bs xb.2).toList := by rw [bs_tl, bs_tl]; exact hv
                  have k2 : ((bs xa.2).toList == (bs xb.2).toList) = false := by rw [beq_eq_false_iff_ne]; exact k1
                  have HVV := Lib.hid hv
                  clear hv
                  go_upto_region 15 with (fail)
                  refine wp_region_noPanic ?_
                  refine wp_region_held_drew (S := (fun (w' : World) => w'.cell? ⟨ba, oa, none⟩ = some (.pointer (some ⟨na, 0, none⟩)) ∧ w'.cell? ⟨na, 2, none⟩ = some (.int .i64 xa.1.kind) ∧ w'.cell? ⟨na, 3, none⟩ = some (.string (bs xa.1.owner)) ∧ w'.cell? ⟨na, 4, none⟩ = some (.int .i64 xa.1.num) ∧ w'.cell? ⟨na, 5, none⟩ = some (.int .i64 xa.1.idx) ∧ w'.cell? ⟨na, 6, none⟩ = some (.string (bs xa.1.text)) ∧ w'.cell? ⟨na, 7, none⟩ = some (.string (bs xa.2)) ∧ w'.cell? ⟨bb, ob, none⟩ = some (.pointer (some ⟨nb, 0, none⟩)) ∧ w'.cell? ⟨nb, 2, none⟩ = some (.int .i64 xb.1.kind) ∧ w'.cell? ⟨nb, 3, none⟩ = some (.string (bs xb.1.owner)) ∧ w'.cell? ⟨nb, 4, none⟩ = some (.int .i64 xb.1.num) ∧ w'.cell? ⟨nb, 5, none⟩ = some (.int .i64 xb.1.idx) ∧ w'.cell? ⟨nb, 6, none⟩ = some (.string (bs xb.1.text)) ∧ w'.cell? ⟨nb, 7, none⟩ = some (.string (bs xb.2)))) (by kernel_rfl) ?_ (fun hHeld => ?_)
                  · exact ⟨ap, a2, a3, a4, a5, a6, a7, bp, b2, b3, b4, b5, b6, b7⟩
                  refine wpAnyH_take (i := 0) (v := ?_) rfl (by kernel_rfl) (by kernel_rfl) (by kernel_rfl) (fun _ _ _ h => h) (Or.inl ⟨by kernel_rfl, ?_⟩) hHeld ?_
                  rotate_left
                  · (intro w hSw; (try dsimp only at hSw); go_simp; try with_reducible rfl)
                  try simp only [Act.put, List.setIfInBounds_toArray, List.set_cons_zero, List.set_cons_succ]
                  refine wpAnyH_take (i := 1) (v := ?_) rfl (by kernel_rfl) (by kernel_rfl) (by kernel_rfl) (fun _ _ _ h => h) (Or.inl ⟨by kernel_rfl, ?_⟩) hHeld ?_
                  rotate_left
                  · (intro w hSw; (try dsimp only at hSw); go_simp; try with_reducible rfl)
                  try simp only [Act.put, List.setIfInBounds_toArray, List.set_cons_zero, List.set_cons_succ]
                  refine wpAnyH_take (i := 2) (v := ?_) rfl (by kernel_rfl) (by kernel_rfl) (by kernel_rfl) (fun _ _ _ h => h) (Or.inl ⟨by kernel_rfl, ?_⟩) hHeld ?_
                  rotate_left
                  · (intro w hSw; (try dsimp only at hSw); go_simp; try with_reducible rfl)
                  try simp only [Act.put, List.setIfInBounds_toArray, List.set_cons_zero, List.set_cons_succ]
                  refine wpAnyH_take (i := 3) (v := ?_) rfl (by kernel_rfl) (by kernel_rfl) (by kernel_rfl) (fun _ _ _ h => h) (Or.inl ⟨by kernel_rfl, ?_⟩) hHeld ?_
                  rotate_left
                  · (intro w hSw; (try dsimp only at hSw); go_simp; try with_reducible rfl)
                  try simp only [Act.put, List.setIfInBounds_toArray, List.set_cons_zero, List.set_cons_succ]
                  refine wpAnyH_take (i := 4) (v := ?_) rfl (by kernel_rfl) (by kernel_rfl) (by kernel_rfl) (fun _ _ _ h => h) (Or.inl ⟨by kernel_rfl, ?_⟩) hHeld ?_
                  rotate_left
                  · (intro w hSw; (try dsimp only at hSw); go_simp; try with_reducible rfl)
                  try simp only [Act.put, List.setIfInBounds_toArray, List.set_cons_zero, List.set_cons_succ]
                  refine wpAnyH_take (i := 5) (v := ?_) rfl (by kernel_rfl) (by kernel_rfl) (by kernel_rfl) (fun _ _ _ h => h) (Or.inl ⟨by kernel_rfl, ?_⟩) hHeld ?_
                  rotate_left
                  · (intro w hSw; (try dsimp only at hSw); go_simp; try with_reducible rfl)
                  try simp only [Act.put, List.setIfInBounds_toArray, List.set_cons_zero, List.set_cons_succ]
                  refine wpAnyH_take (i := 6) (v := ?_) rfl (by kernel_rfl) (by kernel_rfl) (by kernel_rfl) (fun _ _ _ h => h) (Or.inl ⟨by kernel_rfl, ?_⟩) hHeld ?_
                  rotate_left
                  · (intro w hSw; (try dsimp only at hSw); go_simp; try with_reducible rfl)
                  try simp only [Act.put, List.setIfInBounds_toArray, List.set_cons_zero, List.set_cons_succ]
                  refine wpAnyH_take (i := 7) (v := ?_) rfl (by kernel_rfl) (by kernel_rfl) (by kernel_rfl) (fun _ _ _ h => h) (Or.inl ⟨by kernel_rfl, ?_⟩) hHeld ?_
                  rotate_left
                  · (intro w hSw; (try dsimp only at hSw); go_simp; try with_reducible rfl)
                  try simp only [Act.put, List.setIfInBounds_toArray, List.set_cons_zero, List.set_cons_succ]
                  refine wpAnyH_take (i := 8) (v := ?_) rfl (by kernel_rfl) (by kernel_rfl) (by kernel_rfl) (fun _ _ _ h => h) (Or.inl ⟨by kernel_rfl, ?_⟩) hHeld ?_
                  rotate_left
                  · (intro w hSw; (try dsimp only at hSw); go_simp; try with_reducible rfl)
                  try simp only [Act.put, List.setIfInBounds_toArray, List.set_cons_zero, List.set_cons_succ]
                  refine wpAnyH_take (i := 9) (v := ?_) rfl (by kernel_rfl) (by kernel_rfl) (by kernel_rfl) (fun _ _ _ h => h) (Or.inl ⟨by kernel_rfl, ?_⟩) hHeld ?_
                  rotate_left
                  · (intro w hSw; (try dsimp only at hSw); go_simp; try with_reducible rfl)
                  try simp only [Act.put, List.setIfInBounds_toArray, List.set_cons_zero, List.set_cons_succ]
                  refine wpAnyH_take (i := 10) (v := ?_) rfl (by kernel_rfl) (by kernel_rfl) (by kernel_rfl) (fun _ _ _ h => h) (Or.inl ⟨by kernel_rfl, ?_⟩) hHeld ?_
                  rotate_left
                  · (intro w hSw; (try dsimp only at hSw); go_simp; try with_reducible rfl)
                  try simp only [Act.put, List.setIfInBounds_toArray, List.set_cons_zero, List.set_cons_succ]
                  refine wpAnyH_take (i := 11) (v := ?_) rfl (by kernel_rfl) (by kernel_rfl) (by kernel_rfl) (fun _ _ _ h => h) (Or.inl ⟨by kernel_rfl, ?_⟩) hHeld ?_
                  rotate_left
                  · (intro w hSw; (try dsimp only at hSw); go_simp; try with_reducible rfl)
                  try simp only [Act.put, List.setIfInBounds_toArray, List.set_cons_zero, List.set_cons_succ]
                  refine wpAnyH_take (i := 12) (v := ?_) rfl (by kernel_rfl) (by kernel_rfl) (by kernel_rfl) (fun _ _ _ h => h) (Or.inl ⟨by kernel_rfl, ?_⟩) hHeld ?_
                  rotate_left
                  · (intro w hSw; (try dsimp only at hSw); go_simp; try with_reducible rfl)
                  try simp only [Act.put, List.setIfInBounds_toArray, List.set_cons_zero, List.set_cons_succ]
                  refine wpAnyH_take (i := 13) (v := ?_) rfl (by kernel_rfl) (by kernel_rfl) (by kernel_rfl) (fun _ _ _ h => h) (Or.inl ⟨by kernel_rfl, ?_⟩) hHeld ?_
                  rotate_left
                  · (intro w hSw; (try dsimp only at hSw); go_simp; try with_reducible rfl)
                  try simp only [Act.put, List.setIfInBounds_toArray, List.set_cons_zero, List.set_cons_succ]
                  refine wpAnyH_take (i := 14) (v := ?_) rfl (by kernel_rfl) (by kernel_rfl) (by kernel_rfl) (fun _ _ _ h => h) (Or.inl ⟨by kernel_rfl, ?_⟩) hHeld ?_
                  rotate_left
                  · (intro w hSw; (try dsimp only at hSw); go_simp; try with_reducible rfl)
                  try simp only [Act.put, List.setIfInBounds_toArray, List.set_cons_zero, List.set_cons_succ]
                  refine wpAnyH_take (i := 15) (v := ?_) rfl (by kernel_rfl) (by kernel_rfl) (by kernel_rfl) (fun _ _ _ h => h) (Or.inl ⟨by kernel_rfl, ?_⟩) hHeld ?_
                  rotate_left
                  · (intro w hSw; (try dsimp only at hSw); go_simp; try with_reducible rfl)
                  try simp only [Act.put, List.setIfInBounds_toArray, List.set_cons_zero, List.set_cons_succ]
                  refine wpAnyH_take (i := 16) (v := ?_) rfl (by kernel_rfl) (by kernel_rfl) (by kernel_rfl) (fun _ _ _ h => h) (Or.inl ⟨by kernel_rfl, ?_⟩) hHeld ?_
                  rotate_left
                  · (intro w hSw; (try dsimp only at hSw); go_simp; try with_reducible rfl)
                  try simp only [Act.put, List.setIfInBounds_toArray, List.set_cons_zero, List.set_cons_succ]
                  refine wpAnyH_take (i := 17) (v := ?_) rfl (by kernel_rfl) (by kernel_rfl) (by kernel_rfl) (fun _ _ _ h => h) (Or.inl ⟨by kernel_rfl, ?_⟩) hHeld ?_
                  rotate_left
                  · (intro w hSw; (try dsimp only at hSw); go_simp; try with_reducible rfl)
                  try simp only [Act.put, List.setIfInBounds_toArray, List.set_cons_zero, List.set_cons_succ]
                  refine wpAnyH_done (by kernel_rfl) ?_ _
                  clear hHeld
                  try simp only [List.getElem_toArray, List.getElem_cons_zero, List.getElem_cons_succ, Act.put, List.setIfInBounds_toArray, List.set_cons_zero, List.set_cons_succ]
                  refine NoPanic.normal ?_
                  go_upto_region 16 with (fail)
                  refine wp_region_noPanic ?_
                  refine wp_region_held_drew (S := (fun (w' : World) => w'.cell? ⟨bb, ob, none⟩ = some (.pointer (some ⟨nb, 0, none⟩)) ∧ w'.cell? ⟨nb, 2, none⟩ = some (.int .i64 xb.1.kind) ∧ w'.cell? ⟨nb, 3, none⟩ = some (.string (bs xb.1.owner)) ∧ w'.cell? ⟨nb, 4, none⟩ = some (.int .i64 xb.1.num) ∧ w'.cell? ⟨nb, 5, none⟩ = some (.int .i64 xb.1.idx) ∧ w'.cell? ⟨nb, 6, none⟩ = some (.string (bs xb.1.text)) ∧ w'.cell? ⟨nb, 7, none⟩ = some (.string (bs xb.2)))) (by kernel_rfl) ?_ (fun hHeld => ?_)
                  · exact ⟨bp, b2, b3, b4, b5, b6, b7⟩
                  refine wpAnyH_take (i := 0) (v := ?_) rfl (by kernel_rfl) (by kernel_rfl) (by kernel_rfl) (fun _ _ _ h => h) (Or.inl ⟨by kernel_rfl, ?_⟩) hHeld ?_
                  rotate_left
                  · (intro w hSw; (try dsimp only at hSw); go_simp; try with_reducible rfl)
                  try simp only [Act.put, List.setIfInBounds_toArray, List.set_cons_zero, List.set_cons_succ]
                  refine wpAnyH_take (i := 1) (v := ?_) rfl (by kernel_rfl) (by kernel_rfl) (by kernel_rfl) (fun _ _ _ h => h) (Or.inl ⟨by kernel_rfl, ?_⟩) hHeld ?_
                  rotate_left
                  · (intro w hSw; (try dsimp only at hSw); go_simp; try with_reducible rfl)
                  try simp only [Act.put, List.setIfInBounds_toArray, List.set_cons_zero, List.set_cons_succ]
                  refine wpAnyH_take (i := 2) (v := ?_) rfl (by kernel_rfl) (by kernel_rfl) (by kernel_rfl) (fun _ _ _ h => h) (Or.inl ⟨by kernel_rfl, ?_⟩) hHeld ?_
                  rotate_left
                  · (intro w hSw; (try dsimp only at hSw); go_simp; try with_reducible rfl)
                  try simp only [Act.put, List.setIfInBounds_toArray, List.set_cons_zero, List.set_cons_succ]
                  refine wpAnyH_take (i := 3) (v := ?_) rfl (by kernel_rfl) (by kernel_rfl) (by kernel_rfl) (fun _ _ _ h => h) (Or.inl ⟨by kernel_rfl, ?_⟩) hHeld ?_
                  rotate_left
                  · (intro w hSw; (try dsimp only at hSw); go_simp; try with_reducible rfl)
                  try simp only [Act.put, List.setIfInBounds_toArray, List.set_cons_zero, List.set_cons_succ]
                  refine wpAnyH_take (i := 4) (v := ?_) rfl (by kernel_rfl) (by kernel_rfl) (by kernel_rfl) (fun _ _ _ h => h) (Or.inl ⟨by kernel_rfl, ?_⟩) hHeld ?_
                  rotate_left
                  · (intro w hSw; (try dsimp only at hSw); go_simp; try with_reducible rfl)
                  try simp only [Act.put, List.setIfInBounds_toArray, List.set_cons_zero, List.set_cons_succ]
                  refine wpAnyH_take (i := 5) (v := ?_) rfl (by kernel_rfl) (by kernel_rfl) (by kernel_rfl) (fun _ _ _ h => h) (Or.inl ⟨by kernel_rfl, ?_⟩) hHeld ?_
                  rotate_left
                  · (intro w hSw; (try dsimp only at hSw); go_simp; try with_reducible rfl)
                  try simp only [Act.put, List.setIfInBounds_toArray, List.set_cons_zero, List.set_cons_succ]
                  refine wpAnyH_take (i := 6) (v := ?_) rfl (by kernel_rfl) (by kernel_rfl) (by kernel_rfl) (fun _ _ _ h => h) (Or.inl ⟨by kernel_rfl, ?_⟩) hHeld ?_
                  rotate_left
                  · (intro w hSw; (try dsimp only at hSw); go_simp; try with_reducible rfl)
                  try simp only [Act.put, List.setIfInBounds_toArray, List.set_cons_zero, List.set_cons_succ]
                  refine wpAnyH_take (i := 7) (v := ?_) rfl (by kernel_rfl) (by kernel_rfl) (by kernel_rfl) (fun _ _ _ h => h) (Or.inl ⟨by kernel_rfl, ?_⟩) hHeld ?_
                  rotate_left
                  · (intro w hSw; (try dsimp only at hSw); go_simp; try with_reducible rfl)
                  try simp only [Act.put, List.setIfInBounds_toArray, List.set_cons_zero, List.set_cons_succ]
                  refine wpAnyH_take (i := 8) (v := ?_) rfl (by kernel_rfl) (by kernel_rfl) (by kernel_rfl) (fun _ _ _ h => h) (Or.inl ⟨by kernel_rfl, ?_⟩) hHeld ?_
                  rotate_left
                  · (intro w hSw; (try dsimp only at hSw); go_simp; try with_reducible rfl)
                  try simp only [Act.put, List.setIfInBounds_toArray, List.set_cons_zero, List.set_cons_succ]
                  refine wpAnyH_take (i := 9) (v := ?_) rfl (by kernel_rfl) (by kernel_rfl) (by kernel_rfl) (fun _ _ _ h => h) (Or.inl ⟨by kernel_rfl, ?_⟩) hHeld ?_
                  rotate_left
                  · (intro w hSw; (try dsimp only at hSw); go_simp; try with_reducible rfl)
                  try simp only [Act.put, List.setIfInBounds_toArray, List.set_cons_zero, List.set_cons_succ]
                  refine wpAnyH_take (i := 10) (v := ?_) rfl (by kernel_rfl) (by kernel_rfl) (by kernel_rfl) (fun _ _ _ h => h) (Or.inl ⟨by kernel_rfl, ?_⟩) hHeld ?_
                  rotate_left
                  · (intro w hSw; (try dsimp only at hSw); go_simp; try with_reducible rfl)
                  try simp only [Act.put, List.setIfInBounds_toArray, List.set_cons_zero, List.set_cons_succ]
                  refine wpAnyH_take (i := 11) (v := ?_) rfl (by kernel_rfl) (by kernel_rfl) (by kernel_rfl) (fun _ _ _ h => h) (Or.inl ⟨by kernel_rfl, ?_⟩) hHeld ?_
                  rotate_left
                  · (intro w hSw; (try dsimp only at hSw); go_simp; try with_reducible rfl)
                  try simp only [Act.put, List.setIfInBounds_toArray, List.set_cons_zero, List.set_cons_succ]
                  refine wpAnyH_take (i := 12) (v := ?_) rfl (by kernel_rfl) (by kernel_rfl) (by kernel_rfl) (fun _ _ _ h => h) (Or.inl ⟨by kernel_rfl, ?_⟩) hHeld ?_
                  rotate_left
                  · (intro w hSw; (try dsimp only at hSw); go_simp; try with_reducible rfl)
                  try simp only [Act.put, List.setIfInBounds_toArray, List.set_cons_zero, List.set_cons_succ]
                  refine wpAnyH_take (i := 13) (v := ?_) rfl (by kernel_rfl) (by kernel_rfl) (by kernel_rfl) (fun _ _ _ h => h) (Or.inl ⟨by kernel_rfl, ?_⟩) hHeld ?_
                  rotate_left
                  · (intro w hSw; (try dsimp only at hSw); go_simp; try with_reducible rfl)
                  try simp only [Act.put, List.setIfInBounds_toArray, List.set_cons_zero, List.set_cons_succ]
                  refine wpAnyH_ready (rs := [14]) (by kernel_rfl) (by simp) ?_
                  refine AllReadyH.cons rfl (fun K hK => ?_) AllReadyH.nil
                  go_simp
                  refine hK.out _ _ ?_ (fun hNew => ?_)
                  · exact ⟨(((Below.refl _ _).alloc (Nat.le_refl _) _).cell (p := ⟨bb, ob, none⟩) hb1).trans bp, (((Below.refl _ _).alloc (Nat.le_refl _) _).cell (p := ⟨nb, 2, none⟩) hb2).trans b2, (((Below.refl _ _).alloc (Nat.le_refl _) _).cell (p := ⟨nb, 3, none⟩) hb2).trans b3, (((Below.refl _ _).alloc (Nat.le_refl _) _).cell (p := ⟨nb, 4, none⟩) hb2).trans b4, (((Below.refl _ _).alloc (Nat.le_refl _) _).cell (p := ⟨nb, 5, none⟩) hb2).trans b5, (((Below.refl _ _).alloc (Nat.le_refl _) _).cell (p := ⟨nb, 6, none⟩) hb2).trans b6, (((Below.refl _ _).alloc (Nat.le_refl _) _).cell (p := ⟨nb, 7, none⟩) hb2).trans b7⟩
                  clear hK K hHeld
                  have hHeld := hNew
                  clear hNew
                  try simp only [Act.put, List.setIfInBounds_toArray, List.set_cons_zero, List.set_cons_succ]
                  refine wpAnyH_ready (rs := [15]) (by kernel_rfl) (by simp) ?_
                  refine AllReadyH.cons rfl (fun K hK => ?_) AllReadyH.nil
                  have kq := own_next HOD.out ((Below.refl w4.heap.size w4).alloc (Nat.le_refl _) (.cells #[.int .i64 xb.1.kind, .string (bs xb.1.owner), .int .i64 xb.1.num, .int .i64 xb.1.idx, .string (bs xb.1.text), .string (bs xb.2), .bool false] 83)); refine step_append_w _ (by rfl) _ _ _ (by rfl) w.heap.size 83 i0 _ 7 80 Tryz.underlying59 hi hz0 hz1 hz2 rfl (by omega) (.slice AD D.length cD) D.length (D.flatMap chC) (by rfl) kq (.slice (some ⟨w4.heap.size, 0, none⟩) 1 1) 1 [.int .i64 xb.1.kind, .string (bs xb.1.owner), .int .i64 xb.1.num, .int .i64 xb.1.idx, .string (bs xb.1.text), .string (bs xb.2), .bool false] (by rfl) (Rd.of_own (own_new w4 0 83 7 [.int .i64 xb.1.kind, .string (bs xb.1.owner), .int .i64 xb.1.num, .int .i64 xb.1.idx, .string (bs xb.1.text), .string (bs xb.2), .bool false] rfl (Nat.zero_le _))) (by omega) (by rfl) (by simp [Value.oneCell']) (by unfold maxLen; omega) (by omega) (by have := HBW.out.size; simp at this ⊢; omega) ?_; intro v5 w5 hown5 hg5' hat5; have hg5 : (w4.alloc (.cells #[.int .i64 xb.1.kind, .string (bs xb.1.owner), .int .i64 xb.1.num, .int .i64 xb.1.idx, .string (bs xb.1.text), .string (bs xb.2), .bool false] 83)).grownBy w5 (Value.slice AD D.length cD).ownBlock := ⟨hg5'.os, hg5'.tape, hg5'.output, hg5'.size, hg5'.block⟩; have HOW5 := Lib.hid hown5; have K5 := Lib.hid ((Kept.of_below [83] ((Below.refl w4.heap.size w4).alloc (Nat.le_refl _) (.cells #[.int .i64 xb.1.kind, .string (bs xb.1.owner), .int .i64 xb.1.num, .int .i64 xb.1.idx, .string (bs xb.1.text), .string (bs xb.2), .bool false] 83))).trans (Kept.of_own [83] kq hg5 rfl)); have B5 := Lib.hid (below_own (HBW.out.alloc HBW.out.size (.cells #[.int .i64 xb.1.kind, .string (bs xb.1.owner), .int .i64 xb.1.num, .int .i64 xb.1.idx, .string (bs xb.1.text), .string (bs xb.2), .bool false] 83)) kq hg5 (Nat.le_refl _) (by have := HBW.out.size; simp at this ⊢; omega)); have fb := fun k => far_cell kq hg5 HBB.out (by decide) k; have fn := fun k => far_cell kq hg5 HNB.out (by decide) k
                  refine hK.out _ _ ?_ (fun hNew => ?_)
                  · exact ⟨(fb _).trans bp, (fn 2).trans b2, (fn 3).trans b3, (fn 4).trans b4, (fn 5).trans b5, (fn 6).trans b6, (fn 7).trans b7⟩
                  clear hK K hHeld
                  have hHeld := hNew
                  clear hNew
                  try simp only [Act.put, List.setIfInBounds_toArray, List.set_cons_zero, List.set_cons_succ]
                  refine wpAnyH_take (i := 16) (v := ?_) rfl (by kernel_rfl) (by kernel_rfl) (by kernel_rfl) (fun _ _ _ h => h) (Or.inl ⟨by kernel_rfl, ?_⟩) hHeld ?_
                  rotate_left
                  · (intro w hSw; (try dsimp only at hSw); go_simp; try with_reducible rfl)
                  try simp only [Act.put, List.setIfInBounds_toArray, List.set_cons_zero, List.set_cons_succ]
                  refine wpAnyH_done (by kernel_rfl) ?_ _
                  clear hHeld
                  try simp only [List.getElem_toArray, List.getElem_cons_zero, List.getElem_cons_succ, Act.put, List.setIfInBounds_toArray, List.set_cons_zero, List.set_cons_succ]
                  refine NoPanic.normal ?_
                  obtain ⟨AE, cE, rfl, hcE⟩ := own_len HOW5.out
                  go_wp2_with fail
                  all_goals
                    go_roundg (a.length + b.length)
                    case rel =>
                      refine ⟨a, b, D ++ [⟨xb.1, xb.2, false⟩], by (try simp only [List.length_append, List.length_cons, List.length_nil]); (try omega), ?_, ?_, OwnP.snoc (x := (⟨xb.1, xb.2, false⟩ : Ch)) HOW5.out, ?_, st_tail HSA.out, st_tail HSB.out, by (try simp only [List.length_append, List.length_cons, List.length_nil]); (try omega), B5.out⟩
                      · have ht := RowRd.keep (RowRd.tail HRA.out ndC_len) K5.out rfl fun _ _ => NNd.keep K5.out rfl
                        simpa [*, Addr.add] using ht
                      · have ht := RowRd.keep (RowRd.tail HRB.out ndC_len) K5.out rfl fun _ _ => NNd.keep K5.out rfl
                        simpa [*, Addr.add] using ht
                      · have e := HDF.out
                        rw [diffL, if_neg (show ¬ cmpN xa.1 xb.1 < 0 from by have := HC1.out; omega), if_neg (show ¬ 0 < cmpN xa.1 xb.1 from by have := HC2.out; omega), if_neg HVV.out] at e
                        rw [← e]
                        rw [List.append_assoc]; rfl
                    case measure => omega
end Go.Proofs.YtobkmkplhbaepaaGreatDoor
