/- Walks of layer 41: scanApostrophes. -/
import Derived.Test.YtiddchpkmcncdaaX6
import Derived.Lib.AppendStr
namespace Go.Proofs.Ytiddchpkmcncdaa
open Go.RowKit
set_option linter.unusedSimpArgs false
set_option linter.unusedVariables false
/-- append of a text to bytes of the call's own, as a step of a region that draws its order. -/
theorem step_append_string {P : Program} (w : World) {ops : Array Oper} {o : Oper} {a : Act} {K : Act → World → Prop} {Q : Exit → Act → World → Prop} {E : Prop} (hgd : o.guard = none) (sl x : Operand) (t u : TypeId)
    (ho : o.op = .call { callee := .builtin .append, args := #[sl, x], argTypes := #[t, u] })
    (base : Nat) (e : TypeId) (i : TypeInfo) (ht : P.underlying t = some (.slice e)) (hu : P.underlying u = some .string) (hi : P.info? e = some i) (hz : i.zero = some (.int .u8 0))
    (hsize : i.size = 1) (hby : i.bytes = 1)
    (v : Value) (n : Nat) (xs : List Value) (hs : a.eval sl = v) (hown : w.ownsRow base e 1 v n xs) (s : ByteArray) (hx : a.eval x = .string s)
    (h63 : n + s.size ≤ maxLen) (hbytes : n + s.size ≤ 140737488355328) (hbase : base ≤ w.heap.size)
    (h : ∀ ao cap w', w'.ownsRow base e 1 (.slice ao (n + s.size) cap) (n + s.size) (xs ++ Lib.strCells s) → w.grownBy w' v.ownBlock → K (a.put o.dst (.slice ao (n + s.size) cap)) w') :
    if Region.wanted o (yielded ops a.tmps) = true then Oper.wp P o a w K Q else E := by
  have hw : Region.wanted o (yielded ops a.tmps) = true := by simp [Region.wanted, hgd]
  rw [if_pos hw]
  obtain ⟨v', w', hr, h2, h3, _⟩ := Lib.run_append_own_string (P := P) w base t u o.type e i ht hu hi hz hsize hby v n xs hown s h63 hbytes hbase
  obtain ⟨ao, cap, rfl, _⟩ := own_len h2
  unfold Oper.wp
  simp [execOp, ho, resolve, invoke, builtin, hs, hx, hr, Result.andThen]
  exact h ao cap w' h2 h3
/-- What stands between apostrophes behind an offset. -/
def apS (s : ByteArray) (a : Nat) : Bs := (dr s a).takeWhile nap8
theorem ap_take (s : ByteArray) (a : Nat) : apS s a = (dr s a).take (apS s a).length :=
  List.prefix_iff_eq_take.1 (List.takeWhile_prefix nap8)
theorem ap_le (s : ByteArray) (a : Nat) : (apS s a).length ≤ s.size - a := by
  have := (List.takeWhile_prefix nap8 (l := dr s a)).length_le
  rw [dr_len] at this
  exact this
theorem ap_ext (s : ByteArray) (a k : Nat) (h : k = a + (apS s a).length) : s.extract a k = bs (apS s a) := by
  rw [ext_bs, show k - a = (apS s a).length by omega, ← ap_take]
theorem idx39_yes (s : ByteArray) (a : Nat) (w : World) (h : (apS s a).length < s.size - a) :
    Calls Try.prog 104 #[.string (s.extract a s.size), .int .u8 39] w fun e w' => e = .returned (.int .i64 ((apS s a).length : Int)) ∧ w' = w := by
  refine (Try.strings_IndexByte _ _ _).mono ?_
  rintro e w' ⟨rfl, rfl⟩
  refine ⟨ret_int ?_, rfl⟩
  rw [ext_end, bs_list]
  exact idx_yes 39 nap8 nap8_is (dr s a) (by rw [dr_len]; exact h)
theorem idx39_no (s : ByteArray) (a : Nat) (w : World) (h : (apS s a).length = s.size - a) :
    Calls Try.prog 104 #[.string (s.extract a s.size), .int .u8 39] w fun e w' => e = .returned (.int .i64 (-1)) ∧ w' = w := by
  refine (Try.strings_IndexByte _ _ _).mono ?_
  rintro e w' ⟨rfl, rfl⟩
  refine ⟨ret_int ?_, rfl⟩
  rw [ext_end, bs_list]
  exact idx_no 39 nap8 nap8_is (dr s a) (by rw [dr_len]; exact h)
theorem strCells_by (l : Bs) : Lib.strCells (bs l) = l.map byV := by
  unfold Lib.strCells
  simp [bs, byV, n8]
set_option maxRecDepth 100000 in
set_option maxHeartbeats 2000000 in
theorem scanApostrophes_no (w0 : World) (g : Nat) (s : ByteArray) (vt : Value) (p : Nat) (ps : Wd) (tx : Bs) (w : World) (h : WSt w0 g s vt p ps tx 0 0 w) (hs : s.size ≤ 100000) (hp : p < s.size) (hv : (apS s (p + 1)).length = s.size - (p + 1)) :
    Calls Try.prog 95 #[ptr g] w fun r w' => r = .returned (.tuple #[]) ∧ WSt w0 g s vt s.size ps tx p 4 w' := by
  have H := Lib.hid h
  have HV := Lib.hid hv
  obtain ⟨vw, vx, h1, h2, h3, h4, h5, h6, h7⟩ := h
  have c0 : w.cell? ⟨g, 0, none⟩ = some (.string s) := h1.cell 0
  have c1 : w.cell? ⟨g, 1, none⟩ = some (.int .i64 p) := h1.cell 1
  have L1 : IntKind.i64.wrap ((p : Int) + 1) = (p : Int) + 1 := IntWalk.i64_in _ (by omega)
  have e1 : (0 : Int) ≤ (p : Int) + 1 := by omega
  have e2 : (p : Int) + 1 ≤ (s.size : Int) := by omega
  have e4 : ((p : Int) + 1).toNat = p + 1 := by omega
  clear h1 h2 h3 h4 hv
  go_enter Try.func95, Try.ntmps95
  go_wp2
  go_quiet ((go_at_call 104; exact Calls.quiet_of_same (idx39_no s (p + 1) _ HV.out)))
  clear L1 e1 e2 e4
  go_wp2_with fail
  refine (fail_any w0 g s vt p ps tx p 4 _ (H.out.drewN _) hs).mono ?_
  rintro e w2 ⟨rfl, k2⟩
  go_wp2
  refine bodyPost_ret (results_none rfl _ _ _) rfl ?_
  exact ⟨rfl, k2⟩
set_option maxRecDepth 100000 in
set_option maxHeartbeats 8000000 in
theorem scanApostrophes_yes (w0 : World) (g : Nat) (s : ByteArray) (vt : Value) (p : Nat) (ps : Wd) (tx : Bs) (w : World) (h : WSt w0 g s vt p ps tx 0 0 w) (hs : s.size ≤ 100000) (hp : p < s.size) (hv : (apS s (p + 1)).length < s.size - (p + 1)) :
    Calls Try.prog 95 #[ptr g] w fun r w' => r = .returned (.tuple #[]) ∧ WSt w0 g s vt (p + (apS s (p + 1)).length + 2) ps (tx ++ apS s (p + 1)) 0 0 w' := by
  have H := Lib.hid h
  have HV := Lib.hid hv
  have HX := Lib.hid (ap_ext s (p + 1) (p + 1 + (apS s (p + 1)).length) rfl)
  have hz : (bs (apS s (p + 1))).size = (apS s (p + 1)).length := bs_size _
  have HZ := Lib.hid hz
  clear hz
  obtain ⟨vw, vx, h1, h2, h3, h4, h5, h6, h7⟩ := h
  have c0 : w.cell? ⟨g, 0, none⟩ = some (.string s) := h1.cell 0
  have c1 : w.cell? ⟨g, 1, none⟩ = some (.int .i64 p) := h1.cell 1
  have L1 : IntKind.i64.wrap ((p : Int) + 1) = (p : Int) + 1 := IntWalk.i64_in _ (by omega)
  have e1 : (0 : Int) ≤ (p : Int) + 1 := by omega
  have e2 : (p : Int) + 1 ≤ (s.size : Int) := by omega
  have e4 : ((p : Int) + 1).toNat = p + 1 := by omega
  clear h1 h2 h3 h4
  obtain ⟨i0, hi, hz0, hz1, hz2⟩ := info_parts info5
  go_enter Try.func95, Try.ntmps95
  go_wp2
  go_quiet ((go_at_call 104; exact Calls.quiet_of_same (idx39_yes s (p + 1) _ HV.out)))
  have h := H.out.drewN nq
  clear c0 c1 H vw vx
  generalize w.drewN nq = w at *
  generalize hn : (apS s (p + 1)).length = n at *
  have HN := Lib.hid hn
  clear hn
  go_upto_region 3 with (fail)
  obtain ⟨vw, vx, h1, h2, h3, h4, h5, h6, h7⟩ := h
  have H1 := Lib.hid h1
  have c0 : w.cell? ⟨g, 0, none⟩ = some (.string s) := h1.cell 0
  have c1 : w.cell? ⟨g, 1, none⟩ = some (.int .i64 p) := h1.cell 1
  have c4 : w.cell? ⟨g, 4, none⟩ = some vx := h1.cell 4
  have f4 := h1.frozen 4
  have hg : g < w.heap.size := h1.lt
  have hne := Lib.hid (own_blk_ne h3 h1 (by decide))
  obtain ⟨ax, cx, rfl, _⟩ := own_len h3
  have L2 : IntKind.i64.wrap ((p : Int) + 1 + (n : Int)) = (p : Int) + 1 + (n : Int) := IntWalk.i64_in _ (by omega)
  have e5 : (p : Int) + 1 ≤ (p : Int) + 1 + (n : Int) := by omega
  have e6 : (p : Int) + 1 + (n : Int) ≤ (s.size : Int) := by omega
  have e7 : ((p : Int) + 1 + (n : Int)).toNat = p + 1 + n := by omega
  have hbase : w0.heap.size ≤ w.heap.size := h4.size
  have hxs : s.extract (p + 1) (p + 1 + n) = bs (apS s (p + 1)) := HX.out
  clear h1
  go_region_law ((refine step_append_string _ (by rfl) _ _ _ _ (by rfl) w0.heap.size 5 i0 Try.underlying84 Try.underlying9 hi hz0 hz1 hz2 (.slice ax tx.length cx) tx.length (tx.map byV) (by rfl) (h3.drew) (bs (apS s (p + 1))) (by rfl) (by rw [HZ.out]; unfold maxLen; omega) (by rw [HZ.out]; omega) hbase ?_; intro gg cap w1 hown1 hgrow; have B1 := Lib.hid (Blk.grown (Blk.drew H1.out) hgrow (Ne.symm hne.out)); have d1 : w1.cell? ⟨g, 1, none⟩ = some (.int .i64 p) := B1.out.cell 1; have d4 : w1.cell? ⟨g, 4, none⟩ = some (.slice ax tx.length cx) := B1.out.cell 4; have f4' := B1.out.frozen 4; have f1' := B1.out.frozen 1))
  all_goals
    have HW := Lib.hid (WSt.text (nt := apS s (p + 1)) H1.out h2 h3 h4 h5 h7 ((Below.refl _ _).drew) hgrow (by rw [List.map_append, List.length_append, ← bs_size (apS s (p + 1)), ← strCells_by]; exact hown1))
    clear hown1 hgrow c0 c1 c4 f4 L1 L2 e1 e2 e4 e5 e6 e7 h2 h3 h4
    have L3 : IntKind.i64.wrap ((n : Int) + 2) = (n : Int) + 2 := IntWalk.i64_in _ (by omega)
    go_wp2
    go_end0
    exact ⟨rfl, by have := HN.out; subst this; exact WSt.go HW.out.1 (by omega) (by simp; omega) (by omega)⟩
end Go.Proofs.Ytiddchpkmcncdaa
