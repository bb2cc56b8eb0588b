/- Walks of layer 47: equal links; the links of a graph in one row. -/
import Derived.Test.YtmjkcanjfjfkfaaE1
import Derived.Test.YtmjkcanjfjfkfaaT1
import Derived.Shelf.Spec.SlicesGrow
import Derived.Ground.SlgnProg
import Derived.Shelf.SlGeneric
namespace Go.Proofs
open Go.Shelf Go.Lib
shelf_lay_g Lays8.n4 Nm8 4 at Try 65 as Ytmjkcanjfjfkfaa.laidGrow
end Go.Proofs
namespace Go.Proofs.Ytmjkcanjfjfkfaa
open Go.RowKit
set_option linter.unusedSimpArgs false
set_option linter.unusedVariables false
attribute [local go_sem ↓] Go.wp_at_zero Go.wp_at_succ
set_option maxRecDepth 100000 in
theorem eqLk (a0 b0 a1 b1 a2 b2 : Int) (a3 b3 : ByteArray) (a4 b4 a5 b5 : Int) (a6 b6 : ByteArray) (w : World) : (Op.equalIn 10000 43 (.agg #[.int .i64 a0, .int .i64 a1, .int .i64 a2, .string a3, .int .i64 a4, .int .i64 a5, .string a6]) (.agg #[.int .i64 b0, .int .i64 b1, .int .i64 b2, .string b3, .int .i64 b4, .int .i64 b5, .string b6])).run Try.prog w = .ok (a0 == b0 && a1 == b1 && (a2 == b2 && a3.toList == b3.toList && a4 == b4 && a5 == b5 && a6.toList == b6.toList)) w := by
  have u1 := Try.underlying3
  have u2 := Try.underlying9
  have u3 := Try.underlying4
  have u4 := Try.underlying39
  have hS : Try.prog.underlying 43 = some (.struct (Try.prog.fieldsOf 43)) := by kernel_rfl
  have hp : Try.prog.stoodInHeld 43 = false := by kernel_rfl
  rw [show (10000 : Nat) = 9999 + 1 from rfl, run_equalIn_agg w 9999 43 _ _ hS hp]
  simp only [Program.fieldsOf, Try.underlying43]
  go_simp
  by_cases h0 : a0 = b0 <;> by_cases h1 : a1 = b1 <;> by_cases h2 : a2 = b2 <;> by_cases h3 : a3.toList = b3.toList <;> by_cases h4 : a4 = b4 <;> by_cases h5 : a5 = b5 <;> by_cases h6 : a6.toList = b6.toList <;> simp [h0, h1, h2, h3, h4, h5, h6]
theorem guardLk : Try.prog.eqGuardType Try.prog.depth 43 = false := by kernel_rfl
theorem lk_dec (p q : Lk) : decide (p = q) = (p.frm == q.frm && p.to_ == q.to_ && (p.name.kind == q.name.kind && p.name.owner == q.name.owner && p.name.num == q.name.num && p.name.idx == q.name.idx && p.name.text == q.name.text)) := by
  obtain ⟨f, t, ⟨k, o, n, i, x⟩⟩ := p
  obtain ⟨f2, t2, ⟨k2, o2, n2, i2, x2⟩⟩ := q
  simp [bool_dec, beq_dec, Bool.and_assoc]
theorem neqLk (p q : Lk) (b : Bool) (hb : decide (p = q) = b) (w : World) : (binOp .neq 43 (lkV p) (lkV q)).run Try.prog w = .ok (.bool (!b)) w := by
  subst hb
  unfold lkV
  rw [run_neq_struct, eqLk, lk_dec]
  simp only [bs_tl]
  rfl
def eqlk_isRel (a b : List Lk) (w : World) (i : Value) (wr : World) : Prop := ∃ k : Nat, k ≤ a.length ∧ i = .int .i64 k ∧ (∀ j (h1 : j < a.length) (h2 : j < b.length), j < k → a[j] = b[j]) ∧ Below w.heap.size w wr
set_option maxRecDepth 100000 in
theorem eqlk_is {w : World} {v1 v2 : Value} {a b : List Lk} (h1 : RdLk w v1 a) (h2 : RdLk w v2 b) (l1 : a.length ≤ 100000) (l2 : b.length ≤ 100000) : Calls Try.prog 15 #[v1, v2] w fun e w' => e = .returned (.bool (decide (a = b))) ∧ Below w.heap.size w w' := by
  obtain ⟨A1, c1, rfl, hc1⟩ := RdP.form h1
  obtain ⟨A2, c2, rfl, hc2⟩ := RdP.form h2
  have H1 := Lib.hid h1
  have H2 := Lib.hid h2
  clear h1 h2
  by_cases hl : a.length = b.length
  · have k1 : ((a.length : Int) == (b.length : Int)) = true := by rw [hl]; simp
    have HLL := Lib.hid hl
    rw [← hl] at hc2
    have H0 : Hid (eqlk_isRel a b w (.int .i64 (0 : Nat)) w) := Lib.hid ⟨0, Nat.zero_le _, rfl, fun j _ _ h => by omega, Below.refl _ _⟩
    go_enter Try.func15, Try.ntmps15
    rw [← HLL.out]
    clear hl
    go_wp2_with fail
    go_loopw [13] (fun i wr => eqlk_isRel a b w i wr) (fun i _ => a.length - (intOf i).toNat)
    case atStart => exact H0.out
    case round =>
      clear H0
      obtain ⟨k, hkl, rfl, hz, hbw⟩ := hrel
      have HZ := Lib.hid hz
      have HBW := Lib.hid hbw
      clear hz hbw
      by_cases hk : k < a.length
      · have j1 : (0 : Int) ≤ (k : Int) := by omega
        have j2 : (k : Int) < (a.length : Int) := by omega
        have j3 : decide ((k : Int) < (a.length : Int)) = true := decide_eq_true j2
        have hkb : k < b.length := by rw [← HLL.out]; exact hk
        obtain ⟨b1, o1, hbe, hb1, x0, x1, x2, x3, x4, x5, x6⟩ := RdLk.piece (RdP.next H1.out HBW.out) hk
        subst hbe
        obtain ⟨b2, o2, hbe, hb2, y0, y1, y2, y3, y4, y5, y6⟩ := RdLk.piece (RdP.next H2.out HBW.out) hkb
        subst hbe
        obtain ⟨x, hx⟩ : ∃ x, a[k] = x := ⟨_, rfl⟩
        obtain ⟨y, hy⟩ : ∃ y, b[k] = y := ⟨_, rfl⟩
        rw [hx] at x0 x1 x2 x3 x4 x5 x6
        rw [hy] at y0 y1 y2 y3 y4 y5 y6
        have HX := Lib.hid hx
        have HY := Lib.hid hy
        clear hx hy
        obtain ⟨bq, hbq⟩ : ∃ bq, decide (x = y) = bq := ⟨_, rfl⟩
        have he := fun W => neqLk x y bq hbq W
        have hg := guardLk
        unfold lkV at he
        go_upto_region 6 with (fail)
        refine wp_region_noPanic ?_
        refine wp_region_held_drew (S := (fun (w' : World) => w'.cell? ⟨b1, o1 + k * 7, none⟩ = some (.int .i64 x.frm) ∧ w'.cell? ⟨b1, o1 + k * 7 + 1, none⟩ = some (.int .i64 x.to_) ∧ w'.cell? ⟨b1, o1 + k * 7 + 2, none⟩ = some (.int .i64 x.name.kind) ∧ w'.cell? ⟨b1, o1 + k * 7 + 3, none⟩ = some (.string (bs x.name.owner)) ∧ w'.cell? ⟨b1, o1 + k * 7 + 4, none⟩ = some (.int .i64 x.name.num) ∧ w'.cell? ⟨b1, o1 + k * 7 + 5, none⟩ = some (.int .i64 x.name.idx) ∧ w'.cell? ⟨b1, o1 + k * 7 + 6, none⟩ = some (.string (bs x.name.text)) ∧ w'.cell? ⟨b2, o2 + k * 7, none⟩ = some (.int .i64 y.frm) ∧ w'.cell? ⟨b2, o2 + k * 7 + 1, none⟩ = some (.int .i64 y.to_) ∧ w'.cell? ⟨b2, o2 + k * 7 + 2, none⟩ = some (.int .i64 y.name.kind) ∧ w'.cell? ⟨b2, o2 + k * 7 + 3, none⟩ = some (.string (bs y.name.owner)) ∧ w'.cell? ⟨b2, o2 + k * 7 + 4, none⟩ = some (.int .i64 y.name.num) ∧ w'.cell? ⟨b2, o2 + k * 7 + 5, none⟩ = some (.int .i64 y.name.idx) ∧ w'.cell? ⟨b2, o2 + k * 7 + 6, none⟩ = some (.string (bs y.name.text)))) (by kernel_rfl) ?_ (fun hHeld => ?_)
        · exact ⟨x0, x1, x2, x3, x4, x5, x6, y0, y1, y2, y3, y4, y5, y6⟩
        refine wpAnyH_take (i := 0) (v := ?_) rfl (by kernel_rfl) (by kernel_rfl) (by kernel_rfl) (fun _ _ _ h => h) (Or.inl ⟨by kernel_rfl, ?_⟩) hHeld ?_
        rotate_left
        · (intro w hSw; (try dsimp only at hSw); go_simp; try with_reducible rfl)
        try simp only [Act.put, List.setIfInBounds_toArray, List.set_cons_zero, List.set_cons_succ]
        refine wpAnyH_take (i := 1) (v := ?_) rfl (by kernel_rfl) (by kernel_rfl) (by kernel_rfl) (fun _ _ _ h => h) (Or.inl ⟨by kernel_rfl, ?_⟩) hHeld ?_
        rotate_left
        · (intro w hSw; (try dsimp only at hSw); go_simp; try with_reducible rfl)
        try simp only [Act.put, List.setIfInBounds_toArray, List.set_cons_zero, List.set_cons_succ]
        refine wpAnyH_take (i := 2) (v := ?_) rfl (by kernel_rfl) (by kernel_rfl) (by kernel_rfl) (fun _ _ _ h => h) (Or.inl ⟨by kernel_rfl, ?_⟩) hHeld ?_
        rotate_left
        · (intro w hSw; (try dsimp only at hSw); go_simp; try with_reducible rfl)
        try simp only [Act.put, List.setIfInBounds_toArray, List.set_cons_zero, List.set_cons_succ]
        refine wpAnyH_take (i := 3) (v := ?_) rfl (by kernel_rfl) (by kernel_rfl) (by kernel_rfl) (fun _ _ _ h => h) (Or.inl ⟨by kernel_rfl, ?_⟩) hHeld ?_
        rotate_left
        · (intro w hSw; (try dsimp only at hSw); go_simp; try with_reducible rfl)
        try simp only [Act.put, List.setIfInBounds_toArray, List.set_cons_zero, List.set_cons_succ]
        refine wpAnyH_take (i := 4) (v := ?_) rfl (by kernel_rfl) (by kernel_rfl) (by kernel_rfl) (fun _ _ _ h => h) (Or.inl ⟨by kernel_rfl, ?_⟩) hHeld ?_
        rotate_left
        · (intro w hSw; (try dsimp only at hSw); go_simp; try with_reducible rfl)
        try simp only [Act.put, List.setIfInBounds_toArray, List.set_cons_zero, List.set_cons_succ]
        refine wpAnyH_take (i := 5) (v := ?_) rfl (by kernel_rfl) (by kernel_rfl) (by kernel_rfl) (fun _ _ _ h => h) (Or.inl ⟨by kernel_rfl, ?_⟩) hHeld ?_
        rotate_left
        · (intro w hSw; (try dsimp only at hSw); go_simp; try with_reducible rfl)
        try simp only [Act.put, List.setIfInBounds_toArray, List.set_cons_zero, List.set_cons_succ]
        refine wpAnyH_take (i := 6) (v := ?_) rfl (by kernel_rfl) (by kernel_rfl) (by kernel_rfl) (fun _ _ _ h => h) (Or.inl ⟨by kernel_rfl, ?_⟩) hHeld ?_
        rotate_left
        · (intro w hSw; (try dsimp only at hSw); go_simp; try with_reducible rfl)
        try simp only [Act.put, List.setIfInBounds_toArray, List.set_cons_zero, List.set_cons_succ]
        refine wpAnyH_take (i := 7) (v := ?_) rfl (by kernel_rfl) (by kernel_rfl) (by kernel_rfl) (fun _ _ _ h => h) (Or.inl ⟨by kernel_rfl, ?_⟩) hHeld ?_
        rotate_left
        · (intro w hSw; (try dsimp only at hSw); go_simp; try with_reducible rfl)
        try simp only [Act.put, List.setIfInBounds_toArray, List.set_cons_zero, List.set_cons_succ]
        refine wpAnyH_take (i := 8) (v := ?_) rfl (by kernel_rfl) (by kernel_rfl) (by kernel_rfl) (fun _ _ _ h => h) (Or.inl ⟨by kernel_rfl, ?_⟩) hHeld ?_
        rotate_left
        · (intro w hSw; (try dsimp only at hSw); go_simp; try with_reducible rfl)
        try simp only [Act.put, List.setIfInBounds_toArray, List.set_cons_zero, List.set_cons_succ]
        refine wpAnyH_done (by kernel_rfl) ?_ _
        clear hHeld
        try simp only [List.getElem_toArray, List.getElem_cons_zero, List.getElem_cons_succ, Act.put, List.setIfInBounds_toArray, List.set_cons_zero, List.set_cons_succ]
        refine NoPanic.normal ?_
        cases bq with
        | true =>
          have HE := Lib.hid (of_decide_eq_true hbq)
          clear hbq
          go_wp2_with fail
          go_roundw
          case rel => exact ⟨k + 1, by omega, by go_num, fun j h1 h2 hjk => by
            by_cases e : j = k
            · subst e
              rw [HX.out, HY.out, HE.out]
            · exact HZ.out j h1 h2 (by omega), HBW.out.drew⟩
          case measure => simp [intOf]; omega
        | false =>
          have HE := Lib.hid (of_decide_eq_false hbq)
          clear hbq
          go_wp2_with fail
          go_ret
          have hne : ¬ a = b := fun e => HE.out (by rw [← HX.out, ← HY.out]; subst e; rfl)
          exact ⟨by rw [decide_eq_false hne]; rfl, HBW.out.drew⟩
      · have j3 : decide ((k : Int) < (a.length : Int)) = false := decide_eq_false (by omega)
        have HK := Lib.hid (show k = a.length by omega)
        go_wp2_with fail
        go_ret
        have he : a = b := List.ext_getElem HLL.out fun j h1 h2 => HZ.out j h1 h2 (by have := HK.out; omega)
        exact ⟨by rw [decide_eq_true he]; rfl, HBW.out⟩
  · have k1 : ((a.length : Int) == (b.length : Int)) = false := by rw [beq_eq_false_iff_ne]; omega
    have k2 : (a.length == b.length) = false := by rw [beq_eq_false_iff_ne]; omega
    have HE : Hid (¬ a = b) := Lib.hid fun e => hl (by rw [e])
    clear hl
    go_enter Try.func15, Try.ntmps15
    go_wp2_with fail
    go_ret
    exact ⟨by rw [decide_eq_false HE.out]; rfl, Below.refl _ _⟩
/-- A row of rows of links, as it is read. -/
def RdLL (w : World) (v : Value) (ls : List (List Lk)) : Prop := ∃ A c, v = .slice A ls.length c ∧ ∀ k (hk : k < ls.length), ∃ bl A2 c2, A = some ⟨bl, 0, none⟩ ∧ bl < w.heap.size ∧ w.cell? ⟨bl, k, none⟩ = some (.slice A2 ls[k].length c2) ∧ RdLk w (.slice A2 ls[k].length c2) ls[k]
theorem RdLL.next {w w' : World} {v : Value} {ls : List (List Lk)} (h : RdLL w v ls) (hb : Below w.heap.size w w') : RdLL w' v ls := by
  obtain ⟨A, c, hv, h⟩ := h
  refine ⟨A, c, hv, fun k hk => ?_⟩
  obtain ⟨bl, A2, c2, h1, h2, h3, h4⟩ := h k hk
  exact ⟨bl, A2, c2, h1, Nat.lt_of_lt_of_le h2 hb.size, (hb.cell (p := ⟨bl, k, none⟩) h2).trans h3, RdP.next h4 hb⟩
theorem RdLL.piece {w : World} {A : Option Addr} {n c : Nat} {ls : List (List Lk)} (h : RdLL w (.slice A n c) ls) {k : Nat} (hk : k < ls.length) : ∃ bl A2 c2, A = some ⟨bl, 0, none⟩ ∧ bl < w.heap.size ∧ w.cell? ⟨bl, k, none⟩ = some (.slice A2 ls[k].length c2) ∧ RdLk w (.slice A2 ls[k].length c2) ls[k] := by
  obtain ⟨A', c', hv, h⟩ := h
  injection hv with hA _ _
  rw [hA]
  exact h k hk
theorem LU.rd {w : World} {B : Nat} {vl : Value} {vL : List Value} {L : List (List Lk)} {vu : Value} {vU : List Value} {U : List (List Lk)} (h : LU w B vl vL L vu vU U) : RdLL w vl L := by
  obtain ⟨hlen, ⟨hv, h0⟩ | ⟨bl, c, cur, hv, hg, hh, h1, h2, h3, h4⟩⟩ := id h.ln
  · refine ⟨none, 0, by rw [hv, h0], fun k hk => by omega⟩
  · refine ⟨some ⟨bl, 0, none⟩, c, hv, fun k hk => ?_⟩
    subst hv
    have hkl : k < vL.length := by rw [h.lenL]; exact hk
    have hx := own_cell1 h.ln (List.getElem?_eq_getElem hkl)
    have he := h.el k _ _ (List.getElem?_eq_getElem hkl) (List.getElem?_eq_getElem hk)
    obtain ⟨A, c2, hv2, _⟩ := own_len he
    rw [hv2] at hx he
    exact ⟨bl, A, c2, rfl, (Array.getElem?_eq_some_iff.1 hh).1, hx, Rd.of_own he⟩
theorem GAt.links {w : World} {B g : Nat} {l : List Ac} (h : GAt w B g l) : ∃ v, w.cell? ⟨g, 1, none⟩ = some v ∧ RdLL w v (lnkD l) := by
  obtain ⟨vk, vl, vu, bw, vL, vU, h⟩ := h
  exact ⟨vl, by rw [h.blk.cell 1]; rfl, h.lu.rd⟩
/-- Room for links, in a row of the call's own. -/
theorem grow_is (n : Nat) (hn : n ≤ 100000) (w : World) : Calls Try.prog 65 #[.slice none 0 0, .int .i64 n] w fun e w' => ∃ v, e = .returned v ∧ w'.ownsRow w.heap.size 43 7 v 0 [] ∧ Below w.heap.size w w' := by
  by_cases h0 : n = 0
  · subst h0
    refine (Any8.slices_Grow_room laidGrow none 0 0 0 w (by omega) (by omega) (by omega) (by omega)).mono ?_
    rintro e w' ⟨rfl, rfl⟩
    exact ⟨_, rfl, World.ownsRow_nil _ _ _ _, Below.refl _ _⟩
  · obtain ⟨i0, hi, hz0, hz1, hz2⟩ := info_parts infoLk
    refine (Any8.slices_Grow_grow laidGrow i0 _ hi hz0 (by rw [hz1]; omega) none 0 0 n [] w (by omega) (by omega) (by rw [hz2]; omega) (by omega) (by simp) (fun _ => rfl) (fun a h => by cases h)).mono ?_
    rintro e w' ⟨rfl, rfl⟩
    refine ⟨_, rfl, ⟨rfl, .inr ⟨w.heap.size, _, _, rfl, Nat.le_refl _, heap_alloc_new w.drew _, Nat.zero_le _, grownCap_le_maxLen w (0 + n) 0 _ (by unfold maxLen; omega), ?_, by simp⟩⟩, (Below.refl w.heap.size w).drew.alloc (Nat.le_refl _) _⟩
    have hge := grownCap_ge w (0 + n) 0 43
    have e0 : (Value.agg #[.int .i64 0, .int .i64 0, .int .i64 0, .string ⟨#[]⟩, .int .i64 0, .int .i64 0, .string ⟨#[]⟩]).cells.size = 7 := rfl
    rw [show Ytmjkcanjfjfkfaa.laidGrow_ren.t 25 = 43 from rfl, Array.size_append, Array.size_append, size_zeroCells, size_zeroCells, e0]
    simp only [List.size_toArray, List.length_nil]
    omega
def sumL (ls : List (List Lk)) : Nat := (ls.map List.length).sum
theorem sumL_take (ls : List (List Lk)) (k : Nat) (hk : k < ls.length) : sumL (ls.take (k + 1)) = sumL (ls.take k) + ls[k].length := by
  unfold sumL
  rw [List.take_succ_eq_append_getElem hk, List.map_append, List.sum_append]
  simp
theorem flat_take (ls : List (List Lk)) (k : Nat) (hk : k < ls.length) : (ls.take (k + 1)).flatten = (ls.take k).flatten ++ ls[k] := by
  rw [List.take_succ_eq_append_getElem hk, List.flatten_append]
  simp
theorem sumL_le {ls : List (List Lk)} (h : ∀ x ∈ ls, x.length ≤ 10) : ∀ k, sumL (ls.take k) ≤ ls.length * 10
  | k => by
    have : ∀ l : List (List Lk), (∀ x ∈ l, x.length ≤ 10) → sumL l ≤ l.length * 10 := by
      intro l
      induction l with
      | nil => intro _; simp [sumL]
      | cons a l ih =>
        intro hl
        have h1 := hl a (by simp)
        have h2 := ih fun x hx => hl x (by simp [hx])
        unfold sumL at h2 ⊢
        simp only [List.map_cons, List.sum_cons, List.length_cons]
        omega
    refine Nat.le_trans (this (ls.take k) fun x hx => h x (List.mem_of_mem_take hx)) ?_
    rw [List.length_take]
    omega
theorem flat_len (ls : List (List Lk)) : ls.flatten.length = sumL ls := by
  unfold sumL
  rw [List.length_flatten]
def conRel1 (ls : List (List Lk)) (w : World) (z i : Value) (wr : World) : Prop := ∃ k : Nat, k ≤ ls.length ∧ i = .int .i64 k ∧ z = .int .i64 (sumL (ls.take k)) ∧ w = wr
def conRel2 (ls : List (List Lk)) (w : World) (v i : Value) (wr : World) : Prop := ∃ k : Nat, k ≤ ls.length ∧ i = .int .i64 k ∧ wr.ownsRow w.heap.size 43 7 v ((ls.take k).flatten).length (((ls.take k).flatten).flatMap lkC) ∧ Below w.heap.size w wr
theorem lk_one (l : List Lk) : ∀ u ∈ l.flatMap lkC, u.oneCell' = true := by
  intro u hu
  obtain ⟨p, _, h⟩ := List.mem_flatMap.1 hu
  simp only [lkC, List.mem_cons, List.not_mem_nil, or_false] at h
  rcases h with rfl | rfl | rfl | rfl | rfl | rfl | rfl <;> rfl
set_option maxRecDepth 100000 in
set_option maxHeartbeats 1000000 in
theorem concat_is {w : World} {v : Value} {ls : List (List Lk)} (h : RdLL w v ls) (hl : ls.length ≤ 100) (h10 : ∀ x ∈ ls, x.length ≤ 10) : Calls Try.prog 47 #[v] w fun e w' => ∃ v', e = .returned v' ∧ RdLk w' v' ls.flatten ∧ Below w.heap.size w w' := by
  obtain ⟨A, c, rfl, hx⟩ := id h
  have H := Lib.hid h
  have HS := Lib.hid (sumL_le h10)
  have H10 := Lib.hid h10
  have H0 : Hid (conRel1 ls w (.int .i64 0) (.int .i64 (0 : Nat)) w) := Lib.hid ⟨0, Nat.zero_le _, rfl, by simp [sumL], rfl⟩
  have HX := Lib.hid hx
  clear h hx h10
  go_enter Try.func47, Try.ntmps47
  go_wp2_with fail
  go_loopw [3, 11] (fun z i wr => conRel1 ls w z i wr) (fun _ i _ => ls.length - (intOf i).toNat)
  case atStart => exact H0.out
  case round =>
    clear H0
    obtain ⟨k, hkl, rfl, rfl, rfl⟩ := hrel
    by_cases hk : k < ls.length
    · have j1 : (0 : Int) ≤ (k : Int) := by omega
      have j2 : (k : Int) < (ls.length : Int) := by omega
      have j3 : decide ((k : Int) < (ls.length : Int)) = true := decide_eq_true j2
      obtain ⟨bl, A2, c2, rfl, g1, g2, g3⟩ := HX.out k hk
      have HST := Lib.hid (sumL_take ls k hk)
      have hsl := HS.out k
      have hsl2 := HS.out (k + 1)
      rw [HST.out] at hsl2
      obtain ⟨n, hn⟩ : ∃ n, ls[k].length = n := ⟨_, rfl⟩
      obtain ⟨q, hq⟩ : ∃ q, sumL (ls.take k) = q := ⟨_, rfl⟩
      rw [hn] at HST g2 g3 hsl2
      rw [hq] at HST hsl hsl2 ⊢
      clear hn hq g3
      have j4 : decide ((q : Int) + (n : Int) < 0) = false := decide_eq_false (by omega)
      go_wp2_with fail
      go_roundw
      case rel => exact ⟨k + 1, by omega, by go_num, by rw [HST.out]; go_num, rfl⟩
      case measure => simp [intOf]; omega
    · have j3 : decide ((k : Int) < (ls.length : Int)) = false := decide_eq_false (by omega)
      have HK := Lib.hid (show k = ls.length by omega)
      go_wp2_with fail
      obtain ⟨q, hq⟩ : ∃ q, sumL (ls.take k) = q := ⟨_, rfl⟩
      have hqm := HS.out k
      rw [hq] at hqm ⊢
      clear hq
      have HG := Lib.hid (grow_is q (by omega) w)
      go_wp2_with (go_at_call 65; refine HG.out.mono ?_; rintro e w1 ⟨v1, rfl, hown1, hb1⟩; have HOW1 := Lib.hid hown1; have HB1 := Lib.hid hb1; clear hown1 hb1)
      have H2 : Hid (conRel2 ls w v1 (.int .i64 (0 : Nat)) w1) := Lib.hid ⟨0, Nat.zero_le _, rfl, by simpa using HOW1.out, HB1.out⟩
      clear HG HOW1 HB1 hqm
      go_loopw [6, 27] (fun z i wr => conRel2 ls w z i wr) (fun _ i _ => ls.length - (intOf i).toNat)
      case atStart => exact H2.out
      case round =>
        clear H2
        obtain ⟨m, hml, rfl, hown, hbw⟩ := hrel
        by_cases hm : m < ls.length
        · have j1 : (0 : Int) ≤ (m : Int) := by omega
          have j2 : (m : Int) < (ls.length : Int) := by omega
          have j4 : decide ((m : Int) < (ls.length : Int)) = true := decide_eq_true j2
          obtain ⟨bl, A2, c2, rfl, g1, g2, g3⟩ := (RdLL.next H.out hbw).piece hm
          have HFT := Lib.hid (flat_take ls m hm)
          have hfl : ((ls.take m).flatten).length ≤ ls.length * 10 := by rw [flat_len]; exact HS.out m
          have hrl := H10.out _ (List.getElem_mem hm)
          obtain ⟨row, hrow⟩ : ∃ row, ls[m] = row := ⟨_, rfl⟩
          obtain ⟨fl, hfe⟩ : ∃ fl, (ls.take m).flatten = fl := ⟨_, rfl⟩
          rw [hrow] at HFT g2 g3 hrl
          rw [hfe] at HFT hown hfl
          obtain ⟨A6, c6, rfl, hc6⟩ := own_len hown
          have HOW := Lib.hid hown
          have HBW := Lib.hid hbw
          have G3 := Lib.hid g3
          obtain ⟨i0, hi, hz0, hz1, hz2⟩ := info_parts infoLk
          clear hown hbw g3 hrow hfe
          go_wp2_with (at_builtin; refine wpList_append_rd _ rfl _ _ 32 rfl w.heap.size 43 i0 _ 7 72 Try.underlying32 hi hz0 hz1 hz2 rfl (by decide) _ _ _ rfl HOW.out _ _ _ rfl G3.out (fm_len lkC_len row) ?c2 ?c3 ?c4 ?c5 ?_)
          case c2 => exact lk_one row
          case c3 => unfold maxLen; omega
          case c4 => omega
          case c5 => exact HBW.out.size
          intro ao cap w8 hown8 hg8
          have HOW8 := Lib.hid (show w8.ownsRow w.heap.size 43 7 (.slice ao (fl.length + row.length) cap) ((ls.take (m + 1)).flatten).length (((ls.take (m + 1)).flatten).flatMap lkC) by
            rw [HFT.out, List.length_append, List.flatMap_append]
            exact hown8)
          have HB8 := Lib.hid (HBW.out.grown hg8 HBW.out.size (fun k hk => own_ge HOW.out hk))
          clear hown8 hg8 g2 i0 hi hz0 hz1 hz2
          go_wp2_with fail
          go_roundw
          case rel => exact ⟨m + 1, by omega, by go_num, HOW8.out, HB8.out⟩
          case measure => simp [intOf]; omega
        · have j4 : decide ((m : Int) < (ls.length : Int)) = false := decide_eq_false (by omega)
          have HM := Lib.hid (show ls.take m = ls by rw [List.take_of_length_le (by omega)])
          rw [HM.out] at hown
          have HOW := Lib.hid hown
          have HBW := Lib.hid hbw
          clear hown hbw HM
          obtain ⟨A6, c6, rfl, _⟩ := own_len HOW.out
          go_wp2_with fail
          go_ret
          exact ⟨_, rfl, Rd.of_own HOW.out, HBW.out⟩
/-- All links of a graph. -/
theorem glinks_is {w : World} {B g : Nat} {l : List Ac} (hg : GAt w B g l) (hl : l.length ≤ 100) (hr : ∀ a ∈ l, a.reads.length ≤ 10) : Calls Try.prog 26 #[.pointer (some ⟨g, 0, none⟩)] w fun e w' => ∃ v', e = .returned v' ∧ RdLk w' v' (lnkD l).flatten ∧ Below w.heap.size w w' := by
  obtain ⟨v, hv, hx⟩ := hg.links
  have HC := Lib.hid (concat_is hx (by rw [lnkD_len]; exact hl) (lnkF_row_len [] l hr))
  have hgl := hg.lt
  clear hx hg
  go_enter Try.func26, Try.ntmps26
  go_wp2_with (go_at_call 47; refine HC.out.mono ?_; rintro e w1 ⟨v1, rfl, hr1, hb1⟩)
  go_ret
  exact ⟨_, rfl, hr1, hb1⟩
end Go.Proofs.Ytmjkcanjfjfkfaa
