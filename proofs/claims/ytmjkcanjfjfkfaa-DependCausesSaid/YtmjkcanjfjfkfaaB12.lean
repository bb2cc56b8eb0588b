/- Walks and plain facts of the earlier laws, packed: W61, D0, W104, W105. -/
import Derived.Laws.IdiomCopy
import Derived.Lib.SliceRun
import Derived.Control
import Derived.Calls
import Derived.Shelf.GgSortFunc.Insertion
import Derived.Shelf.SortG.Plain
import Derived.Shelf.SortG.SortNone
import Derived.Lib.QuietBelow
import Derived.Test.YtmjkcanjfjfkfaaB11
namespace Go.Proofs.Ytmjkcanjfjfkfaa
open Go.RowKit
set_option linter.unusedSimpArgs false
set_option linter.unusedVariables false
attribute [local go_sem ↓] Go.wp_at_zero Go.wp_at_succ
theorem compact_snoc {κ : Type} [DecidableEq κ] : ∀ (l : List κ) (a b : κ), compact (l ++ [a, b]) = if a = b then compact (l ++ [a]) else compact (l ++ [a]) ++ [b]
  | [], a, b => by
    by_cases h : a = b <;> simp [compact, h]
  | [x], a, b => by
    by_cases h : a = b
    · subst h
      by_cases h2 : x = a <;> simp [compact, h2]
    · by_cases h2 : x = a
      · subst h2; simp [compact, h]
      · simp [compact, h, h2]
  | x :: y :: l, a, b => by
    have ih := compact_snoc (y :: l) a b
    simp only [List.cons_append] at ih ⊢
    rw [compact, ih]
    by_cases h : a = b
    · rw [if_pos h, if_pos h]
      exact (by rw [compact])
    · rw [if_neg h, if_neg h]
      conv => rhs; rw [compact]
      by_cases h2 : x = y
      · rw [if_pos h2, if_pos h2]
      · rw [if_neg h2, if_neg h2]; rfl
theorem compact_take {κ : Type} [DecidableEq κ] {l : List κ} {q : Nat} (h : q + 1 < l.length) : compact (l.take (q + 2)) = if l[q] = l[q + 1] then compact (l.take (q + 1)) else compact (l.take (q + 1)) ++ [l[q + 1]] := by
  have e1 : l.take (q + 1) = l.take q ++ [l[q]] := by rw [List.take_succ_eq_append_getElem]
  have e2 : l.take (q + 2) = l.take q ++ [l[q], l[q + 1]] := by rw [List.take_succ_eq_append_getElem (i := q + 1) h, e1, List.append_assoc]; rfl
  rw [e2, compact_snoc, e1]
theorem compact_small {κ : Type} [DecidableEq κ] {l : List κ} (h : l.length ≤ 1) : compact l = l := by
  match l, h with
  | [], _ => rfl
  | [a], _ => rfl
theorem own_put5 {w : World} {base g c n k : Nat} {L : List Nm} {x : Nm} (h : w.ownsRow base 41 5 (.slice (some ⟨g, 0, none⟩) n c) n (L.flatMap nmC)) (hk : k < L.length) :
    (((((w.setCell ⟨g, k * 5, none⟩ (.int .i64 x.kind)).setCell ⟨g, k * 5 + 1, none⟩ (.string (bs x.owner))).setCell ⟨g, k * 5 + 2, none⟩ (.int .i64 x.num)).setCell ⟨g, k * 5 + 3, none⟩ (.int .i64 x.idx)).setCell ⟨g, k * 5 + 4, none⟩ (.string (bs x.text))).ownsRow base 41 5 (.slice (some ⟨g, 0, none⟩) n c) n ((L.set k x).flatMap nmC) ∧
    w.grownBy (((((w.setCell ⟨g, k * 5, none⟩ (.int .i64 x.kind)).setCell ⟨g, k * 5 + 1, none⟩ (.string (bs x.owner))).setCell ⟨g, k * 5 + 2, none⟩ (.int .i64 x.num)).setCell ⟨g, k * 5 + 3, none⟩ (.int .i64 x.idx)).setCell ⟨g, k * 5 + 4, none⟩ (.string (bs x.text))) (some g) := by
  obtain ⟨y, hy⟩ : ∃ y, L[k] = y := ⟨_, rfl⟩
  have e0 : L = L.take k ++ y :: L.drop (k + 1) := by rw [← hy, List.getElem_cons_drop, List.take_append_drop]
  have e1 : L.flatMap nmC = ((L.take k).flatMap nmC) ++ [.int .i64 y.kind, .string (bs y.owner), .int .i64 y.num, .int .i64 y.idx, .string (bs y.text)] ++ ((L.drop (k + 1)).flatMap nmC) := by
    conv => lhs; rw [e0]
    simp [nmC]
  have e2 : (L.set k x).flatMap nmC = ((L.take k).flatMap nmC) ++ [.int .i64 x.kind, .string (bs x.owner), .int .i64 x.num, .int .i64 x.idx, .string (bs x.text)] ++ ((L.drop (k + 1)).flatMap nmC) := by
    rw [List.set_eq_take_append_cons_drop, if_pos hk]
    simp [nmC]
  have l1 : ((L.take k).flatMap nmC).length = k * 5 := by rw [fm_len nmC_len, List.length_take, Nat.min_eq_left (Nat.le_of_lt hk)]
  have a0 := h.stored (k * 5) (.int .i64 x.kind)
  have a1 := a0.1.stored (k * 5 + 1) (.string (bs x.owner))
  have a2 := a1.1.stored (k * 5 + 2) (.int .i64 x.num)
  have a3 := a2.1.stored (k * 5 + 3) (.int .i64 x.idx)
  have a4 := a3.1.stored (k * 5 + 4) (.string (bs x.text))
  refine ⟨?_, grown_trans a0.2 (grown_trans a1.2 (grown_trans a2.2 (grown_trans a3.2 a4.2)))⟩
  have := a4.1
  rw [e1, set5 _ _ _ l1, ← e2] at this
  exact this
theorem own_short {w : World} {base g c n m s : Nat} {e : TypeId} {xs : List Value} (h : w.ownsRow base e s (.slice (some ⟨g, 0, none⟩) n c) n xs) (hm : m ≤ n) : w.ownsRow base e s (.slice (some ⟨g, 0, none⟩) m c) m (xs.take (m * s)) := by
  have hms : m * s ≤ n * s := Nat.mul_le_mul_right _ hm
  obtain ⟨hl, ⟨h0, _⟩ | ⟨g', cap, cur, hv, hg, hh, h1, h2, h3, h4⟩⟩ := h
  · cases h0
  · injection hv with hv hn hc
    injection hv with hv
    injection hv with hv
    subst hv hc
    exact ⟨by rw [List.length_take, hl, Nat.min_eq_left hms], .inr ⟨g, c, cur, rfl, hg, hh, Nat.le_trans hm h1, h2, h3, by rw [← h4, List.take_take, Nat.min_eq_left hms]⟩⟩
theorem own_setCells {base g c n s p : Nat} {e : TypeId} : ∀ (L : List Value) (o : Nat) {w : World} {xs : List Value}, w.ownsRow base e s (.slice (some ⟨g, 0, none⟩) n c) n xs → p ≤ o →
    ∃ xs', xs'.take p = xs.take p ∧ (w.setCells g o L).ownsRow base e s (.slice (some ⟨g, 0, none⟩) n c) n xs' ∧ w.grownBy (w.setCells g o L) (some g)
  | [], o, w, xs, h, _ => ⟨xs, rfl, h, ⟨rfl, rfl, rfl, Nat.le_refl _, fun _ _ _ => rfl⟩⟩
  | v :: L, o, w, xs, h, hp => by
    have h1 := h.stored o v
    obtain ⟨xs', k1, k2, k3⟩ := own_setCells (p := p) L (o + 1) h1.1 (by omega)
    refine ⟨xs', k1.trans ?_, k2, grown_trans h1.2 k3⟩
    rw [List.take_set_of_le hp]
theorem zero_cells_len (z : Array Value) (n : Nat) : (Builtin.zeroCells z n).toList.length = n * z.size := by simp [Builtin.zeroCells]
theorem zero_cells_mem {z : Array Value} {n : Nat} {v : Value} (hz : 0 < z.size) (h : v ∈ (Builtin.zeroCells z n).toList) : v ∈ z.toList := by
  simp only [Builtin.zeroCells, Array.toList_map, List.mem_map] at h
  obtain ⟨i, _, rfl⟩ := h
  have hlt := Nat.mod_lt i hz
  rw [getElem!_pos z _ hlt]
  exact Array.getElem_mem_toList hlt
theorem run_clear_own {w : World} {P : Program} (t e ty : TypeId) (z : Value) (ht : P.underlying t = some (.slice e)) (hv : ∀ w, (zeroValue e).run P w = .ok z w) {s : Nat} (hs : z.cells.size = s) (hs0 : 0 < s) (h1 : ∀ v ∈ z.cells.toList, v.oneCell' = true) {base g n c k c' : Nat} {xs : List Value}
    (h : w.ownsRow base e s (.slice (some ⟨g, 0, none⟩) n c) n xs) (hk : k < n) :
    (Builtin.clear_ #[t] ty #[.slice (some ⟨g, k * s, none⟩) (n - k) c']).run P w = .ok (.tuple #[]) (w.setCells g (k * s) (Builtin.zeroCells z.cells (n - k)).toList) := by
  have hlen : (Builtin.zeroCells z.cells (n - k)).toList.length = (n - k) * s := by rw [zero_cells_len, hs]
  have hst := run_storeCells_cells (P := P) g (k * s) (Builtin.zeroCells z.cells (n - k)).toList 0 w (fun j hj => by
      rw [hlen] at hj
      have hlt : k * s + 0 + j < n * s := by
        rw [Nat.sub_mul] at hj
        have := Nat.mul_le_mul_right s (Nat.le_of_lt hk)
        omega
      rw [h.cellAt _ hlt, List.getElem?_eq_getElem (by rw [h.1]; exact hlt)]
      rfl) (fun j hj => h.frozenAt _) (fun v hv => h1 v (zero_cells_mem (by rw [hs]; exact hs0) hv))
  simp only [Nat.add_zero] at hst
  obtain ⟨m, hm⟩ : ∃ m, n - k = m + 1 := ⟨n - k - 1, by omega⟩
  rw [hm] at hst ⊢
  simp [Builtin.clear_, run_underlying ht, hv, hst]
theorem own_five {w : World} {base g c n i o : Nat} {L : List Nm} {x : Nm} (h : w.ownsRow base 41 5 (.slice (some ⟨g, 0, none⟩) n c) n (L.flatMap nmC)) (hi : i < L.length) (hx : L[i] = x) (ho : o = i * 5) :
    w.cell? ⟨g, o, none⟩ = some (.int .i64 x.kind) ∧ w.cell? ⟨g, o + 1, none⟩ = some (.string (bs x.owner)) ∧ w.cell? ⟨g, o + 2, none⟩ = some (.int .i64 x.num) ∧ w.cell? ⟨g, o + 3, none⟩ = some (.int .i64 x.idx) ∧ w.cell? ⟨g, o + 4, none⟩ = some (.string (bs x.text)) := by
  subst ho
  have hc := own_cells nmC_len h hi hx
  exact ⟨hc 0 _ rfl, hc 1 _ rfl, hc 2 _ rfl, hc 3 _ rfl, hc 4 _ rfl⟩
theorem fm_take5 {α : Type} {f : α → List Value} {s : Nat} (hf : ∀ x, (f x).length = s) (L : List α) {k : Nat} (hk : k ≤ L.length) : (L.flatMap f).take (k * s) = (L.take k).flatMap f := by
  have e : L.flatMap f = (L.take k).flatMap f ++ (L.drop k).flatMap f := by rw [← List.flatMap_append, List.take_append_drop]
  have hl : ((L.take k).flatMap f).length = k * s := by rw [fm_len hf, List.length_take, Nat.min_eq_left hk]
  rw [e, List.take_append_of_le_length (by omega), List.take_of_length_le (by omega)]
theorem zeroNm (w : World) : (zeroValue 41).run Try.prog w = .ok (.agg #[.int .i64 0, .string ⟨#[]⟩, .int .i64 0, .int .i64 0, .string ⟨#[]⟩]) w := by kernel_rfl
def CmpP (base g : Nat) (l : List Nm) (w : World) (e : Ending) (w' : World) : Prop := ∃ v', e = .returned v' ∧ w'.ownsRow base 41 5 v' (compact l).length ((compact l).flatMap nmC) ∧ w.grownBy w' (some g)
def CmpIn (base g c : Nat) (l : List Nm) (q : Nat) (w : World) (i3 i5 : Value) (wr : World) : Prop :=
  ∃ (kk k2 : Nat) (L : List Nm), i3 = .int .i64 kk ∧ i5 = .int .i64 k2 ∧ 1 ≤ k2 ∧ q + 1 + k2 ≤ l.length ∧ kk ≤ q + k2 ∧ L.length = l.length ∧ L.take kk = compact (l.take (q + 1 + k2)) ∧ L.drop (q + k2) = l.drop (q + k2) ∧
    wr.ownsRow base 41 5 (.slice (some ⟨g, 0, none⟩) l.length c) l.length (L.flatMap nmC) ∧ w.grownBy wr (some g)
theorem drop_at {α : Type} {L l : List α} {a i : Nat} (h : L.drop a = l.drop a) (hl : L.length = l.length) (ha : a ≤ i) (hi : i < l.length) : L[i]'(by rw [hl]; exact hi) = l[i] := by
  have h1 : L[i]? = l[i]? := by
    have := congrArg (fun x => x[i - a]?) h
    simp only [List.getElem?_drop] at this
    rw [show a + (i - a) = i by omega] at this
    exact this
  rw [List.getElem?_eq_getElem hi, List.getElem?_eq_getElem (by rw [hl]; exact hi)] at h1
  exact Option.some.inj h1
set_option maxRecDepth 100000 in
set_option maxHeartbeats 4000000 in
theorem compact2_is {w : World} {base g c : Nat} {l : List Nm} (h : w.ownsRow base 41 5 (.slice (some ⟨g, 0, none⟩) l.length c) l.length (l.flatMap nmC)) (hl : l.length ≤ 1000) (hb : base ≤ w.heap.size) :
    Calls Try.prog 56 #[.slice (some ⟨g, 0, none⟩) l.length c] w (CmpP base g l w) := by
  obtain ⟨hlc, hcm⟩ : l.length ≤ c ∧ c ≤ maxLen := by
    obtain ⟨_, ⟨h0, _⟩ | ⟨g', cap, cur, hv, _, _, h1, h2, _⟩⟩ := id h
    · cases h0
    · injection hv with _ _ hc; subst hc; exact ⟨h1, h2⟩
  have H := Lib.hid h
  have HBS := Lib.hid hb
  clear h hb
  have hgd := guardNm
  by_cases h2 : l.length < 2
  · have hc2 : Hid (compact l = l) := Lib.hid (compact_small (by omega))
    go_enter Try.func56, Try.ntmps56
    go_wp2
    go_ret
    exact ⟨_, rfl, by rw [hc2.out]; exact H.out, ⟨rfl, rfl, rfl, Nat.le_refl _, fun _ _ _ => rfl⟩⟩
  · have H0 : Hid (∃ (k m : Nat), Value.int .i64 1 = .int .i64 k ∧ 1 ≤ k ∧ k ≤ l.length ∧ w = w.drewN m ∧ compact (l.take k) = l.take k) := Lib.hid ⟨1, 0, rfl, Nat.le_refl _, by omega, rfl, compact_small (by simp; omega)⟩
    go_enter Try.func56, Try.ntmps56
    go_wp2
    go_loopw [3] (fun i wr => ∃ (k m : Nat), i = .int .i64 k ∧ 1 ≤ k ∧ k ≤ l.length ∧ wr = w.drewN m ∧ compact (l.take k) = l.take k) (fun i _ => l.length - (intOf i).toNat)
    case atStart => exact H0.out
    case round =>
      clear H0
      obtain ⟨k, m, rfl, hk1, hk, hw, hct⟩ := hrel
      have HW := Lib.hid hw
      have HCT := Lib.hid hct
      have HR := Lib.hid (show wr.ownsRow base 41 5 (.slice (some ⟨g, 0, none⟩) l.length c) l.length (l.flatMap nmC) by rw [hw]; exact own_next H.out (below_drewN (Below.refl _ _) m))
      clear hw hct
      by_cases hlt : k < l.length
      · obtain ⟨q, rfl⟩ : ∃ q, k = q + 1 := ⟨k - 1, by omega⟩
        obtain ⟨x, hx⟩ : ∃ x, l[q + 1] = x := ⟨_, rfl⟩
        obtain ⟨y, hy⟩ : ∃ y, l[q]'(by omega) = y := ⟨_, rfl⟩
        obtain ⟨x0, x1, x2, x3, x4⟩ := own_five HR.out hlt hx rfl
        obtain ⟨y0, y1, y2, y3, y4⟩ := own_five HR.out (i := q) (by omega) hy rfl
        have HX := Lib.hid hx
        have HY := Lib.hid hy
        have HCS := Lib.hid (compact_take hlt)
        have i1 : (0 : Int) ≤ (q : Int) + 1 := by omega
        have i2 : (q : Int) + 1 < (l.length : Int) := by omega
        have i3 : (0 : Int) ≤ (q : Int) := by omega
        have i4 : (q : Int) < (l.length : Int) := by omega
        have ew : IntKind.i64.wrap (q : Int) = (q : Int) := IntWalk.i64_in _ (by omega)
        rw [show ((q + 1 : Nat) : Int) = (q : Int) + 1 by omega]
        clear hx hy
        by_cases hxy : x = y
        · have he := fun W => eqlNm x y true (by simp [hxy]) W
          unfold nmV nmA at he
          have HXY := Lib.hid hxy
          clear hxy
          go_wp2_with fail
          go_quiet (fail)
          clear x0 x1 x2 x3 x4 y0 y1 y2 y3 y4 ew he
          have HR2 := Lib.hid (own_next HR.out (below_drewN (Below.refl _ _) nq))
          have HG2 := Lib.hid (show w.grownBy (wr.drewN nq) (some g) by rw [HW.out, World.drewN_drewN]; exact ⟨rfl, rfl, rfl, Nat.le_refl _, fun _ _ _ => rfl⟩)
          have H1 : Hid (CmpIn base g c l q w (.int .i64 ((q : Int) + 1)) (.int .i64 1) (wr.drewN nq)) := Lib.hid ⟨q + 1, 1, l, by go_num, by go_num, Nat.le_refl _, by omega, Nat.le_refl _, rfl, by
            rw [show q + 1 + 1 = q + 2 from rfl, HCS.out, if_pos (by rw [HX.out, HY.out]; exact HXY.out.symm)]; exact HCT.out.symm, rfl, HR2.out, HG2.out⟩
          generalize World.drewN wr nq = w2 at *
          go_wp2_with fail
          go_loopw [3, 5] (fun i3 i5 wr => CmpIn base g c l q w i3 i5 wr) (fun i3 i5 _ => l.length - (intOf i5).toNat)
          case atStart => exact H1.out
          case round =>
            clear H1
            obtain ⟨kk, k2, L, rfl, rfl, hk2, hjn, hkk, hLl, hLt, hLd, hown, hgr⟩ := hrel
            have HOW := Lib.hid hown
            have HGR := Lib.hid hgr
            have HLT := Lib.hid hLt
            have HLD := Lib.hid hLd
            clear hown hgr hLt hLd
            obtain ⟨n1, hn1⟩ : ∃ n1, l.length - (q + 1) = n1 := ⟨_, rfl⟩
            obtain ⟨c1, hc1⟩ : ∃ c1, c - (q + 1) = c1 := ⟨_, rfl⟩
            rw [hn1, hc1]
            by_cases hj : q + 1 + k2 < l.length
            · obtain ⟨m2, rfl⟩ : ∃ m, k2 = m + 1 := ⟨k2 - 1, by omega⟩
              obtain ⟨a, ha⟩ : ∃ a, l[q + 1 + m2 + 1]'(by omega) = a := ⟨_, rfl⟩
              obtain ⟨b, hb⟩ : ∃ b, l[q + 1 + m2]'(by omega) = b := ⟨_, rfl⟩
              obtain ⟨z0, z1, z2, z3, z4⟩ := own_five HOW.out (i := q + 1 + m2 + 1) (o := (q + 1) * 5 + (m2 + 1) * 5) (by omega) ((drop_at HLD.out hLl (by omega) (by omega)).trans ha) (by omega)
              obtain ⟨v0, v1, v2, v3, v4⟩ := own_five HOW.out (i := q + 1 + m2) (o := (q + 1) * 5 + m2 * 5) (by omega) ((drop_at HLD.out hLl (by omega) (by omega)).trans hb) (by omega)
              have HA := Lib.hid ha
              have HB := Lib.hid hb
              have HCN := Lib.hid (compact_take (l := l) (q := q + 1 + m2) (by omega))
              have j1 : (0 : Int) ≤ (m2 : Int) + 1 := by omega
              have j2 : (m2 : Int) + 1 < (n1 : Int) := by omega
              have j3 : (0 : Int) ≤ (m2 : Int) := by omega
              have j4 : (m2 : Int) < (n1 : Int) := by omega
              have j5 : decide ((m2 : Int) + 1 < (n1 : Int)) = true := decide_eq_true j2
              have jw : IntKind.i64.wrap (m2 : Int) = (m2 : Int) := IntWalk.i64_in _ (by omega)
              have HN1 := Lib.hid hn1
              have HJ := Lib.hid hj
              have HJN := Lib.hid hjn
              have HLD2 : Hid (L.drop (q + (m2 + 1 + 1)) = l.drop (q + (m2 + 1 + 1))) := Lib.hid (by
                have := congrArg (List.drop 1) HLD.out
                rw [List.drop_drop, List.drop_drop] at this
                exact this)
              rw [show ((m2 + 1 : Nat) : Int) = (m2 : Int) + 1 by omega]
              clear ha hb hn1 hc1
              by_cases hab : a = b
              · have he := fun W => neqNm a b true (by simp [hab]) W
                unfold nmV nmA at he
                have HAB := Lib.hid hab
                clear hab
                go_wp2_with fail
                go_quiet (fail)
                clear z0 z1 z2 z3 z4 v0 v1 v2 v3 v4 jw he
                have HO3 := Lib.hid (own_next HOW.out (below_drewN (Below.refl _ _) nq))
                have HG3 := Lib.hid (grown_trans HGR.out (show wr.grownBy (wr.drewN nq) (some g) from ⟨rfl, rfl, rfl, Nat.le_refl _, fun _ _ _ => rfl⟩))
                generalize World.drewN wr nq = w3 at *
                go_wp2_with fail
                go_roundw
                case rel =>
                  have := HJ.out
                  exact ⟨kk, m2 + 1 + 1, L, rfl, by go_num, by omega, by omega, by omega, hLl, by
                    rw [HLT.out, show q + 1 + (m2 + 1 + 1) = q + 1 + m2 + 2 by omega, HCN.out, if_pos (by rw [HA.out, HB.out]; exact HAB.out.symm)]; rfl, HLD2.out, HO3.out, HG3.out⟩
                case measure => have := HJ.out; simp [intOf]; omega
              · have he := fun W => neqNm a b false (by simp [hab]) W
                unfold nmV nmA at he
                have HAB := Lib.hid hab
                clear hab
                have hkl : kk < L.length := by omega
                have HKL := Lib.hid hkl
                go_wp2_with fail
                go_quiet (fail)
                have HO3 := Lib.hid (own_next HOW.out (below_drewN (Below.refl _ _) nq))
                have HG3 := Lib.hid (grown_trans HGR.out (show wr.grownBy (wr.drewN nq) (some g) from ⟨rfl, rfl, rfl, Nat.le_refl _, fun _ _ _ => rfl⟩))
                generalize World.drewN wr nq = w3 at *
                obtain ⟨t0, t1, t2, t3, t4⟩ := own_five HO3.out hkl rfl rfl
                have f0 := own_frozen HO3.out (kk * 5)
                have f1 := own_frozen HO3.out (kk * 5 + 1)
                have f2 := own_frozen HO3.out (kk * 5 + 2)
                have f3 := own_frozen HO3.out (kk * 5 + 3)
                have f4 := own_frozen HO3.out (kk * 5 + 4)
                clear z0 z1 z2 z3 z4 v0 v1 v2 v3 v4 jw he
                obtain ⟨z0, z1, z2, z3, z4⟩ := own_five HO3.out (i := q + 1 + m2 + 1) (o := (q + 1) * 5 + (m2 + 1) * 5) (by omega) ((drop_at HLD.out hLl (by omega) (by omega)).trans HA.out) (by omega)
                have k1 : (0 : Int) ≤ (kk : Int) := by omega
                have k2' : (kk : Int) < (l.length : Int) := by omega
                skip
                go_upto_region 13 with (fail)
                obtain ⟨ho4, hg4⟩ := own_put5 (x := a) HO3.out HKL.out
                have HO4 := Lib.hid ho4
                have HG4 := Lib.hid (grown_trans HG3.out hg4)
                clear ho4 hg4 t0 t1 t2 t3 t4 f0 f1 f2 f3 f4 z0 z1 z2 z3 z4
                generalize (((((w3.setCell ⟨g, kk * 5, none⟩ (.int .i64 a.kind)).setCell ⟨g, kk * 5 + 1, none⟩ (.string (bs a.owner))).setCell ⟨g, kk * 5 + 2, none⟩ (.int .i64 a.num)).setCell ⟨g, kk * 5 + 3, none⟩ (.int .i64 a.idx)).setCell ⟨g, kk * 5 + 4, none⟩ (.string (bs a.text))) = w4 at *
                go_wp2_with fail
                go_roundw
                case rel =>
                  have hj := HJ.out
                  have hjn := HJN.out
                  have hkl := HKL.out
                  exact ⟨kk + 1, m2 + 1 + 1, L.set kk a, by go_num, by go_num, by omega, by omega, by omega, by simpa using hLl, by
                    rw [show q + 1 + (m2 + 1 + 1) = q + 1 + m2 + 2 by omega, HCN.out, if_neg (by rw [HA.out, HB.out]; exact fun e => HAB.out e.symm), HA.out, List.take_succ_eq_append_getElem (by simpa using hkl), List.take_set_of_le (Nat.le_refl _), List.getElem_set_self, HLT.out]; rfl, by
                    rw [List.drop_set_of_lt (by omega)]; exact HLD2.out, HO4.out, HG4.out⟩
                case measure => have := HJ.out; simp [intOf]; omega
            · have HTK : Hid (L.take kk = compact l) := Lib.hid (by rw [HLT.out, List.take_of_length_le (by omega)])
              have HKK : Hid (kk = (compact l).length) := Lib.hid (by rw [← HTK.out, List.length_take, Nat.min_eq_left (by omega)])
              have hkn : kk < l.length := by omega
              have HKN := Lib.hid hkn
              have j5 : decide ((k2 : Int) < (n1 : Int)) = false := decide_eq_false (by omega)
              have k1 : (0 : Int) ≤ (kk : Int) := by omega
              have k2' : (kk : Int) ≤ (l.length : Int) := by omega
              have k3 : (kk : Int) ≤ (c : Int) := by omega
              have hcl := fun ty c' => run_clear_own (P := Try.prog) 85 41 ty (c' := c') _ Try.underlying85 zeroNm (s := 5) rfl (by omega) (by simp [Value.cells, Value.oneCell']) HOW.out hkn
              go_wp2_with fail
              obtain ⟨xs', h1, h2', h3⟩ := own_setCells (p := kk * 5) (Builtin.zeroCells (Value.agg #[.int .i64 0, .string ⟨#[]⟩, .int .i64 0, .int .i64 0, .string ⟨#[]⟩]).cells (l.length - kk)).toList (kk * 5) HOW.out (Nat.le_refl _)
              have HS := Lib.hid (own_short h2' (Nat.le_of_lt hkn))
              rw [h1, fm_take5 nmC_len L (by omega), HTK.out] at HS
              have HG4 := Lib.hid (grown_trans HGR.out h3)
              go_ret
              exact ⟨_, rfl, by rw [← HKK.out]; exact HS.out, HG4.out⟩
        · have he := fun W => eqlNm x y false (by simp [hxy]) W
          unfold nmV nmA at he
          have HXY := Lib.hid hxy
          clear hxy
          go_wp2_with fail
          go_quiet (fail)
          clear x0 x1 x2 x3 x4 y0 y1 y2 y3 y4 ew he
          have HW2 := Lib.hid (show World.drewN wr nq = w.drewN (m + nq) by rw [HW.out, World.drewN_drewN])
          generalize World.drewN wr nq = w2 at *
          go_wp2
          go_roundw
          case rel => exact ⟨q + 1 + 1, m + nq, by go_num, by omega, by omega, HW2.out, by
            rw [show q + 1 + 1 = q + 2 from rfl, HCS.out, if_neg (by rw [HX.out, HY.out]; exact fun e => HXY.out e.symm), HCT.out, List.take_succ_eq_append_getElem (i := q + 1) hlt]⟩
          case measure => simp [intOf]; omega
      · obtain rfl : k = l.length := by omega
        have hcl : Hid (compact l = l) := Lib.hid (by have := HCT.out; rw [List.take_length] at this; exact this)
        go_wp2
        go_ret
        exact ⟨_, rfl, by rw [hcl.out]; exact HR.out, by rw [HW.out]; exact ⟨rfl, rfl, rfl, Nat.le_refl _, fun _ _ _ => rfl⟩⟩
set_option maxRecDepth 100000 in
set_option maxHeartbeats 2000000 in
theorem sort2_is {w : World} {v : Value} {l : List Nm} (h : RdNm w v l) (hl : l.length ≤ 12) (ho : ∀ a ∈ l, OwnE a) : Calls Try.prog 45 #[v] w (SortP l w) := by
  have HC := Lib.hid (cloneNm h (fm_len nmC_len l) (nm_one l) (by omega))
  have HO := Lib.hid ho
  clear h ho
  go_enter Try.func45, Try.ntmps45
  go_wp2_with fail
  refine HC.out.mono ?_
  rintro e w2 ⟨v2, rfl, hown, hb⟩
  have HB := Lib.hid hb
  have hbs := hb.size
  clear hb
  go_wp2_with fail
  refine (sortfunc_is hown rfl hl HO.out hbs).mono ?_
  rintro e w3 ⟨rfl, l', hp, hw, hown3, hg⟩
  have HL' := Lib.hid hp.length_eq
  have HS := Lib.hid (compact_sortU ordN HO.out hp hw)
  have HB3 := Lib.hid (below_own HB.out hown hg (Nat.le_refl _) hbs)
  have hbs3 : w.heap.size ≤ w3.heap.size := HB3.out.size
  rw [← HL'.out] at hown3
  have HR := Lib.hid hown3
  obtain ⟨hlen, ⟨rfl, h1⟩ | ⟨g, cap, cur, rfl, _⟩⟩ := id hown3
  · have hn : l' = [] := List.eq_nil_of_length_eq_zero h1
    have HN := Lib.hid hn
    clear hown hown3 hg hp hw
    go_wp2_with fail
    refine (compact_is (l := l') (Rd.of_own HR.out) (by rw [HN.out]; exact Nat.zero_le _) (by rw [HN.out]; exact List.nodup_nil)).mono ?_
    rintro e w4 ⟨rfl, m, rfl⟩
    go_wp2
    go_ret
    have e : sortU cmpN l = l' := by rw [← HS.out, HN.out]; rfl
    exact ⟨_, rfl, by rw [e]; exact own_next HR.out (below_drewN (Below.refl _ _) m), below_drewN HB3.out m⟩
  · have hl3 : l'.length ≤ 1000 := by rw [HL'.out]; omega
    have HC2 := Lib.hid (compact2_is (l := l') hown3 hl3 hbs3)
    clear hown hown3 hg hp hw
    go_wp2_with fail
    refine HC2.out.mono ?_
    rintro e w4 ⟨v4, rfl, hown4, hg4⟩
    rw [HS.out] at hown4
    have HR4 := Lib.hid hown4
    have HB4 := Lib.hid (below_own HB3.out HR.out hg4 (Nat.le_refl _) hbs3)
    clear hown4 hg4
    go_wp2
    go_ret
    exact ⟨_, rfl, HR4.out, HB4.out⟩
end Go.Proofs.Ytmjkcanjfjfkfaa
namespace Go.Proofs.Ytmjkcanjfjfkfaa
open Go
def Result.w {α : Type} : Result α → World
  | .ok _ w => w
  | .halt _ w => w
def sw : Stepped → World
  | .next m => m.world
  | .ended _ w => w
def mw : Move → World
  | .goroutine m _ => m.world
  | .machine s _ => sw s
end Go.Proofs.Ytmjkcanjfjfkfaa
namespace Go.Proofs
open Go.Shelf Go.Lib
shelf_lay_g SlLaysN.n53 Slgn 53 at Try 64 as Ytmjkcanjfjfkfaa.laidSortI
end Go.Proofs
namespace Go.Proofs.Ytmjkcanjfjfkfaa
open Go.RowKit Go.Sort Go.Shelf
set_option linter.unusedSimpArgs false
set_option linter.unusedVariables false
attribute [local go_sem ↓] Go.wp_at_zero Go.wp_at_succ
theorem heap_put {α : Type} [Inhabited α] (enc : α → Value) {w : World} {g n off : Nat} {cur : Array Value} {e : TypeId} {fr : Nat × Nat} (d : Array α) (os : Array Obj) (hb : w.heap[g]? = some (.cells cur e fr)) :
    (sortWorld enc w g off n d os).heap[g]? = some (.cells (putCells enc off d cur) e fr) := by
  have hg : g < w.heap.size := (Array.getElem?_eq_some_iff.1 hb).1
  unfold sortWorld grow
  simp only
  rw [Array.getElem?_append_left (by simpa [putRow, mapBlock, Sort.ahead] using hg)]
  simp [putRow, mapBlock, Sort.ahead, Array.getElem?_modify, hb, onCells]
theorem grownBy_put {α : Type} [Inhabited α] (enc : α → Value) {w : World} {g n off : Nat} (d : Array α) (os : Array Obj) : w.grownBy (sortWorld enc w g off n d os) (some g) := by
  refine ⟨rfl, rfl, rfl, by simp [sortWorld, grow, putRow, mapBlock, Sort.ahead], fun k hk hne => ?_⟩
  have : g ≠ k := fun e => hne (by rw [e])
  unfold sortWorld grow
  simp only
  rw [Array.getElem?_append_left (by simpa [putRow, mapBlock, Sort.ahead] using hk)]
  simp [putRow, mapBlock, Sort.ahead, Array.getElem?_modify, this]
end Go.Proofs.Ytmjkcanjfjfkfaa
namespace Go.Proofs.Ytmjkcanjfjfkfaa
open Go.RowKit Go.Sort Go.Shelf
set_option linter.unusedSimpArgs false
set_option linter.unusedVariables false
attribute [local go_sem ↓] Go.wp_at_zero Go.wp_at_succ
theorem fm_in (l : List Int) : l.flatMap inC = l.map (Value.int .i64) := by
  induction l with
  | nil => rfl
  | cons a l ih => rw [List.flatMap_cons, ih]; rfl
theorem isort_is {w : World} {B : Nat} {v : Value} {l : List Int} (h : w.ownsRow B 3 1 v l.length (l.flatMap inC)) (hm : l.length ≤ 1000000) (hB : B ≤ w.heap.size) :
    Calls Try.prog 64 #[v] w fun e w' => e = .returned (.tuple #[]) ∧ w'.ownsRow B 3 1 v (srtI l).length ((srtI l).flatMap inC) ∧ w.grownBy w' v.ownBlock ∧ Go.RowKit.Below B w w' := by
  rw [fm_in] at h
  rw [fm_in, srtI_len]
  by_cases h0 : l.length = 0
  · obtain ⟨A, c, rfl, hc⟩ := own_len h
    have hnil : l = [] := List.eq_nil_of_length_eq_zero h0
    subst hnil
    refine (AnyG.slices_Sort_int_none laidSortI A c w).mono ?_
    rintro e w' ⟨rfl, rfl⟩
    rw [show srtI [] = [] by simp [srtI]]
    exact ⟨rfl, h, World.grownBy.refl _ _, Below.refl _ _⟩
  · obtain ⟨hlen, ⟨_, h1⟩ | ⟨g, c, cur, hv, hg, hh, h1, h2, h3, h4⟩⟩ := h
    · exact absurd h1 h0
    subst hv
    have hcs : ∀ j (hj : j < l.length), cur[j]? = some (.int .i64 l[j]) := fun j hj => by
      have h6 := congrArg (fun x => x[j]?) h4
      (try simp only at h6)
      rw [List.getElem?_take_of_lt (by omega), List.getElem?_map, List.getElem?_eq_getElem hj] at h6
      rw [← Array.getElem?_toList, h6]
      rfl
    have hH : Holds (Value.int .i64) w g 0 l.toArray := by
      intro j hj
      have hjl : j < l.length := by simpa using hj
      refine ⟨?_, (show Blk w g _ _ from hh).frozen _⟩
      rw [Nat.zero_add, cell_of_row _ g j _ _ _ hh, hcs j hjl]
      simp [hjl]
    refine (AnyG.slices_Sort_int laidSortI g 0 c l w hH (Array.getElem?_eq_some_iff.1 hh).1 (by omega)).mono ?_
    rintro e w' ⟨rfl, n, os, rfl⟩
    have hcur : l.length ≤ cur.size := by
      have := congrArg List.length h4
      simp at this
      omega
    have hsz : (srtI l).toArray.size = l.length := by simp [srtI_len]
    show _ ∧ (sortWorld (Value.int .i64) w g 0 n (srtI l).toArray os).ownsRow _ _ _ _ _ _ ∧ w.grownBy (sortWorld (Value.int .i64) w g 0 n (srtI l).toArray os) _ ∧ Go.RowKit.Below B w (sortWorld (Value.int .i64) w g 0 n (srtI l).toArray os)
    refine ⟨rfl, ⟨by simp [srtI_len], .inr ⟨g, c, _, rfl, hg, heap_put (Value.int .i64) (off := 0) (srtI l).toArray os hh, h1, h2, ?_, ?_⟩⟩, grownBy_put _ _ _, ?_⟩
    · simpa [putCells] using h3
    · apply List.ext_getElem?
      intro j
      by_cases hj : j < l.length
      · rw [List.getElem?_take_of_lt (by omega), Array.getElem?_toList]
        unfold putCells
        rw [Array.getElem?_mapIdx, Array.getElem?_eq_getElem (by omega)]
        simp only [Option.map_some]
        rw [if_pos ⟨by omega, by omega⟩, List.getElem?_map, List.getElem?_eq_getElem (by rw [srtI_len]; omega)]
        simp [srtI_len, hj]
      · rw [List.getElem?_eq_none (by rw [List.length_take]; omega), List.getElem?_eq_none (by simp [srtI_len]; omega)]
    · exact (Below.refl B w).grown (grownBy_put _ _ _) hB (fun k hk => by injection hk with hk; omega)
end Go.Proofs.Ytmjkcanjfjfkfaa
