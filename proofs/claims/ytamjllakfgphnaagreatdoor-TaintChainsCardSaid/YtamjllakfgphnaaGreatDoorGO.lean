/- Walks of layer 46: insertion sort of names. -/
import Derived.Test.YtamjllakfgphnaaGreatDoorGV
import Derived.Test.YtamjllakfgphnaaGreatDoorGM
import Derived.Test.YtamjllakfgphnaaGreatDoorGA
namespace Go.Proofs.YtamjllakfgphnaaGreatDoor
open Go.RowKit
set_option linter.unusedSimpArgs false
set_option linter.unusedVariables false
theorem own_cells {α : Type} {f : α → List Value} {s : Nat} (hf : ∀ x, (f x).length = s) {w : World} {base g c : Nat} {e : TypeId} {n : Nat} {l : List α} (h : w.ownsRow base e s (.slice (some ⟨g, 0, none⟩) n c) n (l.flatMap f)) {k : Nat} (hk : k < l.length) {x : α} (hx : l[k] = x) : ∀ j y, (f x)[j]? = some y → w.cell? ⟨g, k * s + j, none⟩ = some y := by
  intro j y hy
  have hj : j < s := by
    rcases Nat.lt_or_ge j s with h | h
    · exact h
    · rw [List.getElem?_eq_none (by rw [hf]; exact h)] at hy; cases hy
  have h2 := h.cells (g := g) rfl (k * s + j) y ((fm_get hf l k hk j hj).trans (by rw [hx]; exact hy))
  rw [add_off, Nat.zero_add] at h2
  exact h2
theorem own_frozen {w : World} {base g c e s n : Nat} {xs : List Value} (h : w.ownsRow base e s (.slice (some ⟨g, 0, none⟩) n c) n xs) (i : Nat) : w.frozen? ⟨g, i, none⟩ = false := by
  obtain ⟨_, ⟨h2, _⟩ | ⟨g', cap, cur, hv, _, hh, _⟩⟩ := h
  · cases h2
  · injection hv with hv
    injection hv with hv
    injection hv with hv
    subst hv
    exact Blk.frozen (show Blk w g e cur from hh) i
theorem set5 {α : Type} (A R : List α) (m : Nat) (hA : A.length = m) (b0 b1 b2 b3 b4 u0 u1 u2 u3 u4 : α) : (((((A ++ [b0, b1, b2, b3, b4] ++ R).set m u0).set (m + 1) u1).set (m + 2) u2).set (m + 3) u3).set (m + 4) u4 = A ++ [u0, u1, u2, u3, u4] ++ R := by
  subst hA
  simp [List.set_append]
theorem own_swap {w : World} {base g c n q : Nat} {p0 p2 r : List Nm} {x y : Nm} (h : w.ownsRow base 26 5 (.slice (some ⟨g, 0, none⟩) n c) n ((p0 ++ [y] ++ x :: p2 ++ r).flatMap nmC)) (hq : p0.length = q) :
    ((((((((((w.setCell ⟨g, (q + 1) * 5, none⟩ (.int .i64 y.kind)).setCell ⟨g, (q + 1) * 5 + 1, none⟩ (.string (bs y.owner))).setCell ⟨g, (q + 1) * 5 + 2, none⟩ (.int .i64 y.num)).setCell ⟨g, (q + 1) * 5 + 3, none⟩ (.int .i64 y.idx)).setCell ⟨g, (q + 1) * 5 + 4, none⟩ (.string (bs y.text))).setCell ⟨g, q * 5, none⟩ (.int .i64 x.kind)).setCell ⟨g, q * 5 + 1, none⟩ (.string (bs x.owner))).setCell ⟨g, q * 5 + 2, none⟩ (.int .i64 x.num)).setCell ⟨g, q * 5 + 3, none⟩ (.int .i64 x.idx)).setCell ⟨g, q * 5 + 4, none⟩ (.string (bs x.text))).ownsRow base 26 5 (.slice (some ⟨g, 0, none⟩) n c) n ((p0 ++ x :: (y :: p2) ++ r).flatMap nmC) ∧ w.grownBy ((((((((((w.setCell ⟨g, (q + 1) * 5, none⟩ (.int .i64 y.kind)).setCell ⟨g, (q + 1) * 5 + 1, none⟩ (.string (bs y.owner))).setCell ⟨g, (q + 1) * 5 + 2, none⟩ (.int .i64 y.num)).setCell ⟨g, (q + 1) * 5 + 3, none⟩ (.int .i64 y.idx)).setCell ⟨g, (q + 1) * 5 + 4, none⟩ (.string (bs y.text))).setCell ⟨g, q * 5, none⟩ (.int .i64 x.kind)).setCell ⟨g, q * 5 + 1, none⟩ (.string (bs x.owner))).setCell ⟨g, q * 5 + 2, none⟩ (.int .i64 x.num)).setCell ⟨g, q * 5 + 3, none⟩ (.int .i64 x.idx)).setCell ⟨g, q * 5 + 4, none⟩ (.string (bs x.text))) (some g) := by
  have e1 : (p0 ++ [y] ++ x :: p2 ++ r).flatMap nmC = ((p0 ++ [y]).flatMap nmC) ++ [.int .i64 x.kind, .string (bs x.owner), .int .i64 x.num, .int .i64 x.idx, .string (bs x.text)] ++ ((p2 ++ r).flatMap nmC) := by simp [nmC]
  have e2 : ((p0 ++ [y]).flatMap nmC) ++ [Value.int .i64 y.kind, .string (bs y.owner), .int .i64 y.num, .int .i64 y.idx, .string (bs y.text)] ++ ((p2 ++ r).flatMap nmC) = (p0.flatMap nmC) ++ [.int .i64 y.kind, .string (bs y.owner), .int .i64 y.num, .int .i64 y.idx, .string (bs y.text)] ++ (nmC y ++ (p2 ++ r).flatMap nmC) := by simp [nmC]
  have e3 : (p0 ++ x :: (y :: p2) ++ r).flatMap nmC = (p0.flatMap nmC) ++ [.int .i64 x.kind, .string (bs x.owner), .int .i64 x.num, .int .i64 x.idx, .string (bs x.text)] ++ (nmC y ++ (p2 ++ r).flatMap nmC) := by simp [nmC]
  have l1 : ((p0 ++ [y]).flatMap nmC).length = (q + 1) * 5 := by rw [fm_len nmC_len]; simp [hq]
  have l2 : (p0.flatMap nmC).length = q * 5 := by rw [fm_len nmC_len, hq]
  have a0 := h.stored ((q + 1) * 5) (.int .i64 y.kind)
  have a1 := a0.1.stored ((q + 1) * 5 + 1) (.string (bs y.owner))
  have a2 := a1.1.stored ((q + 1) * 5 + 2) (.int .i64 y.num)
  have a3 := a2.1.stored ((q + 1) * 5 + 3) (.int .i64 y.idx)
  have a4 := a3.1.stored ((q + 1) * 5 + 4) (.string (bs y.text))
  have b0 := a4.1.stored (q * 5) (.int .i64 x.kind)
  have b1 := b0.1.stored (q * 5 + 1) (.string (bs x.owner))
  have b2 := b1.1.stored (q * 5 + 2) (.int .i64 x.num)
  have b3 := b2.1.stored (q * 5 + 3) (.int .i64 x.idx)
  have b4 := b3.1.stored (q * 5 + 4) (.string (bs x.text))
  refine ⟨?_, grown_trans a0.2 (grown_trans a1.2 (grown_trans a2.2 (grown_trans a3.2 (grown_trans a4.2 (grown_trans b0.2 (grown_trans b1.2 (grown_trans b2.2 (grown_trans b3.2 b4.2))))))))⟩
  have := b4.1
  rw [e1, set5 _ _ _ l1, e2, set5 _ _ _ l2, ← e3] at this
  exact this
def InsP (base : Nat) (v : Value) (n : Nat) (l : List Nm) (w : World) (e : Ending) (w' : World) : Prop :=
  e = .returned (.tuple #[]) ∧ ∃ l' : List Nm, l'.Perm l ∧ Weak cmpN l' ∧ w'.ownsRow base 26 5 v n (l'.flatMap nmC) ∧ w.grownBy w' v.ownBlock
/-- The outer loop. -/
def InsRel (base : Nat) (v : Value) (n : Nat) (l : List Nm) (w : World) (i : Value) (wr : World) : Prop :=
  ∃ (k : Nat) (l' : List Nm), i = .int .i64 k ∧ 1 ≤ k ∧ k ≤ n + 1 ∧ l'.Perm l ∧ Weak cmpN (l'.take k) ∧ wr.ownsRow base 26 5 v n (l'.flatMap nmC) ∧ w.grownBy wr v.ownBlock
/-- The inner loop. -/
def InsIn (base : Nat) (v : Value) (n k : Nat) (l : List Nm) (w : World) (j : Value) (wr : World) : Prop :=
  ∃ (q : Nat) (p1 p2 r : List Nm) (x : Nm), j = .int .i64 (q : Int) ∧ p1.length = q ∧ q + p2.length = k ∧ k < n ∧ (p1 ++ x :: p2 ++ r).Perm l ∧ Weak cmpN (p1 ++ p2) ∧ (∀ e ∈ p2, cmpN x e < 0) ∧ wr.ownsRow base 26 5 v n ((p1 ++ x :: p2 ++ r).flatMap nmC) ∧ w.grownBy wr v.ownBlock
set_option maxRecDepth 100000 in
set_option maxHeartbeats 1000000 in
theorem insertion_is {w : World} {base g c n : Nat} {l : List Nm} (h : w.ownsRow base 26 5 (.slice (some ⟨g, 0, none⟩) n c) n (l.flatMap nmC)) (hn : l.length = n) (hl : n ≤ 12) (ho : ∀ a ∈ l, OwnE a) (hb : base ≤ w.heap.size) :
    Calls Tryz.prog 178 #[.slice (some ⟨g, 0, none⟩) n c, .int .i64 0, .int .i64 n, .func (.func 57) #[] #[]] w (InsP base (.slice (some ⟨g, 0, none⟩) n c) n l w) := by
  have H0 : Hid (InsRel base (.slice (some ⟨g, 0, none⟩) n c) n l w (.int .i64 (1 : Nat)) w) := Lib.hid ⟨1, l, rfl, Nat.le_refl _, by omega, List.Perm.refl _, by
    cases l with
    | nil => simp [Weak]
    | cons a r => simp [Weak], h, World.grownBy.refl _ _⟩
  have HO := Lib.hid ho
  clear h ho
  go_enter Tryz.func178, Tryz.ntmps178
  go_wp2
  go_loopw [8] (fun i wr => InsRel base (.slice (some ⟨g, 0, none⟩) n c) n l w i wr) (fun i _ => n + 1 - (intOf i).toNat)
  case atStart => exact H0.out
  case round =>
    clear H0
    obtain ⟨k, l', rfl, hk1, hk, hp, hw, hown, hg⟩ := hrel
    obtain ⟨wo, rfl⟩ : ∃ wo : World, wo = wr := ⟨_, rfl⟩
    have HP := Lib.hid hp
    have HW := Lib.hid hw
    have HR := Lib.hid hown
    have HG := Lib.hid hg
    clear hp hw hown hg
    by_cases hlt : k < n
    · have H1 : Hid (InsIn base (.slice (some ⟨g, 0, none⟩) n c) n k l w (.int .i64 k) wo) := Lib.hid (by
        have hl' : l'.length = n := by rw [HP.out.length_eq, hn]
        have hkl : k < l'.length := by omega
        have e : l' = l'.take k ++ l'[k] :: [] ++ l'.drop (k + 1) := by rw [List.append_assoc, List.cons_append, List.nil_append, ← List.drop_eq_getElem_cons hkl, List.take_append_drop]
        refine ⟨k, l'.take k, [], l'.drop (k + 1), l'[k], rfl, by rw [List.length_take, Nat.min_eq_left (by omega)], rfl, hlt, by rw [← e]; exact HP.out, by rw [List.append_nil]; exact HW.out, by simp, by rw [← e]; exact HR.out, HG.out⟩)
      clear HP HW HR HG
      go_wp2
      go_loopw [9] (fun j wr => InsIn base (.slice (some ⟨g, 0, none⟩) n c) n k l w j wr) (fun j _ => (intOf j).toNat)
      case atStart => exact H1.out
      case round =>
        clear H1
        obtain ⟨q, p1, p2, r, x, rfl, hq, hjk, hkn, hp, hw, hx, hown, hg⟩ := hrel
        have HP := Lib.hid hp
        have HW := Lib.hid hw
        have HX := Lib.hid hx
        have HR := Lib.hid hown
        have HG := Lib.hid hg
        clear hp hw hx hg
        cases q with
        | zero =>
          obtain rfl := List.length_eq_zero_iff.1 hq
          go_wp2_with fail
          go_quiet (fail)
          have HR2 := Lib.hid (own_next HR.out (below_drewN (Below.refl wr.heap.size wr) nq))
          have HG2 := Lib.hid (only_drewN HG.out nq)
          clear HR HG hown
          generalize World.drewN wr nq = w2 at *
          go_wp2
          go_roundw
          case rel =>
            refine ⟨k + 1, [] ++ x :: p2 ++ r, by go_num, by omega, by omega, HP.out, ?_, HR2.out, HG2.out⟩
            have e : ([] ++ x :: p2 ++ r).take (k + 1) = x :: p2 := by
              have hk2 : p2.length = k := by simpa using hjk
              rw [List.nil_append, List.cons_append, List.take_succ_cons, ← hk2, List.take_left]
            rw [e]
            exact List.pairwise_cons.2 ⟨fun e he => Int.le_of_lt (HX.out e he), by have := HW.out; unfold Weak at this; simpa using this⟩
          case measure => simp [intOf]; omega
        | succ q =>
          obtain ⟨p0, y, rfl⟩ : ∃ p0 y, p1 = p0 ++ [y] := ⟨p1.dropLast, p1.getLast (by rintro rfl; simp at hq), (List.dropLast_concat_getLast _).symm⟩
          have hq0 : p0.length = q := by simpa using hq
          have hlen : (p0 ++ [y] ++ x :: p2 ++ r).length = n := by rw [HP.out.length_eq, hn]
          have gy : (p0 ++ [y] ++ x :: p2 ++ r)[q]'(by rw [hlen]; omega) = y := by
            simp only [List.append_assoc]
            rw [List.getElem_append_right (by omega)]
            simp [hq0]
          have gx : (p0 ++ [y] ++ x :: p2 ++ r)[q + 1]'(by rw [hlen]; omega) = x := by
            simp only [List.append_assoc]
            rw [List.getElem_append_right (by omega)]
            simp [hq0]
          have cy := own_cells nmC_len hown (by rw [hlen]; omega) gy
          have cx := own_cells nmC_len hown (by rw [hlen]; omega) gx
          have x0 := cx 0 _ rfl
          have x1 := cx 1 _ rfl
          have x2 := cx 2 _ rfl
          have x3 := cx 3 _ rfl
          have x4 := cx 4 _ rfl
          have y0 := cy 0 _ rfl
          have y1 := cy 1 _ rfl
          have y2 := cy 2 _ rfl
          have y3 := cy 3 _ rfl
          have y4 := cy 4 _ rfl
          have i1 : (0 : Int) ≤ (q : Int) + 1 := by omega
          have i2 : (q : Int) + 1 < (n : Int) := by omega
          have i3 : (0 : Int) ≤ (q : Int) := by omega
          have i4 : (q : Int) < (n : Int) := by omega
          have e0 : decide ((0 : Int) < (q : Int) + 1) = true := by rw [decide_eq_true_eq]; omega
          have ox : OwnE x := HO.out x (HP.out.mem_iff.1 (by simp))
          have oy : OwnE y := HO.out y (HP.out.mem_iff.1 (by simp))
          have HC := Lib.hid (compare_is x y wr.drew (ox.trans oy.symm))
          have HQ := Lib.hid hq0
          clear cx cy gx gy hq hq0 hown hlen
          rw [show ((q + 1 : Nat) : Int) = (q : Int) + 1 by omega]
          simp only [Nat.add_zero] at x0 y0
          have ew : IntKind.i64.wrap (q : Int) = (q : Int) := IntWalk.i64_in _ (by omega)
          go_wp2_with fail
          refine wp_region_still_tail 14 (by kernel_rfl) (by kernel_rfl) ?_
          simp only [List.take_succ_cons, List.take_zero, List.drop_succ_cons, List.drop_zero]
          iterate 14 still_step
          refine wpStill_nil ?_
          show wpList _ _ _ _ _ wr.drew
          clear x0 x1 x2 x3 x4 y0 y1 y2 y3 y4 ew
          go_wp2_with fail
          refine HC.out.mono ?_
          rintro e w2 ⟨rfl, hb⟩
          have hb2 := (Below.refl wr.heap.size wr).drew.trans hb
          have HR2 := Lib.hid (own_next HR.out hb2)
          have HG2 := Lib.hid (grown_trans HG.out (only_of_below hb2 _))
          clear hb hb2 HR HG HC
          by_cases hc : cmpN x y < 0
          · have e1 : decide (cmpN x y < 0) = true := by rw [decide_eq_true_eq]; exact hc
            have HC := Lib.hid hc
            have hown := HR2.out
            have hlen : (p0 ++ [y] ++ x :: p2 ++ r).length = n := by rw [HP.out.length_eq, hn]
            have gy : (p0 ++ [y] ++ x :: p2 ++ r)[q]'(by rw [hlen]; omega) = y := by
              simp only [List.append_assoc]
              rw [List.getElem_append_right (by have := HQ.out; omega)]
              simp [HQ.out]
            have gx : (p0 ++ [y] ++ x :: p2 ++ r)[q + 1]'(by rw [hlen]; omega) = x := by
              simp only [List.append_assoc]
              rw [List.getElem_append_right (by have := HQ.out; omega)]
              simp [HQ.out]
            have cy := own_cells nmC_len hown (by rw [hlen]; omega) gy
            have cx := own_cells nmC_len hown (by rw [hlen]; omega) gx
            have x0 := cx 0 _ rfl
            have x1 := cx 1 _ rfl
            have x2 := cx 2 _ rfl
            have x3 := cx 3 _ rfl
            have x4 := cx 4 _ rfl
            have y0 := cy 0 _ rfl
            have y1 := cy 1 _ rfl
            have y2 := cy 2 _ rfl
            have y3 := cy 3 _ rfl
            have y4 := cy 4 _ rfl
            simp only [Nat.add_zero] at x0 y0
            have ew : IntKind.i64.wrap (q : Int) = (q : Int) := IntWalk.i64_in _ (by omega)
            have f0 := own_frozen HR2.out ((q + 1) * 5)
            have f1 := own_frozen HR2.out ((q + 1) * 5 + 1)
            have f2 := own_frozen HR2.out ((q + 1) * 5 + 2)
            have f3 := own_frozen HR2.out ((q + 1) * 5 + 3)
            have f4 := own_frozen HR2.out ((q + 1) * 5 + 4)
            have g0 := own_frozen HR2.out (q * 5)
            have g1 := own_frozen HR2.out (q * 5 + 1)
            have g2 := own_frozen HR2.out (q * 5 + 2)
            have g3 := own_frozen HR2.out (q * 5 + 3)
            have g4 := own_frozen HR2.out (q * 5 + 4)
            have n0 : ∀ i j : Nat, i < 5 → j < 5 → ¬ ((q + 1) * 5 + i = q * 5 + j) := fun i j hi hj => by omega
            generalize cmpN x y = cc at e1
            clear hc cx cy gx gy hlen hown
            go_wp2_with fail
            go_region
            clear x0 x1 x2 x3 x4 y0 y1 y2 y3 y4 f0 f1 f2 f3 f4 g0 g1 g2 g3 g4 n0
            obtain ⟨s1, s2⟩ := own_swap HR2.out HQ.out
            have HR3 := Lib.hid s1
            have HG3 := Lib.hid (grown_trans HG2.out s2)
            clear s1 s2 HR2 HG2
            generalize ((((((((((w2.setCell ⟨g, (q + 1) * 5, none⟩ (.int .i64 y.kind)).setCell ⟨g, (q + 1) * 5 + 1, none⟩ (.string (bs y.owner))).setCell ⟨g, (q + 1) * 5 + 2, none⟩ (.int .i64 y.num)).setCell ⟨g, (q + 1) * 5 + 3, none⟩ (.int .i64 y.idx)).setCell ⟨g, (q + 1) * 5 + 4, none⟩ (.string (bs y.text))).setCell ⟨g, q * 5, none⟩ (.int .i64 x.kind)).setCell ⟨g, q * 5 + 1, none⟩ (.string (bs x.owner))).setCell ⟨g, q * 5 + 2, none⟩ (.int .i64 x.num)).setCell ⟨g, q * 5 + 3, none⟩ (.int .i64 x.idx)).setCell ⟨g, q * 5 + 4, none⟩ (.string (bs x.text))) = w3 at *
            go_wp2
            go_roundw
            case rel =>
              refine ⟨q, p0, y :: p2, r, x, by go_num, HQ.out, by rw [List.length_cons]; omega, hkn, ?_, by have := HW.out; rw [List.append_assoc] at this; exact this, fun e he => ?_, own_next HR3.out (Below.refl w3.heap.size w3).drew, only_drew HG3.out⟩
              · refine List.Perm.trans ?_ HP.out
                simp only [List.append_assoc]
                exact List.Perm.append_left _ (List.Perm.swap ..)
              · rcases List.mem_cons.1 he with rfl | he
                · exact HC.out
                · exact HX.out e he
            case measure => simp [intOf]
          · have e1 : decide (cmpN x y < 0) = false := by rw [decide_eq_false_iff_not]; exact hc
            have HC := Lib.hid hc
            generalize cmpN x y = cc at e1
            clear hc
            go_wp2_with fail
            go_roundw
            case rel =>
              refine ⟨k + 1, p0 ++ [y] ++ x :: p2 ++ r, by go_num, by omega, by omega, HP.out, ?_, HR2.out, HG2.out⟩
              rw [take_mid (p0 ++ [y]) p2 r x k (by rw [List.length_append, HQ.out]; simp; omega)]
              exact weak_exit ordN (fun a ha => HO.out a (HP.out.mem_iff.1 (List.mem_append_left _ ha))) HW.out HX.out (by have := HC.out; omega)
            case measure => simp [intOf]; omega
    · have HN := Lib.hid (show k = n ∨ k = n + 1 by omega)
      go_wp2
      go_end0
      refine ⟨rfl, l', HP.out, ?_, HR.out, HG.out⟩
      have hl' : l'.length = n := by rw [HP.out.length_eq, hn]
      have := HW.out
      rwa [List.take_of_length_le (by omega)] at this
end Go.Proofs.YtamjllakfgphnaaGreatDoor
/- Walks of layer 46: SortFunc of at most twelve names. -/
namespace Go.Proofs.YtamjllakfgphnaaGreatDoor
open Go.RowKit
set_option linter.unusedSimpArgs false
set_option linter.unusedVariables false
set_option maxRecDepth 100000 in
set_option maxHeartbeats 1000000 in
theorem len64_is (n : Nat) (w : World) (h : n ≤ 12) : Calls Tryz.prog 114 #[.int .u64 n] w fun e w' => (∃ k : Int, e = .returned (.int .i64 k)) ∧ w = w' := by
  have hc : n = 0 ∨ n = 1 ∨ n = 2 ∨ n = 3 ∨ n = 4 ∨ n = 5 ∨ n = 6 ∨ n = 7 ∨ n = 8 ∨ n = 9 ∨ n = 10 ∨ n = 11 ∨ n = 12 := by omega
  clear h
  rcases hc with rfl | rfl | rfl | rfl | rfl | rfl | rfl | rfl | rfl | rfl | rfl | rfl | rfl
  all_goals
    go_enter Tryz.func114, Tryz.ntmps114
    go_wp2
    go_ret
    exact ⟨⟨_, rfl⟩, rfl⟩
theorem insertion_nil {w : World} {base : Nat} : Calls Tryz.prog 178 #[.slice none 0 0, .int .i64 0, .int .i64 0, .func (.func 57) #[] #[]] w (InsP base (.slice none 0 0) 0 [] w) := by
  go_enter Tryz.func178, Tryz.ntmps178
  go_wp2
  refine wp_loop_rounds 1 ?_
  rw [rounds_succ]
  go_wp2
  go_end0
  exact ⟨rfl, [], List.Perm.refl _, List.Pairwise.nil, World.ownsRow_nil _ _ _ _, World.grownBy.refl _ _⟩
theorem insertion_any {w : World} {base n : Nat} {v : Value} {l : List Nm} (h : w.ownsRow base 26 5 v n (l.flatMap nmC)) (hn : l.length = n) (hl : n ≤ 12) (ho : ∀ a ∈ l, OwnE a) (hb : base ≤ w.heap.size) :
    Calls Tryz.prog 178 #[v, .int .i64 0, .int .i64 n, .func (.func 57) #[] #[]] w (InsP base v n l w) := by
  rcases h.2 with ⟨rfl, h0⟩ | ⟨g, cap, cur, rfl, _⟩
  · subst h0
    obtain rfl := List.length_eq_zero_iff.1 hn
    exact insertion_nil
  · exact insertion_is h hn hl ho hb
theorem pdq_is {w : World} {base n : Nat} {v : Value} {l : List Nm} {k : Int} (h : w.ownsRow base 26 5 v n (l.flatMap nmC)) (hn : l.length = n) (hl : n ≤ 12) (ho : ∀ a ∈ l, OwnE a) (hb : base ≤ w.heap.size) :
    Calls Tryz.prog 134 #[v, .int .i64 0, .int .i64 n, .int .i64 k, .func (.func 57) #[] #[]] w (InsP base v n l w) := by
  have H := Lib.hid (insertion_any h hn hl ho hb)
  have e1 : decide (n ≤ 12) = true := by simpa using hl
  clear h ho
  go_enter Tryz.func134, Tryz.ntmps134
  go_wp2
  refine wp_loop_rounds 1 ?_
  rw [rounds_succ]
  go_wp2_with fail
  refine H.out.mono ?_
  rintro e w' ⟨rfl, l', h1, h2, h3, h4⟩
  go_wp2
  go_end0
  exact ⟨rfl, l', h1, h2, h3, h4⟩
theorem sortfunc_is {w : World} {base n : Nat} {v : Value} {l : List Nm} (h : w.ownsRow base 26 5 v n (l.flatMap nmC)) (hn : l.length = n) (hl : n ≤ 12) (ho : ∀ a ∈ l, OwnE a) (hb : base ≤ w.heap.size) :
    Calls Tryz.prog 97 #[v, .func (.func 57) #[] #[]] w (InsP base v n l w) := by
  have H := Lib.hid (fun k => pdq_is (k := k) h hn hl ho hb)
  have HL := Lib.hid (len64_is n w hl)
  obtain ⟨A, c, rfl, _⟩ := own_len h
  clear h ho
  go_enter Tryz.func97, Tryz.ntmps97
  go_wp2_with fail
  refine HL.out.mono ?_
  rintro e w' ⟨⟨k, rfl⟩, rfl⟩
  go_wp2_with fail
  refine (H.out k).mono ?_
  rintro e w' ⟨rfl, l', h1, h2, h3, h4⟩
  go_wp2
  go_end0
  exact ⟨rfl, l', h1, h2, h3, h4⟩
end Go.Proofs.YtamjllakfgphnaaGreatDoor
/- Walks of layer 46: Compact of names without repeats, Sort. -/
namespace Go.Proofs.YtamjllakfgphnaaGreatDoor
open Go.RowKit
set_option linter.unusedSimpArgs false
set_option linter.unusedVariables false
def ComP (v : Value) (w : World) (e : Ending) (w' : World) : Prop := e = .returned v ∧ ∃ k, w' = w.drewN k
set_option maxRecDepth 100000 in
set_option maxHeartbeats 1000000 in
theorem compact_is {w : World} {v : Value} {l : List Nm} (h : RdNm w v l) (hl : l.length ≤ 100000) (hd : l.Nodup) : Calls Tryz.prog 98 #[v] w (ComP v w) := by
  obtain ⟨A, c, rfl, hc⟩ := h.form
  have H := Lib.hid h
  have HD := Lib.hid hd
  clear h hd
  have hg := guardNm
  by_cases h2 : l.length < 2
  · go_enter Tryz.func98, Tryz.ntmps98
    go_wp2
    go_ret
    exact ⟨rfl, 0, rfl⟩
  · go_enter Tryz.func98, Tryz.ntmps98
    go_wp2
    go_loopw [3] (fun i wr => ∃ (k m : Nat), i = .int .i64 k ∧ 1 ≤ k ∧ k ≤ l.length ∧ wr = w.drewN m) (fun i _ => l.length - (intOf i).toNat)
    case atStart => exact ⟨1, 0, rfl, Nat.le_refl _, by omega, rfl⟩
    case round =>
      obtain ⟨k, m, rfl, hk1, hk, hw⟩ := hrel
      have HW := Lib.hid hw
      have HR := Lib.hid (show RdNm wr (.slice A l.length c) l by rw [hw]; exact H.out)
      clear hw
      by_cases hlt : k < l.length
      · obtain ⟨q, rfl⟩ : ∃ q, k = q + 1 := ⟨k - 1, by omega⟩
        obtain ⟨b, o, rfl, hbb, x0, x1, x2, x3, x4⟩ := RdNm.piece HR.out hlt
        obtain ⟨b', o', e, _, y0, y1, y2, y3, y4⟩ := RdNm.piece HR.out (k := q) (by omega)
        obtain ⟨rfl, rfl⟩ : b' = b ∧ o' = o := by
          injection e with e; injection e with e1 e2; exact ⟨e1.symm, e2.symm⟩
        clear e
        obtain ⟨x, hx⟩ : ∃ x, l[q + 1] = x := ⟨_, rfl⟩
        obtain ⟨y, hy⟩ : ∃ y, l[q]'(by omega) = y := ⟨_, rfl⟩
        have hne : x ≠ y := by
          rw [← hx, ← hy]
          intro he
          have := (List.pairwise_iff_getElem.1 HD.out) q (q + 1) (by omega) hlt (by omega)
          exact this he.symm
        have he := fun W => eqlNm x y false (by simp [hne]) W
        rw [hx] at x0 x1 x2 x3 x4
        rw [hy] at y0 y1 y2 y3 y4
        unfold nmV nmA at he
        have i1 : (0 : Int) ≤ (q : Int) + 1 := by omega
        have i2 : (q : Int) + 1 < (l.length : Int) := by omega
        have i3 : (0 : Int) ≤ (q : Int) := by omega
        have i4 : (q : Int) < (l.length : Int) := by omega
        have ew : IntKind.i64.wrap (q : Int) = (q : Int) := IntWalk.i64_in _ (by omega)
        rw [show ((q + 1 : Nat) : Int) = (q : Int) + 1 by omega]
        clear hx hy hne
        go_wp2_with fail
        go_quiet (fail)
        clear x0 x1 x2 x3 x4 y0 y1 y2 y3 y4 ew he
        have HW2 := Lib.hid (show World.drewN wr nq = w.drewN (m + nq) by rw [HW.out, World.drewN_drewN])
        generalize World.drewN wr nq = w2 at *
        go_wp2
        go_roundw
        case rel => exact ⟨q + 1 + 1, m + nq, by go_num, by omega, by omega, HW2.out⟩
        case measure => simp [intOf]; omega
      · obtain rfl : k = l.length := by omega
        go_wp2
        go_ret
        exact ⟨rfl, m, HW.out⟩
/-- Sort of at most twelve different names. -/
def SortP (l : List Nm) (w : World) (e : Ending) (w' : World) : Prop := ∃ v, e = .returned v ∧ w'.ownsRow w.heap.size 26 5 v (sortU cmpN l).length ((sortU cmpN l).flatMap nmC) ∧ Below w.heap.size w w'
theorem nm_one (l : List Nm) : ∀ u ∈ l.flatMap nmC, u.oneCell' = true := by
  intro u hu
  obtain ⟨p, _, h⟩ := List.mem_flatMap.1 hu
  simp [nmC] at h
  rcases h with rfl | rfl | rfl | rfl | rfl <;> rfl
set_option maxRecDepth 100000 in
theorem sort_is {w : World} {v : Value} {l : List Nm} (h : RdNm w v l) (hl : l.length ≤ 12) (hd : l.Nodup) (ho : ∀ a ∈ l, OwnE a) : Calls Tryz.prog 79 #[v] w (SortP l w) := by
  have HC := Lib.hid (cloneNm h (fm_len nmC_len l) (nm_one l) (by omega))
  have HD := Lib.hid hd
  have HO := Lib.hid ho
  clear h hd ho
  go_enter Tryz.func79, Tryz.ntmps79
  go_wp2_with fail
  refine HC.out.mono ?_
  rintro e w2 ⟨v2, rfl, hown, hb⟩
  have HB := Lib.hid hb
  have hbs := hb.size
  clear hb
  go_wp2_with fail
  refine (sortfunc_is hown rfl hl HO.out hbs).mono ?_
  rintro e w3 ⟨rfl, l', hp, hw, hown3, hg⟩
  have HN := Lib.hid (hp.nodup_iff.2 HD.out)
  have hl' : l'.length = l.length := hp.length_eq
  have HS := Lib.hid (show l' = sortU cmpN l by
    have hS : ∀ a ∈ l', OwnE a := fun a ha => HO.out a (hp.mem_iff.1 ha)
    rw [← sortU_perm ordN HO.out hp]
    exact (sortU_strict ordN hS (strict_of_weak ordN hS hw HN.out)).symm)
  have HB3 := Lib.hid (below_own HB.out hown hg (Nat.le_refl _) hbs)
  rw [← hl'] at hown3
  have HR := Lib.hid hown3
  clear hown hown3 hg hp hw
  go_wp2_with fail
  refine (compact_is (l := l') (Rd.of_own HR.out) (by omega) HN.out).mono ?_
  rintro e w4 ⟨rfl, m, rfl⟩
  go_wp2
  go_ret
  rw [HS.out] at HR
  exact ⟨v2, rfl, own_next HR.out (below_drewN (Below.refl _ _) m), below_drewN HB3.out m⟩
end Go.Proofs.YtamjllakfgphnaaGreatDoor
/- Walks of layer 46: the objects of the runs. -/
namespace Go.Proofs.YtamjllakfgphnaaGreatDoor
open Go.RowKit
set_option linter.unusedSimpArgs false
set_option linter.unusedVariables false
def NmP (n : Nm) (w : World) (e : Ending) (w' : World) : Prop := e = .returned (nmV n) ∧ Below w.heap.size w w'
theorem clock_is (w : World) : Calls Tryz.prog 75 #[] w (NmP obC w) := by
  go_enter Tryz.func75, Tryz.ntmps75
  go_wp2
  exact bodyPost_ret (v := nmV obC) (by simp [results, Tryz.results75, go_sem, nmV, nmA, obC, bs]) rfl ⟨rfl, (Below.refl _ _).alloc (Nat.le_refl _) _⟩
theorem terminal_is (n : Int) (w : World) : Calls Tryz.prog 74 #[.int .i64 n] w (NmP ⟨13, [], n, 0, []⟩ w) := by
  go_enter Tryz.func74, Tryz.ntmps74
  go_wp2
  exact bodyPost_ret (v := nmV ⟨13, [], n, 0, []⟩) (by simp [results, Tryz.results74, go_sem, nmV, nmA, bs]) rfl ⟨rfl, (Below.refl _ _).alloc (Nat.le_refl _) _⟩
theorem box_is (s : Bs) (w : World) : Calls Tryz.prog 36 #[.string (bs s)] w (NmP ⟨17, [], 0, 0, s⟩ w) := by
  go_enter Tryz.func36, Tryz.ntmps36
  go_wp2
  exact bodyPost_ret (v := nmV ⟨17, [], 0, 0, s⟩) (by simp [results, Tryz.results36, go_sem, nmV, nmA, bs]) rfl ⟨rfl, (Below.refl _ _).alloc (Nat.le_refl _) _⟩
end Go.Proofs.YtamjllakfgphnaaGreatDoor
