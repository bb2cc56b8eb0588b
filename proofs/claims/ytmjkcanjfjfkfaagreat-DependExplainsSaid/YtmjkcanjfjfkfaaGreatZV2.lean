/- Walks and plain facts, packed: B6, B7, B8, B9, B10. -/
import Derived.ArgAppend
import Derived.ChangeBookTie2
import Derived.Shelf.SlicesQ.Reverse
import Derived.Ground.SlgnProg
import Derived.Shelf.SlGeneric
import Derived.Sort.BigQuietIn
import Derived.Test.YtmjkcanjfjfkfaaGreatZV1
namespace Go.Proofs.YtmjkcanjfjfkfaaGreat
open Go.RowKit
set_option linter.unusedSimpArgs false
set_option linter.unusedVariables false
attribute [local go_sem ↓] Go.wp_at_zero Go.wp_at_succ
theorem blk_map {w w' : World} {g t b : Nat} {cs : Array Value} {ents : List (Nm × Value)} (h : Blk w g t cs) (hm : MapAt w b ents) (hg : w.grownBy w' (some b)) : Blk w' g t cs := by
  obtain ⟨es, c, hb, _⟩ := hm
  exact h.grown hg (fun e => by
    injection e with e
    subst e
    unfold Blk at h
    rw [hb] at h
    cases h)
theorem own_map {w w' : World} {base e s n b : Nat} {v : Value} {xs : List Value} {ents : List (Nm × Value)} (h : w.ownsRow base e s v n xs) (hm : MapAt w b ents) (hg : w.grownBy w' (some b)) : w'.ownsRow base e s v n xs := by
  obtain ⟨es, c, hb, _⟩ := hm
  exact h.kept hg (.inr (own_not_map h hb))
theorem zeroinC (w : World) : (zeroValue 68).run Tryz.prog w = .ok (.slice none 0 0) w := by kernel_rfl
end Go.Proofs.YtmjkcanjfjfkfaaGreat
namespace Go.Proofs.YtmjkcanjfjfkfaaGreat
open Go.RowKit
set_option linter.unusedSimpArgs false
set_option linter.unusedVariables false
attribute [local go_sem ↓] Go.wp_at_zero Go.wp_at_succ
end Go.Proofs.YtmjkcanjfjfkfaaGreat
namespace Go.Proofs.YtmjkcanjfjfkfaaGreat
open Go.RowKit
set_option linter.unusedSimpArgs false
set_option linter.unusedVariables false
attribute [local go_sem ↓] Go.wp_at_zero Go.wp_at_succ
theorem compare_kind (a b : Nm) (w : World) (h : cmpI a.kind b.kind ≠ 0) : Calls Tryz.prog 42 #[nmV a, nmV b] w fun e w' => e = .returned (.int .i64 (cmpN a b)) ∧ Below w.heap.size w w' := by
  have e : cmpN a b = cmpI a.kind b.kind := by unfold cmpN; rw [if_pos h]
  rw [e]; clear e; have hk := cmp_i a.kind b.kind; generalize cmpI a.kind b.kind = c at *; have HK := Lib.hid hk; clear hk
  have e1 : (c != 0) = true := by simpa using h
  obtain ⟨k, o, n, i, t⟩ := a; obtain ⟨k', o', n', i', t'⟩ := b
  unfold nmV nmA
  simp only at HK ⊢
  clear h
  go_enter Tryz.func42, Tryz.ntmps42
  go_wp2_with (go_at_call 36; refine (HK.out _).mono ?_; rintro e w' ⟨rfl, rfl⟩)
  go_ret
  exact ⟨rfl, ((Below.refl _ _).alloc (Nat.le_refl _) _).alloc (by simp) _⟩
set_option maxRecDepth 100000 in
theorem compare_own (a b : Nm) (w : World) (ha : a.owner ∈ lin5) (hb : b.owner ∈ lin5) (h : cmpI a.kind b.kind = 0) (h2 : cmpS a.owner b.owner ≠ 0) : Calls Tryz.prog 42 #[nmV a, nmV b] w fun e w' => e = .returned (.int .i64 (cmpN a b)) ∧ Below w.heap.size w w' := by
  have e : cmpN a b = cmpS a.owner b.owner := by unfold cmpN; rw [if_neg (by simpa using h), if_pos h2]
  rw [e]; clear e; have HK : Hid (∀ w, Calls Tryz.prog 36 #[.int .i64 a.kind, .int .i64 b.kind] w fun e w' => e = .returned (.int .i64 0) ∧ w = w') := Lib.hid (h ▸ cmp_i a.kind b.kind); have HO := Lib.hid (fun W => lin_cmp5 W ha hb); generalize cmpS a.owner b.owner = c at *
  have e1 : (c != 0) = true := by simpa using h2
  obtain ⟨k, o, n, i, t⟩ := a; obtain ⟨k', o', n', i', t'⟩ := b
  unfold nmV nmA
  simp only at HK HO ⊢
  clear h h2 ha hb; have hW : Below w.heap.size w ((w.alloc (.cells #[.int .i64 k, .string (bs o), .int .i64 n, .int .i64 i, .string (bs t)] 45)).alloc (.cells #[.int .i64 k', .string (bs o'), .int .i64 n', .int .i64 i', .string (bs t')] 45)) := ((Below.refl _ _).alloc (Nat.le_refl _) _).alloc (by simp) _; have HW := Lib.hid hW; clear hW
  go_enter Tryz.func42, Tryz.ntmps42
  go_wp2_with (first | (go_at_call 36; refine (HK.out _).mono ?_; rintro e w' ⟨rfl, rfl⟩) | (go_at_call 37; refine (HO.out _).mono ?_; rintro e w3 ⟨rfl, hb3⟩; have HB3 := Lib.hid (HW.out.trans (hb3.mono HW.out.size)); clear hb3))
  go_ret
  exact ⟨rfl, HB3.out⟩
set_option maxRecDepth 100000 in
theorem compare_rest (a b : Nm) (w : World) (ha : a.owner ∈ lin5) (hb : b.owner ∈ lin5) (h : cmpI a.kind b.kind = 0) (h2 : cmpS a.owner b.owner = 0) : Calls Tryz.prog 42 #[nmV a, nmV b] w fun e w' => e = .returned (.int .i64 (cmpN a b)) ∧ Below w.heap.size w w' := by
  have e : cmpN a b = or3 (cmpI a.num b.num) (cmpI a.idx b.idx) (cmpS a.text b.text) := by unfold cmpN; rw [if_neg (by simpa using h), if_neg (by simpa using h2)]
  rw [e]; clear e; have HK : Hid (∀ w, Calls Tryz.prog 36 #[.int .i64 a.kind, .int .i64 b.kind] w fun e w' => e = .returned (.int .i64 0) ∧ w = w') := Lib.hid (h ▸ cmp_i a.kind b.kind); have HN := Lib.hid (cmp_i a.num b.num); have HI := Lib.hid (cmp_i a.idx b.idx); have HT := Lib.hid (cmp_s a.text b.text); have HO : Hid (∀ w, Calls Tryz.prog 37 #[.string (bs a.owner), .string (bs b.owner)] w fun e w' => e = .returned (.int .i64 0) ∧ Below w.heap.size w w') := Lib.hid (fun W => h2 ▸ lin_cmp5 W ha hb); obtain ⟨k, o, n, i, t⟩ := a; obtain ⟨k', o', n', i', t'⟩ := b
  unfold nmV nmA
  simp only at HK HN HI HT HO ⊢
  clear h h2 ha hb; generalize cmpI n n' = c1 at *; generalize cmpI i i' = c2 at *; generalize cmpS t t' = c3 at *; have hW : Below w.heap.size w ((w.alloc (.cells #[.int .i64 k, .string (bs o), .int .i64 n, .int .i64 i, .string (bs t)] 45)).alloc (.cells #[.int .i64 k', .string (bs o'), .int .i64 n', .int .i64 i', .string (bs t')] 45)) := ((Below.refl _ _).alloc (Nat.le_refl _) _).alloc (by simp) _; have b0 := (Blk.new w 45 #[.int .i64 k, .string (bs o), .int .i64 n, .int .i64 i, .string (bs t)]).alloc (.cells #[.int .i64 k', .string (bs o'), .int .i64 n', .int .i64 i', .string (bs t')] 45); have b1 := Blk.new (w.alloc (.cells #[.int .i64 k, .string (bs o), .int .i64 n, .int .i64 i, .string (bs t)] 45)) 45 #[.int .i64 k', .string (bs o'), .int .i64 n', .int .i64 i', .string (bs t')]; rw [World.size_alloc] at b1; have HW := Lib.hid hW; have B0 := Lib.hid b0; have B1 := Lib.hid b1; clear hW b0 b1
  go_enter Tryz.func42, Tryz.ntmps42
  go_upto_region 15 with (first | (go_at_call 36; refine (HK.out _).mono ?_; rintro e w' ⟨rfl, rfl⟩) | (go_at_call 37; refine (HO.out _).mono ?_; rintro e w3 ⟨rfl, hb3⟩; have Z0 := Lib.hid (B0.out.next hb3 B0.out.lt); have Z1 := Lib.hid (B1.out.next hb3 B1.out.lt); have HB3 := Lib.hid (HW.out.trans (hb3.mono HW.out.size)); clear hb3))
  have x2 := Z0.out.cell 2; have x3 := Z0.out.cell 3; have x4 := Z0.out.cell 4; have y2 := Z1.out.cell 2; have y3 := Z1.out.cell 3; have y4 := Z1.out.cell 4; simp only [qB, qC, qD] at x2 x3 x4 y2 y3 y4; clear B0 B1 HW
  refine wp_region_still_tail 15 (by kernel_rfl) (by kernel_rfl) ?_
  simp only [List.take_succ_cons, List.take_zero, List.drop_succ_cons, List.drop_zero]
  iterate 4 still_step
  still_call (still_of (HN.out _))
  iterate 4 still_step
  still_call (still_of (HI.out _))
  iterate 4 still_step
  still_call (still_of (HT.out _))
  refine wpStill_nil ?_
  clear HK HN HI HT HO x2 x3 x4 y2 y3 y4 Z0 Z1
  show wpList _ _ _ _ _ w3.drew
  have z := Blk.new w3.drew 3 #[.int .i64 c1, .int .i64 c2, .int .i64 c3]
  go_wp2_with fail
  refine (or_3 c1 c2 c3 _ w3.heap.size (z.cell 0) (z.cell 1) (z.cell 2)).mono ?_; clear z; rintro e w' ⟨rfl, rfl⟩
  go_wp2
  go_ret
  exact ⟨rfl, (HB3.out.drew.alloc (by simpa using HB3.out.size) _)⟩
theorem compare_is (a b : Nm) (w : World) (ha : a.owner ∈ lin5) (hb : b.owner ∈ lin5) : Calls Tryz.prog 42 #[nmV a, nmV b] w fun e w' => e = .returned (.int .i64 (cmpN a b)) ∧ Below w.heap.size w w' := by
  by_cases h : cmpI a.kind b.kind = 0
  · by_cases h2 : cmpS a.owner b.owner = 0
    · exact compare_rest a b w ha hb h h2
    · exact compare_own a b w ha hb h h2
  · exact compare_kind a b w h
end Go.Proofs.YtmjkcanjfjfkfaaGreat
namespace Go.Proofs.YtmjkcanjfjfkfaaGreat
open Go.RowKit
set_option linter.unusedSimpArgs false
set_option linter.unusedVariables false
theorem own_cells {α : Type} {f : α → List Value} {s : Nat} (hf : ∀ x, (f x).length = s) {w : World} {base g c : Nat} {e : TypeId} {n : Nat} {l : List α} (h : w.ownsRow base e s (.slice (some ⟨g, 0, none⟩) n c) n (l.flatMap f)) {k : Nat} (hk : k < l.length) {x : α} (hx : l[k] = x) : ∀ j y, (f x)[j]? = some y → w.cell? ⟨g, k * s + j, none⟩ = some y := by
  intro j y hy
  have hj : j < s := by
    rcases Nat.lt_or_ge j s with h | h
    · exact h
    · rw [List.getElem?_eq_none (by rw [hf]; exact h)] at hy; cases hy
  have h2 := h.cells (g := g) rfl (k * s + j) y ((fm_get hf l k hk j hj).trans (by rw [hx]; exact hy)); rw [add_off, Nat.zero_add] at h2
  exact h2
theorem own_frozen {w : World} {base g c e s n : Nat} {xs : List Value} (h : w.ownsRow base e s (.slice (some ⟨g, 0, none⟩) n c) n xs) (i : Nat) : w.frozen? ⟨g, i, none⟩ = false := by
  obtain ⟨_, ⟨h2, _⟩ | ⟨g', cap, cur, hv, _, hh, _⟩⟩ := h
  · cases h2
  · injection hv with hv
    injection hv with hv
    injection hv with hv
    subst hv
    exact Blk.frozen (show Blk w g e cur from hh) i
theorem set5 {α : Type} (A R : List α) (m : Nat) (hA : A.length = m) (b0 b1 b2 b3 b4 u0 u1 u2 u3 u4 : α) : (((((A ++ [b0, b1, b2, b3, b4] ++ R).set m u0).set (m + 1) u1).set (m + 2) u2).set (m + 3) u3).set (m + 4) u4 = A ++ [u0, u1, u2, u3, u4] ++ R := by
  subst hA
  simp [List.set_append]
theorem own_swap {w : World} {base g c n q : Nat} {p0 p2 r : List Nm} {x y : Nm} (h : w.ownsRow base 45 5 (.slice (some ⟨g, 0, none⟩) n c) n ((p0 ++ [y] ++ x :: p2 ++ r).flatMap nmC)) (hq : p0.length = q) :
    ((((((((((w.setCell ⟨g, (q + 1) * 5, none⟩ (.int .i64 y.kind)).setCell ⟨g, (q + 1) * 5 + 1, none⟩ (.string (bs y.owner))).setCell ⟨g, (q + 1) * 5 + 2, none⟩ (.int .i64 y.num)).setCell ⟨g, (q + 1) * 5 + 3, none⟩ (.int .i64 y.idx)).setCell ⟨g, (q + 1) * 5 + 4, none⟩ (.string (bs y.text))).setCell ⟨g, q * 5, none⟩ (.int .i64 x.kind)).setCell ⟨g, q * 5 + 1, none⟩ (.string (bs x.owner))).setCell ⟨g, q * 5 + 2, none⟩ (.int .i64 x.num)).setCell ⟨g, q * 5 + 3, none⟩ (.int .i64 x.idx)).setCell ⟨g, q * 5 + 4, none⟩ (.string (bs x.text))).ownsRow base 45 5 (.slice (some ⟨g, 0, none⟩) n c) n ((p0 ++ x :: (y :: p2) ++ r).flatMap nmC) ∧ w.grownBy ((((((((((w.setCell ⟨g, (q + 1) * 5, none⟩ (.int .i64 y.kind)).setCell ⟨g, (q + 1) * 5 + 1, none⟩ (.string (bs y.owner))).setCell ⟨g, (q + 1) * 5 + 2, none⟩ (.int .i64 y.num)).setCell ⟨g, (q + 1) * 5 + 3, none⟩ (.int .i64 y.idx)).setCell ⟨g, (q + 1) * 5 + 4, none⟩ (.string (bs y.text))).setCell ⟨g, q * 5, none⟩ (.int .i64 x.kind)).setCell ⟨g, q * 5 + 1, none⟩ (.string (bs x.owner))).setCell ⟨g, q * 5 + 2, none⟩ (.int .i64 x.num)).setCell ⟨g, q * 5 + 3, none⟩ (.int .i64 x.idx)).setCell ⟨g, q * 5 + 4, none⟩ (.string (bs x.text))) (some g) := by
  have e1 : (p0 ++ [y] ++ x :: p2 ++ r).flatMap nmC = ((p0 ++ [y]).flatMap nmC) ++ [.int .i64 x.kind, .string (bs x.owner), .int .i64 x.num, .int .i64 x.idx, .string (bs x.text)] ++ ((p2 ++ r).flatMap nmC) := by simp [nmC]
  have e2 : ((p0 ++ [y]).flatMap nmC) ++ [Value.int .i64 y.kind, .string (bs y.owner), .int .i64 y.num, .int .i64 y.idx, .string (bs y.text)] ++ ((p2 ++ r).flatMap nmC) = (p0.flatMap nmC) ++ [.int .i64 y.kind, .string (bs y.owner), .int .i64 y.num, .int .i64 y.idx, .string (bs y.text)] ++ (nmC y ++ (p2 ++ r).flatMap nmC) := by simp [nmC]
  have e3 : (p0 ++ x :: (y :: p2) ++ r).flatMap nmC = (p0.flatMap nmC) ++ [.int .i64 x.kind, .string (bs x.owner), .int .i64 x.num, .int .i64 x.idx, .string (bs x.text)] ++ (nmC y ++ (p2 ++ r).flatMap nmC) := by simp [nmC]
  have l1 : ((p0 ++ [y]).flatMap nmC).length = (q + 1) * 5 := by rw [fm_len nmC_len]; simp [hq]
  have l2 : (p0.flatMap nmC).length = q * 5 := by rw [fm_len nmC_len, hq]
  have a0 := h.stored ((q + 1) * 5) (.int .i64 y.kind); have a1 := a0.1.stored ((q + 1) * 5 + 1) (.string (bs y.owner)); have a2 := a1.1.stored ((q + 1) * 5 + 2) (.int .i64 y.num); have a3 := a2.1.stored ((q + 1) * 5 + 3) (.int .i64 y.idx); have a4 := a3.1.stored ((q + 1) * 5 + 4) (.string (bs y.text)); have b0 := a4.1.stored (q * 5) (.int .i64 x.kind); have b1 := b0.1.stored (q * 5 + 1) (.string (bs x.owner)); have b2 := b1.1.stored (q * 5 + 2) (.int .i64 x.num); have b3 := b2.1.stored (q * 5 + 3) (.int .i64 x.idx); have b4 := b3.1.stored (q * 5 + 4) (.string (bs x.text))
  refine ⟨?_, grown_trans a0.2 (grown_trans a1.2 (grown_trans a2.2 (grown_trans a3.2 (grown_trans a4.2 (grown_trans b0.2 (grown_trans b1.2 (grown_trans b2.2 (grown_trans b3.2 b4.2))))))))⟩
  have := b4.1; rw [e1, set5 _ _ _ l1, e2, set5 _ _ _ l2, ← e3] at this
  exact this
def InsP (base : Nat) (v : Value) (n : Nat) (l : List Nm) (w : World) (e : Ending) (w' : World) : Prop :=
  e = .returned (.tuple #[]) ∧ ∃ l' : List Nm, l'.Perm l ∧ Weak cmpN l' ∧ w'.ownsRow base 45 5 v n (l'.flatMap nmC) ∧ w.grownBy w' v.ownBlock
def InsRel (base : Nat) (v : Value) (n : Nat) (l : List Nm) (w : World) (i : Value) (wr : World) : Prop :=
  ∃ (k : Nat) (l' : List Nm), i = .int .i64 k ∧ 1 ≤ k ∧ k ≤ n + 1 ∧ l'.Perm l ∧ Weak cmpN (l'.take k) ∧ wr.ownsRow base 45 5 v n (l'.flatMap nmC) ∧ w.grownBy wr v.ownBlock
def InsIn (base : Nat) (v : Value) (n k : Nat) (l : List Nm) (w : World) (j : Value) (wr : World) : Prop :=
  ∃ (q : Nat) (p1 p2 r : List Nm) (x : Nm), j = .int .i64 (q : Int) ∧ p1.length = q ∧ q + p2.length = k ∧ k < n ∧ (p1 ++ x :: p2 ++ r).Perm l ∧ Weak cmpN (p1 ++ p2) ∧ (∀ e ∈ p2, cmpN x e < 0) ∧ wr.ownsRow base 45 5 v n ((p1 ++ x :: p2 ++ r).flatMap nmC) ∧ w.grownBy wr v.ownBlock
set_option maxRecDepth 100000 in
set_option maxHeartbeats 1000000 in
theorem insertion_is {w : World} {base g c n : Nat} {l : List Nm} (h : w.ownsRow base 45 5 (.slice (some ⟨g, 0, none⟩) n c) n (l.flatMap nmC)) (hn : l.length = n) (hl : n ≤ 12) (ho : ∀ a ∈ l, OwnE a) (hb : base ≤ w.heap.size) :
    Calls Tryz.prog 85 #[.slice (some ⟨g, 0, none⟩) n c, .int .i64 0, .int .i64 n, .func (.func 42) #[] #[]] w (InsP base (.slice (some ⟨g, 0, none⟩) n c) n l w) := by
  have H0 : Hid (InsRel base (.slice (some ⟨g, 0, none⟩) n c) n l w (.int .i64 (1 : Nat)) w) := Lib.hid ⟨1, l, rfl, Nat.le_refl _, by omega, List.Perm.refl _, by
    cases l with
    | nil => simp [Weak]
    | cons a r => simp [Weak], h, World.grownBy.refl _ _⟩
  have HO := Lib.hid ho; clear h ho
  go_enter Tryz.func85, Tryz.ntmps85
  go_wp2
  go_loopw [8] (fun i wr => InsRel base (.slice (some ⟨g, 0, none⟩) n c) n l w i wr) (fun i _ => n + 1 - (intOf i).toNat)
  case atStart => exact H0.out
  case round =>
    clear H0; obtain ⟨k, l', rfl, hk1, hk, hp, hw, hown, hg⟩ := hrel; obtain ⟨wo, rfl⟩ : ∃ wo : World, wo = wr := ⟨_, rfl⟩; have HP := Lib.hid hp; have HW := Lib.hid hw; have HR := Lib.hid hown; have HG := Lib.hid hg; clear hp hw hown hg
    by_cases hlt : k < n
    · have H1 : Hid (InsIn base (.slice (some ⟨g, 0, none⟩) n c) n k l w (.int .i64 k) wo) := Lib.hid (by
        have hl' : l'.length = n := by rw [HP.out.length_eq, hn]
        have hkl : k < l'.length := by omega
        have e : l' = l'.take k ++ l'[k] :: [] ++ l'.drop (k + 1) := by rw [List.append_assoc, List.cons_append, List.nil_append, ← List.drop_eq_getElem_cons hkl, List.take_append_drop]
        refine ⟨k, l'.take k, [], l'.drop (k + 1), l'[k], rfl, by rw [List.length_take, Nat.min_eq_left (by omega)], rfl, hlt, by rw [← e]; exact HP.out, by rw [List.append_nil]; exact HW.out, by simp, by rw [← e]; exact HR.out, HG.out⟩)
      clear HP HW HR HG
      go_wp2
      go_loopw [9] (fun j wr => InsIn base (.slice (some ⟨g, 0, none⟩) n c) n k l w j wr) (fun j _ => (intOf j).toNat)
      case atStart => exact H1.out
      case round =>
        clear H1; obtain ⟨q, p1, p2, r, x, rfl, hq, hjk, hkn, hp, hw, hx, hown, hg⟩ := hrel; have HP := Lib.hid hp; have HW := Lib.hid hw; have HX := Lib.hid hx; have HR := Lib.hid hown; have HG := Lib.hid hg; clear hp hw hx hg
        cases q with
        | zero =>
          obtain rfl := List.length_eq_zero_iff.1 hq
          go_wp2_with fail
          go_quiet (fail)
          have HR2 := Lib.hid (own_next HR.out (below_drewN (Below.refl wr.heap.size wr) nq)); have HG2 := Lib.hid (only_drewN HG.out nq); clear HR HG hown; generalize World.drewN wr nq = w2 at *
          go_wp2
          go_roundw
          case rel =>
            refine ⟨k + 1, [] ++ x :: p2 ++ r, by go_num, by omega, by omega, HP.out, ?_, HR2.out, HG2.out⟩
            have e : ([] ++ x :: p2 ++ r).take (k + 1) = x :: p2 := by
              have hk2 : p2.length = k := by simpa using hjk
              rw [List.nil_append, List.cons_append, List.take_succ_cons, ← hk2, List.take_left]
            rw [e]
            exact List.pairwise_cons.2 ⟨fun e he => Int.le_of_lt (HX.out e he), by have := HW.out; unfold Weak at this; simpa using this⟩
          case measure => simp [intOf]; omega
        | succ q =>
          obtain ⟨p0, y, rfl⟩ : ∃ p0 y, p1 = p0 ++ [y] := ⟨p1.dropLast, p1.getLast (by rintro rfl; simp at hq), (List.dropLast_concat_getLast _).symm⟩
          have hq0 : p0.length = q := by simpa using hq
          have hlen : (p0 ++ [y] ++ x :: p2 ++ r).length = n := by rw [HP.out.length_eq, hn]
          have gy : (p0 ++ [y] ++ x :: p2 ++ r)[q]'(by rw [hlen]; omega) = y := by
            simp only [List.append_assoc]
            rw [List.getElem_append_right (by omega)]
            simp [hq0]
          have gx : (p0 ++ [y] ++ x :: p2 ++ r)[q + 1]'(by rw [hlen]; omega) = x := by
            simp only [List.append_assoc]
            rw [List.getElem_append_right (by omega)]
            simp [hq0]
          have cy := own_cells nmC_len hown (by rw [hlen]; omega) gy; have cx := own_cells nmC_len hown (by rw [hlen]; omega) gx; have x0 := cx 0 _ rfl; have x1 := cx 1 _ rfl; have x2 := cx 2 _ rfl; have x3 := cx 3 _ rfl; have x4 := cx 4 _ rfl; have y0 := cy 0 _ rfl; have y1 := cy 1 _ rfl; have y2 := cy 2 _ rfl; have y3 := cy 3 _ rfl; have y4 := cy 4 _ rfl
          have i1 : (0 : Int) ≤ (q : Int) + 1 := by omega
          have i2 : (q : Int) + 1 < (n : Int) := by omega
          have i3 : (0 : Int) ≤ (q : Int) := by omega
          have i4 : (q : Int) < (n : Int) := by omega
          have e0 : decide ((0 : Int) < (q : Int) + 1) = true := by rw [decide_eq_true_eq]; omega
          have ox : OwnE x := HO.out x (HP.out.mem_iff.1 (by simp)); have oy : OwnE y := HO.out y (HP.out.mem_iff.1 (by simp)); have HC := Lib.hid (compare_is x y wr.drew ox oy); have HQ := Lib.hid hq0; clear cx cy gx gy hq hq0 hown hlen; rw [show ((q + 1 : Nat) : Int) = (q : Int) + 1 by omega]
          simp only [Nat.add_zero] at x0 y0
          have ew : IntKind.i64.wrap (q : Int) = (q : Int) := IntWalk.i64_in _ (by omega)
          go_wp2_with fail
          refine wp_region_still_tail 14 (by kernel_rfl) (by kernel_rfl) ?_
          simp only [List.take_succ_cons, List.take_zero, List.drop_succ_cons, List.drop_zero]
          iterate 14 still_step
          refine wpStill_nil ?_
          show wpList _ _ _ _ _ wr.drew
          clear x0 x1 x2 x3 x4 y0 y1 y2 y3 y4 ew
          go_wp2_with fail
          refine HC.out.mono ?_
          rintro e w2 ⟨rfl, hb⟩; have hb2 := (Below.refl wr.heap.size wr).drew.trans hb; have HR2 := Lib.hid (own_next HR.out hb2); have HG2 := Lib.hid (grown_trans HG.out (only_of_below hb2 _)); clear hb hb2 HR HG HC
          by_cases hc : cmpN x y < 0
          · have e1 : decide (cmpN x y < 0) = true := by rw [decide_eq_true_eq]; exact hc
            have HC := Lib.hid hc; have hown := HR2.out
            have hlen : (p0 ++ [y] ++ x :: p2 ++ r).length = n := by rw [HP.out.length_eq, hn]
            have gy : (p0 ++ [y] ++ x :: p2 ++ r)[q]'(by rw [hlen]; omega) = y := by
              simp only [List.append_assoc]
              rw [List.getElem_append_right (by have := HQ.out; omega)]
              simp [HQ.out]
            have gx : (p0 ++ [y] ++ x :: p2 ++ r)[q + 1]'(by rw [hlen]; omega) = x := by
              simp only [List.append_assoc]
              rw [List.getElem_append_right (by have := HQ.out; omega)]
              simp [HQ.out]
            have cy := own_cells nmC_len hown (by rw [hlen]; omega) gy; have cx := own_cells nmC_len hown (by rw [hlen]; omega) gx; have x0 := cx 0 _ rfl; have x1 := cx 1 _ rfl; have x2 := cx 2 _ rfl; have x3 := cx 3 _ rfl; have x4 := cx 4 _ rfl; have y0 := cy 0 _ rfl; have y1 := cy 1 _ rfl; have y2 := cy 2 _ rfl; have y3 := cy 3 _ rfl; have y4 := cy 4 _ rfl
            simp only [Nat.add_zero] at x0 y0
            have ew : IntKind.i64.wrap (q : Int) = (q : Int) := IntWalk.i64_in _ (by omega); have f0 := own_frozen HR2.out ((q + 1) * 5); have f1 := own_frozen HR2.out ((q + 1) * 5 + 1); have f2 := own_frozen HR2.out ((q + 1) * 5 + 2); have f3 := own_frozen HR2.out ((q + 1) * 5 + 3); have f4 := own_frozen HR2.out ((q + 1) * 5 + 4); have g0 := own_frozen HR2.out (q * 5); have g1 := own_frozen HR2.out (q * 5 + 1); have g2 := own_frozen HR2.out (q * 5 + 2); have g3 := own_frozen HR2.out (q * 5 + 3); have g4 := own_frozen HR2.out (q * 5 + 4)
            have n0 : ∀ i j : Nat, i < 5 → j < 5 → ¬ ((q + 1) * 5 + i = q * 5 + j) := fun i j hi hj => by omega
            generalize cmpN x y = cc at e1; clear hc cx cy gx gy hlen hown
            go_wp2_with fail
            go_region
            clear x0 x1 x2 x3 x4 y0 y1 y2 y3 y4 f0 f1 f2 f3 f4 g0 g1 g2 g3 g4 n0; obtain ⟨s1, s2⟩ := own_swap HR2.out HQ.out; have HR3 := Lib.hid s1; have HG3 := Lib.hid (grown_trans HG2.out s2); clear s1 s2 HR2 HG2; generalize ((((((((((w2.setCell ⟨g, (q + 1) * 5, none⟩ (.int .i64 y.kind)).setCell ⟨g, (q + 1) * 5 + 1, none⟩ (.string (bs y.owner))).setCell ⟨g, (q + 1) * 5 + 2, none⟩ (.int .i64 y.num)).setCell ⟨g, (q + 1) * 5 + 3, none⟩ (.int .i64 y.idx)).setCell ⟨g, (q + 1) * 5 + 4, none⟩ (.string (bs y.text))).setCell ⟨g, q * 5, none⟩ (.int .i64 x.kind)).setCell ⟨g, q * 5 + 1, none⟩ (.string (bs x.owner))).setCell ⟨g, q * 5 + 2, none⟩ (.int .i64 x.num)).setCell ⟨g, q * 5 + 3, none⟩ (.int .i64 x.idx)).setCell ⟨g, q * 5 + 4, none⟩ (.string (bs x.text))) = w3 at *
            go_wp2
            go_roundw
            case rel =>
              refine ⟨q, p0, y :: p2, r, x, by go_num, HQ.out, by rw [List.length_cons]; omega, hkn, ?_, by have := HW.out; rw [List.append_assoc] at this; exact this, fun e he => ?_, own_next HR3.out (Below.refl w3.heap.size w3).drew, only_drew HG3.out⟩
              · refine List.Perm.trans ?_ HP.out
                simp only [List.append_assoc]
                exact List.Perm.append_left _ (List.Perm.swap ..)
              · rcases List.mem_cons.1 he with rfl | he
                · exact HC.out
                · exact HX.out e he
            case measure => simp [intOf]
          · have e1 : decide (cmpN x y < 0) = false := by rw [decide_eq_false_iff_not]; exact hc
            have HC := Lib.hid hc; generalize cmpN x y = cc at e1; clear hc
            go_wp2_with fail
            go_roundw
            case rel =>
              refine ⟨k + 1, p0 ++ [y] ++ x :: p2 ++ r, by go_num, by omega, by omega, HP.out, ?_, HR2.out, HG2.out⟩
              rw [take_mid (p0 ++ [y]) p2 r x k (by rw [List.length_append, HQ.out]; simp; omega)]
              exact weak_exit ordN (fun a ha => HO.out a (HP.out.mem_iff.1 (List.mem_append_left _ ha))) HW.out HX.out (by have := HC.out; omega)
            case measure => simp [intOf]; omega
    · have HN := Lib.hid (show k = n ∨ k = n + 1 by omega)
      go_wp2
      go_end0
      refine ⟨rfl, l', HP.out, ?_, HR.out, HG.out⟩
      have hl' : l'.length = n := by rw [HP.out.length_eq, hn]
      have := HW.out
      rwa [List.take_of_length_le (by omega)] at this
end Go.Proofs.YtmjkcanjfjfkfaaGreat
namespace Go.Proofs.YtmjkcanjfjfkfaaGreat
open Go.RowKit
set_option linter.unusedSimpArgs false
set_option linter.unusedVariables false
set_option maxRecDepth 100000 in
set_option maxHeartbeats 1000000 in
theorem len64_is (n : Nat) (w : World) (h : n ≤ 12) : Calls Tryz.prog 78 #[.int .u64 n] w fun e w' => (∃ k : Int, e = .returned (.int .i64 k)) ∧ w = w' := by
  have hc : n = 0 ∨ n = 1 ∨ n = 2 ∨ n = 3 ∨ n = 4 ∨ n = 5 ∨ n = 6 ∨ n = 7 ∨ n = 8 ∨ n = 9 ∨ n = 10 ∨ n = 11 ∨ n = 12 := by omega
  clear h
  rcases hc with rfl | rfl | rfl | rfl | rfl | rfl | rfl | rfl | rfl | rfl | rfl | rfl | rfl
  all_goals
    go_enter Tryz.func78, Tryz.ntmps78
    go_wp2
    go_ret
    exact ⟨⟨_, rfl⟩, rfl⟩
theorem insertion_nil {w : World} {base : Nat} : Calls Tryz.prog 85 #[.slice none 0 0, .int .i64 0, .int .i64 0, .func (.func 42) #[] #[]] w (InsP base (.slice none 0 0) 0 [] w) := by
  go_enter Tryz.func85, Tryz.ntmps85
  go_wp2
  refine wp_loop_rounds 1 ?_
  rw [rounds_succ]
  go_wp2
  go_end0
  exact ⟨rfl, [], List.Perm.refl _, List.Pairwise.nil, World.ownsRow_nil _ _ _ _, World.grownBy.refl _ _⟩
theorem insertion_any {w : World} {base n : Nat} {v : Value} {l : List Nm} (h : w.ownsRow base 45 5 v n (l.flatMap nmC)) (hn : l.length = n) (hl : n ≤ 12) (ho : ∀ a ∈ l, OwnE a) (hb : base ≤ w.heap.size) :
    Calls Tryz.prog 85 #[v, .int .i64 0, .int .i64 n, .func (.func 42) #[] #[]] w (InsP base v n l w) := by
  rcases h.2 with ⟨rfl, h0⟩ | ⟨g, cap, cur, rfl, _⟩
  · subst h0
    obtain rfl := List.length_eq_zero_iff.1 hn
    exact insertion_nil
  · exact insertion_is h hn hl ho hb
theorem pdq_is {w : World} {base n : Nat} {v : Value} {l : List Nm} {k : Int} (h : w.ownsRow base 45 5 v n (l.flatMap nmC)) (hn : l.length = n) (hl : n ≤ 12) (ho : ∀ a ∈ l, OwnE a) (hb : base ≤ w.heap.size) :
    Calls Tryz.prog 77 #[v, .int .i64 0, .int .i64 n, .int .i64 k, .func (.func 42) #[] #[]] w (InsP base v n l w) := by
  have H := Lib.hid (insertion_any h hn hl ho hb)
  have e1 : decide (n ≤ 12) = true := by simpa using hl
  clear h ho
  go_enter Tryz.func77, Tryz.ntmps77
  go_wp2
  refine wp_loop_rounds 1 ?_
  rw [rounds_succ]
  go_wp2_with fail
  refine H.out.mono ?_
  rintro e w' ⟨rfl, l', h1, h2, h3, h4⟩
  go_wp2
  go_end0
  exact ⟨rfl, l', h1, h2, h3, h4⟩
theorem sortfunc_is {w : World} {base n : Nat} {v : Value} {l : List Nm} (h : w.ownsRow base 45 5 v n (l.flatMap nmC)) (hn : l.length = n) (hl : n ≤ 12) (ho : ∀ a ∈ l, OwnE a) (hb : base ≤ w.heap.size) :
    Calls Tryz.prog 62 #[v, .func (.func 42) #[] #[]] w (InsP base v n l w) := by
  have H := Lib.hid (fun k => pdq_is (k := k) h hn hl ho hb); have HL := Lib.hid (len64_is n w hl); obtain ⟨A, c, rfl, _⟩ := own_len h; clear h ho
  go_enter Tryz.func62, Tryz.ntmps62
  go_wp2_with fail
  refine HL.out.mono ?_
  rintro e w' ⟨⟨k, rfl⟩, rfl⟩
  go_wp2_with fail
  refine (H.out k).mono ?_; rintro e w' ⟨rfl, l', h1, h2, h3, h4⟩
  go_wp2
  go_end0
  exact ⟨rfl, l', h1, h2, h3, h4⟩
end Go.Proofs.YtmjkcanjfjfkfaaGreat
namespace Go.Proofs.YtmjkcanjfjfkfaaGreat
open Go.RowKit
set_option linter.unusedSimpArgs false
set_option linter.unusedVariables false
def ComP (v : Value) (w : World) (e : Ending) (w' : World) : Prop := e = .returned v ∧ ∃ k, w' = w.drewN k
set_option maxRecDepth 100000 in
set_option maxHeartbeats 1000000 in
theorem compact_is {w : World} {v : Value} {l : List Nm} (h : RdNm w v l) (hl : l.length ≤ 100000) (hd : l.Nodup) : Calls Tryz.prog 63 #[v] w (ComP v w) := by
  obtain ⟨A, c, rfl, hc⟩ := h.form; have H := Lib.hid h; have HD := Lib.hid hd; clear h hd; have hg := guardNm
  by_cases h2 : l.length < 2
  · go_enter Tryz.func63, Tryz.ntmps63
    go_wp2
    go_ret
    exact ⟨rfl, 0, rfl⟩
  · go_enter Tryz.func63, Tryz.ntmps63
    go_wp2
    go_loopw [3] (fun i wr => ∃ (k m : Nat), i = .int .i64 k ∧ 1 ≤ k ∧ k ≤ l.length ∧ wr = w.drewN m) (fun i _ => l.length - (intOf i).toNat)
    case atStart => exact ⟨1, 0, rfl, Nat.le_refl _, by omega, rfl⟩
    case round =>
      obtain ⟨k, m, rfl, hk1, hk, hw⟩ := hrel; have HW := Lib.hid hw; have HR := Lib.hid (show RdNm wr (.slice A l.length c) l by rw [hw]; exact H.out); clear hw
      by_cases hlt : k < l.length
      · obtain ⟨q, rfl⟩ : ∃ q, k = q + 1 := ⟨k - 1, by omega⟩
        obtain ⟨b, o, rfl, hbb, x0, x1, x2, x3, x4⟩ := RdNm.piece HR.out hlt; obtain ⟨b', o', e, _, y0, y1, y2, y3, y4⟩ := RdNm.piece HR.out (k := q) (by omega)
        obtain ⟨rfl, rfl⟩ : b' = b ∧ o' = o := by
          injection e with e; injection e with e1 e2; exact ⟨e1.symm, e2.symm⟩
        clear e; obtain ⟨x, hx⟩ : ∃ x, l[q + 1] = x := ⟨_, rfl⟩; obtain ⟨y, hy⟩ : ∃ y, l[q]'(by omega) = y := ⟨_, rfl⟩
        have hne : x ≠ y := by
          rw [← hx, ← hy]
          intro he
          have := (List.pairwise_iff_getElem.1 HD.out) q (q + 1) (by omega) hlt (by omega)
          exact this he.symm
        have he := fun W => eqlNm x y false (by simp [hne]) W
        rw [hx] at x0 x1 x2 x3 x4; rw [hy] at y0 y1 y2 y3 y4
        unfold nmV nmA at he
        have i1 : (0 : Int) ≤ (q : Int) + 1 := by omega
        have i2 : (q : Int) + 1 < (l.length : Int) := by omega
        have i3 : (0 : Int) ≤ (q : Int) := by omega
        have i4 : (q : Int) < (l.length : Int) := by omega
        have ew : IntKind.i64.wrap (q : Int) = (q : Int) := IntWalk.i64_in _ (by omega); rw [show ((q + 1 : Nat) : Int) = (q : Int) + 1 by omega]; clear hx hy hne
        go_wp2_with fail
        go_quiet (fail)
        clear x0 x1 x2 x3 x4 y0 y1 y2 y3 y4 ew he; have HW2 := Lib.hid (show World.drewN wr nq = w.drewN (m + nq) by rw [HW.out, World.drewN_drewN]); generalize World.drewN wr nq = w2 at *
        go_wp2
        go_roundw
        case rel => exact ⟨q + 1 + 1, m + nq, by go_num, by omega, by omega, HW2.out⟩
        case measure => simp [intOf]; omega
      · obtain rfl : k = l.length := by omega
        go_wp2
        go_ret
        exact ⟨rfl, m, HW.out⟩
def SortP (l : List Nm) (w : World) (e : Ending) (w' : World) : Prop := ∃ v, e = .returned v ∧ w'.ownsRow w.heap.size 45 5 v (sortU cmpN l).length ((sortU cmpN l).flatMap nmC) ∧ Below w.heap.size w w'
theorem nm_one (l : List Nm) : ∀ u ∈ l.flatMap nmC, u.oneCell' = true := by
  intro u hu
  obtain ⟨p, _, h⟩ := List.mem_flatMap.1 hu
  simp [nmC] at h
  rcases h with rfl | rfl | rfl | rfl | rfl <;> rfl
end Go.Proofs.YtmjkcanjfjfkfaaGreat
namespace Go.Proofs.YtmjkcanjfjfkfaaGreat
open Go.RowKit
set_option linter.unusedSimpArgs false
set_option linter.unusedVariables false
end Go.Proofs.YtmjkcanjfjfkfaaGreat
namespace Go.Proofs.YtmjkcanjfjfkfaaGreat
open Go.RowKit
set_option linter.unusedSimpArgs false
set_option linter.unusedVariables false
attribute [local go_sem ↓] Go.wp_at_zero Go.wp_at_succ
def KS (l : List Ac) : Prop := ∀ k (hk : k + 1 < l.length), cmpK (l[k]'(by omega)).key l[k + 1].key < 0
def IncRel (l : List Ac) (w : World) (i : Value) (wr : World) : Prop := ∃ k : Nat, 1 ≤ k ∧ k ≤ l.length + 1 ∧ i = .int .i64 k ∧ Below w.heap.size w wr
set_option maxRecDepth 100000 in
set_option maxHeartbeats 1000000 in
theorem increasing_is {w : World} {v : Value} {l : List Ac} (h : RdAc w v l) (hk : KS l) (hl : ∀ a ∈ l, a.key.lin ∈ lin5) (hlen : l.length ≤ 100) : Calls Tryz.prog 24 #[v] w fun e w' => e = .returned (.bool true) ∧ Below w.heap.size w w' := by
  obtain ⟨A, c, rfl, hc⟩ := RowRd.form h; have HH := Lib.hid h; have HK := Lib.hid hk; have HL := Lib.hid hl; have H0 : Hid (IncRel l w (.int .i64 (1 : Nat)) w) := Lib.hid ⟨1, Nat.le_refl _, by omega, rfl, Below.refl _ _⟩; clear h hk hl
  go_enter Tryz.func24, Tryz.ntmps24
  go_wp2_with fail
  go_loopw [3] (fun i wr => IncRel l w i wr) (fun i _ => l.length + 1 - (intOf i).toNat)
  case atStart => exact H0.out
  case round =>
    clear H0; obtain ⟨k, hk1, hk2, rfl, hbw⟩ := hrel; have HBW := Lib.hid hbw; clear hbw
    by_cases hml : k < l.length
    · have j1 : decide ((k : Int) < (l.length : Int)) = true := decide_eq_true (by omega)
      obtain ⟨m, hmk⟩ : ∃ m, k = m + 1 := ⟨k - 1, by omega⟩
      have g1 : (k : Int) - 1 = (m : Int) := by omega
      have hm2 : m < l.length := by omega
      have g4 : (m : Int) < (l.length : Int) := by omega
      have hp0 := HK.out m (by omega)
      have HP := Lib.hid (show cmpK (l[m]'hm2).key l[k].key < 0 by
        have e : l[k] = l[m + 1]'(by omega) := by congr 1
        rw [e]; exact hp0)
      clear hp0 hmk; have g2 : IntKind.i64.wrap (m : Int) = (m : Int) := IntWalk.i64_in _ (by omega)
      have g3 : (0 : Int) ≤ (m : Int) := by omega
      have g6 : (0 : Int) ≤ (k : Int) := by omega
      have g7 : (k : Int) < (l.length : Int) := by omega
      obtain ⟨b, o, u1, u2, hbe, hbr, n1, n2, x0, x1, x2, x3, x4, x5⟩ := RdAc.piece (RdAc.next HH.out HBW.out) hm2; subst hbe; obtain ⟨b', o', v1, v2, hbe, hbr', n3, n4, y0, y1, y2, y3, y4, y5⟩ := RdAc.piece (RdAc.next HH.out HBW.out) hml
      injection hbe with hbe
      injection hbe with e1 e2
      subst e1 e2; have hl1 := HL.out _ (List.getElem_mem hm2); have hl2 := HL.out _ (List.getElem_mem hml); obtain ⟨p, hp⟩ : ∃ p, l[m].key = p := ⟨_, rfl⟩; obtain ⟨q, hq⟩ : ∃ q, l[k].key = q := ⟨_, rfl⟩; rw [hp] at x0 x1 x2 x3 HP hl1; rw [hq] at y0 y1 y2 y3 HP hl2; have HKC := Lib.hid (fun W => key_compare p q W hl1 hl2)
      unfold kyV at HKC
      obtain ⟨z, hz⟩ : ∃ z, cmpK p q = z := ⟨_, rfl⟩; rw [hz] at HKC HP; have f1 : decide (0 ≤ z) = false := decide_eq_false (by have := HP.out; omega); clear hp hq hl1 hl2 hz n1 n2 n3 n4 x4 x5 y4 y5 hbr'
      go_upto_region 4 with (fail)
      refine wp_region_noPanic ?_
      refine wp_region_held_drew (S := (fun (w' : World) => w'.cell? ⟨b, o + m * 6, none⟩ = some (.int .i64 p.tick) ∧ w'.cell? ⟨b, o + m * 6 + 1, none⟩ = some (.int .i64 p.cls) ∧ w'.cell? ⟨b, o + m * 6 + 2, none⟩ = some (.int .i64 p.num) ∧ w'.cell? ⟨b, o + m * 6 + 3, none⟩ = some (.string (bs p.lin)) ∧ w'.cell? ⟨b, o + k * 6, none⟩ = some (.int .i64 q.tick) ∧ w'.cell? ⟨b, o + k * 6 + 1, none⟩ = some (.int .i64 q.cls) ∧ w'.cell? ⟨b, o + k * 6 + 2, none⟩ = some (.int .i64 q.num) ∧ w'.cell? ⟨b, o + k * 6 + 3, none⟩ = some (.string (bs q.lin)))) (by kernel_rfl) ?_ (fun hHeld => ?_)
      · exact ⟨x0, x1, x2, x3, y0, y1, y2, y3⟩
      refine tk (v := ?_) 0 rfl (by kernel_rfl) (fun _ _ _ h => h) ?_ hHeld ?_; rotate_left
      · (intro w h; (try dsimp only at h); go_simp; try with_reducible rfl)
      try simp only [Act.put, pB, pC, pD]
      refine tk (v := ?_) 1 rfl (by kernel_rfl) (fun _ _ _ h => h) ?_ hHeld ?_; rotate_left
      · (intro w h; (try dsimp only at h); go_simp; try with_reducible rfl)
      try simp only [Act.put, pB, pC, pD]
      refine tk (v := ?_) 2 rfl (by kernel_rfl) (fun _ _ _ h => h) ?_ hHeld ?_; rotate_left
      · (intro w h; (try dsimp only at h); go_simp; try with_reducible rfl)
      try simp only [Act.put, pB, pC, pD]
      refine tk (v := ?_) 3 rfl (by kernel_rfl) (fun _ _ _ h => h) ?_ hHeld ?_; rotate_left
      · (intro w h; (try dsimp only at h); go_simp; try with_reducible rfl)
      try simp only [Act.put, pB, pC, pD]
      refine tk (v := ?_) 4 rfl (by kernel_rfl) (fun _ _ _ h => h) ?_ hHeld ?_; rotate_left
      · (intro w h; (try dsimp only at h); go_simp; try with_reducible rfl)
      try simp only [Act.put, pB, pC, pD]
      refine tk (v := ?_) 5 rfl (by kernel_rfl) (fun _ _ _ h => h) ?_ hHeld ?_; rotate_left
      · (intro w h; (try dsimp only at h); go_simp; try with_reducible rfl)
      try simp only [Act.put, pB, pC, pD]
      refine tk (v := ?_) 6 rfl (by kernel_rfl) (fun _ _ _ h => h) ?_ hHeld ?_; rotate_left
      · (intro w h; (try dsimp only at h); go_simp; try with_reducible rfl)
      try simp only [Act.put, pB, pC, pD]
      refine tk (v := ?_) 7 rfl (by kernel_rfl) (fun _ _ _ h => h) ?_ hHeld ?_; rotate_left
      · (intro w h; (try dsimp only at h); go_simp; try with_reducible rfl)
      try simp only [Act.put, pB, pC, pD]
      refine tk (v := ?_) 8 rfl (by kernel_rfl) (fun _ _ _ h => h) ?_ hHeld ?_; rotate_left
      · (intro w h; (try dsimp only at h); go_simp; try with_reducible rfl)
      try simp only [Act.put, pB, pC, pD]
      refine tk (v := ?_) 9 rfl (by kernel_rfl) (fun _ _ _ h => h) ?_ hHeld ?_; rotate_left
      · (intro w h; (try dsimp only at h); go_simp; try with_reducible rfl)
      try simp only [Act.put, pB, pC, pD]
      refine tk (v := ?_) 10 rfl (by kernel_rfl) (fun _ _ _ h => h) ?_ hHeld ?_; rotate_left
      · (intro w h; (try dsimp only at h); go_simp; try with_reducible rfl)
      try simp only [Act.put, pB, pC, pD]
      refine wpAnyH_ready (rs := [11]) (by kernel_rfl) (by simp) ?_; refine AllReadyH.cons rfl (fun K hK => ?_) AllReadyH.nil; go_simp; refine (HKC.out wr.drew).mono ?_; rintro e w2 ⟨rfl, hb2'⟩; have hb2 := (Below.refl wr.heap.size wr).drew.trans hb2'; have HB2 := Lib.hid hb2; clear hb2'
      try (go_wp2_with fail)
      refine hK.out _ _ ?_ (fun hNew => ?_)
      · exact ⟨(hb2.cell (p := ⟨b, o + m * 6, none⟩) hbr).trans x0, (hb2.cell (p := ⟨b, o + m * 6 + 1, none⟩) hbr).trans x1, (hb2.cell (p := ⟨b, o + m * 6 + 2, none⟩) hbr).trans x2, (hb2.cell (p := ⟨b, o + m * 6 + 3, none⟩) hbr).trans x3, (hb2.cell (p := ⟨b, o + k * 6, none⟩) hbr).trans y0, (hb2.cell (p := ⟨b, o + k * 6 + 1, none⟩) hbr).trans y1, (hb2.cell (p := ⟨b, o + k * 6 + 2, none⟩) hbr).trans y2, (hb2.cell (p := ⟨b, o + k * 6 + 3, none⟩) hbr).trans y3⟩
      clear hK K hHeld; have hHeld := hNew; clear hNew; try simp only [Act.put, pB, pC, pD]
      refine tk (v := ?_) 12 rfl (by kernel_rfl) (fun _ _ _ h => h) ?_ hHeld ?_; rotate_left
      · (intro w h; (try dsimp only at h); go_simp; try with_reducible rfl)
      try simp only [Act.put, pB, pC, pD]
      refine wpAnyH_done (by kernel_rfl) ?_ _; clear hHeld
      try simp only [List.getElem_toArray, List.getElem_cons_zero, List.getElem_cons_succ, Act.put, pB, pC, pD]
      refine NoPanic.normal ?_
      go_wp2_with fail
      go_roundw
      case rel => exact ⟨k + 1, by omega, by omega, by go_num, HBW.out.trans (HB2.out.mono HBW.out.size)⟩
      case measure => simp [intOf]; omega
    · have j1 : decide ((k : Int) < (l.length : Int)) = false := decide_eq_false (by omega)
      have j1n : decide (k < l.length) = false := decide_eq_false hml
      go_wp2_with fail
      go_ret
      exact ⟨rfl, HBW.out⟩
set_option maxRecDepth 100000 in
theorem sorted_is {w : World} {v : Value} {l : List Nm} (h : RdNm w v l) (hl : l.length ≤ 12) (hd : l.Nodup) (ho : ∀ a ∈ l, OwnE a) : Calls Tryz.prog 41 #[v, .func (.func 42) #[] #[]] w (SortP l w) := by
  have HC := Lib.hid (cloneNm h (fm_len nmC_len l) (nm_one l) (by omega)); have HD := Lib.hid hd; have HO := Lib.hid ho; clear h hd ho
  go_enter Tryz.func41, Tryz.ntmps41
  go_wp2_with fail
  refine HC.out.mono ?_
  rintro e w2 ⟨v2, rfl, hown, hb⟩; have HB := Lib.hid hb; have hbs := hb.size; clear hb
  go_wp2_with fail
  refine (sortfunc_is hown rfl hl HO.out hbs).mono ?_; rintro e w3 ⟨rfl, l', hp, hw, hown3, hg⟩; have HN := Lib.hid (hp.nodup_iff.2 HD.out); have hl' : l'.length = l.length := hp.length_eq
  have HS := Lib.hid (show l' = sortU cmpN l by
    have hS : ∀ a ∈ l', OwnE a := fun a ha => HO.out a (hp.mem_iff.1 ha)
    rw [← sortU_perm ordN HO.out hp]
    exact (sortU_strict ordN hS (strict_of_weak ordN hS hw HN.out)).symm)
  have HB3 := Lib.hid (below_own HB.out hown hg (Nat.le_refl _) hbs); rw [← hl'] at hown3; have HR := Lib.hid hown3; clear hown hown3 hg hp hw
  go_wp2_with fail
  refine (compact_is (l := l') (Rd.of_own HR.out) (by omega) HN.out).mono ?_; rintro e w4 ⟨rfl, m, rfl⟩
  go_wp2
  go_ret
  rw [HS.out] at HR
  exact ⟨v2, rfl, own_next HR.out (below_drewN (Below.refl _ _) m), below_drewN HB3.out m⟩
def cntL (l : List Int) (t : Int) : Nat := (l.takeWhile fun x => decide (x < t)).length
def Asc (l : List Int) : Prop := ∀ i j (hi : i < l.length) (hj : j < l.length), i ≤ j → l[i] ≤ l[j]
theorem cntL_le (l : List Int) (t : Int) : cntL l t ≤ l.length := by unfold cntL; exact (List.takeWhile_sublist _).length_le
theorem cntL_eq : ∀ {l : List Int} {t : Int} {p : Nat}, p ≤ l.length → (∀ i (h : i < l.length), i < p → l[i] < t) → (∀ i (h : i < l.length), p ≤ i → t ≤ l[i]) → cntL l t = p
  | [], t, p, hp, _, _ => by simp at hp; subst hp; rfl
  | x :: l, t, 0, _, _, h2 => by
    have := h2 0 (by simp) (Nat.le_refl _)
    unfold cntL
    rw [List.takeWhile_cons, if_neg (by simp at this ⊢; omega)]; rfl
  | x :: l, t, p + 1, hp, h1, h2 => by
    have h0 := h1 0 (by simp) (by omega)
    unfold cntL
    rw [List.takeWhile_cons, if_pos (by simpa using h0), List.length_cons]; have := cntL_eq (l := l) (t := t) (p := p) (by simpa using hp) (fun i h hi => by have := h1 (i + 1) (by simpa using h) (by omega); simpa using this) (fun i h hi => by have := h2 (i + 1) (by simpa using h) (by omega); simpa using this)
    unfold cntL at this
    rw [this]
set_option maxRecDepth 100000 in
theorem srch1_is {w : World} {A : Option Addr} {c : Nat} {l : List Int} {t : Int} {B2 B3 k : Nat} (z2 : w.cell? ⟨B2, 0, none⟩ = some (.slice A l.length c)) (z3 : w.cell? ⟨B3, 0, none⟩ = some (.int .i64 t)) (h : RdIn w (.slice A l.length c) l) (hk : k < l.length) (hl : l.length ≤ 100000) :
    Calls Tryz.prog 80 #[.int .i64 k, .pointer (some ⟨B2, 0, none⟩), .pointer (some ⟨B3, 0, none⟩)] w fun e w' => e = .returned (.bool (decide (t ≤ l[k]))) ∧ Below w.heap.size w w' := by
  obtain ⟨b, o, hb, hbl, hc⟩ := RdP.at_ h inC_len hk; subst hb; have y := hc 0 _ rfl; rw [Nat.mul_one, Nat.add_zero] at y
  have j1 : (0 : Int) ≤ (k : Int) := by omega
  have j2 : (k : Int) < (l.length : Int) := by omega
  obtain ⟨x, hx⟩ : ∃ x, l[k] = x := ⟨_, rfl⟩; rw [hx] at y ⊢; clear hc hx h
  go_enter Tryz.func80, Tryz.ntmps80
  go_upto_region 1 with (fail)
  go_quiet (fail)
  go_wp2_with fail
  go_ret
  exact ⟨rfl, below_drewN (Below.refl _ _) _⟩
def SrRel (l : List Int) (t : Int) (w : World) (i j : Value) (wr : World) : Prop := ∃ p q : Nat, i = .int .i64 p ∧ j = .int .i64 q ∧ p ≤ q ∧ q ≤ l.length ∧ (∀ i (h : i < l.length), i < p → l[i] < t) ∧ (∀ i (h : i < l.length), q ≤ i → t ≤ l[i]) ∧ Below w.heap.size w wr
set_option maxRecDepth 100000 in
set_option maxHeartbeats 1000000 in
theorem search_ints {w : World} {v : Value} {l : List Int} (t : Int) (h : RdIn w v l) (hs : Asc l) (hl : l.length ≤ 100000) : Calls Tryz.prog 65 #[v, .int .i64 t] w fun e w' => e = .returned (.int .i64 (cntL l t : Nat)) ∧ Below w.heap.size w w' := by
  obtain ⟨A, c, rfl, hc⟩ := RdP.form h; have z2 := Blk.new w 68 #[.slice A l.length c]; have ha2 := (Below.refl w.heap.size w).alloc (Nat.le_refl _) (.cells #[.slice A l.length c] 68); have z2b := z2.next ((Below.refl (w.alloc (.cells #[.slice A l.length c] 68)).heap.size _).alloc (Nat.le_refl _) (.cells #[.int .i64 t] 3)) z2.lt; have z3 := Blk.new (w.alloc (.cells #[.slice A l.length c] 68)) 3 #[.int .i64 t]; rw [World.size_alloc] at z3; have ha := ha2.alloc (by simp) (.cells #[.int .i64 t] 3); have c2 := z2b.cell 0; have c3 := z3.cell 0; have l2 := z2b.lt; have l3 := z3.lt
  simp only [List.getElem?_toArray, List.getElem?_cons_zero] at c2 c3
  have HA := Lib.hid ha; have HH := Lib.hid (RdP.next h ha); have HS := Lib.hid hs; clear h hs ha2 z2 z2b z3 ha
  go_enter Tryz.func65, Tryz.ntmps65
  go_upto_region 1 with (fail)
  generalize (w.alloc (.cells #[.slice A l.length c] 68)).alloc (.cells #[.int .i64 t] 3) = W at *; obtain ⟨B3, hb3⟩ : ∃ B, w.heap.size + 1 = B := ⟨_, rfl⟩; obtain ⟨B2, hb2⟩ : ∃ B, w.heap.size = B := ⟨_, rfl⟩; have HB2 := Lib.hid hb2; rw [hb3] at c3 l3 ⊢; rw [hb2] at c2 l2 HA ⊢; clear hb2 hb3
  have HSR : Hid (Calls Tryz.prog 69 #[.int .i64 l.length, .func (.func 80) #[] #[.pointer (some ⟨B2, 0, none⟩), .pointer (some ⟨B3, 0, none⟩)]] W fun e w' => e = .returned (.int .i64 (cntL l t : Nat)) ∧ Below W.heap.size W w') := by
    refine Lib.hid ?_
    have H0 : Hid (SrRel l t W (.int .i64 (0 : Nat)) (.int .i64 l.length) W) := Lib.hid ⟨0, l.length, rfl, rfl, Nat.zero_le _, Nat.le_refl _, fun i _ h => by omega, fun i h1 h2 => by omega, Below.refl _ _⟩; clear HA HB2; have C2 := Lib.hid c2; have C3 := Lib.hid c3; clear c2 c3
    go_enter Tryz.func69, Tryz.ntmps69
    go_wp2_with fail
    go_loopw [5, 6] (fun i j wr => SrRel l t W i j wr) (fun i j _ => (intOf j).toNat - (intOf i).toNat)
    case atStart => exact H0.out
    case round =>
      clear H0; obtain ⟨p, q, rfl, rfl, hpq, hq, hlo, hhi, hbw⟩ := hrel; have HLO := Lib.hid hlo; have HHI := Lib.hid hhi; have HBW := Lib.hid hbw; clear hlo hhi hbw
      by_cases hlt : p < q
      · obtain ⟨m, hm⟩ : ∃ m, (p + q) / 2 = m := ⟨_, rfl⟩
        have hml : m < l.length := by omega
        have j1 : ((p : Int) + (q : Int)) / 2 = (m : Int) := by omega
        have j2 : (0 : Int) ≤ (m : Int) := by omega
        have j3 : (m : Int) < (l.length : Int) := by omega
        have j4 : (0 : Int) ≤ (p : Int) + (q : Int) := by omega
        have j5 : (p : Int) + (q : Int) ≤ 200000 := by omega
        have HM := Lib.hid hm; have j6 : decide ((p : Int) < (q : Int)) = true := decide_eq_true (by omega); have j7 : decide (p < q) = true := decide_eq_true hlt; have HF := Lib.hid (srch1_is ((HBW.out.cell (p := ⟨B2, 0, none⟩) l2).trans C2.out) ((HBW.out.cell (p := ⟨B3, 0, none⟩) l3).trans C3.out) (RdP.next HH.out HBW.out) hml hl); obtain ⟨x, hx⟩ : ∃ x, l[m] = x := ⟨_, rfl⟩; rw [hx] at HF; have HX := Lib.hid hx; obtain ⟨bq, hbq⟩ : ∃ bq, decide (t ≤ x) = bq := ⟨_, rfl⟩; rw [hbq] at HF; clear hx hm
        go_upto_region 4 with (fail)
        cases bq with
        | true =>
          go_wp2_with (go_at_call 80; refine HF.out.mono ?_; rintro e w2 ⟨rfl, hb2⟩; have HB2 := Lib.hid hb2; clear hb2)
          go_roundw
          case rel => exact ⟨p, m, rfl, rfl, by have := HM.out; omega, by omega, HLO.out, fun i h1 h2 => Int.le_trans (of_decide_eq_true hbq) (by rw [← HX.out]; exact HS.out m i hml h1 h2), HBW.out.trans (HB2.out.mono HBW.out.size)⟩
          case measure => have := HM.out; simp [intOf]; omega
        | false =>
          go_wp2_with (go_at_call 80; refine HF.out.mono ?_; rintro e w2 ⟨rfl, hb2⟩; have HB2 := Lib.hid hb2; clear hb2)
          go_roundw
          case rel => exact ⟨m + 1, q, by go_num, rfl, by have := HM.out; omega, hq, fun i h1 h2 => by
            have h3 := HS.out i m h1 hml (by omega); rw [HX.out] at h3; have := of_decide_eq_false hbq
            omega, HHI.out, HBW.out.trans (HB2.out.mono HBW.out.size)⟩
          case measure => have := HM.out; simp [intOf]; omega
      · have j6 : decide ((p : Int) < (q : Int)) = false := decide_eq_false (by omega)
        have j7 : decide (p < q) = false := decide_eq_false hlt; have HD := Lib.hid (cntL_eq (l := l) (t := t) (p := p) (by omega) HLO.out (fun i h1 h2 => HHI.out i h1 (by omega)))
        go_wp2_with fail
        go_ret
        exact ⟨by rw [HD.out]; rfl, HBW.out⟩
  go_wp2_with (go_at_call 69; refine HSR.out.mono ?_; rintro e w2 ⟨rfl, hb2⟩; have HBZ := Lib.hid hb2; clear hb2)
  go_ret
  exact ⟨rfl, by rw [HB2.out]; exact HA.out.trans (HBZ.out.mono (HB2.out ▸ HA.out.size))⟩
end Go.Proofs.YtmjkcanjfjfkfaaGreat
namespace Go.Proofs.YtmjkcanjfjfkfaaGreat
open Go.RowKit
set_option linter.unusedSimpArgs false
set_option linter.unusedVariables false
attribute [local go_sem ↓] Go.wp_at_zero Go.wp_at_succ
def wrI (l : List Int) (t : Int) : Int := if cntL l t = 0 then -1 else l.getD (cntL l t - 1) 0
set_option maxRecDepth 100000 in
set_option maxHeartbeats 1000000 in
theorem writer_is {w : World} {B g : Nat} {vk vl vu : Value} {bw : Nat} {ks : List Ky} {vL vU : List Value} {L U : List (List Lk)} {D : Nm → List Int} (n : Nm) (t : Int) (h : GIn w B g vk vl vu bw ks vL vU L U D) (hs : Asc (D n)) (hl : (D n).length ≤ 10000) :
    Calls Tryz.prog 43 #[.pointer (some ⟨g, 0, none⟩), nmV n, .int .i64 t] w fun e w' => e = .returned (.int .i64 (wrI (D n) t)) ∧ Below w.heap.size w w' := by
  have ha := (Below.refl w.heap.size w).alloc (Nat.le_refl _) (.cells #[.int .i64 n.kind, .string (bs n.owner), .int .i64 n.num, .int .i64 n.idx, .string (bs n.text)] 45); have zb := Blk.new w 45 #[.int .i64 n.kind, .string (bs n.owner), .int .i64 n.num, .int .i64 n.idx, .string (bs n.text)]; have GW := Lib.hid (h.next ha); have HA := Lib.hid ha; have x3 := GW.out.blk.cell 3; have z0 := zb.cell 0; have z1 := zb.cell 1; have z2 := zb.cell 2; have z3 := zb.cell 3; have z4 := zb.cell 4; simp only [qB, qC, qD] at x3 z0 z1 z2 z3 z4; obtain ⟨ents, hm, hown⟩ := GW.out.wr.find n
  (try simp only at hown)
  obtain ⟨A, c, hve, hc⟩ := own_len hown.1; rw [hve] at hown; have HM := Lib.hid hm; have HVE := Lib.hid hve; have HRD := Lib.hid (show RdIn _ (.slice A (D n).length c) (D n) from Rd.of_own hown.1); have HS := Lib.hid hs; obtain ⟨xs, hxs⟩ : ∃ xs, D n = xs := ⟨_, rfl⟩; rw [hxs] at HRD HS hl HVE hc; have HXS := Lib.hid hxs; rw [HXS.out]; clear h hm hown hve hxs hs zb ha GW
  go_enter Tryz.func43, Tryz.ntmps43
  simp only [nmV, nmA]
  go_upto_region 3 with (fail)
  generalize w.alloc (.cells #[.int .i64 n.kind, .string (bs n.owner), .int .i64 n.num, .int .i64 n.idx, .string (bs n.text)] 45) = W at *; obtain ⟨cb, hcb⟩ : ∃ cb, w.heap.size = cb := ⟨_, rfl⟩; have HCB := Lib.hid hcb; rw [hcb] at z0 z1 z2 z3 z4 HA ⊢; clear hcb
  refine wp_region_noPanic ?_
  refine wp_region_held_drew (S := (fun (w' : World) => w'.cell? ⟨g, 3, none⟩ = some (.map (some bw)) ∧ w'.cell? ⟨cb, 0, none⟩ = some (.int .i64 n.kind) ∧ w'.cell? ⟨cb, 1, none⟩ = some (.string (bs n.owner)) ∧ w'.cell? ⟨cb, 2, none⟩ = some (.int .i64 n.num) ∧ w'.cell? ⟨cb, 3, none⟩ = some (.int .i64 n.idx) ∧ w'.cell? ⟨cb, 4, none⟩ = some (.string (bs n.text)))) (by kernel_rfl) ?_ (fun hHeld => ?_)
  · exact ⟨x3, z0, z1, z2, z3, z4⟩
  refine tk (v := ?_) 0 rfl (by kernel_rfl) (fun _ _ _ h => h) ?_ hHeld ?_; rotate_left
  · (intro w h; (try dsimp only at h); go_simp; try with_reducible rfl)
  try simp only [Act.put, pB, pC, pD]
  refine tk (v := ?_) 1 rfl (by kernel_rfl) (fun _ _ _ h => h) ?_ hHeld ?_; rotate_left
  · (intro w h; (try dsimp only at h); go_simp; try with_reducible rfl)
  try simp only [Act.put, pB, pC, pD]
  refine tk (v := ?_) 2 rfl (by kernel_rfl) (fun _ _ _ h => h) ?_ hHeld ?_; rotate_left
  · (intro w h; (try dsimp only at h); go_simp; try with_reducible rfl)
  try simp only [Act.put, pB, pC, pD]
  refine tk (v := ?_) 3 rfl (by kernel_rfl) (fun _ _ _ h => h) ?_ hHeld ?_; rotate_left
  · (intro w h; (try dsimp only at h); go_simp; try with_reducible rfl)
  try simp only [Act.put, pB, pC, pD]
  refine tk (v := ?_) 4 rfl (by kernel_rfl) (fun _ _ _ h => h) ?_ hHeld ?_; rotate_left
  · (intro w h; (try dsimp only at h); go_simp; try with_reducible rfl)
  try simp only [Act.put, pB, pC, pD]
  refine wpAnyH_ready (rs := [5]) (by kernel_rfl) (by simp) ?_; refine AllReadyH.cons rfl (fun K hK => ?_) AllReadyH.nil
  refine step_look_nm _ (by rfl) _ _ 80 (by rfl) Tryz.underlying80 (zeroinC _) bw ents (by rfl) (show MapAt W.drew bw ents from HM.out) n (by rfl) ?_; rw [HVE.out]
  refine hK.out _ _ ?_ (fun hNew => ?_)
  · exact ⟨x3, z0, z1, z2, z3, z4⟩
  clear hK K hHeld; have hHeld := hNew; clear hNew; try simp only [Act.put, pB, pC, pD]
  refine tk (v := ?_) 6 rfl (by kernel_rfl) (fun _ _ _ h => h) ?_ hHeld ?_; rotate_left
  · (intro w h; (try dsimp only at h); go_simp; try with_reducible rfl)
  try simp only [Act.put, pB, pC, pD]
  refine wpAnyH_done (by kernel_rfl) ?_ _; clear hHeld
  try simp only [List.getElem_toArray, List.getElem_cons_zero, List.getElem_cons_succ, Act.put, pB, pC, pD]
  refine NoPanic.normal ?_
  have HSI := Lib.hid (search_ints t (RdP.drew HRD.out) HS.out (by omega)); obtain ⟨q, hq⟩ : ∃ q, cntL xs t = q := ⟨_, rfl⟩; rw [hq] at HSI; have HQ := Lib.hid hq
  have hql : q ≤ xs.length := by rw [← hq]; exact cntL_le xs t
  clear hq x3 z0 z1 z2 z3 z4
  cases q with
  | zero =>
    have HR := Lib.hid (show wrI xs t = -1 by unfold wrI; rw [if_pos HQ.out])
    go_wp2_with (go_at_call 65; refine HSI.out.mono ?_; rintro e w2 ⟨rfl, hb2⟩; have HB2 := Lib.hid hb2; clear hb2)
    go_ret
    exact ⟨by rw [HR.out]; rfl, by rw [HCB.out]; exact HA.out.drew.trans (HB2.out.mono (HCB.out ▸ HA.out.size))⟩
  | succ c1 =>
    have HR := Lib.hid (show wrI xs t = xs[c1]'(by omega) by
      unfold wrI
      rw [if_neg (by rw [HQ.out]; omega), HQ.out, Nat.add_sub_cancel, List.getD_eq_getElem?_getD, List.getElem?_eq_getElem (by omega)]
      rfl)
    have e1 : (((c1 + 1 : Nat) : Int) == 0) = false := by rw [beq_eq_false_iff_ne]; omega
    have e2 : ((c1 + 1 : Nat) : Int) - 1 = (c1 : Int) := by omega
    have e3 : IntKind.i64.wrap (c1 : Int) = (c1 : Int) := IntWalk.i64_in _ (by omega)
    have e4 : (0 : Int) ≤ (c1 : Int) := by omega
    have e5 : (c1 : Int) < (xs.length : Int) := by omega
    have hkl : c1 < xs.length := by omega
    obtain ⟨cn, hcn⟩ : ∃ z : Int, ((c1 + 1 : Nat) : Int) = z := ⟨_, rfl⟩; rw [hcn] at e1 e2 HSI; have HCN := Lib.hid hcn; clear hcn
    go_wp2_with (go_at_call 65; refine HSI.out.mono ?_; rintro e w2 ⟨rfl, hb2⟩; have HB2 := Lib.hid hb2; obtain ⟨b, o, hb, hbl, hc1⟩ := RdP.at_ (RdP.next (RdP.drew HRD.out) hb2) inC_len hkl; subst hb; have y := hc1 0 _ rfl; rw [Nat.mul_one, Nat.add_zero] at y; clear hb2 hc1)
    go_ret
    exact ⟨by rw [HR.out]; rfl, by rw [HCB.out]; exact HA.out.drew.trans (HB2.out.mono (HCB.out ▸ HA.out.size))⟩
end Go.Proofs.YtmjkcanjfjfkfaaGreat
namespace Go.Proofs.YtmjkcanjfjfkfaaGreat
open Go.RowKit
set_option linter.unusedSimpArgs false
set_option linter.unusedVariables false
def wls (l : List Ac) (n : Nm) : List Int := (vers n 0 l).map Ver.idx
def wlsT (d : List Ac) (ws : List Ch) (n : Nm) : List Int := wls d n ++ (ws.filter fun c => c.name == n).map fun _ => (d.length : Int)
theorem wls_snoc (d : List Ac) (a : Ac) (n : Nm) : wls (d ++ [a]) n = wlsT d a.writes n := by
  unfold wls wlsT wls
  rw [vers_snoc, List.map_append, List.map_map]
  simp only [Nat.zero_add]
  rfl
theorem wlsT_nil (d : List Ac) (n : Nm) : wlsT d [] n = wls d n := by unfold wlsT; simp
theorem wlsT_snoc (d : List Ac) (ws : List Ch) (c : Ch) (n : Nm) : wlsT d (ws ++ [c]) n = if n = c.name then wlsT d ws c.name ++ [(d.length : Int)] else wlsT d ws n := by
  unfold wlsT
  rw [List.filter_append, List.map_append]
  by_cases h : n = c.name
  · subst h
    rw [if_pos rfl]
    simp
  · rw [if_neg h]
    have : (c.name == n) = false := by rw [beq_eq_false_iff_ne]; exact fun e => h e.symm
    simp [this]
theorem wls_bd {l : List Ac} {n : Nm} {x : Int} (h : x ∈ wls l n) : 0 ≤ x ∧ x < l.length := by
  obtain ⟨v, hv, rfl⟩ := List.mem_map.1 h; have := vers_idx n 0 l v hv
  omega
theorem wls_asc {l : List Ac} (h : ∀ a ∈ l, ordCh a.writes = true) (n : Nm) : Asc (wls l n) := by
  have h1 := vers_inc n 0 l h
  intro i j hi hj hij
  unfold wls at hi hj ⊢
  rw [List.length_map] at hi hj
  simp only [List.getElem_map]
  rcases Nat.lt_or_ge i j with h2 | h2
  · have := List.pairwise_iff_getElem.1 h1 i j hi hj h2
    omega
  · obtain rfl : i = j := by omega
    exact Int.le_refl _
theorem wls_len {l : List Ac} (h : ∀ a ∈ l, a.writes.length ≤ 10) (hl : l.length ≤ 100) (n : Nm) : (wls l n).length ≤ 1000 := by
  have := vers_len n 0 l h
  unfold wls
  rw [List.length_map]
  omega
theorem wrI_mem (xs : List Int) (t : Int) : wrI xs t = -1 ∨ wrI xs t ∈ xs := by
  unfold wrI
  split
  · exact .inl rfl
  · rename_i h
    have h1 := cntL_le xs t; rw [List.getD_eq_getElem?_getD, List.getElem?_eq_getElem (by omega)]
    exact .inr (List.getElem_mem _)
def lnkA (d : List Ac) (a : Ac) : List Lk := a.reads.map fun c => ⟨wrI (wls d c.name) d.length, d.length, c.name⟩
def lnkF (d : List Ac) : List Ac → List (List Lk)
  | [] => []
  | a :: r => lnkA d a :: lnkF (d ++ [a]) r
def lnkD (l : List Ac) : List (List Lk) := lnkF [] l
theorem lnkF_snoc (a : Ac) : ∀ (d r : List Ac), lnkF d (r ++ [a]) = lnkF d r ++ [lnkA (d ++ r) a]
  | d, [] => by rw [List.append_nil]; rfl
  | d, b :: r => by
    simp only [List.cons_append, lnkF, lnkF_snoc a (d ++ [b]) r, List.append_assoc, List.singleton_append, List.cons_append, List.nil_append]
theorem lnkF_len : ∀ (d r : List Ac), (lnkF d r).length = r.length
  | d, [] => rfl
  | d, b :: r => by simp only [lnkF, List.length_cons, lnkF_len (d ++ [b]) r]
theorem lnkD_take (l : List Ac) (k : Nat) (hk : k < l.length) : lnkD (l.take (k + 1)) = lnkD (l.take k) ++ [lnkA (l.take k) l[k]] := by
  unfold lnkD
  rw [List.take_succ_eq_append_getElem hk, lnkF_snoc, List.nil_append]
theorem lnkD_len (l : List Ac) : (lnkD l).length = l.length := lnkF_len [] l
def UT (N : Nat) (fl : List Lk) : List (List Lk) := (List.range N).map fun (j : Nat) => fl.filter fun x => decide (x.frm = (j : Int))
theorem UT_len (N : Nat) (fl : List Lk) : (UT N fl).length = N := by simp [UT]
theorem UT_nil (N : Nat) : UT N [] = List.replicate N [] := by
  apply List.ext_getElem
  · simp [UT]
  · intro i h1 h2; simp [UT]
theorem UT_get (N : Nat) (fl : List Lk) (j : Nat) (hj : j < (UT N fl).length) : (UT N fl)[j] = fl.filter fun x => decide (x.frm = (j : Int)) := by simp [UT]
theorem UT_neg (N : Nat) (fl : List Lk) (x : Lk) (h : x.frm < 0) : UT N (fl ++ [x]) = UT N fl := by
  unfold UT
  apply List.map_congr_left
  intro j _
  rw [List.filter_append]; have : decide (x.frm = (j : Int)) = false := decide_eq_false (by omega)
  simp [this]
theorem UT_add (N : Nat) (fl : List Lk) (x : Lk) (j : Nat) (hj : j < (UT N fl).length) (h : x.frm = (j : Int)) : UT N (fl ++ [x]) = (UT N fl).set j ((UT N fl)[j] ++ [x]) := by
  apply List.ext_getElem
  · simp [UT]
  · intro i h1 h2
    rw [UT_get, List.getElem_set, List.filter_append]
    by_cases e : j = i
    · subst e
      rw [if_pos rfl, UT_get]; have : decide (x.frm = (j : Int)) = true := decide_eq_true h
      simp [this]
    · rw [if_neg e, UT_get]
      have : decide (x.frm = (i : Int)) = false := decide_eq_false (by omega)
      simp [this]
def GAt (w : World) (B g : Nat) (l : List Ac) : Prop := ∃ vk vl vu bw vL vU, GIn w B g vk vl vu bw (l.map Ac.key) vL vU (lnkD l) (UT l.length (lnkD l).flatten) (wls l)
theorem GAt.next {w w' : World} {B g : Nat} {l : List Ac} (h : GAt w B g l) (hb : Below w.heap.size w w') : GAt w' B g l := by
  obtain ⟨vk, vl, vu, bw, vL, vU, h⟩ := h
  exact ⟨vk, vl, vu, bw, vL, vU, h.next hb⟩
theorem GIn.data {w : World} {B g : Nat} {vk vl vu : Value} {bw : Nat} {ks : List Ky} {vL vU : List Value} {L U : List (List Lk)} {D : Nm → List Int} (h : GIn w B g vk vl vu bw ks vL vU L U D) {D' : Nm → List Int} (hd : ∀ n, D n = D' n) : GIn w B g vk vl vu bw ks vL vU L U D' := by
  have : D = D' := funext hd; rw [← this]; exact h
theorem reads_names {a : Ac} (h : ordCh a.reads = true) : (a.reads.map Ch.name).Nodup ∧ (∀ n ∈ a.reads.map Ch.name, OwnE n) ∧ sortU cmpN (a.reads.map Ch.name) = a.reads.map Ch.name := by
  obtain ⟨h1, h2⟩ := ord_nodup h
  have ho : ∀ n ∈ a.reads.map Ch.name, IsOb n := fun n hn => by
    obtain ⟨c, hc, rfl⟩ := List.mem_map.1 hn
    exact okCh_ob (h2 c hc)
  have hE : ∀ n ∈ a.reads.map Ch.name, OwnE n := fun n hn => (ho n hn).own
  have hs : Strict cmpN (a.reads.map Ch.name) := by
    unfold Strict
    rw [List.pairwise_map]
    exact h1
  refine ⟨?_, hE, sortU_strict ordN hE hs⟩
  refine List.Pairwise.imp_of_mem ?_ hs
  intro x y hx hy hxy e
  subst e; rw [ordN.refl (hE x hx)] at hxy
  omega
end Go.Proofs.YtmjkcanjfjfkfaaGreat
namespace Go.Proofs.YtmjkcanjfjfkfaaGreat
open Go.RowKit
set_option linter.unusedSimpArgs false
set_option linter.unusedVariables false
attribute [local go_sem ↓] Go.wp_at_zero Go.wp_at_succ
theorem infoKy : (Tryz.prog.info? 35).map (fun i => (i.zero, i.size, i.bytes)) = some (some (.agg #[.int .i64 0, .int .i64 0, .int .i64 0, .string ⟨#[]⟩]), 4, 40) := by kernel_rfl
theorem infoLk : (Tryz.prog.info? 77).map (fun i => (i.zero, i.size, i.bytes)) = some (some (.agg #[.int .i64 0, .int .i64 0, .int .i64 0, .string ⟨#[]⟩, .int .i64 0, .int .i64 0, .string ⟨#[]⟩]), 7, 72) := by kernel_rfl
theorem infoLs : (Tryz.prog.info? 71).map (fun i => (i.zero, i.size, i.bytes)) = some (some (.slice none 0 0), 1, 24) := by kernel_rfl
theorem make_links (w : World) (n : Nat) (hn : n ≤ 100) : (Instr.makeSlice 108 (.int .i64 n) (.int .i64 n)).run Tryz.prog w = .ok (.slice (some ⟨w.heap.size, 0, none⟩) n n) (w.alloc (.cells (madeCells #[.slice none 0 0] n) 71)) := by
  obtain ⟨i0, hi, hz0, hz1, hz2⟩ := info_parts infoLs; have h := run_make (P := Tryz.prog) w 108 71 i0 _ Tryz.underlying108 hi hz0 .i64 .i64 n n (by omega) (Int.le_refl _) (by rw [hz2]; omega) (by omega); rw [hz1] at h
  simp only [Int.toNat_natCast, Nat.mul_one] at h
  exact h
theorem four_allocs (w : World) (o1 o2 o3 o4 : Obj) : ((((w.alloc o1).alloc o2).alloc o3).alloc o4).heap[w.heap.size]? = some o1 ∧ ((((w.alloc o1).alloc o2).alloc o3).alloc o4).heap[w.heap.size + 1]? = some o2 ∧ ((((w.alloc o1).alloc o2).alloc o3).alloc o4).heap[w.heap.size + 2]? = some o3 ∧ ((((w.alloc o1).alloc o2).alloc o3).alloc o4).heap[w.heap.size + 3]? = some o4 ∧ Below w.heap.size w ((((w.alloc o1).alloc o2).alloc o3).alloc o4) := by
  have n := fun (W : World) (o : Obj) => World.alloc_heap_new W o
  have b := fun (W : World) (o : Obj) (i : Nat) (h : i < W.heap.size) => Below.heap_alloc W o i h
  have e1 := n w o1; have e2 := n (w.alloc o1) o2; have e3 := n ((w.alloc o1).alloc o2) o3; have e4 := n (((w.alloc o1).alloc o2).alloc o3) o4
  simp only [World.size_alloc] at e1 e2 e3 e4
  refine ⟨?_, ?_, ?_, e4, ?_⟩
  · rw [b _ _ _ (by simp only [World.size_alloc]; omega), b _ _ _ (by simp only [World.size_alloc]; omega), b _ _ _ (by simp only [World.size_alloc]; omega)]; exact e1
  · rw [b _ _ _ (by simp only [World.size_alloc]; omega), b _ _ _ (by simp only [World.size_alloc]; omega)]; exact e2
  · rw [b _ _ _ (by simp only [World.size_alloc]; omega)]; exact e3
  · exact (((((Below.refl _ w).alloc (Nat.le_refl _) _).alloc (by simp) _).alloc (by simp; omega) _).alloc (by simp; omega) _)
theorem g0_of {wx : World} {g bl bu bw : Nat} (N B : Nat) (hN : N ≤ 100) (h1 : wx.heap[g]? = some (.cells #[.slice none 0 0, .slice (some ⟨bl, 0, none⟩) N N, .slice (some ⟨bu, 0, none⟩) N N, .map (some bw)] 111)) (h2 : wx.heap[bl]? = some (.cells (madeCells #[.slice none 0 0] N) 71)) (h3 : wx.heap[bu]? = some (.cells (madeCells #[.slice none 0 0] N) 71)) (h4 : wx.heap[bw]? = some (.map #[] 0)) (hne : bl ≠ bu) (g1 : B ≤ g) (g2 : B ≤ bl) (g3 : B ≤ bu) (g4 : B ≤ bw) :
    GIn wx B g (.slice none 0 0) (.slice (some ⟨bl, 0, none⟩) N N) (.slice (some ⟨bu, 0, none⟩) N N) bw [] (List.replicate N (.slice none 0 0)) (List.replicate N (.slice none 0 0)) (List.replicate N []) (List.replicate N []) (fun _ => []) := by
  have own : ∀ b, B ≤ b → wx.heap[b]? = some (.cells (madeCells #[.slice none 0 0] N) 71) → wx.ownsRow B 71 1 (.slice (some ⟨b, 0, none⟩) N N) (List.replicate N ([] : List Lk)).length (List.replicate N (.slice none 0 0)) := fun b hb hh => by
    rw [List.length_replicate]
    refine ⟨by simp, .inr ⟨b, N, _, rfl, hb, hh, Nat.le_refl _, by unfold maxLen; omega, by rw [size_madeCells]; omega, ?_⟩⟩
    rw [toList_madeCells_one, Nat.mul_one, List.take_replicate, Nat.min_self]
  have el : ∀ (i : Nat) (x : Value) (y : List Lk), (List.replicate N (Value.slice none 0 0))[i]? = some x → (List.replicate N ([] : List Lk))[i]? = some y → wx.ownsRow B 77 7 x y.length (y.flatMap lkC) := fun i x y hx hy => by
    rw [List.getElem?_replicate] at hx hy
    split at hx
    · rename_i hi
      rw [if_pos hi] at hy
      injection hx with hx
      injection hy with hy
      subst hx hy
      exact World.ownsRow_nil _ _ _ _
    · cases hx
  refine ⟨h1, g1, World.ownsRow_nil _ _ _ _, ⟨own bl g2 h2, own bu g3 h3, fun g' e1 e2 => ?_, el, el, ?_⟩, ⟨g4, [], ⟨#[], 0, h4, rfl, Go.MapKept.stamped_empty 0⟩, List.Pairwise.nil, by simp, by simp⟩⟩
  · simp [Value.ownBlock] at e1 e2
    omega
  · rw [List.pairwise_iff_getElem]
    intro i j hi hj hij g' e1
    exfalso
    have : (List.replicate N (Value.slice none 0 0) ++ List.replicate N (Value.slice none 0 0))[i] = .slice none 0 0 := by
      rcases List.mem_append.1 (List.getElem_mem hi) with h | h <;> exact List.eq_of_mem_replicate h
    rw [this] at e1
    cases e1
def DbG0 (N : Nat) (w1 : World) (v : Value) (wx : World) : Prop := ∃ g bl bu bw, v = .pointer (some ⟨g, 0, none⟩) ∧ GIn wx w1.heap.size g (.slice none 0 0) (.slice (some ⟨bl, 0, none⟩) N N) (.slice (some ⟨bu, 0, none⟩) N N) bw [] (List.replicate N (.slice none 0 0)) (List.replicate N (.slice none 0 0)) (List.replicate N []) (List.replicate N []) (fun _ => []) ∧ Below w1.heap.size w1 wx
def LkBox (F : Int) (k : Nat) (n : Nm) (W : World) (v : Value) (wx : World) : Prop := ∃ xb, v = .pointer (some ⟨xb, 0, none⟩) ∧ W.heap.size ≤ xb ∧ Blk wx xb 77 #[.int .i64 F, .int .i64 k, .int .i64 n.kind, .string (bs n.owner), .int .i64 n.num, .int .i64 n.idx, .string (bs n.text)] ∧ Below W.heap.size W wx
theorem own_cell1 {w : World} {base e gl n m c i : Nat} {xs : List Value} {x : Value} (h : w.ownsRow base e 1 (.slice (some ⟨gl, 0, none⟩) m c) n xs) (hx : xs[i]? = some x) : w.cell? ⟨gl, i, none⟩ = some x := by
  obtain ⟨hl, ⟨h0, _⟩ | ⟨g', cap, cur, hv, hg, hh, h1, h2, h3, h4⟩⟩ := h
  · cases h0
  · injection hv with hv _ _
    injection hv with hv
    injection hv with hv _ _
    subst hv; rw [cell_of_row w gl i cur e (0, 0) hh]; rw [← h4, List.getElem?_take] at hx
    split at hx
    · simpa using hx
    · cases hx
theorem own_frozen1 {w : World} {base e gl n m c : Nat} {xs : List Value} (h : w.ownsRow base e 1 (.slice (some ⟨gl, 0, none⟩) m c) n xs) (i : Nat) : w.frozen? ⟨gl, i, none⟩ = false := by
  obtain ⟨cur, hc⟩ := own_cells_of h (g := gl) rfl
  exact Blk.frozen (show Blk w gl e cur from hc) i
theorem lnkA_take {d : List Ac} {a : Ac} {m : Nat} (hm : m < a.reads.length) : (lnkA d a).take (m + 1) = (lnkA d a).take m ++ [⟨wrI (wls d a.reads[m].name) d.length, d.length, a.reads[m].name⟩] := by
  unfold lnkA
  rw [← List.map_take, ← List.map_take, List.take_succ_eq_append_getElem hm, List.map_append]
  rfl
theorem get_mid {α : Type} {A B : List α} {k : Nat} (h : A.length = k) {m : α} : (A ++ m :: B)[k]? = some m := by
  subst h; rw [List.getElem?_append_right (Nat.le_refl _), Nat.sub_self]; rfl
theorem set_mid {α : Type} {A B : List α} {k : Nat} (h : A.length = k) {m m' : α} : (A ++ m :: B).set k m' = A ++ m' :: B := by
  subst h; rw [List.set_append_right _ _ (Nat.le_refl _), Nat.sub_self]; rfl
theorem lnkF_flat : ∀ (d r : List Ac), (∀ a ∈ r, a.reads.length ≤ 10) → (lnkF d r).flatten.length ≤ r.length * 10
  | d, [], _ => by simp [lnkF]
  | d, b :: r, h => by
    have h1 := lnkF_flat (d ++ [b]) r fun a ha => h a (by simp [ha])
    have h2 := h b (by simp)
    have h3 : (lnkA d b).length = b.reads.length := by unfold lnkA; rw [List.length_map]
    simp only [lnkF, List.flatten_cons, List.length_append, List.length_cons]
    omega
theorem lnkD_flat {l : List Ac} (h : ∀ a ∈ l, a.reads.length ≤ 10) : (lnkD l).flatten.length ≤ l.length * 10 := lnkF_flat [] l h
def Db4 (l : List Ac) (k : Nat) (a : Ac) (ks : List Ky) (w1 W : World) (g bl bu bw : Nat) (vk : Value) (vL vU : List Value) (i : Value) (wr : World) : Prop := ∃ m : Nat, m ≤ a.writes.length ∧ i = .int .i64 m ∧ GIn wr w1.heap.size g vk (.slice (some ⟨bl, 0, none⟩) l.length l.length) (.slice (some ⟨bu, 0, none⟩) l.length l.length) bw (ks ++ [a.key]) vL vU (lnkD (l.take (k + 1)) ++ List.replicate (l.length - (k + 1)) []) (UT l.length (lnkD (l.take (k + 1))).flatten) (wlsT (l.take k) (a.writes.take m)) ∧ Kept LG W wr ∧ Below w1.heap.size W wr
def Db2 (a : Ac) (W : World) (v i : Value) (wr : World) : Prop := ∃ m : Nat, m ≤ a.reads.length ∧ i = .int .i64 m ∧ OwnP 45 5 nmC wr W.heap.size v ((a.reads.take m).map Ch.name) ∧ Below W.heap.size W wr
def Db3 (l : List Ac) (k : Nat) (a : Ac) (ks : List Ky) (w1 W : World) (g bl bu bw : Nat) (vk : Value) (i : Value) (wr : World) : Prop := ∃ m : Nat, m ≤ a.reads.length ∧ i = .int .i64 m ∧ (∃ vL vU, GIn wr w1.heap.size g vk (.slice (some ⟨bl, 0, none⟩) l.length l.length) (.slice (some ⟨bu, 0, none⟩) l.length l.length) bw (ks ++ [a.key]) vL vU (lnkD (l.take k) ++ (lnkA (l.take k) a).take m :: List.replicate (l.length - k - 1) []) (UT l.length ((lnkD (l.take k)).flatten ++ (lnkA (l.take k) a).take m)) (wls (l.take k))) ∧ Kept LG W wr ∧ Below w1.heap.size w1 wr
def Db1 (l : List Ac) (w1 : World) (g bl bu bw : Nat) (i : Value) (wr : World) : Prop := ∃ k : Nat, k ≤ l.length ∧ i = .int .i64 k ∧ (∃ vk vL vU, GIn wr w1.heap.size g vk (.slice (some ⟨bl, 0, none⟩) l.length l.length) (.slice (some ⟨bu, 0, none⟩) l.length l.length) bw ((l.take k).map Ac.key) vL vU (lnkD (l.take k) ++ List.replicate (l.length - k) []) (UT l.length (lnkD (l.take k)).flatten) (wls (l.take k))) ∧ Below w1.heap.size w1 wr
set_option maxRecDepth 100000 in
set_option maxHeartbeats 16000000 in
theorem dbuild_is {w : World} {v : Value} {l : List Ac} (h : RdAc w v l) (hk : KS l) (hr : ∀ a ∈ l, AcR a) (ho : ∀ a ∈ l, okAc a = true) (hlen : l.length ≤ 100) : Calls Tryz.prog 17 #[v] w fun e w' => ∃ g, e = .returned (.tuple #[.pointer (some ⟨g, 0, none⟩), .int .i64 0]) ∧ GAt w' w.heap.size g l ∧ Below w.heap.size w w' := by
  obtain ⟨A, c, rfl, hc⟩ := RowRd.form h; have HINC := Lib.hid (increasing_is h hk (fun a ha => (hr a ha).1.2.1) hlen); have H := Lib.hid h; have HR := Lib.hid hr; have HO := Lib.hid ho; have d1 : decide ((65536 : Int) < (l.length : Int)) = false := decide_eq_false (by omega); have d2 : decide (65536 < l.length) = false := decide_eq_false (by omega)
  have hmk := fun W => make_links W l.length hlen
  have hmm := @run_makeMap Tryz.prog; clear h hk hr ho
  go_enter Tryz.func17, Tryz.ntmps17
  go_upto_region 5 with (go_at_call 24; refine HINC.out.mono ?_; rintro e w1 ⟨rfl, hb1⟩; have HB1 := Lib.hid hb1; clear hb1)
  clear d1 d2 HINC
  go_cut [4] (fun v wx => DbG0 l.length w1 v wx)
  case first =>
    refine wp_region_noPanic ?_
    refine wp_region_held_drew (S := (fun (w' : World) => 0 ≤ w'.heap.size)) (by kernel_rfl) ?_ (fun hHeld => ?_)
    · exact Nat.zero_le _
    refine tk (v := ?_) 0 rfl (by kernel_rfl) (fun _ _ _ h => h) ?_ hHeld ?_; rotate_left
    · (intro w h; (try dsimp only at h); go_simp; try with_reducible rfl)
    try simp only [Act.put, pB, pC, pD]
    refine tk (v := ?_) 1 rfl (by kernel_rfl) (fun _ _ _ h => h) ?_ hHeld ?_; rotate_left
    · (intro w h; (try dsimp only at h); go_simp; try with_reducible rfl)
    try simp only [Act.put, pB, pC, pD]
    refine tk (v := ?_) 3 rfl (by kernel_rfl) (fun _ _ _ h => h) ?_ hHeld ?_; rotate_left
    · (intro w h; (try dsimp only at h); go_simp; try with_reducible rfl)
    try simp only [Act.put, pB, pC, pD]
    refine tk (v := ?_) 4 rfl (by kernel_rfl) (fun _ _ _ h => h) ?_ hHeld ?_; rotate_left
    · (intro w h; (try dsimp only at h); go_simp; try with_reducible rfl)
    try simp only [Act.put, pB, pC, pD]
    refine wpAnyH_ready (rs := [2, 5, 6]) (by kernel_rfl) (by simp) ?_
    refine AllReadyH.cons rfl (fun K hK => ?_) (AllReadyH.cons rfl (fun K hK => ?_) (AllReadyH.cons rfl (fun K hK => ?_) AllReadyH.nil))
    · go_simp
      refine hK.out _ _ ?_ (fun hNew => ?_)
      · exact Nat.zero_le _
      clear hK K hHeld; have hHeld := hNew; clear hNew; try simp only [Act.put, pB, pC, pD]
      refine wpAnyH_ready (rs := [5, 6]) (by kernel_rfl) (by simp) ?_
      refine AllReadyH.cons rfl (fun K hK => ?_) (AllReadyH.cons rfl (fun K hK => ?_) AllReadyH.nil)
      · go_simp
        refine hK.out _ _ ?_ (fun hNew => ?_)
        · exact Nat.zero_le _
        clear hK K hHeld; have hHeld := hNew; clear hNew; try simp only [Act.put, pB, pC, pD]
        refine wpAnyH_ready (rs := [6]) (by kernel_rfl) (by simp) ?_; refine AllReadyH.cons rfl (fun K hK => ?_) AllReadyH.nil
        · go_simp
          refine hK.out _ _ ?_ (fun hNew => ?_)
          · exact Nat.zero_le _
          clear hK K hHeld; have hHeld := hNew; clear hNew; try simp only [Act.put, pB, pC, pD]
          refine tk (v := ?_) 7 rfl (by kernel_rfl) (fun _ _ _ h => h) ?_ hHeld ?_; rotate_left
          · (intro w h; (try dsimp only at h); go_simp; try with_reducible rfl)
          try simp only [Act.put, pB, pC, pD]
          refine wpAnyH_ready (rs := [8]) (by kernel_rfl) (by simp) ?_; refine AllReadyH.cons rfl (fun K hK => ?_) AllReadyH.nil; go_simp
          refine hK.out _ _ ?_ (fun hNew => ?_)
          · exact Nat.zero_le _
          clear hK K hHeld; have hHeld := hNew; clear hNew; try simp only [Act.put, pB, pC, pD]
          refine tk (v := ?_) 9 rfl (by kernel_rfl) (fun _ _ _ h => h) ?_ hHeld ?_; rotate_left
          · (intro w h; (try dsimp only at h); go_simp; try with_reducible rfl)
          try simp only [Act.put, pB, pC, pD]
          refine wpAnyH_done (by kernel_rfl) ?_ _; clear hHeld
          try simp only [List.getElem_toArray, List.getElem_cons_zero, List.getElem_cons_succ, Act.put, pB, pC, pD]
          refine NoPanic.normal ?_
          go_wp2_with fail
          go_meet
          case rel =>
            obtain ⟨f0, f1, f2, f3, fb⟩ := four_allocs w1 (.cells (madeCells #[.slice none 0 0] l.length) 71) (.cells (madeCells #[.slice none 0 0] l.length) 71) (.map #[] 0) (.cells #[.slice none 0 0, .slice (some ⟨w1.heap.size, 0, none⟩) l.length l.length, .slice (some ⟨w1.heap.size + 1, 0, none⟩) l.length l.length, .map (some (w1.heap.size + 2))] 111)
            exact ⟨w1.heap.size + 3, w1.heap.size, w1.heap.size + 1, w1.heap.size + 2, rfl, g0_of l.length w1.heap.size (by omega) f3 f0 f1 f2 (by omega) (by omega) (by omega) (by omega) (by omega), fb.drew⟩
      · go_simp
        refine hK.out _ _ ?_ (fun hNew => ?_)
        · exact Nat.zero_le _
        clear hK K hHeld; have hHeld := hNew; clear hNew; try simp only [Act.put, pB, pC, pD]
        refine wpAnyH_ready (rs := [5]) (by kernel_rfl) (by simp) ?_; refine AllReadyH.cons rfl (fun K hK => ?_) AllReadyH.nil
        · go_simp
          refine hK.out _ _ ?_ (fun hNew => ?_)
          · exact Nat.zero_le _
          clear hK K hHeld; have hHeld := hNew; clear hNew; try simp only [Act.put, pB, pC, pD]
          refine tk (v := ?_) 7 rfl (by kernel_rfl) (fun _ _ _ h => h) ?_ hHeld ?_; rotate_left
          · (intro w h; (try dsimp only at h); go_simp; try with_reducible rfl)
          try simp only [Act.put, pB, pC, pD]
          refine wpAnyH_ready (rs := [8]) (by kernel_rfl) (by simp) ?_; refine AllReadyH.cons rfl (fun K hK => ?_) AllReadyH.nil; go_simp
          refine hK.out _ _ ?_ (fun hNew => ?_)
          · exact Nat.zero_le _
          clear hK K hHeld; have hHeld := hNew; clear hNew; try simp only [Act.put, pB, pC, pD]
          refine tk (v := ?_) 9 rfl (by kernel_rfl) (fun _ _ _ h => h) ?_ hHeld ?_; rotate_left
          · (intro w h; (try dsimp only at h); go_simp; try with_reducible rfl)
          try simp only [Act.put, pB, pC, pD]
          refine wpAnyH_done (by kernel_rfl) ?_ _; clear hHeld
          try simp only [List.getElem_toArray, List.getElem_cons_zero, List.getElem_cons_succ, Act.put, pB, pC, pD]
          refine NoPanic.normal ?_
          go_wp2_with fail
          go_meet
          case rel =>
            obtain ⟨f0, f1, f2, f3, fb⟩ := four_allocs w1 (.cells (madeCells #[.slice none 0 0] l.length) 71) (.map #[] 0) (.cells (madeCells #[.slice none 0 0] l.length) 71) (.cells #[.slice none 0 0, .slice (some ⟨w1.heap.size, 0, none⟩) l.length l.length, .slice (some ⟨w1.heap.size + 2, 0, none⟩) l.length l.length, .map (some (w1.heap.size + 1))] 111)
            exact ⟨w1.heap.size + 3, w1.heap.size, w1.heap.size + 2, w1.heap.size + 1, rfl, g0_of l.length w1.heap.size (by omega) f3 f0 f2 f1 (by omega) (by omega) (by omega) (by omega) (by omega), fb.drew⟩
    · go_simp
      refine hK.out _ _ ?_ (fun hNew => ?_)
      · exact Nat.zero_le _
      clear hK K hHeld; have hHeld := hNew; clear hNew; try simp only [Act.put, pB, pC, pD]
      refine wpAnyH_ready (rs := [2, 6]) (by kernel_rfl) (by simp) ?_
      refine AllReadyH.cons rfl (fun K hK => ?_) (AllReadyH.cons rfl (fun K hK => ?_) AllReadyH.nil)
      · go_simp
        refine hK.out _ _ ?_ (fun hNew => ?_)
        · exact Nat.zero_le _
        clear hK K hHeld; have hHeld := hNew; clear hNew; try simp only [Act.put, pB, pC, pD]
        refine wpAnyH_ready (rs := [6]) (by kernel_rfl) (by simp) ?_; refine AllReadyH.cons rfl (fun K hK => ?_) AllReadyH.nil
        · go_simp
          refine hK.out _ _ ?_ (fun hNew => ?_)
          · exact Nat.zero_le _
          clear hK K hHeld; have hHeld := hNew; clear hNew; try simp only [Act.put, pB, pC, pD]
          refine tk (v := ?_) 7 rfl (by kernel_rfl) (fun _ _ _ h => h) ?_ hHeld ?_; rotate_left
          · (intro w h; (try dsimp only at h); go_simp; try with_reducible rfl)
          try simp only [Act.put, pB, pC, pD]
          refine wpAnyH_ready (rs := [8]) (by kernel_rfl) (by simp) ?_; refine AllReadyH.cons rfl (fun K hK => ?_) AllReadyH.nil; go_simp
          refine hK.out _ _ ?_ (fun hNew => ?_)
          · exact Nat.zero_le _
          clear hK K hHeld; have hHeld := hNew; clear hNew; try simp only [Act.put, pB, pC, pD]
          refine tk (v := ?_) 9 rfl (by kernel_rfl) (fun _ _ _ h => h) ?_ hHeld ?_; rotate_left
          · (intro w h; (try dsimp only at h); go_simp; try with_reducible rfl)
          try simp only [Act.put, pB, pC, pD]
          refine wpAnyH_done (by kernel_rfl) ?_ _; clear hHeld
          try simp only [List.getElem_toArray, List.getElem_cons_zero, List.getElem_cons_succ, Act.put, pB, pC, pD]
          refine NoPanic.normal ?_
          go_wp2_with fail
          go_meet
          case rel =>
            obtain ⟨f0, f1, f2, f3, fb⟩ := four_allocs w1 (.cells (madeCells #[.slice none 0 0] l.length) 71) (.cells (madeCells #[.slice none 0 0] l.length) 71) (.map #[] 0) (.cells #[.slice none 0 0, .slice (some ⟨w1.heap.size + 1, 0, none⟩) l.length l.length, .slice (some ⟨w1.heap.size, 0, none⟩) l.length l.length, .map (some (w1.heap.size + 2))] 111)
            exact ⟨w1.heap.size + 3, w1.heap.size + 1, w1.heap.size, w1.heap.size + 2, rfl, g0_of l.length w1.heap.size (by omega) f3 f1 f0 f2 (by omega) (by omega) (by omega) (by omega) (by omega), fb.drew⟩
      · go_simp
        refine hK.out _ _ ?_ (fun hNew => ?_)
        · exact Nat.zero_le _
        clear hK K hHeld; have hHeld := hNew; clear hNew; try simp only [Act.put, pB, pC, pD]
        refine wpAnyH_ready (rs := [2]) (by kernel_rfl) (by simp) ?_; refine AllReadyH.cons rfl (fun K hK => ?_) AllReadyH.nil
        · go_simp
          refine hK.out _ _ ?_ (fun hNew => ?_)
          · exact Nat.zero_le _
          clear hK K hHeld; have hHeld := hNew; clear hNew; try simp only [Act.put, pB, pC, pD]
          refine tk (v := ?_) 7 rfl (by kernel_rfl) (fun _ _ _ h => h) ?_ hHeld ?_; rotate_left
          · (intro w h; (try dsimp only at h); go_simp; try with_reducible rfl)
          try simp only [Act.put, pB, pC, pD]
          refine wpAnyH_ready (rs := [8]) (by kernel_rfl) (by simp) ?_; refine AllReadyH.cons rfl (fun K hK => ?_) AllReadyH.nil; go_simp
          refine hK.out _ _ ?_ (fun hNew => ?_)
          · exact Nat.zero_le _
          clear hK K hHeld; have hHeld := hNew; clear hNew; try simp only [Act.put, pB, pC, pD]
          refine tk (v := ?_) 9 rfl (by kernel_rfl) (fun _ _ _ h => h) ?_ hHeld ?_; rotate_left
          · (intro w h; (try dsimp only at h); go_simp; try with_reducible rfl)
          try simp only [Act.put, pB, pC, pD]
          refine wpAnyH_done (by kernel_rfl) ?_ _; clear hHeld
          try simp only [List.getElem_toArray, List.getElem_cons_zero, List.getElem_cons_succ, Act.put, pB, pC, pD]
          refine NoPanic.normal ?_
          go_wp2_with fail
          go_meet
          case rel =>
            obtain ⟨f0, f1, f2, f3, fb⟩ := four_allocs w1 (.cells (madeCells #[.slice none 0 0] l.length) 71) (.map #[] 0) (.cells (madeCells #[.slice none 0 0] l.length) 71) (.cells #[.slice none 0 0, .slice (some ⟨w1.heap.size + 2, 0, none⟩) l.length l.length, .slice (some ⟨w1.heap.size, 0, none⟩) l.length l.length, .map (some (w1.heap.size + 1))] 111)
            exact ⟨w1.heap.size + 3, w1.heap.size + 2, w1.heap.size, w1.heap.size + 1, rfl, g0_of l.length w1.heap.size (by omega) f3 f2 f0 f1 (by omega) (by omega) (by omega) (by omega) (by omega), fb.drew⟩
    · go_simp
      refine hK.out _ _ ?_ (fun hNew => ?_)
      · exact Nat.zero_le _
      clear hK K hHeld; have hHeld := hNew; clear hNew; try simp only [Act.put, pB, pC, pD]
      refine wpAnyH_ready (rs := [2, 5]) (by kernel_rfl) (by simp) ?_
      refine AllReadyH.cons rfl (fun K hK => ?_) (AllReadyH.cons rfl (fun K hK => ?_) AllReadyH.nil)
      · go_simp
        refine hK.out _ _ ?_ (fun hNew => ?_)
        · exact Nat.zero_le _
        clear hK K hHeld; have hHeld := hNew; clear hNew; try simp only [Act.put, pB, pC, pD]
        refine wpAnyH_ready (rs := [5]) (by kernel_rfl) (by simp) ?_; refine AllReadyH.cons rfl (fun K hK => ?_) AllReadyH.nil
        · go_simp
          refine hK.out _ _ ?_ (fun hNew => ?_)
          · exact Nat.zero_le _
          clear hK K hHeld; have hHeld := hNew; clear hNew; try simp only [Act.put, pB, pC, pD]
          refine tk (v := ?_) 7 rfl (by kernel_rfl) (fun _ _ _ h => h) ?_ hHeld ?_; rotate_left
          · (intro w h; (try dsimp only at h); go_simp; try with_reducible rfl)
          try simp only [Act.put, pB, pC, pD]
          refine wpAnyH_ready (rs := [8]) (by kernel_rfl) (by simp) ?_; refine AllReadyH.cons rfl (fun K hK => ?_) AllReadyH.nil; go_simp
          refine hK.out _ _ ?_ (fun hNew => ?_)
          · exact Nat.zero_le _
          clear hK K hHeld; have hHeld := hNew; clear hNew; try simp only [Act.put, pB, pC, pD]
          refine tk (v := ?_) 9 rfl (by kernel_rfl) (fun _ _ _ h => h) ?_ hHeld ?_; rotate_left
          · (intro w h; (try dsimp only at h); go_simp; try with_reducible rfl)
          try simp only [Act.put, pB, pC, pD]
          refine wpAnyH_done (by kernel_rfl) ?_ _; clear hHeld
          try simp only [List.getElem_toArray, List.getElem_cons_zero, List.getElem_cons_succ, Act.put, pB, pC, pD]
          refine NoPanic.normal ?_
          go_wp2_with fail
          go_meet
          case rel =>
            obtain ⟨f0, f1, f2, f3, fb⟩ := four_allocs w1 (.map #[] 0) (.cells (madeCells #[.slice none 0 0] l.length) 71) (.cells (madeCells #[.slice none 0 0] l.length) 71) (.cells #[.slice none 0 0, .slice (some ⟨w1.heap.size + 1, 0, none⟩) l.length l.length, .slice (some ⟨w1.heap.size + 2, 0, none⟩) l.length l.length, .map (some (w1.heap.size))] 111)
            exact ⟨w1.heap.size + 3, w1.heap.size + 1, w1.heap.size + 2, w1.heap.size, rfl, g0_of l.length w1.heap.size (by omega) f3 f1 f2 f0 (by omega) (by omega) (by omega) (by omega) (by omega), fb.drew⟩
      · go_simp
        refine hK.out _ _ ?_ (fun hNew => ?_)
        · exact Nat.zero_le _
        clear hK K hHeld; have hHeld := hNew; clear hNew; try simp only [Act.put, pB, pC, pD]
        refine wpAnyH_ready (rs := [2]) (by kernel_rfl) (by simp) ?_; refine AllReadyH.cons rfl (fun K hK => ?_) AllReadyH.nil
        · go_simp
          refine hK.out _ _ ?_ (fun hNew => ?_)
          · exact Nat.zero_le _
          clear hK K hHeld; have hHeld := hNew; clear hNew; try simp only [Act.put, pB, pC, pD]
          refine tk (v := ?_) 7 rfl (by kernel_rfl) (fun _ _ _ h => h) ?_ hHeld ?_; rotate_left
          · (intro w h; (try dsimp only at h); go_simp; try with_reducible rfl)
          try simp only [Act.put, pB, pC, pD]
          refine wpAnyH_ready (rs := [8]) (by kernel_rfl) (by simp) ?_; refine AllReadyH.cons rfl (fun K hK => ?_) AllReadyH.nil; go_simp
          refine hK.out _ _ ?_ (fun hNew => ?_)
          · exact Nat.zero_le _
          clear hK K hHeld; have hHeld := hNew; clear hNew; try simp only [Act.put, pB, pC, pD]
          refine tk (v := ?_) 9 rfl (by kernel_rfl) (fun _ _ _ h => h) ?_ hHeld ?_; rotate_left
          · (intro w h; (try dsimp only at h); go_simp; try with_reducible rfl)
          try simp only [Act.put, pB, pC, pD]
          refine wpAnyH_done (by kernel_rfl) ?_ _; clear hHeld
          try simp only [List.getElem_toArray, List.getElem_cons_zero, List.getElem_cons_succ, Act.put, pB, pC, pD]
          refine NoPanic.normal ?_
          go_wp2_with fail
          go_meet
          case rel =>
            obtain ⟨f0, f1, f2, f3, fb⟩ := four_allocs w1 (.map #[] 0) (.cells (madeCells #[.slice none 0 0] l.length) 71) (.cells (madeCells #[.slice none 0 0] l.length) 71) (.cells #[.slice none 0 0, .slice (some ⟨w1.heap.size + 2, 0, none⟩) l.length l.length, .slice (some ⟨w1.heap.size + 1, 0, none⟩) l.length l.length, .map (some (w1.heap.size))] 111)
            exact ⟨w1.heap.size + 3, w1.heap.size + 2, w1.heap.size + 1, w1.heap.size, rfl, g0_of l.length w1.heap.size (by omega) f3 f2 f1 f0 (by omega) (by omega) (by omega) (by omega) (by omega), fb.drew⟩
  case rest =>
    clear hmk hmm; obtain ⟨g, bl, bu, bw, rfl, hg0, hb0⟩ := hcut; have HB0 := Lib.hid hb0; have HH := Lib.hid (RdAc.next H.out HB1.out)
    have H0 : Hid (Db1 l w1 g bl bu bw (.int .i64 (0 : Nat)) wc) := Lib.hid ⟨0, Nat.zero_le _, rfl, ⟨_, _, _, by
      rw [List.take_zero]
      show GIn wc w1.heap.size g (.slice none 0 0) (.slice (some ⟨bl, 0, none⟩) l.length l.length) (.slice (some ⟨bu, 0, none⟩) l.length l.length) bw [] _ _ (List.replicate l.length []) (UT l.length []) (wls [])
      rw [UT_nil]
      exact hg0.data fun n => rfl⟩, hb0⟩
    clear hg0 hb0 H
    go_wp2_with fail
    go_loopw [32] (fun i wr => Db1 l w1 g bl bu bw i wr) (fun i _ => l.length - (intOf i).toNat)
    case atStart => exact H0.out
    case round =>
      clear H0; obtain ⟨k, hkl, rfl, hgi, hbw⟩ := hrel; have HBW := Lib.hid hbw; clear hbw
      by_cases hk : k < l.length
      · have j1 : (0 : Int) ≤ (k : Int) := by omega
        have j2 : (k : Int) < (l.length : Int) := by omega
        have j3 : decide ((k : Int) < (l.length : Int)) = true := decide_eq_true j2; obtain ⟨vk, vL, vU, hgi⟩ := hgi; obtain ⟨ks, hks⟩ : ∃ ks, (l.take k).map Ac.key = ks := ⟨_, rfl⟩
        have hks100 : ks.length ≤ 100 := by rw [← hks, List.length_map, List.length_take]; omega
        have HKS := Lib.hid hks; rw [hks] at hgi; have GR := Lib.hid hgi; clear hks hgi; obtain ⟨b, o, u1, u2, hbe, hbr, n1, n2, y0, y1, y2, y3, y4, y5⟩ := RdAc.piece (RdAc.next HH.out HBW.out) hk; subst hbe; obtain ⟨a, hae⟩ : ∃ a, l[k] = a := ⟨_, rfl⟩; rw [hae] at n1 n2 y0 y1 y2 y3; have HAE := Lib.hid hae; obtain ⟨A1, c1, rfl, hc1⟩ := RdP.form n1; obtain ⟨A2, c2, rfl, hc2⟩ := RdP.form n2; have N0 : Hid (NAc wr (.slice A1 a.reads.length c1, .slice A2 a.writes.length c2) a) := Lib.hid ⟨n1, n2⟩; have HAR : Hid (AcR a) := Lib.hid (by rw [← hae]; exact HR.out _ (List.getElem_mem hk)); have HAO : Hid (okAc a = true) := Lib.hid (by rw [← hae]; exact HO.out _ (List.getElem_mem hk)); have hrl : a.reads.length ≤ 10 := HAR.out.2.2.2.1; have hwl : a.writes.length ≤ 10 := HAR.out.2.2.2.2; clear hae n1 n2
        go_upto_region 9 with (fail)
        have hbb := (Below.refl wr.heap.size wr).alloc (Nat.le_refl _) (.cells #[.int .i64 a.key.tick, .int .i64 a.key.cls, .int .i64 a.key.num, .string (bs a.key.lin), .slice A1 a.reads.length c1, .slice A2 a.writes.length c2] 38); have HBA := Lib.hid hbb; have ZW := Lib.hid (Blk.new wr 38 #[.int .i64 a.key.tick, .int .i64 a.key.cls, .int .i64 a.key.num, .string (bs a.key.lin), .slice A1 a.reads.length c1, .slice A2 a.writes.length c2]); have GW := Lib.hid (GR.out.next hbb); have N1 := Lib.hid (NAc.next hbb N0.out); have HBW1 := Lib.hid (HBW.out.trans (hbb.mono HBW.out.size)); clear y0 y1 y2 y3 y4 y5 hbb N0 GR HBW hbr; generalize wr.alloc (.cells #[.int .i64 a.key.tick, .int .i64 a.key.cls, .int .i64 a.key.num, .string (bs a.key.lin), .slice A1 a.reads.length c1, .slice A2 a.writes.length c2] 38) = W at *; obtain ⟨cb, hcb⟩ : ∃ cb, wr.heap.size = cb := ⟨_, rfl⟩; rw [hcb] at ZW ⊢; clear hcb; have x0 := GW.out.blk.cell 0; have z0 := ZW.out.cell 0; have z1 := ZW.out.cell 1; have z2 := ZW.out.cell 2; have z3 := ZW.out.cell 3; simp only [qB, qC, qD] at x0 z0 z1 z2 z3; have hbk := ((Below.refl W.heap.size W).alloc (Nat.le_refl _) (.cells #[.int .i64 a.key.tick, .int .i64 a.key.cls, .int .i64 a.key.num, .string (bs a.key.lin)] 35)).drew; have GV := Lib.hid (GW.out.next hbk); have HKY := Lib.hid GV.out.ky; have HBK := Lib.hid hbk; have ZV := Lib.hid (ZW.out.next hbk ZW.out.lt); have hw1W : w1.heap.size ≤ W.heap.size := HBW1.out.size; obtain ⟨i0, hi, hz0, hz1, hz2⟩ := info_parts infoKy
        refine wp_region_noPanic ?_
        refine wp_region_last (S := (fun (w' : World) => w'.cell? ⟨g, 0, none⟩ = some vk ∧ w'.cell? ⟨cb, 0, none⟩ = some (.int .i64 a.key.tick) ∧ w'.cell? ⟨cb, 1, none⟩ = some (.int .i64 a.key.cls) ∧ w'.cell? ⟨cb, 2, none⟩ = some (.int .i64 a.key.num) ∧ w'.cell? ⟨cb, 3, none⟩ = some (.string (bs a.key.lin)))) 11 11 rfl (by kernel_rfl) (by kernel_rfl) ?_ (fun hHeld => ?_)
        · exact ⟨x0, z0, z1, z2, z3⟩
        refine tk (v := ?_) 0 rfl (by kernel_rfl) (fun _ _ _ h => h) ?_ hHeld ?_; rotate_left
        · (intro w h; (try dsimp only at h); go_simp; try with_reducible rfl)
        try simp only [Act.put, pB, pC, pD]
        refine tk (v := ?_) 1 rfl (by kernel_rfl) (fun _ _ _ h => h) ?_ hHeld ?_; rotate_left
        · (intro w h; (try dsimp only at h); go_simp; try with_reducible rfl)
        try simp only [Act.put, pB, pC, pD]
        refine tk (v := ?_) 2 rfl (by kernel_rfl) (fun _ _ _ h => h) ?_ hHeld ?_; rotate_left
        · (intro w h; (try dsimp only at h); go_simp; try with_reducible rfl)
        try simp only [Act.put, pB, pC, pD]
        refine tk (v := ?_) 3 rfl (by kernel_rfl) (fun _ _ _ h => h) ?_ hHeld ?_; rotate_left
        · (intro w h; (try dsimp only at h); go_simp; try with_reducible rfl)
        try simp only [Act.put, pB, pC, pD]
        refine tk (v := ?_) 4 rfl (by kernel_rfl) (fun _ _ _ h => h) ?_ hHeld ?_; rotate_left
        · (intro w h; (try dsimp only at h); go_simp; try with_reducible rfl)
        try simp only [Act.put, pB, pC, pD]
        refine tk (v := ?_) 5 rfl (by kernel_rfl) (fun _ _ _ h => h) ?_ hHeld ?_; rotate_left
        · (intro w h; (try dsimp only at h); go_simp; try with_reducible rfl)
        try simp only [Act.put, pB, pC, pD]
        refine tk (v := ?_) 6 rfl (by kernel_rfl) (fun _ _ _ h => h) ?_ hHeld ?_; rotate_left
        · (intro w h; (try dsimp only at h); go_simp; try with_reducible rfl)
        try simp only [Act.put, pB, pC, pD]
        refine wpAnyH_ready (rs := [7]) (by kernel_rfl) (by simp) ?_; refine AllReadyH.cons rfl (fun K hK => ?_) AllReadyH.nil; go_simp
        refine hK.out _ _ ?_ (fun hNew => ?_)
        · exact ⟨(World.cell?_alloc_lt W _ _ GW.out.blk.lt).trans x0, (World.cell?_alloc_lt W _ _ ZW.out.lt).trans z0, (World.cell?_alloc_lt W _ _ ZW.out.lt).trans z1, (World.cell?_alloc_lt W _ _ ZW.out.lt).trans z2, (World.cell?_alloc_lt W _ _ ZW.out.lt).trans z3⟩
        clear hK K hHeld; have hHeld := hNew; clear hNew; try simp only [Act.put, pB, pC, pD]
        refine wpAnyH_ready (rs := [8]) (by kernel_rfl) (by simp) ?_; refine AllReadyH.cons rfl (fun K hK => ?_) AllReadyH.nil
        refine step_append_w _ (by rfl) _ _ _ (by rfl) w1.heap.size 35 i0 _ 4 40 Tryz.underlying109 hi hz0 hz1 hz2 rfl (by omega) _ (ks.length) (ks.flatMap kyC) (by rfl) HKY.out (.slice (some ⟨W.heap.size, 0, none⟩) 1 1) 1 [.int .i64 a.key.tick, .int .i64 a.key.cls, .int .i64 a.key.num, .string (bs a.key.lin)] (by rfl) (Rd.of_own (own_new W 0 35 4 [.int .i64 a.key.tick, .int .i64 a.key.cls, .int .i64 a.key.num, .string (bs a.key.lin)] rfl (Nat.zero_le _))) (by omega) (by rfl) (by simp [Value.oneCell']) (by unfold maxLen; omega) (by omega) (by simp; omega) ?_; intro v7 w7 hown7 hg7 hat7; obtain ⟨A7, c7, rfl, _⟩ := own_len hown7; have hgb := own_blk_ne HKY.out GV.out.blk (by decide); have hB7 := GV.out.blk.grown hg7 (fun e => hgb e.symm); have hcb := own_blk_ne HKY.out ZV.out (by decide); have hC7 := ZV.out.grown hg7 (fun e => hcb e.symm); have HOW7 := Lib.hid hown7; have HG7 := Lib.hid hg7; have r0 := hB7.cell 0; have rf := hB7.frozen 0; have e0 := hC7.cell 0; have e1 := hC7.cell 1; have e2 := hC7.cell 2; have e3 := hC7.cell 3; (simp only [qB, qC, qD] at r0 e0 e1 e2 e3); clear hown7 hg7 hat7 hgb hcb hB7 hC7
        refine hK.out _ _ ?_ (fun hNew => ?_)
        · exact ⟨r0, e0, e1, e2, e3⟩
        clear hK K hHeld; have hHeld := hNew; clear hNew; try simp only [Act.put, pB, pC, pD]
        refine tk (v := ?_) 9 rfl (by kernel_rfl) (fun _ _ _ h => h) ?_ hHeld ?_; rotate_left
        · (intro w h; (try dsimp only at h); go_simp; try with_reducible rfl)
        try simp only [Act.put, pB, pC, pD]
        refine tk (v := ?_) 10 rfl (by kernel_rfl) (fun _ _ _ h => h) ?_ hHeld ?_; rotate_left
        · (intro w h; (try dsimp only at h); go_simp; try with_reducible rfl)
        try simp only [Act.put, pB, pC, pD]
        refine wpAnyH_done (by kernel_rfl) ?_ _
        refine lastQ_step rfl (fun K hK => ?_)
        clear hHeld; go_simp
        refine hK _ _ ?_
        clear hK K
        refine NoPanic.normal ?_
        clear x0 z0 z1 z2 z3 r0 rf e0 e1 e2 e3 i0 hi hz0 hz1 hz2 hbk; have HK3 := Lib.hid (GIn.key_ GV.out (k := a.key) HG7.out HOW7.out)
        go_upto_region 10 with (fail)
        have N3 := Lib.hid (NAc.keep HK3.out.2.2 rfl (NAc.next HBK.out N1.out)); have Z3 := Lib.hid (ZV.out.keep HK3.out.2.2 rfl); have HBW3 := Lib.hid (HBW1.out.trans ((HBK.out.mono hw1W).trans HK3.out.2.1)); have G3 := Lib.hid HK3.out.1; clear HK3 HOW7 HG7 HKY GV ZV HBK GW ZW N1 HBW1; generalize w7.setCell ⟨g, 0, none⟩ (.slice A7 (ks.length + 1) c7) = W3 at *; have z4 := Z3.out.cell 4; simp only [qB, qC, qD] at z4; have HNS := Lib.hid (reads_names (a := a) (by have := HAO.out; unfold okAc at this; simp only [Bool.and_eq_true] at this; exact this.1)); have H0 : Hid (Db2 a W3 (.slice none 0 0) (.int .i64 (0 : Nat)) W3) := Lib.hid ⟨0, Nat.zero_le _, rfl, OwnP.nil, Below.refl _ _⟩; obtain ⟨i0, hi, hz0, hz1, hz2⟩ := info_parts infoNm
        go_upto_region 12 with (fail)
        go_loopw [7, 51] (fun v i wr => Db2 a W3 v i wr) (fun _ i _ => a.reads.length - (intOf i).toNat)
        case atStart => exact H0.out
        case round =>
          clear H0 z4; obtain ⟨m, hml, rfl, how, hbw⟩ := hrel; have HBW := Lib.hid hbw; clear hbw; obtain ⟨A5, c5, rfl, hc5⟩ := own_len how
          by_cases hm : m < a.reads.length
          · have j4 : (0 : Int) ≤ (m : Int) := by omega
            have j5 : (m : Int) < (a.reads.length : Int) := by omega
            have j6 : decide ((m : Int) < (a.reads.length : Int)) = true := decide_eq_true j5; obtain ⟨bb, oo, hbe, hbr, t0, t1, t2, t3, t4, t5, t6⟩ := RdCh.piece (show RdCh wr (.slice A1 a.reads.length c1) a.reads from RdP.next N3.out.1 HBW.out) hm; subst hbe; have HTK := Lib.hid (show (a.reads.take (m + 1)).map Ch.name = (a.reads.take m).map Ch.name ++ [a.reads[m].name] by rw [List.take_succ_eq_append_getElem hm, List.map_append]; rfl); obtain ⟨ch, hch⟩ : ∃ ch, a.reads[m] = ch := ⟨_, rfl⟩; rw [hch] at t0 t1 t2 t3 t4 t5 t6 HTK; obtain ⟨nl, hnl⟩ : ∃ nl, (a.reads.take m).map Ch.name = nl := ⟨_, rfl⟩
            have hnle : nl.length ≤ 10 := by rw [← hnl, List.length_map, List.length_take]; omega
            rw [hnl] at how HTK hc5 ⊢; clear hch hnl
            go_upto_region 14 with (fail)
            have hbd := (Below.refl wr.heap.size wr).alloc (Nat.le_refl _) (.cells #[.int .i64 ch.name.kind, .string (bs ch.name.owner), .int .i64 ch.name.num, .int .i64 ch.name.idx, .string (bs ch.name.text), .string (bs ch.value), .bool ch.absent] 92); have zb := Blk.new wr 92 #[.int .i64 ch.name.kind, .string (bs ch.name.owner), .int .i64 ch.name.num, .int .i64 ch.name.idx, .string (bs ch.name.text), .string (bs ch.value), .bool ch.absent]; have HBD := Lib.hid (HBW.out.trans (hbd.mono HBW.out.size)); have HOD := Lib.hid (OwnP.next how hbd); have v0 := zb.cell 0; have v1 := zb.cell 1; have v2 := zb.cell 2; have v3 := zb.cell 3; have v4 := zb.cell 4; simp only [qB, qC, qD] at v0 v1 v2 v3 v4; clear t0 t1 t2 t3 t4 t5 t6 hbd zb how; generalize wr.alloc (.cells #[.int .i64 ch.name.kind, .string (bs ch.name.owner), .int .i64 ch.name.num, .int .i64 ch.name.idx, .string (bs ch.name.text), .string (bs ch.value), .bool ch.absent] 92) = wd at *
            go_wp2_with (at_builtin; refine wpList_append_w _ rfl _ _ _ rfl W3.heap.size 45 i0 _ 5 56 Tryz.underlying98 hi hz0 hz1 hz2 rfl (by omega) (.slice A5 nl.length c5) nl.length (nl.flatMap nmC) rfl (own_next HOD.out ((Below.refl _ _).alloc (Nat.le_refl _) _)) (.slice (some ⟨wd.heap.size, 0, none⟩) 1 1) 1 [.int .i64 ch.name.kind, .string (bs ch.name.owner), .int .i64 ch.name.num, .int .i64 ch.name.idx, .string (bs ch.name.text)] rfl (Rd.of_own (own_new wd 0 45 5 [.int .i64 ch.name.kind, .string (bs ch.name.owner), .int .i64 ch.name.num, .int .i64 ch.name.idx, .string (bs ch.name.text)] rfl (Nat.zero_le _))) (by omega) rfl (by simp [Value.oneCell']) (by unfold maxLen; omega) (by omega) (by have := HBD.out.size; simp at this ⊢; omega) ?_; intro v5 w5 hown5 hg5 hat5; have HOW5 := Lib.hid hown5; have HG5 := Lib.hid hg5; clear hown5 hg5 hat5)
            go_roundw
            case rel =>
              have hbe : Below W3.heap.size W3 w5 := below_own (HBD.out.alloc HBD.out.size (.cells #[.int .i64 ch.name.kind, .string (bs ch.name.owner), .int .i64 ch.name.num, .int .i64 ch.name.idx, .string (bs ch.name.text)] 45)) (own_next HOD.out ((Below.refl _ _).alloc (Nat.le_refl _) _)) HG5.out (Nat.le_refl _) (by have := HBD.out.size; simp at this ⊢; omega)
              refine ⟨m + 1, by omega, by go_num, ?_, hbe⟩
              rw [HTK.out]
              exact OwnP.snoc HOW5.out
            case measure => simp [intOf]; omega
          · have j6 : decide ((m : Int) < (a.reads.length : Int)) = false := decide_eq_false (by omega)
            have HK0 := Lib.hid (show (a.reads.take m).map Ch.name = a.reads.map Ch.name by rw [List.take_of_length_le (by omega)]); rw [HK0.out] at how hc5 ⊢; obtain ⟨ns, hns⟩ : ∃ ns, a.reads.map Ch.name = ns := ⟨_, rfl⟩; rw [hns] at how hc5 HNS ⊢; have HNN := Lib.hid hns; have HNL := Lib.hid (show ns.length = a.reads.length by rw [← hns, List.length_map])
            have hnl10 : ns.length ≤ 10 := by have := HNL.out; omega
            have HRN := Lib.hid (show RdNm wr (.slice A5 ns.length c5) ns from Rd.of_own how); have HSO := Lib.hid (sorted_is HRN.out (by omega) HNS.out.1 HNS.out.2.1); clear how hns HRN i0 hi hz0 hz1 hz2
            go_upto_region 17 with (go_at_call 41; refine HSO.out.mono ?_; rintro e w4 ⟨v4, rfl, hown4, hb4⟩; rw [HNS.out.2.2] at hown4; obtain ⟨A8, c8, rfl, hc8⟩ := own_len hown4; have HS4 := Lib.hid (show RdNm w4 (.slice A8 ns.length c8) ns from Rd.of_own hown4); have HB4 := Lib.hid (HBW.out.trans (hb4.mono HBW.out.size)); clear hown4 hb4)
            have N4 := Lib.hid (NAc.next HB4.out N3.out); have Z4 := Lib.hid (Z3.out.next HB4.out Z3.out.lt); have G4 := Lib.hid (G3.out.next HB4.out); have HBW4 := Lib.hid (HBW3.out.trans (HB4.out.mono HBW3.out.size))
            have hrk : l.length - k = (l.length - k - 1) + 1 := by omega
            have H0 : Hid (Db3 l k a ks w1 w4 g bl bu bw (.slice A7 (ks.length + 1) c7) (.int .i64 (0 : Nat)) w4) := Lib.hid ⟨0, Nat.zero_le _, rfl, ⟨vL, vU, by
              have := G4.out; rw [hrk, List.replicate_succ] at this; rw [List.take_zero, List.append_nil]
              exact this⟩, Kept.refl _ _, HBW4.out⟩
            clear HSO N3 Z3 G3 HB4 HBW4 HBW HBW3 hrk G4 hm hml j6
            go_loopw [64] (fun i wr => Db3 l k a ks w1 w4 g bl bu bw (.slice A7 (ks.length + 1) c7) i wr) (fun i _ => a.reads.length - (intOf i).toNat)
            case atStart => exact H0.out
            case round =>
              clear H0; obtain ⟨m, hml, rfl, hgi, hkp, hbw⟩ := hrel; have HKP := Lib.hid hkp; have HBW := Lib.hid hbw; obtain ⟨vL, vU, hgi⟩ := hgi; have GR := Lib.hid hgi; clear hkp hbw hgi
              by_cases hm : m < a.reads.length
              · have j4 : (0 : Int) ≤ (m : Int) := by omega
                have hmn : m < ns.length := by have := HNL.out; omega
                have j5 : (m : Int) < (ns.length : Int) := by omega
                have j6 : decide ((m : Int) < (ns.length : Int)) = true := decide_eq_true j5; obtain ⟨bb, oo, hbe, hbr, t0, t1, t2, t3, t4⟩ := RdNm.piece (RdP.keep HS4.out HKP.out rfl) hmn; subst hbe; obtain ⟨n, hn⟩ : ∃ n, ns[m] = n := ⟨_, rfl⟩; rw [hn] at t0 t1 t2 t3 t4; have HN := Lib.hid (show a.reads[m].name = n by rw [← hn]; simp only [← HNN.out, List.getElem_map]); clear hn
                go_upto_region 19 with (fail)
                have hbn := (Below.refl wr.heap.size wr).alloc (Nat.le_refl _) (.cells #[.int .i64 n.kind, .string (bs n.owner), .int .i64 n.num, .int .i64 n.idx, .string (bs n.text)] 45); have zb := Blk.new wr 45 #[.int .i64 n.kind, .string (bs n.owner), .int .i64 n.num, .int .i64 n.idx, .string (bs n.text)]; have G5 := Lib.hid (GR.out.next hbn); have HKP5 := Lib.hid (HKP.out.trans (Kept.of_below LG hbn)); have HBW5 := Lib.hid (HBW.out.trans (hbn.mono HBW.out.size)); have v0 := zb.cell 0; have v1 := zb.cell 1; have v2 := zb.cell 2; have v3 := zb.cell 3; have v4 := zb.cell 4; have hnb := zb.lt; simp only [qB, qC, qD] at v0 v1 v2 v3 v4; clear t0 t1 t2 t3 t4 hbn zb GR HKP HBW hbr; generalize wr.alloc (.cells #[.int .i64 n.kind, .string (bs n.owner), .int .i64 n.num, .int .i64 n.idx, .string (bs n.text)] 45) = W5 at *; generalize wr.heap.size = nb at *; have HWR := Lib.hid (fun (W' : World) (hb : Below W5.heap.size W5 W') => writer_is n (k : Int) (G5.out.next hb) (wls_asc (fun b hb => by have := HO.out b (List.mem_of_mem_take hb); unfold okAc at this; simp only [Bool.and_eq_true] at this; exact this.2) n) (by have := wls_len (l := l.take k) (fun b hb => (HR.out b (List.mem_of_mem_take hb)).2.2.2.2) (by rw [List.length_take]; omega) n; omega)); obtain ⟨F, hF⟩ : ∃ F, wrI (wls (l.take k) n) (k : Int) = F := ⟨_, rfl⟩; rw [hF] at HWR; have HFE := Lib.hid hF
                unfold nmV nmA at HWR
                clear hF; have hw15 : w1.heap.size ≤ W5.heap.size := HBW5.out.size
                go_cut [12] (fun v wx => LkBox F k n W5 v wx)
                case first =>
                  refine wp_region_noPanic ?_
                  refine wp_region_last (S := (fun (w' : World) => w'.cell? ⟨nb, 0, none⟩ = some (.int .i64 n.kind) ∧ w'.cell? ⟨nb, 1, none⟩ = some (.string (bs n.owner)) ∧ w'.cell? ⟨nb, 2, none⟩ = some (.int .i64 n.num) ∧ w'.cell? ⟨nb, 3, none⟩ = some (.int .i64 n.idx) ∧ w'.cell? ⟨nb, 4, none⟩ = some (.string (bs n.text)))) 8 8 rfl (by kernel_rfl) (by kernel_rfl) ?_ (fun hHeld => ?_)
                  · exact ⟨v0, v1, v2, v3, v4⟩
                  refine tk (v := ?_) 0 rfl (by kernel_rfl) (fun _ _ _ h => h) ?_ hHeld ?_; rotate_left
                  · (intro w h; (try dsimp only at h); go_simp; try with_reducible rfl)
                  try simp only [Act.put, pB, pC, pD]
                  refine tk (v := ?_) 1 rfl (by kernel_rfl) (fun _ _ _ h => h) ?_ hHeld ?_; rotate_left
                  · (intro w h; (try dsimp only at h); go_simp; try with_reducible rfl)
                  try simp only [Act.put, pB, pC, pD]
                  refine tk (v := ?_) 2 rfl (by kernel_rfl) (fun _ _ _ h => h) ?_ hHeld ?_; rotate_left
                  · (intro w h; (try dsimp only at h); go_simp; try with_reducible rfl)
                  try simp only [Act.put, pB, pC, pD]
                  refine tk (v := ?_) 4 rfl (by kernel_rfl) (fun _ _ _ h => h) ?_ hHeld ?_; rotate_left
                  · (intro w h; (try dsimp only at h); go_simp; try with_reducible rfl)
                  try simp only [Act.put, pB, pC, pD]
                  refine tk (v := ?_) 5 rfl (by kernel_rfl) (fun _ _ _ h => h) ?_ hHeld ?_; rotate_left
                  · (intro w h; (try dsimp only at h); go_simp; try with_reducible rfl)
                  try simp only [Act.put, pB, pC, pD]
                  refine wpAnyH_ready (rs := [3, 7]) (by kernel_rfl) (by simp) ?_
                  refine AllReadyH.cons rfl (fun K hK => ?_) (AllReadyH.cons rfl (fun K hK => ?_) AllReadyH.nil)
                  · go_simp
                    refine (HWR.out _ (Below.refl W5.heap.size W5).drew).mono ?_; rintro e w6 ⟨rfl, hb6'⟩; have hb6 := (Below.refl W5.heap.size W5).drew.trans hb6'; have HB6 := Lib.hid hb6; have hnb6 := Nat.lt_of_lt_of_le hnb hb6.size; clear hb6'
                    try (go_wp2_with fail)
                    refine hK.out _ _ ?_ (fun hNew => ?_)
                    · exact ⟨(hb6.cell (p := ⟨nb, 0, none⟩) hnb).trans v0, (hb6.cell (p := ⟨nb, 1, none⟩) hnb).trans v1, (hb6.cell (p := ⟨nb, 2, none⟩) hnb).trans v2, (hb6.cell (p := ⟨nb, 3, none⟩) hnb).trans v3, (hb6.cell (p := ⟨nb, 4, none⟩) hnb).trans v4⟩
                    clear hK K hHeld; have hHeld := hNew; clear hNew; try simp only [Act.put, pB, pC, pD]
                    refine tk (v := ?_) 6 rfl (by kernel_rfl) (fun _ _ _ h => h) ?_ hHeld ?_; rotate_left
                    · (intro w h; (try dsimp only at h); go_simp; try with_reducible rfl)
                    try simp only [Act.put, pB, pC, pD]
                    refine wpAnyH_ready (rs := [7]) (by kernel_rfl) (by simp) ?_; refine AllReadyH.cons rfl (fun K hK => ?_) AllReadyH.nil; go_simp
                    refine hK.out _ _ ?_ (fun hNew => ?_)
                    · exact ⟨(World.cell?_alloc_lt w6 _ _ hnb6).trans ((hb6.cell (p := ⟨nb, 0, none⟩) hnb).trans v0), (World.cell?_alloc_lt w6 _ _ hnb6).trans ((hb6.cell (p := ⟨nb, 1, none⟩) hnb).trans v1), (World.cell?_alloc_lt w6 _ _ hnb6).trans ((hb6.cell (p := ⟨nb, 2, none⟩) hnb).trans v2), (World.cell?_alloc_lt w6 _ _ hnb6).trans ((hb6.cell (p := ⟨nb, 3, none⟩) hnb).trans v3), (World.cell?_alloc_lt w6 _ _ hnb6).trans ((hb6.cell (p := ⟨nb, 4, none⟩) hnb).trans v4)⟩
                    clear hK K hHeld; have hHeld := hNew; clear hNew; try simp only [Act.put, pB, pC, pD]
                    refine wpAnyH_done (by kernel_rfl) ?_ _
                    refine lastQ_step rfl (fun K hK => ?_)
                    clear hHeld; go_simp
                    refine hK _ _ ?_
                    clear hK K
                    refine NoPanic.normal ?_
                    go_wp2_with fail
                    go_meet
                    case rel => exact ⟨w6.heap.size, rfl, HB6.out.size, Blk.new _ _ _, HB6.out.alloc HB6.out.size _⟩
                  · go_simp
                    refine hK.out _ _ ?_ (fun hNew => ?_)
                    · exact ⟨(World.cell?_alloc_lt W5 _ _ hnb).trans v0, (World.cell?_alloc_lt W5 _ _ hnb).trans v1, (World.cell?_alloc_lt W5 _ _ hnb).trans v2, (World.cell?_alloc_lt W5 _ _ hnb).trans v3, (World.cell?_alloc_lt W5 _ _ hnb).trans v4⟩
                    clear hK K hHeld; have hHeld := hNew; clear hNew; try simp only [Act.put, pB, pC, pD]
                    refine wpAnyH_ready (rs := [3]) (by kernel_rfl) (by simp) ?_; refine AllReadyH.cons rfl (fun K hK => ?_) AllReadyH.nil; go_simp; have hbx := ((Below.refl W5.heap.size W5).alloc (Nat.le_refl _) (.cells #[.int .i64 0, .int .i64 0, .int .i64 0, .string ⟨#[]⟩, .int .i64 0, .int .i64 0, .string ⟨#[]⟩] 77)).drew; have zq := Blk.new W5 77 #[.int .i64 0, .int .i64 0, .int .i64 0, .string ⟨#[]⟩, .int .i64 0, .int .i64 0, .string ⟨#[]⟩]; refine (HWR.out _ hbx).mono ?_; rintro e w6 ⟨rfl, hb6'⟩; have hb6 := hbx.trans (hb6'.mono hbx.size); have HB6 := Lib.hid hb6; have ZQ := Lib.hid (zq.drew.next hb6' zq.lt); have q0 := ZQ.out.cell 0; have p0 := ZQ.out.frozen 0; have q1 := ZQ.out.cell 1; have p1 := ZQ.out.frozen 1; have q2 := ZQ.out.cell 2; have p2 := ZQ.out.frozen 2; have q3 := ZQ.out.cell 3; have p3 := ZQ.out.frozen 3; have q4 := ZQ.out.cell 4; have p4 := ZQ.out.frozen 4; have q5 := ZQ.out.cell 5; have p5 := ZQ.out.frozen 5; have q6 := ZQ.out.cell 6; have p6 := ZQ.out.frozen 6; (simp only [qB, qC, qD] at q0 q1 q2 q3 q4 q5 q6); clear hb6' hbx zq
                    try (go_wp2_with fail)
                    refine hK.out _ _ ?_ (fun hNew => ?_)
                    · exact ⟨(hb6.cell (p := ⟨nb, 0, none⟩) hnb).trans v0, (hb6.cell (p := ⟨nb, 1, none⟩) hnb).trans v1, (hb6.cell (p := ⟨nb, 2, none⟩) hnb).trans v2, (hb6.cell (p := ⟨nb, 3, none⟩) hnb).trans v3, (hb6.cell (p := ⟨nb, 4, none⟩) hnb).trans v4⟩
                    clear hK K hHeld; have hHeld := hNew; clear hNew; try simp only [Act.put, pB, pC, pD]
                    refine tk (v := ?_) 6 rfl (by kernel_rfl) (fun _ _ _ h => h) ?_ hHeld ?_; rotate_left
                    · (intro w h; (try dsimp only at h); go_simp; try with_reducible rfl)
                    try simp only [Act.put, pB, pC, pD]
                    refine wpAnyH_done (by kernel_rfl) ?_ _
                    refine lastQ_step rfl (fun K hK => ?_)
                    clear hHeld; go_simp
                    refine hK _ _ ?_
                    clear hK K
                    refine NoPanic.normal ?_
                    go_wp2_with fail
                    go_meet
                    case rel => exact ⟨W5.heap.size, rfl, Nat.le_refl _, (((((((ZQ.out.set_ 0 (.int .i64 F)).set_ 1 (.int .i64 k)).set_ 2 (.int .i64 n.kind)).set_ 3 (.string (bs n.owner))).set_ 4 (.int .i64 n.num)).set_ 5 (.int .i64 n.idx)).set_ 6 (.string (bs n.text))), (((((((HB6.out.setCell (p := ⟨W5.heap.size, 0, none⟩) (Nat.le_refl _) _).setCell (p := ⟨W5.heap.size, 1, none⟩) (Nat.le_refl _) _).setCell (p := ⟨W5.heap.size, 2, none⟩) (Nat.le_refl _) _).setCell (p := ⟨W5.heap.size, 3, none⟩) (Nat.le_refl _) _).setCell (p := ⟨W5.heap.size, 4, none⟩) (Nat.le_refl _) _).setCell (p := ⟨W5.heap.size, 5, none⟩) (Nat.le_refl _) _).setCell (p := ⟨W5.heap.size, 6, none⟩) (Nat.le_refl _) _)⟩
                case rest =>
                  obtain ⟨xb, rfl, hxb, hzx, hbc⟩ := hcut; clear v0 v1 v2 v3 v4 HWR hnb; have ZX := Lib.hid hzx; have G6 := Lib.hid (G5.out.next hbc); have HKP6 := Lib.hid (HKP5.out.trans (Kept.of_below LG hbc)); have HBW6 := Lib.hid (HBW5.out.trans (hbc.mono HBW5.out.size)); obtain ⟨mid, hmid⟩ : ∃ mid, (lnkA (l.take k) a).take m = mid := ⟨_, rfl⟩; have HMID := Lib.hid hmid; rw [hmid] at G5 G6
                  have hmidl : mid.length ≤ 10 := by rw [← hmid, List.length_take]; unfold lnkA; rw [List.length_map]; omega
                  have HY := Lib.hid (show (lnkA (l.take k) a).take (m + 1) = mid ++ [⟨F, k, n⟩] by
                    have hd : (l.take k).length = k := by rw [List.length_take]; omega
                    rw [lnkA_take hm, hmid, HN.out, hd, HFE.out])
                  have hLD : (lnkD (l.take k)).length = k := by rw [lnkD_len, List.length_take]; omega
                  have HLD := Lib.hid hLD
                  have hLl : (lnkD (l.take k) ++ mid :: List.replicate (l.length - k - 1) []).length = l.length := by rw [List.length_append, List.length_cons, List.length_replicate, hLD]; omega
                  have hvl : k < vL.length := by rw [G6.out.lu.lenL, hLl]; exact hk
                  have HXR := Lib.hid (get_mid hLD (m := mid) (B := List.replicate (l.length - k - 1) [])); have HKL := Lib.hid (show k < (lnkD (l.take k) ++ mid :: List.replicate (l.length - k - 1) []).length by rw [hLl]; exact hk); obtain ⟨xv, hxv⟩ : ∃ xv, vL[k]? = some xv := ⟨_, List.getElem?_eq_getElem hvl⟩; have HXV := Lib.hid hxv; have hx5 := G5.out.lu.el _ _ _ hxv HXR.out; obtain ⟨Ax, cx, rfl, _⟩ := own_len hx5; have HU5 := Lib.hid (show ∀ (i : Nat) (x : Value) (y : List Lk), vU[i]? = some x → (UT l.length ((lnkD (l.take k)).flatten ++ mid))[i]? = some y → x.ownBlock ≠ some xb from fun i x y hx hy e => by have := own_lt (G5.out.lu.eu i x y hx hy) e; omega); have HXN := Lib.hid (show (Value.slice Ax mid.length cx).ownBlock ≠ some xb from fun e => by have := own_lt hx5 e; omega); clear hmid hLD hLl hvl hxv hx5 hzx hbc HKP5 HBW5; obtain ⟨i0, hi, hz0, hz1, hz2⟩ := info_parts infoLk; have hw16 : w1.heap.size ≤ wc.heap.size := HBW6.out.size
                  go_upto_region 20 with (fail)
                  have hbq := ((Below.refl wc.heap.size wc).alloc (Nat.le_refl _) (.cells #[.int .i64 F, .int .i64 k, .int .i64 n.kind, .string (bs n.owner), .int .i64 n.num, .int .i64 n.idx, .string (bs n.text)] 77)).drew; have G7 := Lib.hid (G6.out.next hbq); have ZX7 := Lib.hid (ZX.out.next hbq ZX.out.lt); have HXO := Lib.hid (G7.out.lu.el _ _ _ HXV.out HXR.out); have HBQ := Lib.hid hbq; have x1 := G6.out.blk.cell 1; have xk := own_cell1 G6.out.lu.ln HXV.out; have hbl := own_lt G6.out.lu.ln (g := bl) rfl; have z0 := ZX.out.cell 0; have z1 := ZX.out.cell 1; have z2 := ZX.out.cell 2; have z3 := ZX.out.cell 3; have z4 := ZX.out.cell 4; have z5 := ZX.out.cell 5; have z6 := ZX.out.cell 6; simp only [qB, qC, qD] at x1 z0 z1 z2 z3 z4 z5 z6; clear hbq
                  refine wp_region_noPanic ?_
                  refine wp_region_last (S := (fun (w' : World) => w'.cell? ⟨g, 1, none⟩ = some (.slice (some ⟨bl, 0, none⟩) l.length l.length) ∧ w'.cell? ⟨bl, k, none⟩ = some (.slice Ax mid.length cx) ∧ w'.cell? ⟨xb, 0, none⟩ = some (.int .i64 F) ∧ w'.cell? ⟨xb, 1, none⟩ = some (.int .i64 k) ∧ w'.cell? ⟨xb, 2, none⟩ = some (.int .i64 n.kind) ∧ w'.cell? ⟨xb, 3, none⟩ = some (.string (bs n.owner)) ∧ w'.cell? ⟨xb, 4, none⟩ = some (.int .i64 n.num) ∧ w'.cell? ⟨xb, 5, none⟩ = some (.int .i64 n.idx) ∧ w'.cell? ⟨xb, 6, none⟩ = some (.string (bs n.text)))) 16 16 rfl (by kernel_rfl) (by kernel_rfl) ?_ (fun hHeld => ?_)
                  · exact ⟨x1, xk, z0, z1, z2, z3, z4, z5, z6⟩
                  refine tk (v := ?_) 0 rfl (by kernel_rfl) (fun _ _ _ h => h) ?_ hHeld ?_; rotate_left
                  · (intro w h; (try dsimp only at h); go_simp; try with_reducible rfl)
                  try simp only [Act.put, pB, pC, pD]
                  refine tk (v := ?_) 1 rfl (by kernel_rfl) (fun _ _ _ h => h) ?_ hHeld ?_; rotate_left
                  · (intro w h; (try dsimp only at h); go_simp; try with_reducible rfl)
                  try simp only [Act.put, pB, pC, pD]
                  refine tk (v := ?_) 2 rfl (by kernel_rfl) (fun _ _ _ h => h) ?_ hHeld ?_; rotate_left
                  · (intro w h; (try dsimp only at h); go_simp; try with_reducible rfl)
                  try simp only [Act.put, pB, pC, pD]
                  refine tk (v := ?_) 3 rfl (by kernel_rfl) (fun _ _ _ h => h) ?_ hHeld ?_; rotate_left
                  · (intro w h; (try dsimp only at h); go_simp; try with_reducible rfl)
                  try simp only [Act.put, pB, pC, pD]
                  refine tk (v := ?_) 4 rfl (by kernel_rfl) (fun _ _ _ h => h) ?_ hHeld ?_; rotate_left
                  · (intro w h; (try dsimp only at h); go_simp; try with_reducible rfl)
                  try simp only [Act.put, pB, pC, pD]
                  refine tk (v := ?_) 5 rfl (by kernel_rfl) (fun _ _ _ h => h) ?_ hHeld ?_; rotate_left
                  · (intro w h; (try dsimp only at h); go_simp; try with_reducible rfl)
                  try simp only [Act.put, pB, pC, pD]
                  refine tk (v := ?_) 6 rfl (by kernel_rfl) (fun _ _ _ h => h) ?_ hHeld ?_; rotate_left
                  · (intro w h; (try dsimp only at h); go_simp; try with_reducible rfl)
                  try simp only [Act.put, pB, pC, pD]
                  refine tk (v := ?_) 7 rfl (by kernel_rfl) (fun _ _ _ h => h) ?_ hHeld ?_; rotate_left
                  · (intro w h; (try dsimp only at h); go_simp; try with_reducible rfl)
                  try simp only [Act.put, pB, pC, pD]
                  refine tk (v := ?_) 8 rfl (by kernel_rfl) (fun _ _ _ h => h) ?_ hHeld ?_; rotate_left
                  · (intro w h; (try dsimp only at h); go_simp; try with_reducible rfl)
                  try simp only [Act.put, pB, pC, pD]
                  refine tk (v := ?_) 9 rfl (by kernel_rfl) (fun _ _ _ h => h) ?_ hHeld ?_; rotate_left
                  · (intro w h; (try dsimp only at h); go_simp; try with_reducible rfl)
                  try simp only [Act.put, pB, pC, pD]
                  refine tk (v := ?_) 10 rfl (by kernel_rfl) (fun _ _ _ h => h) ?_ hHeld ?_; rotate_left
                  · (intro w h; (try dsimp only at h); go_simp; try with_reducible rfl)
                  try simp only [Act.put, pB, pC, pD]
                  refine tk (v := ?_) 11 rfl (by kernel_rfl) (fun _ _ _ h => h) ?_ hHeld ?_; rotate_left
                  · (intro w h; (try dsimp only at h); go_simp; try with_reducible rfl)
                  try simp only [Act.put, pB, pC, pD]
                  refine tk (v := ?_) 12 rfl (by kernel_rfl) (fun _ _ _ h => h) ?_ hHeld ?_; rotate_left
                  · (intro w h; (try dsimp only at h); go_simp; try with_reducible rfl)
                  try simp only [Act.put, pB, pC, pD]
                  refine wpAnyH_ready (rs := [13]) (by kernel_rfl) (by simp) ?_; refine AllReadyH.cons rfl (fun K hK => ?_) AllReadyH.nil; go_simp
                  refine hK.out _ _ ?_ (fun hNew => ?_)
                  · exact ⟨(World.cell?_alloc_lt wc _ _ G6.out.blk.lt).trans x1, (World.cell?_alloc_lt wc _ _ hbl).trans xk, (World.cell?_alloc_lt wc _ _ ZX.out.lt).trans z0, (World.cell?_alloc_lt wc _ _ ZX.out.lt).trans z1, (World.cell?_alloc_lt wc _ _ ZX.out.lt).trans z2, (World.cell?_alloc_lt wc _ _ ZX.out.lt).trans z3, (World.cell?_alloc_lt wc _ _ ZX.out.lt).trans z4, (World.cell?_alloc_lt wc _ _ ZX.out.lt).trans z5, (World.cell?_alloc_lt wc _ _ ZX.out.lt).trans z6⟩
                  clear hK K hHeld; have hHeld := hNew; clear hNew; try simp only [Act.put, pB, pC, pD]
                  refine wpAnyH_ready (rs := [14]) (by kernel_rfl) (by simp) ?_; refine AllReadyH.cons rfl (fun K hK => ?_) AllReadyH.nil
                  refine step_append_w _ (by rfl) _ _ _ (by rfl) w1.heap.size 77 i0 _ 7 72 Tryz.underlying71 hi hz0 hz1 hz2 rfl (by omega) (.slice Ax mid.length cx) mid.length (mid.flatMap lkC) (by rfl) HXO.out (.slice (some ⟨wc.heap.size, 0, none⟩) 1 1) 1 [.int .i64 F, .int .i64 k, .int .i64 n.kind, .string (bs n.owner), .int .i64 n.num, .int .i64 n.idx, .string (bs n.text)] (by rfl) (Rd.of_own (own_new wc 0 77 7 [.int .i64 F, .int .i64 k, .int .i64 n.kind, .string (bs n.owner), .int .i64 n.num, .int .i64 n.idx, .string (bs n.text)] rfl (Nat.zero_le _))) (by omega) (by rfl) (by simp [Value.oneCell']) (by unfold maxLen; omega) (by omega) (by simp; omega) ?_; intro v7 w7 hown7 hg7 hat7; obtain ⟨A9, c9, rfl, _⟩ := own_len hown7; have hB7 := G7.out.blk.grown hg7 (fun e => own_blk_ne HXO.out G7.out.blk (by decide) e.symm); have hC7 := ZX7.out.grown hg7 (fun e => HXN.out e.symm); have HOW7 := Lib.hid hown7; have HG7 := Lib.hid hg7; have HAT7 := Lib.hid hat7; have HC7 := Lib.hid hC7; have hln := own_grown G7.out.lu.ln HXO.out hg7 (.inl (by decide)); have HLN := Lib.hid hln; have r1 := hB7.cell 1; have rk := own_cell1 hln HXV.out; have rf := own_frozen1 hln k; have e0 := hC7.cell 0; have e1 := hC7.cell 1; have e2 := hC7.cell 2; have e3 := hC7.cell 3; have e4 := hC7.cell 4; have e5 := hC7.cell 5; have e6 := hC7.cell 6; (simp only [qB, qC, qD] at r1 e0 e1 e2 e3 e4 e5 e6); clear hown7 hg7 hat7 hB7 hC7 hln
                  refine hK.out _ _ ?_ (fun hNew => ?_)
                  · exact ⟨r1, rk, e0, e1, e2, e3, e4, e5, e6⟩
                  clear hK K hHeld; have hHeld := hNew; clear hNew; try simp only [Act.put, pB, pC, pD]
                  refine tk (v := ?_) 15 rfl (by kernel_rfl) (fun _ _ _ h => h) ?_ hHeld ?_; rotate_left
                  · (intro w h; (try dsimp only at h); go_simp; try with_reducible rfl)
                  try simp only [Act.put, pB, pC, pD]
                  refine wpAnyH_done (by kernel_rfl) ?_ _
                  refine lastQ_step rfl (fun K hK => ?_)
                  clear hHeld; go_simp
                  refine hK _ _ ?_
                  clear hK K
                  refine NoPanic.normal ?_
                  clear x1 xk r1 rk rf z0 e0 z1 e1 z2 e2 z3 e3 z4 e4 z5 e5 z6 e6 hbl
                  have HL := Lib.hid (show GIn (w7.setCell ⟨bl, k, none⟩ (.slice A9 (mid.length + 1) c9)) w1.heap.size g (.slice A7 (ks.length + 1) c7) (.slice (some ⟨bl, 0, none⟩) l.length l.length) (.slice (some ⟨bu, 0, none⟩) l.length l.length) bw (ks ++ [a.key]) (vL.set k (.slice A9 (mid.length + 1) c9)) vU (lnkD (l.take k) ++ (mid ++ [⟨F, k, n⟩]) :: List.replicate (l.length - k - 1) []) (UT l.length ((lnkD (l.take k)).flatten ++ mid)) (wls (l.take k)) ∧ Below w1.heap.size (wc.alloc (.cells #[.int .i64 F, .int .i64 k, .int .i64 n.kind, .string (bs n.owner), .int .i64 n.num, .int .i64 n.idx, .string (bs n.text)] 77)).drew (w7.setCell ⟨bl, k, none⟩ (.slice A9 (mid.length + 1) c9)) ∧ Kept LG (wc.alloc (.cells #[.int .i64 F, .int .i64 k, .int .i64 n.kind, .string (bs n.owner), .int .i64 n.num, .int .i64 n.idx, .string (bs n.text)] 77)).drew (w7.setCell ⟨bl, k, none⟩ (.slice A9 (mid.length + 1) c9)) from by
                    have eL : (lnkD (l.take k) ++ mid :: List.replicate (l.length - k - 1) [])[k]'HKL.out = mid := by
                      have := HXR.out; rw [List.getElem?_eq_getElem HKL.out] at this
                      injection this
                    have h := GIn.link_ (cl := l.length) (y := ⟨F, k, n⟩) G7.out (by rw [show (lnkD (l.take k) ++ mid :: List.replicate (l.length - k - 1) []).length = l.length from by rw [List.length_append, List.length_cons, List.length_replicate, HLD.out]; omega]) HKL.out HXV.out HG7.out (by rw [eL]; exact HOW7.out) HAT7.out; rw [eL, set_mid HLD.out] at h
                    exact h)
                  have ZX8 := Lib.hid (HC7.out.far (p := ⟨bl, k, none⟩) (fun e => own_blk_ne HLN.out HC7.out (by decide) (by rw [e]; rfl)) (.slice A9 (mid.length + 1) c9)); have HKP8 := Lib.hid ((HKP6.out.trans (Kept.of_below LG HBQ.out)).trans HL.out.2.2); have HBW8 := Lib.hid (HBW6.out.trans ((HBQ.out.mono hw16).trans HL.out.2.1)); have G8 := Lib.hid HL.out.1; clear HL HC7 HLN HOW7 HG7 HAT7 HBQ HXO HXN HXV HXR HKL ZX7 G7 G6 G5 HKP6 HBW6 ZX
                  go_upto_region 21 with (fail)
                  generalize w7.setCell ⟨bl, k, none⟩ (.slice A9 (mid.length + 1) c9) = W8 at *
                  by_cases hF0 : 0 ≤ F
                  · obtain ⟨j, rfl⟩ := Int.eq_ofNat_of_zero_le hF0
                    have e9 : decide ((0 : Int) ≤ (j : Int)) = true := decide_eq_true hF0
                    have hjk : j < k := by
                      rcases wrI_mem (wls (l.take k) n) (k : Int) with e | e
                      · rw [HFE.out] at e; omega
                      · rw [HFE.out] at e
                        have := (wls_bd e).2; rw [List.length_take] at this
                        omega
                    have hjN : j < l.length := by omega
                    have j7 : (j : Int) < (l.length : Int) := by omega
                    obtain ⟨fl, hfl⟩ : ∃ fl, (lnkD (l.take k)).flatten ++ mid = fl := ⟨_, rfl⟩; have HFL := Lib.hid hfl
                    have hfll : fl.length ≤ 2000 := by
                      have := lnkD_flat (l := l.take k) (fun b hb => (HR.out b (List.mem_of_mem_take hb)).2.2.2.1); rw [List.length_take] at this; rw [← hfl, List.length_append]
                      omega
                    rw [hfl] at G8 HU5
                    have hju : j < (UT l.length fl).length := by rw [UT_len]; exact hjN
                    have HJU := Lib.hid hju; obtain ⟨row, hrow⟩ : ∃ row, (UT l.length fl)[j]'hju = row := ⟨_, rfl⟩
                    have hrl2 : row.length ≤ 2000 := by
                      rw [← hrow, UT_get]
                      exact Nat.le_trans (List.length_filter_le _ _) hfll
                    have HROW := Lib.hid hrow; have HXR := Lib.hid (show (UT l.length fl)[j]? = some row by rw [List.getElem?_eq_getElem hju, hrow]); obtain ⟨xv, hxv⟩ : ∃ xv, vU[j]? = some xv := ⟨_, List.getElem?_eq_getElem (by rw [G8.out.lu.lenU, UT_len]; exact hjN)⟩; have HXV := Lib.hid hxv; have hx8 := G8.out.lu.eu _ _ _ hxv HXR.out; obtain ⟨Ax, cx, rfl, _⟩ := own_len hx8; have HXN := Lib.hid (HU5.out _ _ _ hxv HXR.out); have hw18 : w1.heap.size ≤ W8.heap.size := HBW8.out.size; clear hfl hrow hxv hx8 HU5 hfll hF0; have z0 := ZX8.out.cell 0; simp only [qB, qC, qD] at z0
                    go_upto_region 22 with (fail)
                    clear z0; have hbq := ((Below.refl W8.heap.size W8).alloc (Nat.le_refl _) (.cells #[.int .i64 j, .int .i64 k, .int .i64 n.kind, .string (bs n.owner), .int .i64 n.num, .int .i64 n.idx, .string (bs n.text)] 77)).drew; have G7 := Lib.hid (G8.out.next hbq); have ZX7 := Lib.hid (ZX8.out.next hbq ZX8.out.lt); have HXO := Lib.hid (G7.out.lu.eu _ _ _ HXV.out HXR.out); have HBQ := Lib.hid hbq; have x1 := G8.out.blk.cell 2; have xk := own_cell1 G8.out.lu.us HXV.out; have hbl := own_lt G8.out.lu.us (g := bu) rfl; have z0 := ZX8.out.cell 0; have z1 := ZX8.out.cell 1; have z2 := ZX8.out.cell 2; have z3 := ZX8.out.cell 3; have z4 := ZX8.out.cell 4; have z5 := ZX8.out.cell 5; have z6 := ZX8.out.cell 6; simp only [qB, qC, qD] at x1 z0 z1 z2 z3 z4 z5 z6; clear hbq
                    refine wp_region_noPanic ?_
                    refine wp_region_last (S := (fun (w' : World) => w'.cell? ⟨g, 2, none⟩ = some (.slice (some ⟨bu, 0, none⟩) l.length l.length) ∧ w'.cell? ⟨bu, j, none⟩ = some (.slice Ax row.length cx) ∧ w'.cell? ⟨xb, 0, none⟩ = some (.int .i64 j) ∧ w'.cell? ⟨xb, 1, none⟩ = some (.int .i64 k) ∧ w'.cell? ⟨xb, 2, none⟩ = some (.int .i64 n.kind) ∧ w'.cell? ⟨xb, 3, none⟩ = some (.string (bs n.owner)) ∧ w'.cell? ⟨xb, 4, none⟩ = some (.int .i64 n.num) ∧ w'.cell? ⟨xb, 5, none⟩ = some (.int .i64 n.idx) ∧ w'.cell? ⟨xb, 6, none⟩ = some (.string (bs n.text)))) 18 18 rfl (by kernel_rfl) (by kernel_rfl) ?_ (fun hHeld => ?_)
                    · exact ⟨x1, xk, z0, z1, z2, z3, z4, z5, z6⟩
                    refine tk (v := ?_) 0 rfl (by kernel_rfl) (fun _ _ _ h => h) ?_ hHeld ?_; rotate_left
                    · (intro w h; (try dsimp only at h); go_simp; try with_reducible rfl)
                    try simp only [Act.put, pB, pC, pD]
                    refine tk (v := ?_) 1 rfl (by kernel_rfl) (fun _ _ _ h => h) ?_ hHeld ?_; rotate_left
                    · (intro w h; (try dsimp only at h); go_simp; try with_reducible rfl)
                    try simp only [Act.put, pB, pC, pD]
                    refine tk (v := ?_) 2 rfl (by kernel_rfl) (fun _ _ _ h => h) ?_ hHeld ?_; rotate_left
                    · (intro w h; (try dsimp only at h); go_simp; try with_reducible rfl)
                    try simp only [Act.put, pB, pC, pD]
                    refine tk (v := ?_) 3 rfl (by kernel_rfl) (fun _ _ _ h => h) ?_ hHeld ?_; rotate_left
                    · (intro w h; (try dsimp only at h); go_simp; try with_reducible rfl)
                    try simp only [Act.put, pB, pC, pD]
                    refine tk (v := ?_) 4 rfl (by kernel_rfl) (fun _ _ _ h => h) ?_ hHeld ?_; rotate_left
                    · (intro w h; (try dsimp only at h); go_simp; try with_reducible rfl)
                    try simp only [Act.put, pB, pC, pD]
                    refine tk (v := ?_) 5 rfl (by kernel_rfl) (fun _ _ _ h => h) ?_ hHeld ?_; rotate_left
                    · (intro w h; (try dsimp only at h); go_simp; try with_reducible rfl)
                    try simp only [Act.put, pB, pC, pD]
                    refine tk (v := ?_) 6 rfl (by kernel_rfl) (fun _ _ _ h => h) ?_ hHeld ?_; rotate_left
                    · (intro w h; (try dsimp only at h); go_simp; try with_reducible rfl)
                    try simp only [Act.put, pB, pC, pD]
                    refine tk (v := ?_) 7 rfl (by kernel_rfl) (fun _ _ _ h => h) ?_ hHeld ?_; rotate_left
                    · (intro w h; (try dsimp only at h); go_simp; try with_reducible rfl)
                    try simp only [Act.put, pB, pC, pD]
                    refine tk (v := ?_) 8 rfl (by kernel_rfl) (fun _ _ _ h => h) ?_ hHeld ?_; rotate_left
                    · (intro w h; (try dsimp only at h); go_simp; try with_reducible rfl)
                    try simp only [Act.put, pB, pC, pD]
                    refine tk (v := ?_) 9 rfl (by kernel_rfl) (fun _ _ _ h => h) ?_ hHeld ?_; rotate_left
                    · (intro w h; (try dsimp only at h); go_simp; try with_reducible rfl)
                    try simp only [Act.put, pB, pC, pD]
                    refine tk (v := ?_) 10 rfl (by kernel_rfl) (fun _ _ _ h => h) ?_ hHeld ?_; rotate_left
                    · (intro w h; (try dsimp only at h); go_simp; try with_reducible rfl)
                    try simp only [Act.put, pB, pC, pD]
                    refine tk (v := ?_) 11 rfl (by kernel_rfl) (fun _ _ _ h => h) ?_ hHeld ?_; rotate_left
                    · (intro w h; (try dsimp only at h); go_simp; try with_reducible rfl)
                    try simp only [Act.put, pB, pC, pD]
                    refine tk (v := ?_) 12 rfl (by kernel_rfl) (fun _ _ _ h => h) ?_ hHeld ?_; rotate_left
                    · (intro w h; (try dsimp only at h); go_simp; try with_reducible rfl)
                    try simp only [Act.put, pB, pC, pD]
                    refine tk (v := ?_) 13 rfl (by kernel_rfl) (fun _ _ _ h => h) ?_ hHeld ?_; rotate_left
                    · (intro w h; (try dsimp only at h); go_simp; try with_reducible rfl)
                    try simp only [Act.put, pB, pC, pD]
                    refine tk (v := ?_) 14 rfl (by kernel_rfl) (fun _ _ _ h => h) ?_ hHeld ?_; rotate_left
                    · (intro w h; (try dsimp only at h); go_simp; try with_reducible rfl)
                    try simp only [Act.put, pB, pC, pD]
                    refine wpAnyH_ready (rs := [15]) (by kernel_rfl) (by simp) ?_; refine AllReadyH.cons rfl (fun K hK => ?_) AllReadyH.nil; go_simp
                    refine hK.out _ _ ?_ (fun hNew => ?_)
                    · exact ⟨(World.cell?_alloc_lt W8 _ _ G8.out.blk.lt).trans x1, (World.cell?_alloc_lt W8 _ _ hbl).trans xk, (World.cell?_alloc_lt W8 _ _ ZX8.out.lt).trans z0, (World.cell?_alloc_lt W8 _ _ ZX8.out.lt).trans z1, (World.cell?_alloc_lt W8 _ _ ZX8.out.lt).trans z2, (World.cell?_alloc_lt W8 _ _ ZX8.out.lt).trans z3, (World.cell?_alloc_lt W8 _ _ ZX8.out.lt).trans z4, (World.cell?_alloc_lt W8 _ _ ZX8.out.lt).trans z5, (World.cell?_alloc_lt W8 _ _ ZX8.out.lt).trans z6⟩
                    clear hK K hHeld; have hHeld := hNew; clear hNew; try simp only [Act.put, pB, pC, pD]
                    refine wpAnyH_ready (rs := [16]) (by kernel_rfl) (by simp) ?_; refine AllReadyH.cons rfl (fun K hK => ?_) AllReadyH.nil
                    refine step_append_w _ (by rfl) _ _ _ (by rfl) w1.heap.size 77 i0 _ 7 72 Tryz.underlying71 hi hz0 hz1 hz2 rfl (by omega) (.slice Ax row.length cx) row.length (row.flatMap lkC) (by rfl) HXO.out (.slice (some ⟨W8.heap.size, 0, none⟩) 1 1) 1 [.int .i64 j, .int .i64 k, .int .i64 n.kind, .string (bs n.owner), .int .i64 n.num, .int .i64 n.idx, .string (bs n.text)] (by rfl) (Rd.of_own (own_new W8 0 77 7 [.int .i64 j, .int .i64 k, .int .i64 n.kind, .string (bs n.owner), .int .i64 n.num, .int .i64 n.idx, .string (bs n.text)] rfl (Nat.zero_le _))) (by omega) (by rfl) (by simp [Value.oneCell']) (by unfold maxLen; omega) (by omega) (by simp; omega) ?_; intro v7 w7 hown7 hg7 hat7; obtain ⟨A9, c9, rfl, _⟩ := own_len hown7; have hB7 := G7.out.blk.grown hg7 (fun e => own_blk_ne HXO.out G7.out.blk (by decide) e.symm); have hC7 := ZX7.out.grown hg7 (fun e => HXN.out e.symm); have HOW7 := Lib.hid hown7; have HG7 := Lib.hid hg7; have HAT7 := Lib.hid hat7; have HC7 := Lib.hid hC7; have hln := own_grown G7.out.lu.us HXO.out hg7 (.inl (by decide)); have HLN := Lib.hid hln; have r1 := hB7.cell 2; have rk := own_cell1 hln HXV.out; have rf := own_frozen1 hln j; have e0 := hC7.cell 0; have e1 := hC7.cell 1; have e2 := hC7.cell 2; have e3 := hC7.cell 3; have e4 := hC7.cell 4; have e5 := hC7.cell 5; have e6 := hC7.cell 6; (simp only [qB, qC, qD] at r1 e0 e1 e2 e3 e4 e5 e6); clear hown7 hg7 hat7 hB7 hC7 hln
                    refine hK.out _ _ ?_ (fun hNew => ?_)
                    · exact ⟨r1, rk, e0, e1, e2, e3, e4, e5, e6⟩
                    clear hK K hHeld; have hHeld := hNew; clear hNew; try simp only [Act.put, pB, pC, pD]
                    refine tk (v := ?_) 17 rfl (by kernel_rfl) (fun _ _ _ h => h) ?_ hHeld ?_; rotate_left
                    · (intro w h; (try dsimp only at h); go_simp; try with_reducible rfl)
                    try simp only [Act.put, pB, pC, pD]
                    refine wpAnyH_done (by kernel_rfl) ?_ _
                    refine lastQ_step rfl (fun K hK => ?_)
                    clear hHeld; go_simp
                    refine hK _ _ ?_
                    clear hK K
                    refine NoPanic.normal ?_
                    clear x1 xk r1 rk rf z0 e0 z1 e1 z2 e2 z3 e3 z4 e4 z5 e5 z6 e6 hbl
                    have HL := Lib.hid (show GIn (w7.setCell ⟨bu, j, none⟩ (.slice A9 (row.length + 1) c9)) w1.heap.size g (.slice A7 (ks.length + 1) c7) (.slice (some ⟨bl, 0, none⟩) l.length l.length) (.slice (some ⟨bu, 0, none⟩) l.length l.length) bw (ks ++ [a.key]) _ (vU.set j (.slice A9 (row.length + 1) c9)) (lnkD (l.take k) ++ (mid ++ [⟨(j : Int), k, n⟩]) :: List.replicate (l.length - k - 1) []) (UT l.length (fl ++ [⟨(j : Int), k, n⟩])) (wls (l.take k)) ∧ Below w1.heap.size (W8.alloc (.cells #[.int .i64 j, .int .i64 k, .int .i64 n.kind, .string (bs n.owner), .int .i64 n.num, .int .i64 n.idx, .string (bs n.text)] 77)).drew (w7.setCell ⟨bu, j, none⟩ (.slice A9 (row.length + 1) c9)) ∧ Kept LG (W8.alloc (.cells #[.int .i64 j, .int .i64 k, .int .i64 n.kind, .string (bs n.owner), .int .i64 n.num, .int .i64 n.idx, .string (bs n.text)] 77)).drew (w7.setCell ⟨bu, j, none⟩ (.slice A9 (row.length + 1) c9)) from by
                      have h := GIn.use_ (cl := l.length) (y := ⟨(j : Int), k, n⟩) G7.out (by rw [UT_len]) HJU.out HXV.out HG7.out (by rw [HROW.out]; exact HOW7.out) HAT7.out; rw [← UT_add _ _ _ j HJU.out rfl] at h
                      exact h)
                    have HKP9 := Lib.hid ((HKP8.out.trans (Kept.of_below LG HBQ.out)).trans HL.out.2.2); have HBW9 := Lib.hid (HBW8.out.trans ((HBQ.out.mono hw18).trans HL.out.2.1)); have G9 := Lib.hid HL.out.1; clear HL HC7 HLN HOW7 HG7 HAT7 HBQ HXO HXN HXV HXR ZX7 G7 G8 HKP8 HBW8 ZX8
                    go_wp2_with fail
                    go_roundw
                    case rel => exact ⟨m + 1, by omega, by go_num, ⟨_, _, by
                      rw [HY.out, ← List.append_assoc, HFL.out]
                      exact G9.out⟩, HKP9.out, HBW9.out⟩
                    case measure => have := HNL.out; simp [intOf]; omega
                  · have e9 : decide ((0 : Int) ≤ F) = false := decide_eq_false hF0
                    have HF0 := Lib.hid hF0; have z0 := ZX8.out.cell 0; simp only [qB, qC, qD] at z0; clear hF0 HU5
                    go_wp2_with fail
                    go_roundw
                    case rel => exact ⟨m + 1, by omega, by go_num, ⟨_, _, by
                      rw [HY.out, ← List.append_assoc, UT_neg _ _ _ (show (⟨F, k, n⟩ : Lk).frm < 0 by have := HF0.out; simp only; omega)]
                      exact G8.out⟩, HKP8.out, HBW8.out⟩
                    case measure => have := HNL.out; simp [intOf]; omega
              · have hmn : ¬ m < ns.length := by have := HNL.out; omega
                have HME := Lib.hid (show m = a.reads.length by omega); have j6 : decide ((m : Int) < (ns.length : Int)) = false := decide_eq_false (by omega); have j6n : decide (m < ns.length) = false := decide_eq_false hmn; have HLT := Lib.hid (show lnkD (l.take (k + 1)) = lnkD (l.take k) ++ [lnkA (l.take k) a] by rw [lnkD_take l k hk, HAE.out])
                have G9 : Hid (GIn wr w1.heap.size g (.slice A7 (ks.length + 1) c7) (.slice (some ⟨bl, 0, none⟩) l.length l.length) (.slice (some ⟨bu, 0, none⟩) l.length l.length) bw (ks ++ [a.key]) vL vU (lnkD (l.take (k + 1)) ++ List.replicate (l.length - (k + 1)) []) (UT l.length (lnkD (l.take (k + 1))).flatten) (wlsT (l.take k) (a.writes.take 0))) := Lib.hid (by
                  have h := GR.out; have e1 : (lnkA (l.take k) a).take m = lnkA (l.take k) a := List.take_of_length_le (by unfold lnkA; rw [List.length_map]; have := HME.out; omega); rw [e1] at h; rw [HLT.out, List.flatten_append, List.append_assoc, show l.length - (k + 1) = l.length - k - 1 by omega]
                  simp only [List.flatten_cons, List.flatten_nil, List.append_nil, List.singleton_append]
                  exact h.data fun n => by rw [List.take_zero, wlsT_nil])
                have Z9 := Lib.hid (Z4.out.keep HKP.out rfl); have N9 := Lib.hid (NAc.keep HKP.out rfl N4.out); clear hm GR Z4 N4 HS4; have z5 := Z9.out.cell 5; simp only [qB, qC, qD] at z5; have H0 : Hid (Db4 l k a ks w1 wr g bl bu bw (.slice A7 (ks.length + 1) c7) vL vU (.int .i64 (0 : Nat)) wr) := Lib.hid ⟨0, Nat.zero_le _, rfl, G9.out, Kept.refl _ _, Below.refl _ _⟩
                go_upto_region 25 with (fail)
                clear z5 hmn j6 j6n; obtain ⟨w9, hw9⟩ : ∃ w9 : World, w9 = wr := ⟨_, rfl⟩; subst hw9
                go_loopw [116] (fun i wr => Db4 l k a ks w1 w9 g bl bu bw (.slice A7 (ks.length + 1) c7) vL vU i wr) (fun i _ => a.writes.length - (intOf i).toNat)
                case atStart => exact H0.out
                case round =>
                  clear H0 G9; obtain ⟨q, hql, rfl, hgi, hkp, hbw9⟩ := hrel; have HKQ := Lib.hid hkp; have HB9 := Lib.hid hbw9; have GR := Lib.hid hgi; clear hkp hbw9 hgi
                  by_cases hq : q < a.writes.length
                  · have jq0 : (0 : Int) ≤ (q : Int) := by omega
                    have jq1 : (q : Int) < (a.writes.length : Int) := by omega
                    have jq2 : decide ((q : Int) < (a.writes.length : Int)) = true := decide_eq_true jq1; obtain ⟨b, o, hbe, hbw', y0, y1, y2, y3, y4, y5, y6⟩ := RdCh.piece (show RdCh wr (.slice A2 a.writes.length c2) a.writes from (NAc.keep HKQ.out rfl N9.out).2) hq; subst hbe; have HTW := Lib.hid (show a.writes.take (q + 1) = a.writes.take q ++ [a.writes[q]] from List.take_succ_eq_append_getElem hq); obtain ⟨ch, hch⟩ : ∃ ch, a.writes[q] = ch := ⟨_, rfl⟩; rw [hch] at y0 y1 y2 y3 y4 y5 y6 HTW; clear hch
                    go_upto_region 27 with (fail)
                    have hbb := (Below.refl wr.heap.size wr).alloc (Nat.le_refl _) (.cells #[.int .i64 ch.name.kind, .string (bs ch.name.owner), .int .i64 ch.name.num, .int .i64 ch.name.idx, .string (bs ch.name.text), .string (bs ch.value), .bool ch.absent] 92); have VB := Lib.hid (GR.out.next hbb); have ZC := Lib.hid (Blk.new wr 92 #[.int .i64 ch.name.kind, .string (bs ch.name.owner), .int .i64 ch.name.num, .int .i64 ch.name.idx, .string (bs ch.name.text), .string (bs ch.value), .bool ch.absent]); have HKB := Lib.hid (HKQ.out.trans (Kept.of_below LG hbb)); have hws := HB9.out.size; have hw19 : w1.heap.size ≤ w9.heap.size := HBW.out.size; have HBB := Lib.hid (HB9.out.trans (hbb.mono (Nat.le_trans hw19 hws))); clear y0 y1 y2 y3 y4 y5 y6 hbb GR HKQ HB9 hbw'; generalize wr.alloc (.cells #[.int .i64 ch.name.kind, .string (bs ch.name.owner), .int .i64 ch.name.num, .int .i64 ch.name.idx, .string (bs ch.name.text), .string (bs ch.value), .bool ch.absent] 92) = wb at *; generalize wr.heap.size = cc at *; have x4 := VB.out.blk.cell 3; have v0 := ZC.out.cell 0; have v1 := ZC.out.cell 1; have v2 := ZC.out.cell 2; have v3 := ZC.out.cell 3; have v4 := ZC.out.cell 4; have v5 := ZC.out.cell 5; have v6 := ZC.out.cell 6; simp only [qB, qC, qD] at x4 v0 v1 v2 v3 v4 v5 v6; have hbq := ((Below.refl wb.heap.size wb).alloc (Nat.le_refl _) (.cells #[.int .i64 k] 3)).drew; have VQ := Lib.hid (VB.out.next hbq); have ZQ := Lib.hid (ZC.out.next hbq ZC.out.lt); have HBQ := Lib.hid hbq; obtain ⟨ents, Ad, cd, hm, hve, hown, hback⟩ := VQ.out.wr_ ch.name; obtain ⟨dl, hdl⟩ : ∃ dl, wlsT (l.take k) (a.writes.take q) ch.name = dl := ⟨_, rfl⟩
                    simp only [hdl] at hve hown hback
                    have HDL := Lib.hid hdl
                    have hdn : dl.length ≤ 2000 := by
                      rw [← hdl]
                      unfold wlsT
                      have h1 := wls_len (l := l.take k) (fun b hb => (HR.out b (List.mem_of_mem_take hb)).2.2.2.2) (by rw [List.length_take]; omega) ch.name; have h2 := filt_len (a.writes.take q) ch.name; have h3 := List.length_take_le q a.writes
                      simp only [List.length_append, List.length_map]
                      omega
                    have HM := Lib.hid hm; have HVE := Lib.hid hve; have HOWN := Lib.hid hown; have HBACK := Lib.hid hback; clear hm hve hown hback hdl hbq; obtain ⟨i0, hi, hz0, hz1, hz2⟩ := info_parts infoIn
                    refine wp_region_noPanic ?_
                    refine wp_region_last (S := (fun (w' : World) => w'.cell? ⟨g, 3, none⟩ = some (.map (some bw)) ∧ w'.cell? ⟨cc, 0, none⟩ = some (.int .i64 ch.name.kind) ∧ w'.cell? ⟨cc, 1, none⟩ = some (.string (bs ch.name.owner)) ∧ w'.cell? ⟨cc, 2, none⟩ = some (.int .i64 ch.name.num) ∧ w'.cell? ⟨cc, 3, none⟩ = some (.int .i64 ch.name.idx) ∧ w'.cell? ⟨cc, 4, none⟩ = some (.string (bs ch.name.text)) ∧ w'.cell? ⟨cc, 5, none⟩ = some (.string (bs ch.value)) ∧ w'.cell? ⟨cc, 6, none⟩ = some (.bool ch.absent))) 12 12 rfl (by kernel_rfl) (by kernel_rfl) ?_ (fun hHeld => ?_)
                    · exact ⟨x4, v0, v1, v2, v3, v4, v5, v6⟩
                    refine tk (v := ?_) 0 rfl (by kernel_rfl) (fun _ _ _ h => h) ?_ hHeld ?_; rotate_left
                    · (intro w h; (try dsimp only at h); go_simp; try with_reducible rfl)
                    try simp only [Act.put, pB, pC, pD]
                    refine tk (v := ?_) 1 rfl (by kernel_rfl) (fun _ _ _ h => h) ?_ hHeld ?_; rotate_left
                    · (intro w h; (try dsimp only at h); go_simp; try with_reducible rfl)
                    try simp only [Act.put, pB, pC, pD]
                    refine tk (v := ?_) 2 rfl (by kernel_rfl) (fun _ _ _ h => h) ?_ hHeld ?_; rotate_left
                    · (intro w h; (try dsimp only at h); go_simp; try with_reducible rfl)
                    try simp only [Act.put, pB, pC, pD]
                    refine tk (v := ?_) 3 rfl (by kernel_rfl) (fun _ _ _ h => h) ?_ hHeld ?_; rotate_left
                    · (intro w h; (try dsimp only at h); go_simp; try with_reducible rfl)
                    try simp only [Act.put, pB, pC, pD]
                    refine tk (v := ?_) 4 rfl (by kernel_rfl) (fun _ _ _ h => h) ?_ hHeld ?_; rotate_left
                    · (intro w h; (try dsimp only at h); go_simp; try with_reducible rfl)
                    try simp only [Act.put, pB, pC, pD]
                    refine tk (v := ?_) 5 rfl (by kernel_rfl) (fun _ _ _ h => h) ?_ hHeld ?_; rotate_left
                    · (intro w h; (try dsimp only at h); go_simp; try with_reducible rfl)
                    try simp only [Act.put, pB, pC, pD]
                    refine tk (v := ?_) 6 rfl (by kernel_rfl) (fun _ _ _ h => h) ?_ hHeld ?_; rotate_left
                    · (intro w h; (try dsimp only at h); go_simp; try with_reducible rfl)
                    try simp only [Act.put, pB, pC, pD]
                    refine wpAnyH_ready (rs := [7]) (by kernel_rfl) (by simp) ?_; refine AllReadyH.cons rfl (fun K hK => ?_) AllReadyH.nil; go_simp
                    refine hK.out _ _ ?_ (fun hNew => ?_)
                    · exact ⟨(World.cell?_alloc_lt wb _ _ VB.out.blk.lt).trans x4, (World.cell?_alloc_lt wb _ _ ZC.out.lt).trans v0, (World.cell?_alloc_lt wb _ _ ZC.out.lt).trans v1, (World.cell?_alloc_lt wb _ _ ZC.out.lt).trans v2, (World.cell?_alloc_lt wb _ _ ZC.out.lt).trans v3, (World.cell?_alloc_lt wb _ _ ZC.out.lt).trans v4, (World.cell?_alloc_lt wb _ _ ZC.out.lt).trans v5, (World.cell?_alloc_lt wb _ _ ZC.out.lt).trans v6⟩
                    clear hK K hHeld; have hHeld := hNew; clear hNew; try simp only [Act.put, pB, pC, pD]
                    refine wpAnyH_ready (rs := [8]) (by kernel_rfl) (by simp) ?_; refine AllReadyH.cons rfl (fun K hK => ?_) AllReadyH.nil
                    refine step_entry_nm _ (by rfl) _ _ 80 (by rfl) Tryz.underlying80 (zeroinC _) bw ents (by rfl) HM.out ch.name (by rfl) (.slice Ad dl.length cd) HVE.out ?_; intro w6 st hg6 hm6 hst; have hG6 := blk_map VQ.out.blk HM.out hg6; have hC6 := blk_map ZQ.out HM.out hg6; have HW6 := Lib.hid (own_map HOWN.out HM.out hg6); have HN6 := Lib.hid (own_map (show (wb.alloc (.cells #[.int .i64 k] 3)).drew.ownsRow 0 3 1 (.slice (some ⟨wb.heap.size, 0, none⟩) 1 1) 1 [.int .i64 k] from own_new wb 0 3 1 [.int .i64 k] rfl (Nat.zero_le _)) HM.out hg6); have HG6 := Lib.hid hg6; have HBG := Lib.hid hG6; have HBC := Lib.hid hC6; have HM6 := Lib.hid hm6; have HST := Lib.hid hst; have g6 := hG6.cell 3; have e0 := hC6.cell 0; have e1 := hC6.cell 1; have e2 := hC6.cell 2; have e3 := hC6.cell 3; have e4 := hC6.cell 4; have e5 := hC6.cell 5; have e6 := hC6.cell 6; (simp only [qB, qC, qD] at g6 e0 e1 e2 e3 e4 e5 e6); clear hg6 hm6 hst hG6 hC6
                    refine hK.out _ _ ?_ (fun hNew => ?_)
                    · exact ⟨g6, e0, e1, e2, e3, e4, e5, e6⟩
                    clear hK K hHeld; have hHeld := hNew; clear hNew; try simp only [Act.put, pB, pC, pD]
                    refine tk (v := ?_) 9 rfl (by kernel_rfl) (fun _ _ _ h => h) ?_ hHeld ?_; rotate_left
                    · (intro w h; (try dsimp only at h); go_simp; try with_reducible rfl)
                    try simp only [Act.put, pB, pC, pD]
                    refine tk (v := ?_) 11 rfl (by kernel_rfl) (fun _ _ _ h => h) ?_ hHeld ?_; rotate_left
                    · (intro w h; (try dsimp only at h); go_simp; try with_reducible rfl)
                    try simp only [Act.put, pB, pC, pD]
                    refine wpAnyH_ready (rs := [10]) (by kernel_rfl) (by simp) ?_; refine AllReadyH.cons rfl (fun K hK => ?_) AllReadyH.nil
                    refine step_append_w _ (by rfl) _ _ _ (by rfl) 0 3 i0 _ 1 8 Tryz.underlying68 hi hz0 hz1 hz2 rfl (by omega) (.slice Ad dl.length cd) dl.length (dl.flatMap inC) (by rfl) HW6.out (.slice (some ⟨wb.heap.size, 0, none⟩) 1 1) 1 [.int .i64 k] (by rfl) (Rd.of_own HN6.out) (by omega) (by rfl) (by simp [Value.oneCell']) (by unfold maxLen; omega) (by omega) (by omega) ?_; intro v7 w7 hown7 hg7 hat7; obtain ⟨A9, c9, rfl, _⟩ := own_len hown7; have hG7 := HBG.out.grown hg7 (fun e => own_blk_ne HW6.out HBG.out (by decide) e.symm); have hC7 := HBC.out.grown hg7 (fun e => own_blk_ne HW6.out HBC.out (by decide) e.symm); obtain ⟨es6, cl6, hm6⟩ := HM6.out; have hb7 : w7.heap[bw]? = w6.heap[bw]? := hg7.block bw (Array.getElem?_eq_some_iff.1 hm6).1 (fun e => own_not_map HW6.out hm6 e.symm); obtain ⟨w8', hrun8, hm8, hg8⟩ := HST.out w7 (.slice A9 (dl.length + 1) c9) hb7; have HB7 := Lib.hid hb7; have HOW7 := Lib.hid hown7; have HG7 := Lib.hid hg7; have HAT7 := Lib.hid hat7; have HM8 := Lib.hid hm8; have HG8 := Lib.hid hg8; have HMM := Lib.hid hm6; have r6 := hG7.cell 3; have tt0 := hC7.cell 0; have tt1 := hC7.cell 1; have tt2 := hC7.cell 2; have tt3 := hC7.cell 3; have tt4 := hC7.cell 4; have tt5 := hC7.cell 5; have tt6 := hC7.cell 6; (simp only [qB, qC, qD] at r6 tt0 tt1 tt2 tt3 tt4 tt5 tt6); clear hown7 hg7 hat7 hG7 hC7 hm6 hb7 hm8 hg8
                    refine hK.out _ _ ?_ (fun hNew => ?_)
                    · exact ⟨r6, tt0, tt1, tt2, tt3, tt4, tt5, tt6⟩
                    clear hK K hHeld; have hHeld := hNew; clear hNew; try simp only [Act.put, pB, pC, pD]
                    refine wpAnyH_done (by kernel_rfl) ?_ _
                    refine lastQ_step rfl (fun K hK => ?_)
                    clear hHeld; go_simp
                    refine hK _ _ ?_
                    clear hK K
                    refine NoPanic.normal ?_
                    clear x4 g6 r6 v0 e0 tt0 v1 e1 tt1 v2 e2 tt2 v3 e3 tt3 v4 e4 tt4 v5 e5 tt5 v6 e6 tt6 hrun8
                    go_wp2_with fail
                    go_roundw
                    case rel =>
                      obtain ⟨h9, h10, h11⟩ := HBACK.out w7 w8' (.slice A9 (dl.length + 1) c9) (k : Int) (((Chg.refl _ _ _).map_ HG6.out).row_ HG7.out) ⟨es6, cl6, HB7.out.trans HMM.out⟩ HOW7.out (by rcases HAT7.out with h | h; exact .inl h; exact .inr ⟨_, h, HG6.out.size⟩) HM8.out HG8.out
                      refine ⟨q + 1, by omega, by go_num, h9.data (fun n => ?_), (HKB.out.trans (Kept.of_below LG HBQ.out)).trans h11, HBB.out.trans ((HBQ.out.mono (Nat.le_trans hw19 (by have := HBB.out.size; omega))).trans h10)⟩
                      rw [HTW.out, wlsT_snoc, HDL.out, show (l.take k).length = k by rw [List.length_take]; omega]
                    case measure => simp [intOf]; omega
                  · have jq : decide ((q : Int) < (a.writes.length : Int)) = false := decide_eq_false (by omega)
                    have HQE := Lib.hid (show a.writes.take q = a.writes by rw [List.take_of_length_le (by omega)])
                    go_wp2_with fail
                    go_roundw
                    case rel =>
                      refine ⟨k + 1, by omega, by go_num, ⟨(.slice A7 (ks.length + 1) c7), vL, vU, ?_⟩, HBW.out.trans HB9.out⟩
                      have h := GR.out; rw [HQE.out] at h; rw [show (l.take (k + 1)).map Ac.key = ks ++ [a.key] by rw [List.take_succ_eq_append_getElem hk, List.map_append, HKS.out, HAE.out]; rfl]
                      exact h.data fun n => by rw [List.take_succ_eq_append_getElem hk, HAE.out, wls_snoc]
                    case measure => simp [intOf]; omega
      · have j3 : decide ((k : Int) < (l.length : Int)) = false := decide_eq_false (by omega)
        obtain ⟨vk, vL, vU, hgi⟩ := hgi
        have hkn : k = l.length := by omega
        have HG := Lib.hid hgi; have HKN := Lib.hid hkn; clear hgi hkn
        go_wp2_with fail
        go_ret2
        have e1 := HG.out; rw [HKN.out, List.take_length, Nat.sub_self, List.replicate_zero, List.append_nil] at e1; have hb := HB1.out; obtain ⟨p1, p2, p3, p4, p5⟩ := e1
        exact ⟨g, rfl, ⟨_, _, _, _, _, _, GIn.base ⟨p1, p2, p3, p4, p5⟩ hb.size⟩, hb.trans (HBW.out.mono hb.size)⟩
end Go.Proofs.YtmjkcanjfjfkfaaGreat
namespace Go.Proofs.YtmjkcanjfjfkfaaGreat
open Go.RowKit Go.MapKept Go.ChangeMaps
set_option linter.unusedSimpArgs false
set_option linter.unusedVariables false
abbrev ikV (n : Int) : Value := .int .i64 n
theorem nm_injI {a b : Int} (h : ikV a = ikV b) : a = b := by
  injection h
theorem chk_nmI (em : Bool) (n : Int) (w : World) : (Instr.checkKey em 10000 3 (ikV n)).run Tryz.prog w = .ok () w := by
  kernel_rfl
theorem now_nmI (n a : Int) : Instr.sameNow (.int .i64) (ikV n) (ikV a) = some (decide (a = n)) := by
  simp only [Instr.sameNow, ikV, if_true]
  rw [Option.some.injEq, Bool.eq_iff_iff, beq_iff_eq, decide_eq_true_iff]
  exact eq_comm
theorem find_nmI (n : Int) : ∀ (es : List MapEntry) (ents : List (Int × Value)) (i : Nat), es.map (fun e => (e.key, e.val)) = ents.map (fun p => (ikV p.1, p.2)) → Instr.findNow (.int .i64) (ikV n) es i = some (posM n ents i)
  | [], [], i, _ => by simp [Instr.findNow, posM]
  | [], p :: l, i, h => by simp at h
  | e :: es, [], i, h => by simp at h
  | e :: es, (a, v) :: l, i, h => by
    simp only [List.map_cons, List.cons.injEq, Prod.mk.injEq] at h
    obtain ⟨⟨h1, h2⟩, h3⟩ := h
    unfold Instr.findNow posM
    rw [h1, now_nmI]
    by_cases ha : a = n
    · simp [ha, h2]
    · rw [decide_eq_false ha, if_neg ha]
      exact find_nmI n es l (i + 1) h3
theorem key_nmI (n : Int) (w : World) {es : List MapEntry} {ents : List (Int × Value)} (h : es.map (fun e => (e.key, e.val)) = ents.map (fun p => (ikV p.1, p.2))) : (Instr.findKey 3 (ikV n) es).run Tryz.prog w = .ok (posM n ents 0) w :=
  run_findKey Tryz.underlying3 (find_nmI n es ents 0 h)
theorem same_nmI (a : Int) : Instr.sameBits 10000 (ikV a) (ikV a) = true := by
  simp [Instr.sameBits]
def MapAtI (w : World) (b : Nat) (ents : List (Int × Value)) : Prop := ∃ es clock, w.heap[b]? = some (.map es clock) ∧ es.toList.map (fun e => (e.key, e.val)) = ents.map (fun p => (ikV p.1, p.2)) ∧ Stamped es clock
theorem MapAtI.lt {w : World} {b : Nat} {ents : List (Int × Value)} (h : MapAtI w b ents) : b < w.heap.size := by
  obtain ⟨es, c, hb, _⟩ := h
  exact (Array.getElem?_eq_some_iff.1 hb).1
theorem MapAtI.same {w w' : World} {b : Nat} {ents : List (Int × Value)} (h : MapAtI w b ents) (e : w'.heap[b]? = w.heap[b]?) : MapAtI w' b ents := by
  obtain ⟨es, c, hb, h2⟩ := h
  exact ⟨es, c, e.trans hb, h2⟩
theorem MapAtI.next {w w' : World} {b : Nat} {ents : List (Int × Value)} (h : MapAtI w b ents) (hb : Below w.heap.size w w') : MapAtI w' b ents := h.same (hb.block b h.lt)
theorem MapAtI.new (w : World) : MapAtI (w.alloc (.map #[] 0)) w.heap.size [] := ⟨#[], 0, (MapKept.heap_alloc w _).1, rfl, stamped_empty 0⟩
theorem map_lookI {w : World} {b : Nat} {ents : List (Int × Value)} (h : MapAtI w b ents) (n : Int) {t E : TypeId} (ht : Tryz.prog.underlying t = some (.map 3 E)) {z : Value} (hz : (zeroValue E).run Tryz.prog w = .ok z w) :
    (Instr.lookup t (.map (some b)) (ikV n) false).run Tryz.prog w = .ok ((lookM n ents).getD z) w := by
  obtain ⟨es, c, hb, he, hs⟩ := h; rw [← posM_look n ents 0]
  cases hp : posM n ents 0 with
  | none => simp [Instr.lookup, run_underlying ht, MapKept.run_getObj_map hb, chk_nmI, key_nmI n w he, hp, hz, Result.andThen]
  | some q => simp [Instr.lookup, run_underlying ht, MapKept.run_getObj_map hb, chk_nmI, key_nmI n w he, hp, hz, Result.andThen]
theorem map_putI {w : World} {b : Nat} {ents : List (Int × Value)} (h : MapAtI w b ents) (n : Int) (v : Value) {t E : TypeId} (ht : Tryz.prog.underlying t = some (.map 3 E)) :
    ∃ w', (Instr.mapUpdate t (.map (some b)) (ikV n) v).run Tryz.prog w = .ok () w' ∧ MapAtI w' b (putM n v ents) ∧ w.grownBy w' (some b) := by
  obtain ⟨es, c, hb, he, hs⟩ := h
  have hlen : es.size = ents.length := by have := congrArg List.length he; simpa using this
  have key : ∀ o : Obj, (w.grownBy (setBlock w b o) (some b)) := fun o => ⟨rfl, rfl, rfl, by simp [setBlock], fun i _ hi => heap_setBlock_other hb _ (fun e1 => hi (by rw [e1]))⟩
  cases hp : posM n ents 0 with
  | none =>
    obtain ⟨h1, h2⟩ := posM_none v hp
    refine ⟨setBlock w b (.map (es.push { key := ikV n, val := v, born := c }) (c + 1)), ?_, ⟨_, _, heap_setBlock_same hb _, ?_, ?_⟩, key _⟩
    · simp [Instr.mapUpdate, run_underlying ht, MapKept.run_getObj_map hb, chk_nmI, key_nmI n w he, hp, MapKept.run_setObj_map _ hb, Result.andThen, setBlock]
    · rw [h2]
      simp [he]
    · refine stamped_push hs fun x hx e => ?_
      have hm : (x.key, x.val) ∈ es.toList.map fun e => (e.key, e.val) := List.mem_map.2 ⟨x, hx, rfl⟩
      rw [he] at hm; obtain ⟨p, hp1, hp2⟩ := List.mem_map.1 hm
      injection hp2 with hp2 _
      exact h1 p hp1 (nm_injI (hp2.trans e))
  | some q =>
    obtain ⟨j, u⟩ := q; obtain ⟨k, hj, h1, h2⟩ := posM_some v hp; rw [Nat.zero_add] at hj; subst hj
    have hk : j < es.size := by
      rw [hlen]
      exact (List.getElem?_eq_some_iff.1 h1).1
    have hg : es[j]? = some es[j] := Array.getElem?_eq_getElem hk
    have hkey : es[j].key = ikV n := by
      have e1 : (es.toList.map fun e => (e.key, e.val))[j]? = some (es[j].key, es[j].val) := by simp [hg]
      rw [he, List.getElem?_map, h1] at e1
      simp only [Option.map_some, Option.some.injEq, Prod.mk.injEq] at e1
      exact e1.1.symm
    refine ⟨setBlock w b (.map (es.modify j fun e => { e with key := ikV n, val := v }) c), ?_, ⟨_, _, heap_setBlock_same hb _, ?_, ?_⟩, key _⟩
    · have hst : (Instr.keyThatStays (ikV n) (ikV n)).run Tryz.prog w = .ok (ikV n) w := by simp [Instr.keyThatStays, same_nmI]
      simp [Instr.mapUpdate, run_underlying ht, MapKept.run_getObj_map hb, chk_nmI, key_nmI n w he, hp, hg, hkey, hst, MapKept.run_setObj_map _ hb, Result.andThen, setBlock]
    · rw [h2]
      apply List.ext_getElem?
      intro i
      have e1 : (es.toList.map fun e => (e.key, e.val))[i]? = (ents.map fun p => (ikV p.1, p.2))[i]? := by rw [he]
      simp only [List.getElem?_map, Array.getElem?_toList, Array.getElem?_modify, List.getElem?_set] at e1 ⊢
      by_cases hij : j = i
      · subst hij
        rw [hg]
        simp [← hlen, hk]
      · simp only [if_neg hij]
        exact e1
    · exact stamped_modify hs _ _ (fun _ _ => rfl) fun e _ hej => by
        rw [hg] at hej
        cases hej
        exact hkey.symm
theorem map_okI {w : World} {b : Nat} {ents : List (Int × Value)} (h : MapAtI w b ents) (n : Int) {t E : TypeId} (ht : Tryz.prog.underlying t = some (.map 3 E)) {z : Value} (hz : (zeroValue E).run Tryz.prog w = .ok z w) :
    (Instr.lookup t (.map (some b)) (ikV n) true).run Tryz.prog w = .ok (.tuple #[(lookM n ents).getD z, .bool (lookM n ents).isSome]) w := by
  obtain ⟨es, c, hb, he, hs⟩ := h; rw [← posM_look n ents 0]
  cases hp : posM n ents 0 with
  | none => simp [Instr.lookup, run_underlying ht, MapKept.run_getObj_map hb, chk_nmI, key_nmI n w he, hp, hz, Result.andThen]
  | some q => simp [Instr.lookup, run_underlying ht, MapKept.run_getObj_map hb, chk_nmI, key_nmI n w he, hp, hz, Result.andThen]
end Go.Proofs.YtmjkcanjfjfkfaaGreat
namespace Go.Proofs.YtmjkcanjfjfkfaaGreat
open Go.RowKit Go.MapKept Go.ChangeMaps
set_option linter.unusedSimpArgs false
set_option linter.unusedVariables false
theorem lookM_map {κ ν μ : Type} [DecidableEq κ] (f : ν → μ) (n : κ) : ∀ l : List (κ × ν), lookM n (l.map fun p => (p.1, f p.2)) = (lookM n l).map f
  | [] => rfl
  | (a, v) :: l => by
    simp only [List.map_cons, lookM]
    split
    · rfl
    · exact lookM_map f n l
theorem putM_map {κ ν μ : Type} [DecidableEq κ] (f : ν → μ) (n : κ) (x : ν) : ∀ l : List (κ × ν), putM n (f x) (l.map fun p => (p.1, f p.2)) = (putM n x l).map fun p => (p.1, f p.2)
  | [] => rfl
  | (a, v) :: l => by
    simp only [List.map_cons, putM]
    split
    · rfl
    · rw [putM_map f n x l]; rfl
def DMap (w : World) (b : Nat) (D : List (Int × Int)) : Prop := MapAtI w b (D.map fun p => (p.1, Value.int .i64 p.2))
theorem DMap.next {w w' : World} {b : Nat} {D : List (Int × Int)} (h : DMap w b D) (hb : Below w.heap.size w w') : DMap w' b D := MapAtI.next h hb
theorem DMap.same {w w' : World} {b : Nat} {D : List (Int × Int)} (h : DMap w b D) (e : w'.heap[b]? = w.heap[b]?) : DMap w' b D := MapAtI.same h e
theorem DMap.new (w : World) : DMap (w.alloc (.map #[] 0)) w.heap.size [] := MapAtI.new w
theorem getD_map (D : List (Int × Int)) (n : Int) : ((lookM n (D.map fun p => (p.1, Value.int .i64 p.2))).getD (.int .i64 0)) = .int .i64 ((lookM n D).getD 0) := by
  rw [lookM_map]
  cases lookM n D <;> rfl
theorem isSome_map (D : List (Int × Int)) (n : Int) : (lookM n (D.map fun p => (p.1, Value.int .i64 p.2))).isSome = (lookM n D).isSome := by
  rw [lookM_map]
  cases lookM n D <;> rfl
theorem put_map (D : List (Int × Int)) (n x : Int) {w : World} {b : Nat} (h : MapAtI w b (putM n (.int .i64 x) (D.map fun p => (p.1, Value.int .i64 p.2)))) : DMap w b (putM n x D) := by
  rw [putM_map (fun y : Int => Value.int .i64 y)] at h
  exact h
def QOwn (w : World) (B : Nat) (v : Value) (Q : List Int) : Prop :=
  ∃ (g o c : Nat) (cur : Array Value), v = .slice (some ⟨g, o, none⟩) Q.length c ∧ B ≤ g ∧ Blk w g 3 cur ∧ Q.length ≤ c ∧ o + c ≤ cur.size ∧ c ≤ maxLen ∧ ∀ (j : Nat) (hj : j < Q.length), cur[o + j]? = some (.int .i64 Q[j])
theorem QOwn.next {w w' : World} {B : Nat} {v : Value} {Q : List Int} (h : QOwn w B v Q) (hb : Below w.heap.size w w') : QOwn w' B v Q := by
  obtain ⟨g, o, c, cur, h1, h2, h3, h4⟩ := h
  exact ⟨g, o, c, cur, h1, h2, h3.next hb h3.lt, h4⟩
theorem QOwn.grown {w w' : World} {B : Nat} {v : Value} {Q : List Int} {row : Option Nat} (h : QOwn w B v Q) (hg : w.grownBy w' row) (hne : ∀ r cs, row = some r → w.heap[r]? ≠ some (.cells cs 3 (0, 0))) : QOwn w' B v Q := by
  obtain ⟨g, o, c, cur, h1, h2, h3, h4⟩ := h
  exact ⟨g, o, c, cur, h1, h2, h3.grown hg (fun e => hne g cur e.symm h3), h4⟩
theorem QOwn.form {w : World} {B : Nat} {v : Value} {Q : List Int} (h : QOwn w B v Q) : ∃ A c, v = .slice A Q.length c ∧ Q.length ≤ c := by
  obtain ⟨g, o, c, cur, h1, h2, h3, h4, _⟩ := h
  exact ⟨_, c, h1, h4⟩
theorem QOwn.at0 {w : World} {B : Nat} {v : Value} {x : Int} {Q : List Int} (h : QOwn w B v (x :: Q)) : ∃ g o c, v = .slice (some ⟨g, o, none⟩) (Q.length + 1) c ∧ Q.length + 1 ≤ c ∧ w.cell? ⟨g, o, none⟩ = some (.int .i64 x) := by
  obtain ⟨g, o, c, cur, h1, h2, h3, h4, h5, h6, h7⟩ := h
  refine ⟨g, o, c, h1, h4, ?_⟩
  have := h7 0 (by simp); rw [h3.cell o]
  simpa using this
theorem QOwn.tail {w : World} {B : Nat} {A : Option Addr} {n c : Nat} {x : Int} {Q : List Int} (h : QOwn w B (.slice A n c) (x :: Q)) : QOwn w B (.slice (if c = 1 then A else A.map (·.add 1)) (n - 1) (c - 1)) Q := by
  obtain ⟨g, o, c', cur, h1, h2, h3, h4, h5, h6, h7⟩ := h
  injection h1 with e1 e2 e3
  subst e1 e2 e3
  simp only [List.length_cons] at h4 h7 ⊢
  by_cases hc : c = 1
  · rw [if_pos hc]
    refine ⟨g, o, c - 1, cur, by rw [Nat.add_sub_cancel], h2, h3, by omega, by omega, by omega, fun j hj => ?_⟩
    omega
  · rw [if_neg hc]
    refine ⟨g, o + 1, c - 1, cur, by rw [Nat.add_sub_cancel]; rfl, h2, h3, by omega, by omega, by omega, fun j hj => ?_⟩
    have := h7 (j + 1) (by omega); rw [show o + 1 + j = o + (j + 1) by omega]
    simpa using this
theorem QOwn.push {w : World} {B : Nat} {v : Value} {Q : List Int} (h : QOwn w B v Q) (x : Int) (hB : B ≤ w.heap.size) (hl : Q.length ≤ 1000000) (ty : TypeId) :
    ∃ v' w', (Builtin.append_ #[68, 68] ty #[v, .slice (some ⟨w.heap.size, 0, none⟩) 1 1]).run Tryz.prog (w.alloc (.cells #[.int .i64 x] 3)) = .ok v' w' ∧ QOwn w' B v' (Q ++ [x]) ∧ (∀ b, b < w.heap.size → (∀ cs, w.heap[b]? ≠ some (.cells cs 3 (0, 0))) → w'.heap[b]? = w.heap[b]?) ∧ Below B w w' ∧ w.heap.size ≤ w'.heap.size := by
  obtain ⟨g, o, c, cur, rfl, h2, h3, h4, h5, h6, h7⟩ := h; obtain ⟨i0, hi, hz0, hz1, hz2⟩ := info_parts infoIn; have hal := (Below.refl w.heap.size w).alloc (Nat.le_refl _) (.cells #[.int .i64 x] 3); have hz := Blk.new w 3 #[.int .i64 x]; have h3' := h3.next hal h3.lt
  have hnews : ∀ (j : Nat) (u : Value), [Value.int .i64 x][j]? = some u → (w.alloc (.cells #[.int .i64 x] 3)).cell? ((⟨w.heap.size, 0, none⟩ : Addr).add j) = some u := fun j u hj => by
    rw [add_off, Nat.zero_add, hz.cell j]
    simpa using hj
  by_cases hr : Q.length + 1 ≤ c
  · have hgl := h3'.lt
    have hcell : ∀ j, j < [Value.int .i64 x].length → ((w.alloc (.cells #[.int .i64 x] 3)).cell? ⟨g, o + Q.length * i0.size + j, none⟩).isSome = true := fun j hj => by
      rw [hz1, h3'.cell]
      simp only [List.length_singleton] at hj
      rw [Array.getElem?_eq_getElem (by omega)]
      rfl
    have hfro : ∀ j, j < [Value.int .i64 x].length → (w.alloc (.cells #[.int .i64 x] 3)).frozen? ⟨g, o + Q.length * i0.size + j, none⟩ = false := fun j hj => h3'.frozen _
    have hrun := run_append_room_cells (P := Tryz.prog) (w := w.alloc (.cells #[.int .i64 x] 3)) 68 ty 3 i0 Tryz.underlying68 hi g o Q.length c ⟨w.heap.size, 0, none⟩ 1 1 [.int .i64 x] (by rw [hz1]; rfl) hnews (by simp [Value.oneCell']) hr hcell hfro; rw [hz1, Nat.mul_one] at hrun
    refine ⟨_, _, hrun, ?_⟩
    have hset : (w.alloc (.cells #[.int .i64 x] 3)).setCells g (o + Q.length) [.int .i64 x] = (w.alloc (.cells #[.int .i64 x] 3)).setCell ⟨g, o + Q.length, none⟩ (.int .i64 x) := rfl; rw [hset]; have hs := h3'.set_ (o + Q.length) (.int .i64 x)
    refine ⟨⟨g, o, c, _, by simp, h2, hs, by simpa using hr, by simpa using h5, h6, fun j hj => ?_⟩, fun b hb hne => ?_, ((hal.mono hB).setCell (p := ⟨g, o + Q.length, none⟩) h2 _), ?_⟩
    · simp only [List.length_append, List.length_singleton] at hj
      rw [Array.getElem?_setIfInBounds]
      by_cases hjq : j < Q.length
      · rw [if_neg (by omega), h7 j hjq, List.getElem_append_left hjq]
      · obtain rfl : j = Q.length := by omega
        rw [if_pos rfl, if_pos (by omega), List.getElem_append_right (Nat.le_refl _)]
        simp
    · have hbg : b ≠ g := fun e => hne cur (by rw [e]; exact h3)
      exact (Below.heap_setCell _ ⟨g, o + Q.length, none⟩ _ b hbg).trans (hal.block b hb)
    · rw [World.size_setCell]
      exact hal.size
  · have hQ : Q.length = c := by omega
    have holds : ∀ (j : Nat) (u : Value), (Q.map (fun y => Value.int .i64 y))[j]? = some u → (w.alloc (.cells #[.int .i64 x] 3)).cell? ⟨g, o + j, none⟩ = some u := fun j u hj => by
      rw [h3'.cell]; rw [List.getElem?_map] at hj; obtain ⟨y, hy, rfl⟩ := Option.map_eq_some_iff.1 hj; obtain ⟨hjl, rfl⟩ := List.getElem?_eq_some_iff.1 hy
      exact h7 j hjl
    obtain ⟨v', w', hrun, hown, hg⟩ := run_append_arg_grows (P := Tryz.prog) (w := w.alloc (.cells #[.int .i64 x] 3)) 68 ty 3 i0 (.int .i64 0) 1 8 Tryz.underlying68 hi hz0 hz1 hz2 rfl (by decide) ⟨g, o, none⟩ Q.length c (Q.map (fun y => Value.int .i64 y)) (by simp) (fun j u hj => by rw [add_off]; exact holds j u hj) ⟨w.heap.size, 0, none⟩ 1 1 [.int .i64 x] rfl hnews (by omega) (by simp only [maxLen]; omega) (by omega); have hbelow := hal.grown hg (Nat.le_of_lt (Blk.lt hz)) (fun k hk => by cases hk)
    refine ⟨v', w', hrun, ?_, fun b hb hne => hbelow.block b hb, hbelow.mono hB, hbelow.size⟩
    rcases hown with ⟨hlen, ⟨_, h0⟩ | ⟨g', c', cur', rfl, hge, hb', hle, hmx, hcs, htk⟩⟩
    · omega
    have hsz0 : w.heap.size ≤ g' := Nat.le_trans (Nat.le_of_lt (Blk.lt hz)) hge
    refine ⟨g', 0, c', cur', by simp, Nat.le_trans hB hsz0, hb', by simpa using hle, by omega, hmx, fun j hj => ?_⟩
    rw [Nat.zero_add]; have h8 := congrArg (fun l => l[j]?) htk
    simp only [List.length_append, List.length_singleton] at hj
    rw [List.getElem?_take_of_lt (by omega)] at h8; rw [← Array.getElem?_toList, h8, ← List.map_singleton (f := fun y => Value.int .i64 y), ← List.map_append, List.getElem?_map, List.getElem?_eq_getElem (by simpa using hj)]
    rfl
end Go.Proofs.YtmjkcanjfjfkfaaGreat
namespace Go.Proofs.YtmjkcanjfjfkfaaGreat
open Go.RowKit Go.MapKept Go.ChangeMaps
set_option linter.unusedSimpArgs false
set_option linter.unusedVariables false
abbrev DM := List (Int × Int)
theorem putM_new {κ ν : Type} [DecidableEq κ] (n : κ) (x : ν) : ∀ l : List (κ × ν), (lookM n l).isSome = false → putM n x l = l ++ [(n, x)]
  | [], _ => rfl
  | (a, v) :: l, h => by
    simp only [lookM] at h
    simp only [putM]
    split
    · rename_i e; rw [if_pos e] at h; cases h
    · rename_i e; rw [if_neg e] at h
      rw [putM_new n x l h]; rfl
theorem lookM_none {κ ν : Type} [DecidableEq κ] {n : κ} : ∀ {l : List (κ × ν)}, (lookM n l).isSome = false → ∀ p ∈ l, p.1 ≠ n
  | [], _, p, hp => by cases hp
  | (a, v) :: l, h, p, hp => by
    simp only [lookM] at h
    split at h
    · cases h
    · rename_i e
      rcases List.mem_cons.1 hp with rfl | hp
      · exact e
      · exact lookM_none h p hp
theorem lookM_app {κ ν : Type} [DecidableEq κ] (n : κ) (q : List (κ × ν)) : ∀ l : List (κ × ν), (lookM n l).isSome = true → lookM n (l ++ q) = lookM n l
  | [], h => by cases h
  | (a, v) :: l, h => by
    simp only [lookM] at h
    simp only [List.cons_append, lookM]
    split
    · rfl
    · rename_i e; rw [if_neg e] at h; exact lookM_app n q l h
structure BOk (N : Nat) (D : DM) : Prop where
  nd : (D.map Prod.fst).Nodup
  rng : ∀ p ∈ D, 0 ≤ p.1 ∧ p.1 < (N : Int) ∧ 0 ≤ p.2 ∧ p.2 < (D.length : Int)
  pos : 0 < D.length
theorem BOk.le {N : Nat} {D : DM} (h : BOk N D) : D.length ≤ N := by
  have h1 : ((D.map Prod.fst).map Int.toNat).Nodup := by
    rw [List.Nodup, List.pairwise_map]
    refine List.Pairwise.imp_of_mem ?_ h.nd
    intro a b ha hb hab e
    obtain ⟨p, hp, rfl⟩ := List.mem_map.1 ha; obtain ⟨q, hq, rfl⟩ := List.mem_map.1 hb; have := h.rng p hp; have := h.rng q hq
    omega
  have := nodup_lt_length N _ h1 (fun x hx => by
    obtain ⟨y, hy, rfl⟩ := List.mem_map.1 hx; obtain ⟨p, hp, rfl⟩ := List.mem_map.1 hy; have := h.rng p hp
    omega)
  simpa using this
theorem BOk.dist {N : Nat} {D : DM} (h : BOk N D) (i : Int) : 0 ≤ (lookM i D).getD 0 ∧ (lookM i D).getD 0 < (D.length : Int) := by
  cases hl : lookM i D with
  | none => have := h.pos; simp; omega
  | some x =>
    have := h.rng _ (look_mem hl)
    simp
    omega
theorem BOk.node {N : Nat} {D : DM} (h : BOk N D) {i : Int} (hi : (lookM i D).isSome = true) : 0 ≤ i ∧ i < (N : Int) := by
  obtain ⟨x, hx⟩ := Option.isSome_iff_exists.1 hi; have := h.rng _ (look_mem hx)
  exact ⟨this.1, this.2.1⟩
theorem BOk.add {N : Nat} {D : DM} (h : BOk N D) {n d : Int} (hn : (lookM n D).isSome = false) (h0 : 0 ≤ n) (h1 : n < (N : Int)) (d0 : 0 ≤ d) (d1 : d < (D.length : Int) + 1) : BOk N (D ++ [(n, d)]) := by
  refine ⟨?_, fun p hp => ?_, by simp⟩
  · rw [List.map_append, List.nodup_append]
    refine ⟨h.nd, by simp, fun a ha b hb => ?_⟩
    obtain ⟨p, hp, rfl⟩ := List.mem_map.1 ha
    simp only [List.map_cons, List.map_nil, List.mem_singleton] at hb
    subst hb
    exact lookM_none hn p hp
  · simp only [List.length_append, List.length_singleton]
    rcases List.mem_append.1 hp with hp | hp
    · have := h.rng p hp; omega
    · simp only [List.mem_singleton] at hp; subst hp; simp only; omega
def bfsIn (i : Int) : List Lk → DM × List Int → DM × List Int
  | [], s => s
  | x :: l, s => bfsIn i l (if (lookM x.to_ s.1).isSome = true then s else (s.1 ++ [(x.to_, (lookM i s.1).getD 0 + 1)], s.2 ++ [x.to_]))
def bfs (U : List (List Lk)) : Nat → DM → List Int → DM
  | 0, D, _ => D
  | _ + 1, D, [] => D
  | k + 1, D, i :: Q => bfs U k (bfsIn i (U.getD i.toNat []) (D, i :: Q)).1 (bfsIn i (U.getD i.toNat []) (D, i :: Q)).2.tail
theorem bfs_nil (U : List (List Lk)) (D : DM) : ∀ k, bfs U k D [] = D
  | 0 => rfl
  | _ + 1 => rfl
def lessB (x : Lk) : Option Lk → Bool
  | none => true
  | some y => decide (x.frm < y.frm)
def better (D : DM) (i : Int) (x : Lk) (b : Option Lk) : Bool := (lookM x.frm D).isSome && ((lookM x.frm D).getD 0 == (lookM i D).getD 0 - 1) && lessB x b
def stepF (D : DM) (i : Int) : List Lk → Option Lk → Option Lk
  | [], b => b
  | x :: l, b => stepF D i l (if better D i x b = true then some x else b)
def stepS (L : List (List Lk)) (D : DM) (i : Int) : Option Lk := stepF D i (L.getD i.toNat []) none
theorem stepF_of {D : DM} {i : Int} : ∀ {l : List Lk} {b : Option Lk} {x : Lk}, (∀ y, b = some y → (lookM y.frm D).isSome = true ∧ (lookM y.frm D).getD 0 = (lookM i D).getD 0 - 1) → stepF D i l b = some x → (lookM x.frm D).isSome = true ∧ (lookM x.frm D).getD 0 = (lookM i D).getD 0 - 1
  | [], b, x, hb, h => hb x h
  | y :: l, b, x, hb, h => by
    simp only [stepF] at h
    refine stepF_of (l := l) ?_ h
    intro z hz
    split at hz
    · rename_i e
      injection hz with hz
      subst hz
      simp only [better, Bool.and_eq_true, beq_iff_eq] at e
      exact ⟨e.1.1, e.1.2⟩
    · exact hb z hz
theorem stepS_of {L : List (List Lk)} {D : DM} {i : Int} {x : Lk} (h : stepS L D i = some x) : (lookM x.frm D).isSome = true ∧ (lookM x.frm D).getD 0 = (lookM i D).getD 0 - 1 :=
  stepF_of (fun y hy => by cases hy) h
def backS (L : List (List Lk)) (D : DM) (frm : Int) : Nat → Int → List Lk → Option (List Lk)
  | 0, _, _ => none
  | k + 1, i, l => if i = frm then some l else match stepS L D i with
    | none => none
    | some x => backS L D frm k x.frm (l ++ [x])
def bfsD (l : List Ac) (frm : Int) : DM := bfs (UT l.length (lnkD l).flatten) l.length [(frm, 0)] [frm]
def chainS (l : List Ac) (frm to_ : Int) : Option (List Lk) :=
  if 0 ≤ frm ∧ frm < (l.length : Int) ∧ 0 ≤ to_ ∧ to_ < (l.length : Int) then
    (if (lookM to_ (bfsD l frm)).isSome = true then (backS (lnkD l) (bfsD l frm) frm (((lookM to_ (bfsD l frm)).getD 0).toNat + 1) to_ []).map List.reverse else none)
  else none
theorem lnkF_to : ∀ (d r : List Ac), ∀ x ∈ (lnkF d r).flatten, (d.length : Int) ≤ x.to_ ∧ x.to_ < (d.length : Int) + r.length
  | d, [], x, h => by simp [lnkF] at h
  | d, a :: r, x, h => by
    simp only [lnkF, List.flatten_cons, List.mem_append] at h
    simp only [List.length_cons]
    rcases h with h | h
    · obtain ⟨c, _, rfl⟩ := List.mem_map.1 h
      simp only
      omega
    · have := lnkF_to (d ++ [a]) r x h
      simp only [List.length_append, List.length_singleton] at this
      omega
theorem lnkD_to {l : List Ac} {x : Lk} (h : x ∈ (lnkD l).flatten) : 0 ≤ x.to_ ∧ x.to_ < (l.length : Int) := by
  have := lnkF_to [] l x h
  simpa using this
theorem UT_row_to {l : List Ac} {k : Nat} (hk : k < (UT l.length (lnkD l).flatten).length) : ∀ x ∈ (UT l.length (lnkD l).flatten)[k], 0 ≤ x.to_ ∧ x.to_ < (l.length : Int) := fun x hx => by
  rw [UT_get] at hx
  exact lnkD_to (List.mem_filter.1 hx).1
theorem UT_row_len {l : List Ac} (hr : ∀ a ∈ l, a.reads.length ≤ 10) {k : Nat} (hk : k < (UT l.length (lnkD l).flatten).length) : (UT l.length (lnkD l).flatten)[k].length ≤ l.length * 10 := by
  rw [UT_get]
  exact Nat.le_trans (List.length_filter_le _ _) (lnkF_flat [] l hr)
end Go.Proofs.YtmjkcanjfjfkfaaGreat
namespace Go.Proofs.YtmjkcanjfjfkfaaGreat
open Go.RowKit Go.Sort Go.Shelf
set_option linter.unusedSimpArgs false
set_option linter.unusedVariables false
instance : Inhabited Lk := ⟨⟨0, 0, ⟨0, [], 0, 0, []⟩⟩⟩
end Go.Proofs.YtmjkcanjfjfkfaaGreat
namespace Go.Proofs
open Go.Shelf Go.Lib
shelf_lay_g SlLaysE0.n35 Slgn 35 at Tryz 48 as YtmjkcanjfjfkfaaGreat.revLaid
end Go.Proofs
namespace Go.Proofs.YtmjkcanjfjfkfaaGreat
open Go.RowKit Go.Sort Go.Shelf
theorem holds_links {w : World} {B g c : Nat} {l : List Lk} (h : w.ownsRow B 77 7 (.slice (some ⟨g, 0, none⟩) l.length c) l.length (l.flatMap lkC)) : HoldsK lkC 7 w g 0 l.toArray := by
  intro t ht
  rw [size_flatK] at ht
  have hk : t / 7 < l.length := by simp only [List.size_toArray] at ht; omega
  have hj : t % 7 < 7 := Nat.mod_lt _ (by decide); have h1 := own_cells lkC_len h hk rfl (t % 7) ((lkC l[t / 7])[t % 7]'(by rw [lkC_len]; exact hj)) (List.getElem?_eq_getElem _)
  have h2 : t / 7 * 7 + t % 7 = t := by omega
  rw [h2] at h1
  refine ⟨?_, by rw [Nat.zero_add]; exact own_frozen h t⟩
  rw [Nat.zero_add, h1, get_flatK _ _ _ _ ht]
  simp only [id]
  have e1 : l.toArray[t / 7]! = l[t / 7] := by simp [hk]
  rw [e1, getElem!_pos (lkC l[t / 7]) (t % 7) (by rw [lkC_len]; exact hj)]
theorem heap_rev {w : World} {g n : Nat} {cur : Array Value} {e : TypeId} {fr : Nat × Nat} (d : Array Lk) (hb : w.heap[g]? = some (.cells cur e fr)) :
    (putRowK lkC 7 (Sort.ahead w n) g 0 d).heap[g]? = some (.cells (putCells id 0 (flatK lkC 7 d) cur) e fr) := by
  simp [putRowK, putRow, mapBlock, Sort.ahead, Array.getElem?_modify, hb, onCells]
theorem grownBy_rev {w : World} {g n : Nat} (d : Array Lk) : w.grownBy (putRowK lkC 7 (Sort.ahead w n) g 0 d) (some g) := by
  refine ⟨rfl, rfl, rfl, by simp [putRowK], fun k hk hne => ?_⟩
  have : g ≠ k := fun e => hne (by rw [e])
  simp [putRowK, putRow, mapBlock, Sort.ahead, Array.getElem?_modify, this]
theorem revlk_is {w : World} {B : Nat} {v : Value} {l : List Lk} (h : w.ownsRow B 77 7 v l.length (l.flatMap lkC)) (hl : l.length ≤ 1000000) (hB : B ≤ w.heap.size) : Calls Tryz.prog 48 #[v] w fun e w' => e = .returned (.tuple #[]) ∧ RdLk w' v l.reverse ∧ Below B w w' := by
  obtain ⟨A, c, rfl, hc⟩ := own_len h
  by_cases h0 : l.length = 0
  · have hnil : l = [] := List.eq_nil_of_length_eq_zero h0
    subst hnil; refine (AnyQ.slices_Reverse_empty revLaid A c w).mono ?_; rintro e w' ⟨rfl, rfl⟩
    exact ⟨rfl, Rd.of_own h, Below.refl _ _⟩
  · obtain ⟨hlen, ⟨_, h1⟩ | ⟨g, cap, cur, hv, hg, hh, h1, h2, h3, h4⟩⟩ := id h
    · exact absurd h1 h0
    injection hv with hA _ hcc
    subst hA hcc; have hh2 := holds_links h
    have hsz : l.toArray.size = l.length := by simp
    have := AnyQ.slices_Reverse revLaid 7 Tryz.isAgg77 Tryz.sizeOf77 lkC lkC_len (fun x v hv => by simp only [lkC, List.mem_cons, List.not_mem_nil, or_false] at hv; rcases hv with rfl | rfl | rfl | rfl | rfl | rfl | rfl <;> rfl) g 0 c l.toArray w hh2 (by rw [hsz]; omega); rw [hsz] at this
    refine this.mono ?_
    rintro e w' ⟨rfl, n, rfl⟩
    have hrv : l.toArray.reverse = l.reverse.toArray := by simp
    rw [hrv]; have hH := holdsK_putRowK (enc := lkC) (k := 7) (Sort.ahead w n) g 0 l.toArray l.reverse.toArray (holdsK_ahead lkC 7 w n g 0 _ hh2) (by simp)
    refine ⟨rfl, ⟨some ⟨g, 0, none⟩, c, by simp, by simpa using hc, h2, .inr ⟨g, 0, _, _, rfl, heap_rev _ hh, fun j u hj => ?_⟩⟩, (Below.refl B w).grown (grownBy_rev _) hB (fun k hk => by injection hk with hk; omega)⟩
    have hjl : j < l.length * 7 := by
      have := (List.getElem?_eq_some_iff.1 hj).1; rw [fm_len lkC_len] at this
      simpa using this
    have h6 := (hH j (by rw [size_flatK]; simpa using hjl)).1; rw [get_flatK _ _ _ _ (by simpa using hjl), cell_of_row _ g (0 + j) _ _ _ (heap_rev _ hh)] at h6; rw [h6, ← hj]
    have hk : j / 7 < l.reverse.length := by rw [List.length_reverse]; omega
    have hjm : j % 7 < 7 := Nat.mod_lt _ (by decide); have h7 := fm_get lkC_len l.reverse (j / 7) hk (j % 7) hjm; rw [show j / 7 * 7 + j % 7 = j by omega] at h7; rw [h7]
    simp only [id]
    have e1 : l.reverse.toArray[j / 7]! = l.reverse[j / 7] := by simp [List.length_reverse] at hk ⊢; simp [hk]
    rw [e1, List.getElem?_eq_getElem (by rw [lkC_len]; exact hjm), getElem!_pos (lkC l.reverse[j / 7]) (j % 7) (by rw [lkC_len]; exact hjm)]
end Go.Proofs.YtmjkcanjfjfkfaaGreat
namespace Go.Proofs.YtmjkcanjfjfkfaaGreat
open Go.RowKit
set_option linter.unusedSimpArgs false
set_option linter.unusedVariables false
attribute [local go_sem ↓] Go.wp_at_zero Go.wp_at_succ
theorem RdIn_piece {w : World} {A : Option Addr} {n c : Nat} {l : List Int} (h : RdIn w (.slice A n c) l) {k : Nat} (hk : k < l.length) : ∃ b o, A = some ⟨b, o, none⟩ ∧ b < w.heap.size ∧ w.cell? ⟨b, o + k, none⟩ = some (.int .i64 l[k]) := by
  obtain ⟨b, o, e, hb, hc⟩ := RdP.at_ (s := 1) h inC_len hk; have := hc 0 _ rfl; rw [Nat.mul_one, Nat.add_zero] at this
  exact ⟨b, o, e, hb, this⟩
def eqintRel (a b : List Int) (w : World) (i : Value) (wr : World) : Prop := ∃ k : Nat, k ≤ a.length ∧ i = .int .i64 k ∧ (∀ j (h1 : j < a.length) (h2 : j < b.length), j < k → a[j] = b[j]) ∧ Below w.heap.size w wr
set_option maxRecDepth 100000 in
set_option maxHeartbeats 1000000 in
theorem eqint_is {w : World} {v1 v2 : Value} {a b : List Int} (h1 : RdIn w v1 a) (h2 : RdIn w v2 b) (l1 : a.length ≤ 1000000) (l2 : b.length ≤ 1000000) : Calls Tryz.prog 21 #[v1, v2] w fun e w' => e = .returned (.bool (decide (a = b))) ∧ Below w.heap.size w w' := by
  obtain ⟨A1, c1, rfl, hc1⟩ := RdP.form h1; obtain ⟨A2, c2, rfl, hc2⟩ := RdP.form h2; have H1 := Lib.hid h1; have H2 := Lib.hid h2; clear h1 h2
  by_cases hl : a.length = b.length
  · have k1 : ((a.length : Int) == (b.length : Int)) = true := by rw [hl]; simp
    have HLL := Lib.hid hl; rw [← hl] at hc2; have H0 : Hid (eqintRel a b w (.int .i64 (0 : Nat)) w) := Lib.hid ⟨0, Nat.zero_le _, rfl, fun j _ _ h => by omega, Below.refl _ _⟩
    go_enter Tryz.func21, Tryz.ntmps21
    rw [← HLL.out]; clear hl
    go_wp2_with fail
    go_loopw [13] (fun i wr => eqintRel a b w i wr) (fun i _ => a.length - (intOf i).toNat)
    case atStart => exact H0.out
    case round =>
      clear H0; obtain ⟨k, hkl, rfl, hz, hbw⟩ := hrel; have HZ := Lib.hid hz; have HBW := Lib.hid hbw; clear hz hbw
      by_cases hk : k < a.length
      · have j1 : (0 : Int) ≤ (k : Int) := by omega
        have j2 : (k : Int) < (a.length : Int) := by omega
        have j3 : decide ((k : Int) < (a.length : Int)) = true := decide_eq_true j2
        have hkb : k < b.length := by rw [← HLL.out]; exact hk
        obtain ⟨b1, o1, hbe, hb1, x0⟩ := RdIn_piece (RdP.next H1.out HBW.out) hk; subst hbe; obtain ⟨b2, o2, hbe, hb2, y0⟩ := RdIn_piece (RdP.next H2.out HBW.out) hkb; subst hbe; obtain ⟨x, hx⟩ : ∃ x, a[k] = x := ⟨_, rfl⟩; obtain ⟨y, hy⟩ : ∃ y, b[k] = y := ⟨_, rfl⟩; rw [hx] at x0; rw [hy] at y0; have HX := Lib.hid hx; have HY := Lib.hid hy; clear hx hy; obtain ⟨bq, hbq⟩ : ∃ bq, decide (x = y) = bq := ⟨_, rfl⟩; have HQ := Lib.hid hbq
        have e5 : (x != y) = !bq := by rw [← hbq]; by_cases h : x = y <;> simp [h]
        clear hbq
        cases bq with
        | true =>
          go_upto_region 6 with (fail)
          go_quiet (fail)
          go_wp2_with fail
          go_roundw
          case rel => exact ⟨k + 1, by omega, by go_num, fun j h1 h2 h3 => by
            rcases Nat.lt_or_ge j k with h | h
            · exact HZ.out j h1 h2 h
            · obtain rfl : j = k := by omega
              rw [HX.out, HY.out]; exact of_decide_eq_true HQ.out, HBW.out.trans (below_drewN (Below.refl _ _) nq)⟩
          case measure => simp [intOf]; omega
        | false =>
          have hne : decide (a = b) = false := decide_eq_false (fun e => by
            subst e
            exact (of_decide_eq_false HQ.out) (HX.out.symm.trans HY.out))
          have HNE := Lib.hid hne; clear hne
          go_upto_region 6 with (fail)
          go_quiet (fail)
          go_wp2_with fail
          go_ret
          exact ⟨by rw [HNE.out]; rfl, HBW.out.trans (below_drewN (Below.refl _ _) nq)⟩
      · have j3 : decide ((k : Int) < (a.length : Int)) = false := decide_eq_false (by omega)
        have HEQ := Lib.hid (show decide (a = b) = true from decide_eq_true (List.ext_getElem HLL.out (fun j h1 h2 => HZ.out j h1 h2 (by omega))))
        go_wp2_with fail
        go_ret
        exact ⟨by rw [HEQ.out]; rfl, HBW.out⟩
  · have k1 : ((a.length : Int) != (b.length : Int)) = true := by rw [bne_iff_ne]; omega
    have HNE := Lib.hid (show decide (a = b) = false from decide_eq_false (fun e => hl (by rw [e]))); clear hl
    go_enter Tryz.func21, Tryz.ntmps21
    go_wp2_with fail
    go_ret
    exact ⟨by rw [HNE.out]; rfl, Below.refl _ _⟩
end Go.Proofs.YtmjkcanjfjfkfaaGreat
namespace Go.Proofs.YtmjkcanjfjfkfaaGreat
open Go.RowKit
set_option linter.unusedSimpArgs false
set_option linter.unusedVariables false
attribute [local go_sem ↓] Go.wp_at_zero Go.wp_at_succ
def inR (N : Nat) (x : Int) : Bool := decide (0 ≤ x) && decide (x < (N : Int))
def chk2 (N : Nat) (xs : List Int) : Int := if xs.all (inR N) = true then 0 else 2
def gchkRel (xs : List Int) (N : Nat) (w : World) (i : Value) (wr : World) : Prop := ∃ k : Nat, k ≤ xs.length ∧ i = .int .i64 k ∧ (∀ j (h1 : j < xs.length), j < k → inR N xs[j] = true) ∧ Below w.heap.size w wr
theorem GAt.keys {w : World} {B g : Nat} {l : List Ac} (h : GAt w B g l) : ∃ A c, w.cell? ⟨g, 0, none⟩ = some (.slice A l.length c) := by
  obtain ⟨vk, vl, vu, bw, vL, vU, h⟩ := h; obtain ⟨A, c, rfl, _⟩ := own_len h.ky
  refine ⟨A, c, ?_⟩
  rw [h.blk.cell 0, List.length_map]
  rfl
theorem GAt.lt {w : World} {B g : Nat} {l : List Ac} (h : GAt w B g l) : g < w.heap.size := by
  obtain ⟨vk, vl, vu, bw, vL, vU, h⟩ := h
  exact h.blk.lt
set_option maxRecDepth 100000 in
set_option maxHeartbeats 1000000 in
theorem gcheck_is {w : World} {B g : Nat} {l : List Ac} {v : Value} {xs : List Int} (hg : GAt w B g l) (hx : RdIn w v xs) (hl : l.length ≤ 1000000) (hxl : xs.length ≤ 1000000) : Calls Tryz.prog 44 #[.pointer (some ⟨g, 0, none⟩), v] w fun e w' => e = .returned (.int .i64 (chk2 l.length xs)) ∧ Below w.heap.size w w' := by
  obtain ⟨A1, c1, rfl, hc1⟩ := RdP.form hx; have H1 := Lib.hid hx; have HG := Lib.hid hg; clear hx hg; have H0 : Hid (gchkRel xs l.length w (.int .i64 (0 : Nat)) w) := Lib.hid ⟨0, Nat.zero_le _, rfl, fun j _ h => by omega, Below.refl _ _⟩
  go_enter Tryz.func44, Tryz.ntmps44
  go_wp2_with fail
  go_loopw [11] (fun i wr => gchkRel xs l.length w i wr) (fun i _ => xs.length - (intOf i).toNat)
  case atStart => exact H0.out
  case round =>
    clear H0; obtain ⟨k, hkl, rfl, hz, hbw⟩ := hrel; have HZ := Lib.hid hz; have HBW := Lib.hid hbw; clear hz hbw
    by_cases hk : k < xs.length
    · have j1 : (0 : Int) ≤ (k : Int) := by omega
      have j2 : (k : Int) < (xs.length : Int) := by omega
      have j3 : decide ((k : Int) < (xs.length : Int)) = true := decide_eq_true j2; obtain ⟨b1, o1, hbe, hb1, x0⟩ := RdIn_piece (RdP.next H1.out HBW.out) hk; subst hbe; obtain ⟨x, hx⟩ : ∃ x, xs[k] = x := ⟨_, rfl⟩; rw [hx] at x0; have HX := Lib.hid hx; clear hx; obtain ⟨A, c, y0⟩ := GAt.keys (HG.out.next HBW.out)
      by_cases h0 : 0 ≤ x
      · have d0 : decide (x < 0) = false := decide_eq_false (by omega)
        by_cases h1 : x < (l.length : Int)
        · have d1 : decide ((l.length : Int) ≤ x) = false := decide_eq_false (by omega)
          have HIN := Lib.hid (show inR l.length x = true by unfold inR; rw [decide_eq_true h0, decide_eq_true h1]; rfl); clear h0 h1
          go_wp2_with fail
          go_roundw
          case rel => exact ⟨k + 1, by omega, by go_num, fun j h1 h3 => by
            rcases Nat.lt_or_ge j k with h | h
            · exact HZ.out j h1 h
            · obtain rfl : j = k := by omega
              rw [HX.out]; exact HIN.out, HBW.out⟩
          case measure => simp [intOf]; omega
        · have d1 : decide ((l.length : Int) ≤ x) = true := decide_eq_true (by omega)
          have HC := Lib.hid (show chk2 l.length xs = 2 by
            unfold chk2
            rw [if_neg]
            intro h
            have := List.all_eq_true.1 h xs[k] (List.getElem_mem hk); rw [HX.out] at this
            unfold inR at this
            simp at this
            omega)
          clear h0 h1
          go_wp2_with fail
          go_ret
          exact ⟨by rw [HC.out]; rfl, HBW.out⟩
      · have d0 : decide (x < 0) = true := decide_eq_true (by omega)
        have HC := Lib.hid (show chk2 l.length xs = 2 by
            unfold chk2
            rw [if_neg]
            intro h
            have := List.all_eq_true.1 h xs[k] (List.getElem_mem hk); rw [HX.out] at this
            unfold inR at this
            simp at this
            omega)
        clear h0
        go_wp2_with fail
        go_ret
        exact ⟨by rw [HC.out]; rfl, HBW.out⟩
    · have j3 : decide ((k : Int) < (xs.length : Int)) = false := decide_eq_false (by omega)
      have HC := Lib.hid (show chk2 l.length xs = 0 by
        unfold chk2
        rw [if_pos]; rw [List.all_eq_true]
        intro y hy
        obtain ⟨j, hj, rfl⟩ := List.getElem_of_mem hy
        exact HZ.out j hj (by omega))
      go_wp2_with fail
      go_ret
      exact ⟨by rw [HC.out]; rfl, HBW.out⟩
end Go.Proofs.YtmjkcanjfjfkfaaGreat
namespace Go.Proofs.YtmjkcanjfjfkfaaGreat
open Go.RowKit
set_option linter.unusedSimpArgs false
set_option linter.unusedVariables false
attribute [local go_sem ↓] Go.wp_at_zero Go.wp_at_succ
open Go.MapKept Go.ChangeMaps
theorem zeroInt (w : World) : (zeroValue 3).run Tryz.prog w = .ok (.int .i64 0) w := by kernel_rfl
theorem DMap.ok {w : World} {b : Nat} {D : DM} (h : DMap w b D) (n : Int) {d : Int} {q : Bool} (hd : (lookM n D).getD 0 = d) (hq : (lookM n D).isSome = q) : (Instr.lookup 119 (.map (some b)) (.int .i64 n) true).run Tryz.prog w = .ok (.tuple #[.int .i64 d, .bool q]) w := by
  have := map_okI h n Tryz.underlying119 (zeroInt w); rw [getD_map, isSome_map, hd, hq] at this
  exact this
theorem DMap.look {w : World} {b : Nat} {D : DM} (h : DMap w b D) (n : Int) {d : Int} (hd : (lookM n D).getD 0 = d) : (Instr.lookup 119 (.map (some b)) (.int .i64 n) false).run Tryz.prog w = .ok (.int .i64 d) w := by
  have := map_lookI h n Tryz.underlying119 (zeroInt w); rw [getD_map, hd] at this
  exact this
theorem GAt.lrow {w : World} {B g : Nat} {l : List Ac} (h : GAt w B g l) {k : Nat} (hk : k < l.length) : ∃ bl c A c2, bl < w.heap.size ∧ w.cell? ⟨g, 1, none⟩ = some (.slice (some ⟨bl, 0, none⟩) l.length c) ∧ w.cell? ⟨bl, k, none⟩ = some (.slice A ((lnkD l)[k]'(by rw [lnkD_len]; exact hk)).length c2) ∧ RdLk w (.slice A ((lnkD l)[k]'(by rw [lnkD_len]; exact hk)).length c2) ((lnkD l)[k]'(by rw [lnkD_len]; exact hk)) := by
  obtain ⟨vk, vl, vu, bw, vL, vU, h⟩ := h
  have hkl : k < vL.length := by rw [h.lu.lenL, lnkD_len]; exact hk
  obtain ⟨hlen, ⟨_, h0⟩ | ⟨bl, c, cur, rfl, hg, hh, h1, h2, h3, h4⟩⟩ := id h.lu.ln
  · rw [lnkD_len] at h0; omega
  have hx := own_cell1 h.lu.ln (List.getElem?_eq_getElem hkl); have he := h.lu.el k _ _ (List.getElem?_eq_getElem hkl) (List.getElem?_eq_getElem (by rw [lnkD_len]; exact hk)); obtain ⟨A, c2, hv, _⟩ := own_len he; rw [hv] at hx he
  refine ⟨bl, c, A, c2, (Array.getElem?_eq_some_iff.1 hh).1, ?_, hx, Rd.of_own he⟩
  rw [h.blk.cell 1]
  simp [lnkD_len]
theorem GAt.urow {w : World} {B g : Nat} {l : List Ac} (h : GAt w B g l) {k : Nat} (hk : k < l.length) : ∃ bl c A c2, bl < w.heap.size ∧ w.cell? ⟨g, 2, none⟩ = some (.slice (some ⟨bl, 0, none⟩) l.length c) ∧ w.cell? ⟨bl, k, none⟩ = some (.slice A ((UT l.length (lnkD l).flatten)[k]'(by rw [UT_len]; exact hk)).length c2) ∧ RdLk w (.slice A ((UT l.length (lnkD l).flatten)[k]'(by rw [UT_len]; exact hk)).length c2) ((UT l.length (lnkD l).flatten)[k]'(by rw [UT_len]; exact hk)) := by
  obtain ⟨vk, vl, vu, bw, vL, vU, h⟩ := h
  have hkl : k < vU.length := by rw [h.lu.lenU, UT_len]; exact hk
  obtain ⟨hlen, ⟨_, h0⟩ | ⟨bl, c, cur, rfl, hg, hh, h1, h2, h3, h4⟩⟩ := id h.lu.us
  · rw [UT_len] at h0; omega
  have hx := own_cell1 h.lu.us (List.getElem?_eq_getElem hkl); have he := h.lu.eu k _ _ (List.getElem?_eq_getElem hkl) (List.getElem?_eq_getElem (by rw [UT_len]; exact hk)); obtain ⟨A, c2, hv, _⟩ := own_len he; rw [hv] at hx he
  refine ⟨bl, c, A, c2, (Array.getElem?_eq_some_iff.1 hh).1, ?_, hx, Rd.of_own he⟩
  rw [h.blk.cell 2]
  simp [UT_len]
theorem lnkF_row_len : ∀ (d r : List Ac), (∀ a ∈ r, a.reads.length ≤ 10) → ∀ x ∈ lnkF d r, x.length ≤ 10
  | d, [], _, x, hx => by cases hx
  | d, a :: r, h, x, hx => by
    simp only [lnkF, List.mem_cons] at hx
    rcases hx with rfl | hx
    · unfold lnkA; rw [List.length_map]; exact h a (by simp)
    · exact lnkF_row_len (d ++ [a]) r (fun b hb => h b (by simp [hb])) x hx
def bestA : Option Lk → Array Value
  | none => #[.int .i64 0, .int .i64 0, .int .i64 0, .string ⟨#[]⟩, .int .i64 0, .int .i64 0, .string ⟨#[]⟩]
  | some x => #[.int .i64 x.frm, .int .i64 x.to_, .int .i64 x.name.kind, .string (bs x.name.owner), .int .i64 x.name.num, .int .i64 x.name.idx, .string (bs x.name.text)]
def linkV : Option Lk → Value
  | none => .agg #[.int .i64 0, .int .i64 0, .int .i64 0, .string ⟨#[]⟩, .int .i64 0, .int .i64 0, .string ⟨#[]⟩]
  | some x => lkV x
def gstRel (D : DM) (k : Nat) (row : List Lk) (R : Option Lk) (w W : World) (bb : Nat) (f i : Value) (wr : World) : Prop := ∃ (m : Nat) (b : Option Lk), m ≤ row.length ∧ i = .int .i64 m ∧ f = .bool b.isSome ∧ stepF D k (row.drop m) b = R ∧ Blk wr bb 77 (bestA b) ∧ Blk wr w.heap.size 77 #[.int .i64 0, .int .i64 0, .int .i64 0, .string ⟨#[]⟩, .int .i64 0, .int .i64 0, .string ⟨#[]⟩] ∧ Below w.heap.size w wr
set_option maxRecDepth 100000 in
set_option maxHeartbeats 4000000 in
theorem gstep_is {w : World} {B g db : Nat} {l : List Ac} {D : DM} {k : Nat} (hg : GAt w B g l) (hd : DMap w db D) (hk : k < l.length) (hl : l.length ≤ 100) (hr : ∀ a ∈ l, a.reads.length ≤ 10) (hD : BOk l.length D) : Calls Tryz.prog 47 #[.pointer (some ⟨g, 0, none⟩), .int .i64 k, .map (some db)] w fun e w' => e = .returned (.tuple #[linkV (stepS (lnkD l) D k), .bool (stepS (lnkD l) D k).isSome]) ∧ Below w.heap.size w w' := by
  have hb0 := ((Below.refl w.heap.size w).alloc (Nat.le_refl _) (.cells #[.int .i64 0, .int .i64 0, .int .i64 0, .string ⟨#[]⟩, .int .i64 0, .int .i64 0, .string ⟨#[]⟩] 77)).alloc (by simp) (.cells #[.int .i64 0, .int .i64 0, .int .i64 0, .string ⟨#[]⟩, .int .i64 0, .int .i64 0, .string ⟨#[]⟩] 77); have hz0 := (Blk.new w 77 #[.int .i64 0, .int .i64 0, .int .i64 0, .string ⟨#[]⟩, .int .i64 0, .int .i64 0, .string ⟨#[]⟩]).alloc (.cells #[.int .i64 0, .int .i64 0, .int .i64 0, .string ⟨#[]⟩, .int .i64 0, .int .i64 0, .string ⟨#[]⟩] 77); have hz1 := Blk.new (w.alloc (.cells #[.int .i64 0, .int .i64 0, .int .i64 0, .string ⟨#[]⟩, .int .i64 0, .int .i64 0, .string ⟨#[]⟩] 77)) 77 #[.int .i64 0, .int .i64 0, .int .i64 0, .string ⟨#[]⟩, .int .i64 0, .int .i64 0, .string ⟨#[]⟩]; rw [World.size_alloc] at hz1; obtain ⟨row, hrow⟩ : ∃ row, (lnkD l)[k]'(by rw [lnkD_len]; exact hk) = row := ⟨_, rfl⟩
  have hrl : row.length ≤ 10 := by rw [← hrow]; exact lnkF_row_len [] l hr _ (List.getElem_mem _)
  have hS : stepS (lnkD l) D k = stepF D k row none := by
    unfold stepS
    rw [Int.toNat_natCast, List.getD_eq_getElem?_getD, List.getElem?_eq_getElem (by rw [lnkD_len]; exact hk), ← hrow]
    rfl
  obtain ⟨R, hR⟩ : ∃ R, stepF D k row none = R := ⟨_, rfl⟩; rw [hS, hR]; obtain ⟨bl, c, A, c2, g0, g1, g2, g3⟩ := hg.lrow hk; rw [hrow] at g2 g3; replace g1 := (hb0.cell (p := ⟨g, 1, none⟩) hg.lt).trans g1; replace g2 := (hb0.cell (p := ⟨bl, k, none⟩) g0).trans g2; have HX := Lib.hid g3; have HD := Lib.hid hd; have HBO := Lib.hid hD; have H0 : Hid (gstRel D k row R w ((w.alloc (.cells #[.int .i64 0, .int .i64 0, .int .i64 0, .string ⟨#[]⟩, .int .i64 0, .int .i64 0, .string ⟨#[]⟩] 77)).alloc (.cells #[.int .i64 0, .int .i64 0, .int .i64 0, .string ⟨#[]⟩, .int .i64 0, .int .i64 0, .string ⟨#[]⟩] 77)) (w.heap.size + 1) (.bool false) (.int .i64 (0 : Nat)) ((w.alloc (.cells #[.int .i64 0, .int .i64 0, .int .i64 0, .string ⟨#[]⟩, .int .i64 0, .int .i64 0, .string ⟨#[]⟩] 77)).alloc (.cells #[.int .i64 0, .int .i64 0, .int .i64 0, .string ⟨#[]⟩, .int .i64 0, .int .i64 0, .string ⟨#[]⟩] 77))) := Lib.hid ⟨0, none, Nat.zero_le _, rfl, rfl, by rw [List.drop_zero]; exact hR, hz1, hz0, hb0⟩
  have j0 : (0 : Int) ≤ (k : Int) := by omega
  have j1 : (k : Int) < (l.length : Int) := by omega
  clear hg hd hD hb0 hz0 hz1 hrow hS hR g3 g0
  go_enter Tryz.func47, Tryz.ntmps47
  go_upto_region 2 with (fail)
  generalize (w.alloc (.cells #[.int .i64 0, .int .i64 0, .int .i64 0, .string ⟨#[]⟩, .int .i64 0, .int .i64 0, .string ⟨#[]⟩] 77)).alloc (.cells #[.int .i64 0, .int .i64 0, .int .i64 0, .string ⟨#[]⟩, .int .i64 0, .int .i64 0, .string ⟨#[]⟩] 77) = W at *; obtain ⟨bb, hbb⟩ : ∃ bb, w.heap.size + 1 = bb := ⟨_, rfl⟩; have HBB := Lib.hid hbb; rw [hbb] at H0 ⊢; clear hbb
  go_wp2_with fail
  clear g1 g2
  go_loopw [9, 23] (fun f i wr => gstRel D k row R w W bb f i wr) (fun _ i _ => row.length - (intOf i).toNat)
  case atStart => exact H0.out
  case round =>
    clear H0; obtain ⟨m, b, hml, rfl, rfl, hst, zb, zr, hbw⟩ := hrel; have HST := Lib.hid hst; have ZB := Lib.hid zb; have ZR := Lib.hid zr; have HBW := Lib.hid hbw; clear hst zb zr hbw
    by_cases hm : m < row.length
    · have j4 : (0 : Int) ≤ (m : Int) := by omega
      have j5 : (m : Int) < (row.length : Int) := by omega
      have j6 : decide ((m : Int) < (row.length : Int)) = true := decide_eq_true j5; obtain ⟨xb, xo, hbe, hxb, y0, y1, y2, y3, y4, y5, y6⟩ := RdLk.piece (RdP.next HX.out HBW.out) hm; subst hbe; obtain ⟨x, hx⟩ : ∃ x, row[m] = x := ⟨_, rfl⟩; rw [hx] at y0 y1 y2 y3 y4 y5 y6; have HDR := Lib.hid (show row.drop m = x :: row.drop (m + 1) by rw [← hx]; exact List.drop_eq_getElem_cons hm); clear hx
      go_upto_region 5 with (fail)
      have hba := (Below.refl wr.heap.size wr).alloc (Nat.le_refl _) (.cells #[.int .i64 x.frm, .int .i64 x.to_, .int .i64 x.name.kind, .string (bs x.name.owner), .int .i64 x.name.num, .int .i64 x.name.idx, .string (bs x.name.text)] 77); have HBA := Lib.hid (HBW.out.trans (hba.mono HBW.out.size)); have ZX := Lib.hid (Blk.new wr 77 #[.int .i64 x.frm, .int .i64 x.to_, .int .i64 x.name.kind, .string (bs x.name.owner), .int .i64 x.name.num, .int .i64 x.name.idx, .string (bs x.name.text)]); have ZB2 := Lib.hid (ZB.out.next hba ZB.out.lt); have ZR2 := Lib.hid (ZR.out.next hba ZR.out.lt); have hlt : w.heap.size < wr.heap.size := ZR.out.lt; clear y0 y1 y2 y3 y4 y5 y6 hba hxb; generalize wr.alloc (.cells #[.int .i64 x.frm, .int .i64 x.to_, .int .i64 x.name.kind, .string (bs x.name.owner), .int .i64 x.name.num, .int .i64 x.name.idx, .string (bs x.name.text)] 77) = W1 at *; obtain ⟨cb, hcb⟩ : ∃ cb, wr.heap.size = cb := ⟨_, rfl⟩; rw [hcb] at ZX hlt ⊢; clear hcb; have x0 := ZX.out.cell 0; have f0 := ZB2.out.frozen 0; have x1 := ZX.out.cell 1; have f1 := ZB2.out.frozen 1; have x2 := ZX.out.cell 2; have f2 := ZB2.out.frozen 2; have x3 := ZX.out.cell 3; have f3 := ZB2.out.frozen 3; have x4 := ZX.out.cell 4; have f4 := ZB2.out.frozen 4; have x5 := ZX.out.cell 5; have f5 := ZB2.out.frozen 5; have x6 := ZX.out.cell 6; have f6 := ZB2.out.frozen 6; simp only [qB, qC, qD] at x0 x1 x2 x3 x4 x5 x6
      have hle : w.heap.size ≤ bb := by have := HBB.out; omega
      have HRB := Lib.hid (show w.heap.size ≠ bb by have := HBB.out; omega); have HD1 := Lib.hid (HD.out.next HBA.out); obtain ⟨d1, hd1⟩ : ∃ z, (lookM x.frm D).getD 0 = z := ⟨_, rfl⟩; obtain ⟨q1, hq1⟩ : ∃ z, (lookM x.frm D).isSome = z := ⟨_, rfl⟩; obtain ⟨dk, hdk⟩ : ∃ z, (lookM (k : Int) D).getD 0 = z := ⟨_, rfl⟩; have hok := HD1.out.ok x.frm hd1 hq1; have hlk := HD1.out.look (k : Int) hdk; have hdb := HBO.out.dist (k : Int); have hDl := HBO.out.le; rw [hdk] at hdb; have e3 : IntKind.i64.wrap (dk - 1) = dk - 1 := IntWalk.i64_in _ (by omega); obtain ⟨q2, hq2⟩ : ∃ z, (d1 == dk - 1) = z := ⟨_, rfl⟩; have HE := Lib.hid (show better D k x b = (q1 && q2 && lessB x b) by unfold better; rw [hq1, hd1, hdk, hq2]); clear hdb hDl hd1 hq1 hdk
      cases q1 with
      | false =>
        have HN := Lib.hid (show stepF D k (row.drop (m + 1)) _ = R by
          have := HST.out; rw [HDR.out] at this
          simp only [stepF] at this
          rw [HE.out, if_neg (by simp [lessB, *])] at this
          exact this)
        go_wp2_with fail
        go_roundw
        case rel => exact ⟨m + 1, _, by omega, by go_num, rfl, HN.out, ZB2.out, ZR2.out, HBA.out⟩
        case measure => simp [intOf]; omega
      | true =>
        cases q2 with
        | false =>
          have HN := Lib.hid (show stepF D k (row.drop (m + 1)) _ = R by
            have := HST.out; rw [HDR.out] at this
            simp only [stepF] at this
            rw [HE.out, if_neg (by simp [lessB, *])] at this
            exact this)
          go_wp2_with fail
          go_roundw
          case rel => exact ⟨m + 1, _, by omega, by go_num, rfl, HN.out, ZB2.out, ZR2.out, HBA.out⟩
          case measure => simp [intOf]; omega
        | true =>
          cases b with
          | none =>
            have ZB3 : Blk W1 bb 77 #[.int .i64 0, .int .i64 0, .int .i64 0, .string ⟨#[]⟩, .int .i64 0, .int .i64 0, .string ⟨#[]⟩] := ZB2.out; have c0 := ZB3.cell 0; have c1 := ZB3.cell 1; have c2 := ZB3.cell 2; have c3 := ZB3.cell 3; have c4 := ZB3.cell 4; have c5 := ZB3.cell 5; have c6 := ZB3.cell 6; simp only [qB, qC, qD] at c0 c1 c2 c3 c4 c5 c6
            have HN := Lib.hid (show stepF D k (row.drop (m + 1)) (some x) = R by
              have := HST.out; rw [HDR.out] at this
              simp only [stepF] at this
              rw [HE.out, if_pos (by simp [lessB, *])] at this
              exact this)
            go_wp2_with fail
            have P0 := (ZB3).set_ 0 (.int .i64 x.frm); have P1 := (P0).set_ 1 (.int .i64 x.to_); have P2 := (P1).set_ 2 (.int .i64 x.name.kind); have P3 := (P2).set_ 3 (.string (bs x.name.owner)); have P4 := (P3).set_ 4 (.int .i64 x.name.num); have P5 := (P4).set_ 5 (.int .i64 x.name.idx); have P6 := (P5).set_ 6 (.string (bs x.name.text)); have q0 := P6.cell 0; have q1 := P6.cell 1; have q2 := P6.cell 2; have q3 := P6.cell 3; have q4 := P6.cell 4; have q5 := P6.cell 5; have q6 := P6.cell 6
            simp only [pB, pC, pD, qB, qC, qD] at q0 q1 q2 q3 q4 q5 q6
            have HBE := Lib.hid (((((((HBA.out.setCell (p := ⟨bb, 0, none⟩) hle (.int .i64 x.frm)).setCell (p := ⟨bb, 1, none⟩) hle (.int .i64 x.to_)).setCell (p := ⟨bb, 2, none⟩) hle (.int .i64 x.name.kind)).setCell (p := ⟨bb, 3, none⟩) hle (.string (bs x.name.owner))).setCell (p := ⟨bb, 4, none⟩) hle (.int .i64 x.name.num)).setCell (p := ⟨bb, 5, none⟩) hle (.int .i64 x.name.idx)).setCell (p := ⟨bb, 6, none⟩) hle (.string (bs x.name.text)))
            go_roundw
            case rel => exact ⟨m + 1, some x, by omega, by go_num, rfl, HN.out, by have h6 := P6; simp only [pB, pC, pD] at h6; exact h6, (((((((ZR2.out.far (p := ⟨bb, 0, none⟩) HRB.out _).far (p := ⟨bb, 1, none⟩) HRB.out _).far (p := ⟨bb, 2, none⟩) HRB.out _).far (p := ⟨bb, 3, none⟩) HRB.out _).far (p := ⟨bb, 4, none⟩) HRB.out _).far (p := ⟨bb, 5, none⟩) HRB.out _).far (p := ⟨bb, 6, none⟩) HRB.out _), HBE.out⟩
            case measure => simp [intOf]; omega
          | some y =>
            have ZB3 : Blk W1 bb 77 #[.int .i64 y.frm, .int .i64 y.to_, .int .i64 y.name.kind, .string (bs y.name.owner), .int .i64 y.name.num, .int .i64 y.name.idx, .string (bs y.name.text)] := ZB2.out; have c0 := ZB3.cell 0; have c1 := ZB3.cell 1; have c2 := ZB3.cell 2; have c3 := ZB3.cell 3; have c4 := ZB3.cell 4; have c5 := ZB3.cell 5; have c6 := ZB3.cell 6; simp only [qB, qC, qD] at c0 c1 c2 c3 c4 c5 c6
            by_cases hlt3 : x.frm < y.frm
            · have d3 : decide (x.frm < y.frm) = true := decide_eq_true hlt3
              have HN := Lib.hid (show stepF D k (row.drop (m + 1)) (some x) = R by
                have := HST.out; rw [HDR.out] at this
                simp only [stepF] at this
                rw [HE.out, if_pos (by simp [lessB, *])] at this
                exact this)
              go_wp2_with fail
              have P0 := (ZB3).set_ 0 (.int .i64 x.frm); have P1 := (P0).set_ 1 (.int .i64 x.to_); have P2 := (P1).set_ 2 (.int .i64 x.name.kind); have P3 := (P2).set_ 3 (.string (bs x.name.owner)); have P4 := (P3).set_ 4 (.int .i64 x.name.num); have P5 := (P4).set_ 5 (.int .i64 x.name.idx); have P6 := (P5).set_ 6 (.string (bs x.name.text)); have q0 := P6.cell 0; have q1 := P6.cell 1; have q2 := P6.cell 2; have q3 := P6.cell 3; have q4 := P6.cell 4; have q5 := P6.cell 5; have q6 := P6.cell 6
              simp only [pB, pC, pD, qB, qC, qD] at q0 q1 q2 q3 q4 q5 q6
              have HBE := Lib.hid (((((((HBA.out.setCell (p := ⟨bb, 0, none⟩) hle (.int .i64 x.frm)).setCell (p := ⟨bb, 1, none⟩) hle (.int .i64 x.to_)).setCell (p := ⟨bb, 2, none⟩) hle (.int .i64 x.name.kind)).setCell (p := ⟨bb, 3, none⟩) hle (.string (bs x.name.owner))).setCell (p := ⟨bb, 4, none⟩) hle (.int .i64 x.name.num)).setCell (p := ⟨bb, 5, none⟩) hle (.int .i64 x.name.idx)).setCell (p := ⟨bb, 6, none⟩) hle (.string (bs x.name.text)))
              go_roundw
              case rel => exact ⟨m + 1, some x, by omega, by go_num, rfl, HN.out, by have h6 := P6; simp only [pB, pC, pD] at h6; exact h6, (((((((ZR2.out.far (p := ⟨bb, 0, none⟩) HRB.out _).far (p := ⟨bb, 1, none⟩) HRB.out _).far (p := ⟨bb, 2, none⟩) HRB.out _).far (p := ⟨bb, 3, none⟩) HRB.out _).far (p := ⟨bb, 4, none⟩) HRB.out _).far (p := ⟨bb, 5, none⟩) HRB.out _).far (p := ⟨bb, 6, none⟩) HRB.out _), HBE.out⟩
              case measure => simp [intOf]; omega
            · have d3 : decide (x.frm < y.frm) = false := decide_eq_false hlt3
              have HN := Lib.hid (show stepF D k (row.drop (m + 1)) _ = R by
                have := HST.out; rw [HDR.out] at this
                simp only [stepF] at this
                rw [HE.out, if_neg (by simp [lessB, *])] at this
                exact this)
              go_wp2_with fail
              go_roundw
              case rel => exact ⟨m + 1, _, by omega, by go_num, rfl, HN.out, ZB2.out, ZR2.out, HBA.out⟩
              case measure => simp [intOf]; omega
    · have j6 : decide ((m : Int) < (row.length : Int)) = false := decide_eq_false (by omega)
      have HE := Lib.hid (show b = R by have := HST.out; rw [List.drop_eq_nil_of_le (by omega)] at this; exact this)
      cases b with
      | none =>
        have x0 := ZB.out.cell 0; have c0 := ZR.out.cell 0; have f0 := ZR.out.frozen 0; have x1 := ZB.out.cell 1; have c1 := ZR.out.cell 1; have f1 := ZR.out.frozen 1; have x2 := ZB.out.cell 2; have c2 := ZR.out.cell 2; have f2 := ZR.out.frozen 2; have x3 := ZB.out.cell 3; have c3 := ZR.out.cell 3; have f3 := ZR.out.frozen 3; have x4 := ZB.out.cell 4; have c4 := ZR.out.cell 4; have f4 := ZR.out.frozen 4; have x5 := ZB.out.cell 5; have c5 := ZR.out.cell 5; have f5 := ZR.out.frozen 5; have x6 := ZB.out.cell 6; have c6 := ZR.out.cell 6; have f6 := ZR.out.frozen 6
        simp only [bestA, qB, qC, qD] at x0 x1 x2 x3 x4 x5 x6 c0 c1 c2 c3 c4 c5 c6
        have hle0 : w.heap.size ≤ w.heap.size := Nat.le_refl _
        go_wp2_with fail
        have P0 := (ZR.out).set_ 0 (.int .i64 0); have P1 := (P0).set_ 1 (.int .i64 0); have P2 := (P1).set_ 2 (.int .i64 0); have P3 := (P2).set_ 3 (.string ⟨#[]⟩); have P4 := (P3).set_ 4 (.int .i64 0); have P5 := (P4).set_ 5 (.int .i64 0); have P6 := (P5).set_ 6 (.string ⟨#[]⟩); have q0 := P6.cell 0; have q1 := P6.cell 1; have q2 := P6.cell 2; have q3 := P6.cell 3; have q4 := P6.cell 4; have q5 := P6.cell 5; have q6 := P6.cell 6
        simp only [pB, pC, pD, qB, qC, qD] at q0 q1 q2 q3 q4 q5 q6
        have HBE := Lib.hid (((((((HBW.out.setCell (p := ⟨w.heap.size, 0, none⟩) hle0 (.int .i64 0)).setCell (p := ⟨w.heap.size, 1, none⟩) hle0 (.int .i64 0)).setCell (p := ⟨w.heap.size, 2, none⟩) hle0 (.int .i64 0)).setCell (p := ⟨w.heap.size, 3, none⟩) hle0 (.string ⟨#[]⟩)).setCell (p := ⟨w.heap.size, 4, none⟩) hle0 (.int .i64 0)).setCell (p := ⟨w.heap.size, 5, none⟩) hle0 (.int .i64 0)).setCell (p := ⟨w.heap.size, 6, none⟩) hle0 (.string ⟨#[]⟩))
        exact bodyPost_ret (v := .tuple #[.agg #[.int .i64 0, .int .i64 0, .int .i64 0, .string ⟨#[]⟩, .int .i64 0, .int .i64 0, .string ⟨#[]⟩], .bool false]) (by simp [results, Tryz.results47, go_sem, q0, q1, q2, q3, q4, q5, q6]) rfl ⟨by rw [← HE.out]; rfl, HBE.out⟩
      | some x =>
        have x0 := ZB.out.cell 0; have c0 := ZR.out.cell 0; have f0 := ZR.out.frozen 0; have x1 := ZB.out.cell 1; have c1 := ZR.out.cell 1; have f1 := ZR.out.frozen 1; have x2 := ZB.out.cell 2; have c2 := ZR.out.cell 2; have f2 := ZR.out.frozen 2; have x3 := ZB.out.cell 3; have c3 := ZR.out.cell 3; have f3 := ZR.out.frozen 3; have x4 := ZB.out.cell 4; have c4 := ZR.out.cell 4; have f4 := ZR.out.frozen 4; have x5 := ZB.out.cell 5; have c5 := ZR.out.cell 5; have f5 := ZR.out.frozen 5; have x6 := ZB.out.cell 6; have c6 := ZR.out.cell 6; have f6 := ZR.out.frozen 6
        simp only [bestA, qB, qC, qD] at x0 x1 x2 x3 x4 x5 x6 c0 c1 c2 c3 c4 c5 c6
        have hle0 : w.heap.size ≤ w.heap.size := Nat.le_refl _
        go_wp2_with fail
        have P0 := (ZR.out).set_ 0 (.int .i64 x.frm); have P1 := (P0).set_ 1 (.int .i64 x.to_); have P2 := (P1).set_ 2 (.int .i64 x.name.kind); have P3 := (P2).set_ 3 (.string (bs x.name.owner)); have P4 := (P3).set_ 4 (.int .i64 x.name.num); have P5 := (P4).set_ 5 (.int .i64 x.name.idx); have P6 := (P5).set_ 6 (.string (bs x.name.text)); have q0 := P6.cell 0; have q1 := P6.cell 1; have q2 := P6.cell 2; have q3 := P6.cell 3; have q4 := P6.cell 4; have q5 := P6.cell 5; have q6 := P6.cell 6
        simp only [pB, pC, pD, qB, qC, qD] at q0 q1 q2 q3 q4 q5 q6
        have HBE := Lib.hid (((((((HBW.out.setCell (p := ⟨w.heap.size, 0, none⟩) hle0 (.int .i64 x.frm)).setCell (p := ⟨w.heap.size, 1, none⟩) hle0 (.int .i64 x.to_)).setCell (p := ⟨w.heap.size, 2, none⟩) hle0 (.int .i64 x.name.kind)).setCell (p := ⟨w.heap.size, 3, none⟩) hle0 (.string (bs x.name.owner))).setCell (p := ⟨w.heap.size, 4, none⟩) hle0 (.int .i64 x.name.num)).setCell (p := ⟨w.heap.size, 5, none⟩) hle0 (.int .i64 x.name.idx)).setCell (p := ⟨w.heap.size, 6, none⟩) hle0 (.string (bs x.name.text)))
        exact bodyPost_ret (v := .tuple #[.agg #[.int .i64 x.frm, .int .i64 x.to_, .int .i64 x.name.kind, .string (bs x.name.owner), .int .i64 x.name.num, .int .i64 x.name.idx, .string (bs x.name.text)], .bool true]) (by simp [results, Tryz.results47, go_sem, q0, q1, q2, q3, q4, q5, q6]) rfl ⟨by rw [← HE.out]; rfl, HBE.out⟩
end Go.Proofs.YtmjkcanjfjfkfaaGreat
namespace Go.Proofs.YtmjkcanjfjfkfaaGreat
open Go.RowKit
set_option linter.unusedSimpArgs false
set_option linter.unusedVariables false
attribute [local go_sem ↓] Go.wp_at_zero Go.wp_at_succ
open Go.MapKept Go.ChangeMaps
theorem wpList_push (w : World) {ops : Array Oper} {rest : List Oper} {o : Oper} {a : Go.Act} {Q : Exit → Go.Act → World → Prop} (hg : o.guard = none) (s x : Operand) (hop : o.op = Op.call { callee := Callee.builtin Builtin.append, args := #[s, x], argTypes := #[68, 68] })
    {B : Nat} {v : Value} {q : List Int} (hs : a.eval s = v) (h : QOwn w B v q) (n : Int) (hx : a.eval x = .slice (some ⟨w.heap.size, 0, none⟩) 1 1) (hB : B ≤ w.heap.size) (hl : q.length ≤ 1000000)
    (hK : ∀ v' w', QOwn w' B v' (q ++ [n]) → (∀ b, b < w.heap.size → (∀ cs, w.heap[b]? ≠ some (.cells cs 3 (0, 0))) → w'.heap[b]? = w.heap[b]?) → Below B w w' → w.heap.size ≤ w'.heap.size → wpList Tryz.prog ops Q rest (a.put o.dst v') w') :
    wpList Tryz.prog ops Q (o :: rest) a (w.alloc (.cells #[.int .i64 n] 3)) := by
  refine wpList_plain hg fun K' hK' => ?_
  obtain ⟨v', w', hrun, h1, h2, h3, h4⟩ := h.push n hB hl o.type
  unfold Oper.wp
  simp [execOp, hop, resolve, invoke, builtin, hs, hx, hrun, Result.andThen]
  exact hK' _ _ (hK v' w' h1 h2 h3 h4)
theorem rd_new2 (w : World) (x y : Int) : RdIn (w.alloc (.cells #[.int .i64 x, .int .i64 y] 3)) (.slice (some ⟨w.heap.size, 0, none⟩) 2 2) [x, y] :=
  ⟨_, 2, rfl, Nat.le_refl _, by unfold maxLen; omega, .inr ⟨_, 0, _, _, rfl, heap_alloc_new w _, fun j u hj => by rw [Nat.zero_add, ← Array.getElem?_toList]; exact hj⟩⟩
theorem DMap.noInt {w : World} {b : Nat} {D : DM} (h : DMap w b D) : ∀ cs, w.heap[b]? ≠ some (.cells cs 3 (0, 0)) := by
  obtain ⟨es, c, hb, _⟩ := h
  intro cs e
  rw [hb] at e
  injection e with e
  cases e
theorem DMap.lt {w : World} {b : Nat} {D : DM} (h : DMap w b D) : b < w.heap.size := MapAtI.lt h
theorem DMap.noRow {w : World} {b : Nat} {D : DM} (h : DMap w b D) {base s n : Nat} {e : TypeId} {v : Value} {xs : List Value} (ho : w.ownsRow base e s v n xs) : v.ownBlock ≠ some b := fun hv => by
  obtain ⟨cur, hc⟩ := own_cells_of ho hv; obtain ⟨es, c, hb, _⟩ := h; rw [hb] at hc
  injection hc with hc
  cases hc
def chRel (l : List Ac) (frm : Int) (R : DM) (mb : Nat) (w : World) (gk : Nat) (v : Value) (wr : World) : Prop := ∃ (D : DM) (Q : List Int), DMap wr mb D ∧ QOwn wr w.heap.size v Q ∧ BOk l.length D ∧ (∀ q ∈ Q, 0 ≤ q ∧ q < (l.length : Int)) ∧ l.length - D.length + Q.length = gk ∧ gk ≤ 100 ∧ bfs (UT l.length (lnkD l).flatten) gk D Q = R ∧ (lookM frm D).isSome = true ∧ Below w.heap.size w wr
def ciRel (l : List Ac) (frm : Int) (k : Nat) (row : List Lk) (S : DM × List Int) (G : Nat) (mb : Nat) (w : World) (v i : Value) (wr : World) : Prop := ∃ (m : Nat) (D : DM) (Q : List Int), m ≤ row.length ∧ i = .int .i64 m ∧ DMap wr mb D ∧ QOwn wr w.heap.size v ((k : Int) :: Q) ∧ BOk l.length D ∧ (∀ q ∈ Q, 0 ≤ q ∧ q < (l.length : Int)) ∧ l.length - D.length + Q.length = G ∧ bfsIn k (row.drop m) (D, (k : Int) :: Q) = S ∧ (lookM frm D).isSome = true ∧ Below w.heap.size w wr
def baRel (l : List Ac) (D : DM) (frm : Int) (R : Option (List Lk)) (mb : Nat) (w : World) (gk : Nat) (v i : Value) (wr : World) : Prop := ∃ (n : Int) (ls : List Lk), i = .int .i64 n ∧ wr.ownsRow w.heap.size 77 7 v ls.length (ls.flatMap lkC) ∧ DMap wr mb D ∧ gk = ((lookM n D).getD 0).toNat + 1 ∧ (lookM n D).isSome = true ∧ ls.length + gk ≤ 101 ∧ backS (lnkD l) D frm gk n ls = R ∧ Below w.heap.size w wr
set_option maxRecDepth 100000 in
set_option maxHeartbeats 8000000 in
theorem chain_is {w : World} {B g : Nat} {l : List Ac} (frm to_ : Int) (hg : GAt w B g l) (hl : l.length ≤ 100) (hr : ∀ a ∈ l, a.reads.length ≤ 10) : Calls Tryz.prog 20 #[.pointer (some ⟨g, 0, none⟩), .int .i64 frm, .int .i64 to_] w fun e w' => ∃ v, e = .returned (.tuple #[v, .bool (chainS l frm to_).isSome]) ∧ RdLk w' v ((chainS l frm to_).getD []) ∧ Below w.heap.size w w' := by
  have ha := (Below.refl w.heap.size w).alloc (Nat.le_refl _) (.cells #[.int .i64 frm, .int .i64 to_] 3); have HA := Lib.hid ha; have HG := Lib.hid hg; have HC := Lib.hid (gcheck_is (hg.next ha) (show RdIn _ (.slice (some ⟨w.heap.size, 0, none⟩) 2 2) [frm, to_] from rd_new2 w frm to_) (by omega) (by simp)); have hmm := @run_makeMap Tryz.prog; clear hg ha
  by_cases hin : 0 ≤ frm ∧ frm < (l.length : Int) ∧ 0 ≤ to_ ∧ to_ < (l.length : Int)
  · have HE := Lib.hid (show chk2 l.length [frm, to_] = 0 by unfold chk2; rw [if_pos]; simp [inR]; omega)
    have HI := Lib.hid hin; have HCS := Lib.hid (show chainS l frm to_ = (if (lookM to_ (bfsD l frm)).isSome = true then (backS (lnkD l) (bfsD l frm) frm (((lookM to_ (bfsD l frm)).getD 0).toNat + 1) to_ []).map List.reverse else none) by unfold chainS; rw [if_pos hin]); clear hin
    go_enter Tryz.func20, Tryz.ntmps20
    go_wp2_with fail
    go_at_call 44
    refine HC.out.mono ?_
    rintro e w1 ⟨rfl, hb1⟩; rw [HE.out]; have HB1 := Lib.hid (HA.out.trans (hb1.mono HA.out.size)); clear hb1 HC HA; obtain ⟨w2, hup, hm2, hg2⟩ := map_putI (MapAtI.new w1) frm (.int .i64 0) Tryz.underlying119; have HM2 := Lib.hid (show DMap w2 w1.heap.size [(frm, 0)] from put_map [] frm 0 hm2); have hb2 := ((Below.refl w1.heap.size w1).alloc (Nat.le_refl _) (.map #[] 0)).grown hg2 (by simp) (fun k hk => by injection hk with hk; omega); have HB2 := Lib.hid (HB1.out.trans (hb2.mono HB1.out.size)); clear hm2 hg2 hb2
    go_upto_region 5 with (fail)
    clear hup; obtain ⟨mb, hmb⟩ : ∃ mb, w1.heap.size = mb := ⟨_, rfl⟩; rw [hmb] at HM2 ⊢
    have hmw : w.heap.size ≤ mb := by rw [← hmb]; exact HB1.out.size
    clear hmb; have hba := (Below.refl w2.heap.size w2).alloc (Nat.le_refl _) (.cells #[.int .i64 frm] 3); obtain ⟨R, hR⟩ : ∃ R, bfsD l frm = R := ⟨_, rfl⟩
    have hN1 : 1 ≤ l.length := by have := HI.out; omega
    have H0 : Hid (chRel l frm R mb w l.length (.slice (some ⟨w2.heap.size, 0, none⟩) 1 1) (w2.alloc (.cells #[.int .i64 frm] 3))) := Lib.hid ⟨[(frm, 0)], [frm], HM2.out.next hba, ⟨w2.heap.size, 0, 1, _, rfl, HB2.out.size, Blk.new w2 3 _, Nat.le_refl _, by simp, by unfold maxLen; omega, fun j hj => by
        simp only [List.length_singleton] at hj
        obtain rfl : j = 0 := by omega
        simp⟩, ⟨by simp, fun p hp => by
          simp only [List.mem_singleton] at hp; subst hp; have := HI.out; simp; omega, by simp⟩, fun q hq => by simp only [List.mem_singleton] at hq; subst hq; have := HI.out; omega, by simp; omega, hl, hR, by simp [lookM], HB2.out.trans (hba.mono HB2.out.size)⟩
    have HRR := Lib.hid hR; clear hba hR HB1 HB2 HM2; generalize w2.alloc (.cells #[.int .i64 frm] 3) = W at *
    go_loopg [9] l.length (fun gk v wr => chRel l frm R mb w gk v wr)
    case atStart => exact H0.out
    case round =>
      clear H0; obtain ⟨D, Q, hd, hq, hbo, hqr, hgk, hg100, hbf, hfr, hbw⟩ := hrel; have HD := Lib.hid hd; have HBO := Lib.hid hbo; have HFR := Lib.hid hfr; have HBW := Lib.hid hbw
      cases Q with
      | nil =>
        obtain ⟨A, c, rfl, hc⟩ := hq.form; have HRD := Lib.hid (show D = R by rw [← hbf]; exact (bfs_nil _ _ _).symm); clear hd hq hbo hqr hgk hg100 hbf hfr hbw hc; have HCD := Lib.hid (show chainS l frm to_ = (if (lookM to_ D).isSome = true then (backS (lnkD l) D frm (((lookM to_ D).getD 0).toNat + 1) to_ []).map List.reverse else none) by rw [HCS.out, HRR.out, ← HRD.out]); clear HCS HRR HRD; obtain ⟨dt, hdt⟩ : ∃ z, (lookM to_ D).getD 0 = z := ⟨_, rfl⟩; obtain ⟨qt, hqt⟩ : ∃ z, (lookM to_ D).isSome = z := ⟨_, rfl⟩; have hok := HD.out.ok to_ hdt hqt; have HQT := Lib.hid hqt; have HDT := Lib.hid hdt; have hdb := HBO.out.dist to_; have hDl := HBO.out.le; rw [hdt] at hdb
        cases qt with
        | false =>
          have HCN := Lib.hid (show chainS l frm to_ = none by rw [HCD.out, if_neg (by rw [HQT.out]; simp)]); clear hdt hqt hdb hDl
          go_wp2_with fail
          go_ret2
          exact ⟨_, by rw [HCN.out]; rfl, by rw [HCN.out]; exact RdP.nil, HBW.out⟩
        | true =>
          obtain ⟨R2, hR2⟩ : ∃ R2, backS (lnkD l) D frm (dt.toNat + 1) to_ [] = R2 := ⟨_, rfl⟩; have HCN := Lib.hid (show chainS l frm to_ = R2.map List.reverse by rw [HCD.out, if_pos HQT.out, HDT.out, hR2]); have H0 : Hid (baRel l D frm R2 mb w (dt.toNat + 1) (.slice none 0 0) (.int .i64 to_) wr) := Lib.hid ⟨to_, [], rfl, World.ownsRow_nil _ _ _ _, HD.out, by rw [HDT.out], HQT.out, by simp; omega, hR2, HBW.out⟩; clear hdt hqt hdb hDl hR2 HCD
          go_wp2_with fail
          clear hok
          go_loopg [17, 18] (dt.toNat + 1) (fun gk v iv wr => baRel l D frm R2 mb w gk v iv wr)
          case atStart => exact H0.out
          case round =>
            clear H0 HD HBW; obtain ⟨n, ls, rfl, hown, hd3, hgk, hsome, hlen, hbk, hbw3⟩ := hrel; obtain ⟨A5, c5, rfl, hc5⟩ := own_len hown; have HOW := Lib.hid hown; have HD3 := Lib.hid hd3; have HBW3 := Lib.hid hbw3; have HSM := Lib.hid hsome
            have hgk1 : gk = gk - 1 + 1 := by omega
            have HBK := Lib.hid (show backS (lnkD l) D frm (gk - 1 + 1) n ls = R2 by rw [← hgk1]; exact hbk); have HGK := Lib.hid hgk; clear hown hd3 hgk hsome hbk hbw3 hgk1
            by_cases hnf : n = frm
            · have j7 : (n != frm) = false := by rw [hnf]; simp
              have HRS := Lib.hid (show R2 = some ls by rw [← HBK.out]; simp only [backS]; rw [if_pos hnf]); clear hnf
              go_wp2_with fail
              go_at_call 48; refine (revlk_is HOW.out (by omega) HBW3.out.size).mono ?_; rintro e w5 ⟨rfl, hrd, hb5⟩; have HRD5 := Lib.hid hrd; have HB5 := Lib.hid (HBW3.out.trans hb5); clear hrd hb5
              go_wp2_with fail
              go_ret2
              exact ⟨_, by rw [HCN.out, HRS.out]; rfl, by rw [HCN.out, HRS.out]; exact HRD5.out, HB5.out⟩
            · have j7 : (n != frm) = true := by rw [bne_iff_ne]; exact hnf
              obtain ⟨hn0, hn1⟩ := HBO.out.node HSM.out; obtain ⟨kn, rfl⟩ : ∃ kn : Nat, n = kn := ⟨n.toNat, by omega⟩
              have hkn : kn < l.length := by omega
              obtain ⟨R3, hR3⟩ : ∃ R3, stepS (lnkD l) D kn = R3 := ⟨_, rfl⟩; have HR3 := Lib.hid hR3; have HNF := Lib.hid hnf; have HGS := Lib.hid (gstep_is (HG.out.next HBW3.out) HD3.out hkn hl hr HBO.out); rw [hR3] at HGS; clear hnf hR3 hn0 hn1
              cases R3 with
              | none =>
                have HRS := Lib.hid (show R2 = none by
                  have := HBK.out
                  simp only [backS] at this
                  rw [if_neg HNF.out, HR3.out] at this
                  exact this.symm)
                go_wp2_with fail
                go_at_call 47
                refine HGS.out.mono ?_
                rintro e w5 ⟨rfl, hb5⟩
                simp only [linkV, Option.isSome]
                have HB5 := Lib.hid (HBW3.out.trans (hb5.mono HBW3.out.size)); clear hb5
                go_wp2_with fail
                go_ret2
                exact ⟨_, by rw [HCN.out, HRS.out]; rfl, by rw [HCN.out, HRS.out]; exact RdP.nil, HB5.out.trans ((Below.refl w5.heap.size w5).alloc (Nat.le_refl _) _ |>.mono HB5.out.size)⟩
              | some x =>
                have HBK2 := Lib.hid (show backS (lnkD l) D frm (gk - 1) x.frm (ls ++ [x]) = R2 by
                  have := HBK.out
                  simp only [backS] at this
                  rw [if_neg HNF.out, HR3.out] at this
                  exact this)
                have HSO := Lib.hid (stepS_of HR3.out); clear HBK
                go_wp2_with fail
                go_at_call 47
                refine HGS.out.mono ?_
                rintro e w5 ⟨rfl, hb5⟩
                simp only [linkV, lkV, Option.isSome]
                have hba := (Below.refl w5.heap.size w5).alloc (Nat.le_refl _) (.cells #[.int .i64 x.frm, .int .i64 x.to_, .int .i64 x.name.kind, .string (bs x.name.owner), .int .i64 x.name.num, .int .i64 x.name.idx, .string (bs x.name.text)] 77); have hb6 := hb5.trans (hba.mono hb5.size); have HOW6 := Lib.hid (own_next HOW.out hb6); have HD6 := Lib.hid (HD3.out.next hb6); have HB6 := Lib.hid (HBW3.out.trans (hb6.mono HBW3.out.size)); have ZX := Lib.hid (Blk.new w5 77 #[.int .i64 x.frm, .int .i64 x.to_, .int .i64 x.name.kind, .string (bs x.name.owner), .int .i64 x.name.num, .int .i64 x.name.idx, .string (bs x.name.text)])
                have HNE := Lib.hid (show (Value.slice A5 ls.length c5).ownBlock ≠ some w5.heap.size from fun e => by
                  obtain ⟨cur, hc⟩ := own_cells_of HOW.out e; have h1 := (Array.getElem?_eq_some_iff.1 hc).1; have h2 := hb5.size
                  omega)
                clear hb5 hba hb6
                go_upto_region 25 with (fail)
                generalize w5.alloc (.cells #[.int .i64 x.frm, .int .i64 x.to_, .int .i64 x.name.kind, .string (bs x.name.owner), .int .i64 x.name.num, .int .i64 x.name.idx, .string (bs x.name.text)] 77) = W6 at *; obtain ⟨cb, hcb⟩ : ∃ cb, w5.heap.size = cb := ⟨_, rfl⟩; rw [hcb] at ZX HNE ⊢; clear hcb; have x0 := ZX.out.cell 0; have x1 := ZX.out.cell 1; have x2 := ZX.out.cell 2; have x3 := ZX.out.cell 3; have x4 := ZX.out.cell 4; have x5 := ZX.out.cell 5; have x6 := ZX.out.cell 6; simp only [qB, qC, qD] at x0 x1 x2 x3 x4 x5 x6; have hbk := (Below.refl W6.heap.size W6).alloc (Nat.le_refl _) (.cells #[.int .i64 x.frm, .int .i64 x.to_, .int .i64 x.name.kind, .string (bs x.name.owner), .int .i64 x.name.num, .int .i64 x.name.idx, .string (bs x.name.text)] 77); have HOW7 := Lib.hid (own_next HOW6.out hbk); have HD7 := Lib.hid (HD6.out.next hbk); have ZX7 := Lib.hid (ZX.out.next hbk ZX.out.lt); have HB7 := Lib.hid (HB6.out.trans (hbk.mono HB6.out.size)); obtain ⟨i0, hi, hz0, hz1, hz2⟩ := info_parts infoLk; clear hbk
                go_wp2_with (at_builtin; refine wpList_append_own _ rfl _ _ 71 rfl w.heap.size 77 i0 _ 7 72 Tryz.underlying71 hi hz0 hz1 hz2 rfl (by decide) _ _ _ rfl HOW7.out ⟨W6.heap.size, 0, none⟩ 1 1 [.int .i64 x.frm, .int .i64 x.to_, .int .i64 x.name.kind, .string (bs x.name.owner), .int .i64 x.name.num, .int .i64 x.name.idx, .string (bs x.name.text)] rfl rfl ?c1 ?c2 ?c3 ?c4 ?c5 ?_)
                case c1 => exact fun j u h => newN W6 #[.int .i64 x.frm, .int .i64 x.to_, .int .i64 x.name.kind, .string (bs x.name.owner), .int .i64 x.name.num, .int .i64 x.name.idx, .string (bs x.name.text)] 77 j u h
                case c2 => intro u hu; simp only [List.mem_cons, List.not_mem_nil, or_false] at hu; rcases hu with rfl | rfl | rfl | rfl | rfl | rfl | rfl <;> rfl
                case c3 => unfold maxLen; omega
                case c4 => omega
                case c5 => exact HB7.out.size
                intro v8 w8 hown8 hg8 _
                have HOW8 := Lib.hid (show w8.ownsRow w.heap.size 77 7 v8 (ls ++ [x]).length ((ls ++ [x]).flatMap lkC) by
                  rw [List.length_append, List.flatMap_append]
                  simpa [lkC] using hown8)
                have HD8 := Lib.hid (HD7.out.same (hg8.block mb HD7.out.lt (fun e => HD7.out.noRow HOW7.out e.symm))); have HB8 := Lib.hid (HB7.out.grown hg8 HB7.out.size (fun k hk => own_ge HOW7.out hk)); have ZX8 := Lib.hid (ZX7.out.grown hg8 (fun e => HNE.out e.symm))
                have HF := Lib.hid (show gk - 1 = ((lookM x.frm D).getD 0).toNat + 1 ∧ 0 < gk ∧ (ls ++ [x]).length + (gk - 1) ≤ 101 by
                  have h1 := HGK.out; have h2 := HSO.out.2; have h3 := (HBO.out.dist x.frm).1; have h4 := (HBO.out.dist (kn : Int)).1; rw [List.length_append, List.length_singleton]
                  omega)
                clear hown8 hg8 x0 x1 x2 x3 x4 x5 x6 i0 hi hz0 hz1 hz2; have x0 := ZX8.out.cell 0; simp only [qB, qC, qD] at x0
                go_wp2_with fail
                go_roundg (gk - 1)
                case rel => exact ⟨x.frm, ls ++ [x], rfl, HOW8.out, HD8.out, HF.out.1, HSO.out.1, HF.out.2.2, HBK2.out, HB8.out⟩
                case measure => have := HF.out.2.1; omega
      | cons i Q1 =>
        obtain ⟨g0, o0, c, rfl, hc, x0⟩ := hq.at0; obtain ⟨hi0, hi1⟩ := hqr i (by simp); obtain ⟨k, rfl⟩ : ∃ k : Nat, i = k := ⟨i.toNat, by omega⟩
        have hk : k < l.length := by omega
        have j0 : (0 : Int) ≤ (k : Int) := by omega
        have j1 : (k : Int) < (l.length : Int) := by omega
        obtain ⟨row, hrow⟩ : ∃ row, (UT l.length (lnkD l).flatten)[k]'(by rw [UT_len]; exact hk) = row := ⟨_, rfl⟩; obtain ⟨bl, c3, A3, c4, u0, u1, u2, u3⟩ := HG.out.urow hk; rw [hrow] at u2 u3; replace u1 := (HBW.out.cell (p := ⟨g, 2, none⟩) HG.out.lt).trans u1; replace u2 := (HBW.out.cell (p := ⟨bl, k, none⟩) u0).trans u2
        have hrl : row.length ≤ 1000 := by rw [← hrow]; exact Nat.le_trans (UT_row_len hr _) (by omega)
        have HTO := Lib.hid (show ∀ x ∈ row, 0 ≤ x.to_ ∧ x.to_ < (l.length : Int) by rw [← hrow]; exact UT_row_to _); have HX := Lib.hid u3; obtain ⟨S, hS⟩ : ∃ S, bfsIn k row (D, (k : Int) :: Q1) = S := ⟨_, rfl⟩
        have hgk1 : gk = gk - 1 + 1 := by simp only [List.length_cons] at hgk; omega
        have HBF := Lib.hid (show bfs (UT l.length (lnkD l).flatten) (gk - 1) S.1 S.2.tail = R by
          rw [← hS, ← hrow, ← hbf, hgk1]
          simp only [bfs, Int.toNat_natCast, Nat.add_sub_cancel]
          rw [List.getD_eq_getElem?_getD, List.getElem?_eq_getElem (by rw [UT_len]; exact hk)]
          rfl)
        obtain ⟨G, hG⟩ : ∃ G, l.length - D.length + Q1.length = G := ⟨_, rfl⟩; have HGG := Lib.hid (show G = gk - 1 by simp only [List.length_cons] at hgk; omega); have HQR := Lib.hid (show ∀ q ∈ Q1, 0 ≤ q ∧ q < (l.length : Int) from fun q hq => hqr q (by simp [hq])); have HGP := Lib.hid (show 0 < gk ∧ gk ≤ 100 from ⟨by omega, hg100⟩); obtain ⟨n, hn⟩ : ∃ n, Q1.length + 1 = n := ⟨_, rfl⟩
        have e1 : (0 : Int) < (n : Int) := by omega
        have e2 : decide ((0 : Int) < (n : Int)) = true := decide_eq_true e1; have e2b : decide (0 < n) = true := decide_eq_true (by omega); rw [hn] at hq ⊢; have H1 : Hid (ciRel l frm k row S G mb w (.slice (some ⟨g0, o0, none⟩) n c) (.int .i64 (0 : Nat)) wr) := Lib.hid ⟨0, D, Q1, Nat.zero_le _, rfl, hd, hq, hbo, HQR.out, hG, hS, hfr, hbw⟩; clear hd hq hbo hqr hbf hfr hbw hrow u3 hS hG hgk hgk1 hn hg100
        go_wp2_with fail
        clear x0 u0 u1 u2
        go_loopw [9, 48] (fun v iv wr => ciRel l frm k row S G mb w v iv wr) (fun _ iv _ => row.length - (intOf iv).toNat)
        case atStart => exact H1.out
        case round =>
          clear H1 HBO HD HBW HFR HQR; obtain ⟨m, D2, Q2, hml, rfl, hd2, hq2, hbo2, hqr2, hG2, hbi2, hfr2, hbw2⟩ := hrel; obtain ⟨A2, c2, rfl, hc2⟩ := hq2.form; have HD2 := Lib.hid hd2; have HQ2 := Lib.hid hq2; have HBO2 := Lib.hid hbo2; have HQR2 := Lib.hid hqr2; have HG2 := Lib.hid hG2; have HBI2 := Lib.hid hbi2; have HFR2 := Lib.hid hfr2; have HBW2 := Lib.hid hbw2; clear hd2 hq2 hbo2 hqr2 hG2 hbi2 hfr2 hbw2
          by_cases hm : m < row.length
          ·
            have j4 : (0 : Int) ≤ (m : Int) := by omega
            have j5 : (m : Int) < (row.length : Int) := by omega
            have j6 : decide ((m : Int) < (row.length : Int)) = true := decide_eq_true j5; obtain ⟨xb, xo, hbe, hxb, y0, y1, y2, y3, y4, y5, y6⟩ := RdLk.piece (RdP.next HX.out HBW2.out) hm; subst hbe; obtain ⟨x, hx⟩ : ∃ x, row[m] = x := ⟨_, rfl⟩; rw [hx] at y0 y1 y2 y3 y4 y5 y6; have HDR := Lib.hid (show row.drop m = x :: row.drop (m + 1) by rw [← hx]; exact List.drop_eq_getElem_cons hm); have HT := Lib.hid (show 0 ≤ x.to_ ∧ x.to_ < (l.length : Int) from HTO.out x (by rw [← hx]; exact List.getElem_mem hm)); clear hx
            go_upto_region 11 with (fail)
            have hba := (Below.refl wr.heap.size wr).alloc (Nat.le_refl _) (.cells #[.int .i64 x.frm, .int .i64 x.to_, .int .i64 x.name.kind, .string (bs x.name.owner), .int .i64 x.name.num, .int .i64 x.name.idx, .string (bs x.name.text)] 77); have HBA := Lib.hid (HBW2.out.trans (hba.mono HBW2.out.size)); have ZX := Lib.hid (Blk.new wr 77 #[.int .i64 x.frm, .int .i64 x.to_, .int .i64 x.name.kind, .string (bs x.name.owner), .int .i64 x.name.num, .int .i64 x.name.idx, .string (bs x.name.text)]); have HD3 := Lib.hid (HD2.out.next hba); have HQ3 := Lib.hid (HQ2.out.next hba); clear y0 y1 y2 y3 y4 y5 y6 hba hxb HQ2 HD2 HBW2; generalize wr.alloc (.cells #[.int .i64 x.frm, .int .i64 x.to_, .int .i64 x.name.kind, .string (bs x.name.owner), .int .i64 x.name.num, .int .i64 x.name.idx, .string (bs x.name.text)] 77) = W1 at *; obtain ⟨cb, hcb⟩ : ∃ cb, wr.heap.size = cb := ⟨_, rfl⟩; rw [hcb] at ZX ⊢; clear hcb; have x1 := ZX.out.cell 1; simp only [qB, qC, qD] at x1; obtain ⟨d1, hd1⟩ : ∃ z, (lookM x.to_ D2).getD 0 = z := ⟨_, rfl⟩; obtain ⟨q1, hq1⟩ : ∃ z, (lookM x.to_ D2).isSome = z := ⟨_, rfl⟩; obtain ⟨dk, hdk⟩ : ∃ z, (lookM (k : Int) D2).getD 0 = z := ⟨_, rfl⟩; have hok := HD3.out.ok x.to_ hd1 hq1; have hlk := HD3.out.look (k : Int) hdk; have hdb := HBO2.out.dist (k : Int); have hDl := HBO2.out.le; rw [hdk] at hdb; have e3 : IntKind.i64.wrap (dk + 1) = dk + 1 := IntWalk.i64_in _ (by omega); have HQ1 := Lib.hid hq1
            cases q1 with
            | true =>
              have HN := Lib.hid (show bfsIn k (row.drop (m + 1)) (D2, (k : Int) :: Q2) = S by
                have := HBI2.out; rw [HDR.out] at this
                simp only [bfsIn] at this
                rw [if_pos HQ1.out] at this
                exact this)
              clear hdb hDl hd1 hq1 hdk
              go_wp2_with fail
              go_roundw
              case rel => exact ⟨m + 1, D2, Q2, by omega, by go_num, HD3.out, HQ3.out, HBO2.out, HQR2.out, HG2.out, HN.out, HFR2.out, HBA.out⟩
              case measure => simp [intOf]; omega
            | false =>
              have HN := Lib.hid (show bfsIn k (row.drop (m + 1)) (D2 ++ [(x.to_, dk + 1)], (k : Int) :: (Q2 ++ [x.to_])) = S by
                have := HBI2.out; rw [HDR.out] at this
                simp only [bfsIn] at this
                rw [if_neg (by rw [HQ1.out]; simp), hdk] at this
                exact this)
              have HBO3 := Lib.hid (HBO2.out.add HQ1.out HT.out.1 HT.out.2 (d := dk + 1) (by omega) (by omega)); obtain ⟨w3, hup, hm3, hg3⟩ := map_putI HD3.out x.to_ (.int .i64 (dk + 1)) Tryz.underlying119; have HD4 := Lib.hid (show DMap w3 mb (D2 ++ [(x.to_, dk + 1)]) by rw [← putM_new _ _ _ HQ1.out]; exact put_map D2 x.to_ (dk + 1) hm3)
              have hcm : cb ≠ mb := fun e => by
                have h1 := ZX.out; rw [e] at h1; obtain ⟨es, c, h2, _⟩ := HD3.out
                unfold Blk at h1
                rw [h1] at h2
                injection h2 with h2
                cases h2
              have ZX3 := Lib.hid (ZX.out.grown hg3 (fun e => hcm (by injection e))); have HQ4 := Lib.hid (HQ3.out.grown hg3 (fun r cs e => by injection e with e; subst e; exact HD3.out.noInt cs)); have HB3 := Lib.hid (HBA.out.grown hg3 HBA.out.size (fun r e => by injection e with e; omega)); clear hm3 hg3 hdb hDl hd1 hq1 hdk hcm
              go_upto_region 14 with (fail)
              clear hup hok hlk x1; have x1 := ZX3.out.cell 1; simp only [qB, qC, qD] at x1
              have hql : Q2.length ≤ 100 := by
                have h1 := HG2.out; have h2 := HGG.out; have h3 := HGP.out.2
                omega
              go_wp2_with (at_builtin; refine wpList_push w3 rfl _ _ rfl rfl HQ4.out x.to_ rfl HB3.out.size (by simp only [List.length_cons]; omega) ?_)
              intro v4 w4 hq4 hk4 hb4 hs4
              have HQ5 := Lib.hid hq4; have HD5 := Lib.hid (HD4.out.same (hk4 mb HD4.out.lt HD4.out.noInt)); have HB5 := Lib.hid (HB3.out.trans hb4); clear hq4 hk4 hb4 hs4
              go_wp2_with fail
              go_roundw
              case rel =>
                exact ⟨m + 1, _, Q2 ++ [x.to_], by omega, by go_num, HD5.out, HQ5.out, HBO3.out, fun q hq => by
                  rcases List.mem_append.1 hq with hq | hq
                  · exact HQR2.out q hq
                  · simp only [List.mem_singleton] at hq; subst hq; exact HT.out, by
                    have := HBO3.out.le; have := HG2.out
                    simp only [List.length_append, List.length_singleton] at *
                    omega, HN.out, by rw [lookM_app _ _ _ HFR2.out]; exact HFR2.out, HB5.out⟩
              case measure => simp [intOf]; omega
          ·
            have j6 : decide ((m : Int) < (row.length : Int)) = false := decide_eq_false (by omega)
            have HN := Lib.hid (show (D2, (k : Int) :: Q2) = S by
              have := HBI2.out; rw [List.drop_eq_nil_of_le (by omega)] at this
              exact this)
            obtain ⟨n2, hn2⟩ : ∃ n2, ((k : Int) :: Q2).length = n2 := ⟨_, rfl⟩; rw [hn2] at HQ2 hc2 ⊢; have HN2 := Lib.hid hn2
            have n1 : 1 ≤ n2 := by rw [← hn2]; simp
            have n3 : (1 : Int) ≤ (n2 : Int) := by omega
            have n4 : (1 : Int) ≤ (c2 : Int) := by omega
            have n5 : 1 ≤ c2 := by omega
            have HT2 := Lib.hid HQ2.out.tail
            have HR2 := Lib.hid (show l.length - D2.length + Q2.length = gk - 1 ∧ bfs (UT l.length (lnkD l).flatten) (gk - 1) D2 Q2 = R by
              have h1 := HG2.out; have h2 := HGG.out; have h3 := HBF.out; rw [← HN.out] at h3
              exact ⟨by omega, h3⟩)
            have hgp : 0 < gk := by
              have h1 := HGP.out.1
              omega
            clear hn2
            by_cases hc1 : c2 = 1
            · subst hc1
              have HT3 := Lib.hid (show QOwn wr w.heap.size (.slice A2 0 0) Q2 by have := HT2.out; rw [if_pos rfl, show n2 - 1 = 0 by omega] at this; exact this); clear HT2 HQ2
              go_wp2_with fail
              go_roundg (gk - 1)
              case rel => exact ⟨D2, Q2, HD2.out, HT3.out, HBO2.out, HQR2.out, HR2.out.1, by have := HGP.out.2; omega, HR2.out.2, HFR2.out, HBW2.out⟩
              case measure => omega
            · have HT3 := Lib.hid (show QOwn wr w.heap.size (.slice (A2.map (·.add 1)) (n2 - 1) (c2 - 1)) Q2 by have := HT2.out; rw [if_neg hc1] at this; exact this)
              clear HT2 HQ2
              go_wp2_with fail
              go_roundg (gk - 1)
              case rel => exact ⟨D2, Q2, HD2.out, HT3.out, HBO2.out, HQR2.out, HR2.out.1, by have := HGP.out.2; omega, HR2.out.2, HFR2.out, HBW2.out⟩
              case measure => omega
  · have HE := Lib.hid (show chk2 l.length [frm, to_] = 2 by unfold chk2; rw [if_neg]; simp [inR]; omega)
    have HCS := Lib.hid (show chainS l frm to_ = none by unfold chainS; rw [if_neg hin]); clear hin
    go_enter Tryz.func20, Tryz.ntmps20
    go_wp2_with fail
    go_at_call 44
    refine HC.out.mono ?_
    rintro e w1 ⟨rfl, hb1⟩; rw [HE.out]; have HB1 := Lib.hid (HA.out.trans (hb1.mono HA.out.size)); clear hb1 HC HA
    go_wp2_with fail
    go_ret2
    exact ⟨_, by rw [HCS.out]; rfl, by rw [HCS.out]; exact RdP.nil, HB1.out⟩
end Go.Proofs.YtmjkcanjfjfkfaaGreat
