/- Walks and plain facts of the earlier laws, packed: GP, C47, GO, W80, W82. -/
import Derived.Test.YtmjkcanjfjfkfaaB5
namespace Go.Proofs.Ytmjkcanjfjfkfaa
open Go.RowKit
set_option linter.unusedSimpArgs false
set_option linter.unusedVariables false
attribute [local go_sem ↓] Go.wp_at_zero Go.wp_at_succ
theorem blk_map {w w' : World} {g t b : Nat} {cs : Array Value} {ents : List (Nm × Value)} (h : Blk w g t cs) (hm : MapAt w b ents) (hg : w.grownBy w' (some b)) : Blk w' g t cs := by
  obtain ⟨es, c, hb, _⟩ := hm
  exact h.grown hg (fun e => by
    injection e with e
    subst e
    unfold Blk at h
    rw [hb] at h
    cases h)
theorem own_map {w w' : World} {base e s n b : Nat} {v : Value} {xs : List Value} {ents : List (Nm × Value)} (h : w.ownsRow base e s v n xs) (hm : MapAt w b ents) (hg : w.grownBy w' (some b)) : w'.ownsRow base e s v n xs := by
  obtain ⟨es, c, hb, _⟩ := hm
  exact h.kept hg (.inr (own_not_map h hb))
theorem zeroinC (w : World) : (zeroValue 36).run Try.prog w = .ok (.slice none 0 0) w := by kernel_rfl
end Go.Proofs.Ytmjkcanjfjfkfaa
namespace Go.Proofs.Ytmjkcanjfjfkfaa
open Go.RowKit
set_option linter.unusedSimpArgs false
set_option linter.unusedVariables false
attribute [local go_sem ↓] Go.wp_at_zero Go.wp_at_succ
end Go.Proofs.Ytmjkcanjfjfkfaa
namespace Go.Proofs.Ytmjkcanjfjfkfaa
open Go.RowKit
set_option linter.unusedSimpArgs false
set_option linter.unusedVariables false
attribute [local go_sem ↓] Go.wp_at_zero Go.wp_at_succ
theorem compare_kind (a b : Nm) (w : World) (h : cmpI a.kind b.kind ≠ 0) : Calls Try.prog 36 #[nmV a, nmV b] w fun e w' => e = .returned (.int .i64 (cmpN a b)) ∧ Below w.heap.size w w' := by
  have e : cmpN a b = cmpI a.kind b.kind := by unfold cmpN; rw [if_pos h]
  rw [e]
  clear e
  have hk := cmp_i a.kind b.kind
  generalize cmpI a.kind b.kind = c at *
  have HK := Lib.hid hk
  clear hk
  have e1 : (c != 0) = true := by simpa using h
  obtain ⟨k, o, n, i, t⟩ := a
  obtain ⟨k', o', n', i', t'⟩ := b
  unfold nmV nmA
  simp only at HK ⊢
  clear h
  go_enter Try.func36, Try.ntmps36
  go_wp2_with (go_at_call 57; refine (HK.out _).mono ?_; rintro e w' ⟨rfl, rfl⟩)
  go_ret
  exact ⟨rfl, ((Below.refl _ _).alloc (Nat.le_refl _) _).alloc (by simp) _⟩
set_option maxRecDepth 100000 in
theorem compare_own (a b : Nm) (w : World) (ha : a.owner ∈ lin5) (hb : b.owner ∈ lin5) (h : cmpI a.kind b.kind = 0) (h2 : cmpS a.owner b.owner ≠ 0) : Calls Try.prog 36 #[nmV a, nmV b] w fun e w' => e = .returned (.int .i64 (cmpN a b)) ∧ Below w.heap.size w w' := by
  have e : cmpN a b = cmpS a.owner b.owner := by unfold cmpN; rw [if_neg (by simpa using h), if_pos h2]
  rw [e]
  clear e
  have HK : Hid (∀ w, Calls Try.prog 57 #[.int .i64 a.kind, .int .i64 b.kind] w fun e w' => e = .returned (.int .i64 0) ∧ w = w') := Lib.hid (h ▸ cmp_i a.kind b.kind)
  have HO := Lib.hid (fun W => lin_cmp5 W ha hb)
  generalize cmpS a.owner b.owner = c at *
  have e1 : (c != 0) = true := by simpa using h2
  obtain ⟨k, o, n, i, t⟩ := a
  obtain ⟨k', o', n', i', t'⟩ := b
  unfold nmV nmA
  simp only at HK HO ⊢
  clear h h2 ha hb
  have hW : Below w.heap.size w ((w.alloc (.cells #[.int .i64 k, .string (bs o), .int .i64 n, .int .i64 i, .string (bs t)] 41)).alloc (.cells #[.int .i64 k', .string (bs o'), .int .i64 n', .int .i64 i', .string (bs t')] 41)) := ((Below.refl _ _).alloc (Nat.le_refl _) _).alloc (by simp) _
  have HW := Lib.hid hW
  clear hW
  go_enter Try.func36, Try.ntmps36
  go_wp2_with (first | (go_at_call 57; refine (HK.out _).mono ?_; rintro e w' ⟨rfl, rfl⟩) | (go_at_call 58; refine (HO.out _).mono ?_; rintro e w3 ⟨rfl, hb3⟩; have HB3 := Lib.hid (HW.out.trans (hb3.mono HW.out.size)); clear hb3))
  go_ret
  exact ⟨rfl, HB3.out⟩
set_option maxRecDepth 100000 in
theorem compare_rest (a b : Nm) (w : World) (ha : a.owner ∈ lin5) (hb : b.owner ∈ lin5) (h : cmpI a.kind b.kind = 0) (h2 : cmpS a.owner b.owner = 0) : Calls Try.prog 36 #[nmV a, nmV b] w fun e w' => e = .returned (.int .i64 (cmpN a b)) ∧ Below w.heap.size w w' := by
  have e : cmpN a b = or3 (cmpI a.num b.num) (cmpI a.idx b.idx) (cmpS a.text b.text) := by unfold cmpN; rw [if_neg (by simpa using h), if_neg (by simpa using h2)]
  rw [e]
  clear e
  have HK : Hid (∀ w, Calls Try.prog 57 #[.int .i64 a.kind, .int .i64 b.kind] w fun e w' => e = .returned (.int .i64 0) ∧ w = w') := Lib.hid (h ▸ cmp_i a.kind b.kind)
  have HN := Lib.hid (cmp_i a.num b.num)
  have HI := Lib.hid (cmp_i a.idx b.idx)
  have HT := Lib.hid (cmp_s a.text b.text)
  have HO : Hid (∀ w, Calls Try.prog 58 #[.string (bs a.owner), .string (bs b.owner)] w fun e w' => e = .returned (.int .i64 0) ∧ Below w.heap.size w w') := Lib.hid (fun W => h2 ▸ lin_cmp5 W ha hb)
  obtain ⟨k, o, n, i, t⟩ := a
  obtain ⟨k', o', n', i', t'⟩ := b
  unfold nmV nmA
  simp only at HK HN HI HT HO ⊢
  clear h h2 ha hb
  generalize cmpI n n' = c1 at *
  generalize cmpI i i' = c2 at *
  generalize cmpS t t' = c3 at *
  have hW : Below w.heap.size w ((w.alloc (.cells #[.int .i64 k, .string (bs o), .int .i64 n, .int .i64 i, .string (bs t)] 41)).alloc (.cells #[.int .i64 k', .string (bs o'), .int .i64 n', .int .i64 i', .string (bs t')] 41)) := ((Below.refl _ _).alloc (Nat.le_refl _) _).alloc (by simp) _
  have b0 := (Blk.new w 41 #[.int .i64 k, .string (bs o), .int .i64 n, .int .i64 i, .string (bs t)]).alloc (.cells #[.int .i64 k', .string (bs o'), .int .i64 n', .int .i64 i', .string (bs t')] 41)
  have b1 := Blk.new (w.alloc (.cells #[.int .i64 k, .string (bs o), .int .i64 n, .int .i64 i, .string (bs t)] 41)) 41 #[.int .i64 k', .string (bs o'), .int .i64 n', .int .i64 i', .string (bs t')]
  rw [World.size_alloc] at b1
  have HW := Lib.hid hW
  have B0 := Lib.hid b0
  have B1 := Lib.hid b1
  clear hW b0 b1
  go_enter Try.func36, Try.ntmps36
  go_upto_region 15 with (first | (go_at_call 57; refine (HK.out _).mono ?_; rintro e w' ⟨rfl, rfl⟩) | (go_at_call 58; refine (HO.out _).mono ?_; rintro e w3 ⟨rfl, hb3⟩; have Z0 := Lib.hid (B0.out.next hb3 B0.out.lt); have Z1 := Lib.hid (B1.out.next hb3 B1.out.lt); have HB3 := Lib.hid (HW.out.trans (hb3.mono HW.out.size)); clear hb3))
  have x2 := Z0.out.cell 2
  have x3 := Z0.out.cell 3
  have x4 := Z0.out.cell 4
  have y2 := Z1.out.cell 2
  have y3 := Z1.out.cell 3
  have y4 := Z1.out.cell 4
  simp only [List.getElem?_toArray, List.getElem?_cons_zero, List.getElem?_cons_succ] at x2 x3 x4 y2 y3 y4
  clear B0 B1 HW
  refine wp_region_still_tail 15 (by kernel_rfl) (by kernel_rfl) ?_
  simp only [List.take_succ_cons, List.take_zero, List.drop_succ_cons, List.drop_zero]
  iterate 4 still_step
  still_call (still_of (HN.out _))
  iterate 4 still_step
  still_call (still_of (HI.out _))
  iterate 4 still_step
  still_call (still_of (HT.out _))
  refine wpStill_nil ?_
  clear HK HN HI HT HO x2 x3 x4 y2 y3 y4 Z0 Z1
  show wpList _ _ _ _ _ w3.drew
  have z := Blk.new w3.drew 3 #[.int .i64 c1, .int .i64 c2, .int .i64 c3]
  go_wp2_with fail
  refine (or_3 c1 c2 c3 _ w3.heap.size (z.cell 0) (z.cell 1) (z.cell 2)).mono ?_
  clear z
  rintro e w' ⟨rfl, rfl⟩
  go_wp2
  go_ret
  exact ⟨rfl, (HB3.out.drew.alloc (by simpa using HB3.out.size) _)⟩
theorem compare_is (a b : Nm) (w : World) (ha : a.owner ∈ lin5) (hb : b.owner ∈ lin5) : Calls Try.prog 36 #[nmV a, nmV b] w fun e w' => e = .returned (.int .i64 (cmpN a b)) ∧ Below w.heap.size w w' := by
  by_cases h : cmpI a.kind b.kind = 0
  · by_cases h2 : cmpS a.owner b.owner = 0
    · exact compare_rest a b w ha hb h h2
    · exact compare_own a b w ha hb h h2
  · exact compare_kind a b w h
end Go.Proofs.Ytmjkcanjfjfkfaa
namespace Go.Proofs.Ytmjkcanjfjfkfaa
open Go.RowKit
set_option linter.unusedSimpArgs false
set_option linter.unusedVariables false
theorem own_cells {α : Type} {f : α → List Value} {s : Nat} (hf : ∀ x, (f x).length = s) {w : World} {base g c : Nat} {e : TypeId} {n : Nat} {l : List α} (h : w.ownsRow base e s (.slice (some ⟨g, 0, none⟩) n c) n (l.flatMap f)) {k : Nat} (hk : k < l.length) {x : α} (hx : l[k] = x) : ∀ j y, (f x)[j]? = some y → w.cell? ⟨g, k * s + j, none⟩ = some y := by
  intro j y hy
  have hj : j < s := by
    rcases Nat.lt_or_ge j s with h | h
    · exact h
    · rw [List.getElem?_eq_none (by rw [hf]; exact h)] at hy; cases hy
  have h2 := h.cells (g := g) rfl (k * s + j) y ((fm_get hf l k hk j hj).trans (by rw [hx]; exact hy))
  rw [add_off, Nat.zero_add] at h2
  exact h2
theorem own_frozen {w : World} {base g c e s n : Nat} {xs : List Value} (h : w.ownsRow base e s (.slice (some ⟨g, 0, none⟩) n c) n xs) (i : Nat) : w.frozen? ⟨g, i, none⟩ = false := by
  obtain ⟨_, ⟨h2, _⟩ | ⟨g', cap, cur, hv, _, hh, _⟩⟩ := h
  · cases h2
  · injection hv with hv
    injection hv with hv
    injection hv with hv
    subst hv
    exact Blk.frozen (show Blk w g e cur from hh) i
theorem set5 {α : Type} (A R : List α) (m : Nat) (hA : A.length = m) (b0 b1 b2 b3 b4 u0 u1 u2 u3 u4 : α) : (((((A ++ [b0, b1, b2, b3, b4] ++ R).set m u0).set (m + 1) u1).set (m + 2) u2).set (m + 3) u3).set (m + 4) u4 = A ++ [u0, u1, u2, u3, u4] ++ R := by
  subst hA
  simp [List.set_append]
theorem own_swap {w : World} {base g c n q : Nat} {p0 p2 r : List Nm} {x y : Nm} (h : w.ownsRow base 41 5 (.slice (some ⟨g, 0, none⟩) n c) n ((p0 ++ [y] ++ x :: p2 ++ r).flatMap nmC)) (hq : p0.length = q) :
    ((((((((((w.setCell ⟨g, (q + 1) * 5, none⟩ (.int .i64 y.kind)).setCell ⟨g, (q + 1) * 5 + 1, none⟩ (.string (bs y.owner))).setCell ⟨g, (q + 1) * 5 + 2, none⟩ (.int .i64 y.num)).setCell ⟨g, (q + 1) * 5 + 3, none⟩ (.int .i64 y.idx)).setCell ⟨g, (q + 1) * 5 + 4, none⟩ (.string (bs y.text))).setCell ⟨g, q * 5, none⟩ (.int .i64 x.kind)).setCell ⟨g, q * 5 + 1, none⟩ (.string (bs x.owner))).setCell ⟨g, q * 5 + 2, none⟩ (.int .i64 x.num)).setCell ⟨g, q * 5 + 3, none⟩ (.int .i64 x.idx)).setCell ⟨g, q * 5 + 4, none⟩ (.string (bs x.text))).ownsRow base 41 5 (.slice (some ⟨g, 0, none⟩) n c) n ((p0 ++ x :: (y :: p2) ++ r).flatMap nmC) ∧ w.grownBy ((((((((((w.setCell ⟨g, (q + 1) * 5, none⟩ (.int .i64 y.kind)).setCell ⟨g, (q + 1) * 5 + 1, none⟩ (.string (bs y.owner))).setCell ⟨g, (q + 1) * 5 + 2, none⟩ (.int .i64 y.num)).setCell ⟨g, (q + 1) * 5 + 3, none⟩ (.int .i64 y.idx)).setCell ⟨g, (q + 1) * 5 + 4, none⟩ (.string (bs y.text))).setCell ⟨g, q * 5, none⟩ (.int .i64 x.kind)).setCell ⟨g, q * 5 + 1, none⟩ (.string (bs x.owner))).setCell ⟨g, q * 5 + 2, none⟩ (.int .i64 x.num)).setCell ⟨g, q * 5 + 3, none⟩ (.int .i64 x.idx)).setCell ⟨g, q * 5 + 4, none⟩ (.string (bs x.text))) (some g) := by
  have e1 : (p0 ++ [y] ++ x :: p2 ++ r).flatMap nmC = ((p0 ++ [y]).flatMap nmC) ++ [.int .i64 x.kind, .string (bs x.owner), .int .i64 x.num, .int .i64 x.idx, .string (bs x.text)] ++ ((p2 ++ r).flatMap nmC) := by simp [nmC]
  have e2 : ((p0 ++ [y]).flatMap nmC) ++ [Value.int .i64 y.kind, .string (bs y.owner), .int .i64 y.num, .int .i64 y.idx, .string (bs y.text)] ++ ((p2 ++ r).flatMap nmC) = (p0.flatMap nmC) ++ [.int .i64 y.kind, .string (bs y.owner), .int .i64 y.num, .int .i64 y.idx, .string (bs y.text)] ++ (nmC y ++ (p2 ++ r).flatMap nmC) := by simp [nmC]
  have e3 : (p0 ++ x :: (y :: p2) ++ r).flatMap nmC = (p0.flatMap nmC) ++ [.int .i64 x.kind, .string (bs x.owner), .int .i64 x.num, .int .i64 x.idx, .string (bs x.text)] ++ (nmC y ++ (p2 ++ r).flatMap nmC) := by simp [nmC]
  have l1 : ((p0 ++ [y]).flatMap nmC).length = (q + 1) * 5 := by rw [fm_len nmC_len]; simp [hq]
  have l2 : (p0.flatMap nmC).length = q * 5 := by rw [fm_len nmC_len, hq]
  have a0 := h.stored ((q + 1) * 5) (.int .i64 y.kind)
  have a1 := a0.1.stored ((q + 1) * 5 + 1) (.string (bs y.owner))
  have a2 := a1.1.stored ((q + 1) * 5 + 2) (.int .i64 y.num)
  have a3 := a2.1.stored ((q + 1) * 5 + 3) (.int .i64 y.idx)
  have a4 := a3.1.stored ((q + 1) * 5 + 4) (.string (bs y.text))
  have b0 := a4.1.stored (q * 5) (.int .i64 x.kind)
  have b1 := b0.1.stored (q * 5 + 1) (.string (bs x.owner))
  have b2 := b1.1.stored (q * 5 + 2) (.int .i64 x.num)
  have b3 := b2.1.stored (q * 5 + 3) (.int .i64 x.idx)
  have b4 := b3.1.stored (q * 5 + 4) (.string (bs x.text))
  refine ⟨?_, grown_trans a0.2 (grown_trans a1.2 (grown_trans a2.2 (grown_trans a3.2 (grown_trans a4.2 (grown_trans b0.2 (grown_trans b1.2 (grown_trans b2.2 (grown_trans b3.2 b4.2))))))))⟩
  have := b4.1
  rw [e1, set5 _ _ _ l1, e2, set5 _ _ _ l2, ← e3] at this
  exact this
def InsP (base : Nat) (v : Value) (n : Nat) (l : List Nm) (w : World) (e : Ending) (w' : World) : Prop :=
  e = .returned (.tuple #[]) ∧ ∃ l' : List Nm, l'.Perm l ∧ Weak cmpN l' ∧ w'.ownsRow base 41 5 v n (l'.flatMap nmC) ∧ w.grownBy w' v.ownBlock
def InsRel (base : Nat) (v : Value) (n : Nat) (l : List Nm) (w : World) (i : Value) (wr : World) : Prop :=
  ∃ (k : Nat) (l' : List Nm), i = .int .i64 k ∧ 1 ≤ k ∧ k ≤ n + 1 ∧ l'.Perm l ∧ Weak cmpN (l'.take k) ∧ wr.ownsRow base 41 5 v n (l'.flatMap nmC) ∧ w.grownBy wr v.ownBlock
def InsIn (base : Nat) (v : Value) (n k : Nat) (l : List Nm) (w : World) (j : Value) (wr : World) : Prop :=
  ∃ (q : Nat) (p1 p2 r : List Nm) (x : Nm), j = .int .i64 (q : Int) ∧ p1.length = q ∧ q + p2.length = k ∧ k < n ∧ (p1 ++ x :: p2 ++ r).Perm l ∧ Weak cmpN (p1 ++ p2) ∧ (∀ e ∈ p2, cmpN x e < 0) ∧ wr.ownsRow base 41 5 v n ((p1 ++ x :: p2 ++ r).flatMap nmC) ∧ w.grownBy wr v.ownBlock
set_option maxRecDepth 100000 in
set_option maxHeartbeats 1000000 in
theorem insertion_is {w : World} {base g c n : Nat} {l : List Nm} (h : w.ownsRow base 41 5 (.slice (some ⟨g, 0, none⟩) n c) n (l.flatMap nmC)) (hn : l.length = n) (hl : n ≤ 12) (ho : ∀ a ∈ l, OwnE a) (hb : base ≤ w.heap.size) :
    Calls Try.prog 77 #[.slice (some ⟨g, 0, none⟩) n c, .int .i64 0, .int .i64 n, .func (.func 36) #[] #[]] w (InsP base (.slice (some ⟨g, 0, none⟩) n c) n l w) := by
  have H0 : Hid (InsRel base (.slice (some ⟨g, 0, none⟩) n c) n l w (.int .i64 (1 : Nat)) w) := Lib.hid ⟨1, l, rfl, Nat.le_refl _, by omega, List.Perm.refl _, by
    cases l with
    | nil => simp [Weak]
    | cons a r => simp [Weak], h, World.grownBy.refl _ _⟩
  have HO := Lib.hid ho
  clear h ho
  go_enter Try.func77, Try.ntmps77
  go_wp2
  go_loopw [8] (fun i wr => InsRel base (.slice (some ⟨g, 0, none⟩) n c) n l w i wr) (fun i _ => n + 1 - (intOf i).toNat)
  case atStart => exact H0.out
  case round =>
    clear H0
    obtain ⟨k, l', rfl, hk1, hk, hp, hw, hown, hg⟩ := hrel
    obtain ⟨wo, rfl⟩ : ∃ wo : World, wo = wr := ⟨_, rfl⟩
    have HP := Lib.hid hp
    have HW := Lib.hid hw
    have HR := Lib.hid hown
    have HG := Lib.hid hg
    clear hp hw hown hg
    by_cases hlt : k < n
    · have H1 : Hid (InsIn base (.slice (some ⟨g, 0, none⟩) n c) n k l w (.int .i64 k) wo) := Lib.hid (by
        have hl' : l'.length = n := by rw [HP.out.length_eq, hn]
        have hkl : k < l'.length := by omega
        have e : l' = l'.take k ++ l'[k] :: [] ++ l'.drop (k + 1) := by rw [List.append_assoc, List.cons_append, List.nil_append, ← List.drop_eq_getElem_cons hkl, List.take_append_drop]
        refine ⟨k, l'.take k, [], l'.drop (k + 1), l'[k], rfl, by rw [List.length_take, Nat.min_eq_left (by omega)], rfl, hlt, by rw [← e]; exact HP.out, by rw [List.append_nil]; exact HW.out, by simp, by rw [← e]; exact HR.out, HG.out⟩)
      clear HP HW HR HG
      go_wp2
      go_loopw [9] (fun j wr => InsIn base (.slice (some ⟨g, 0, none⟩) n c) n k l w j wr) (fun j _ => (intOf j).toNat)
      case atStart => exact H1.out
      case round =>
        clear H1
        obtain ⟨q, p1, p2, r, x, rfl, hq, hjk, hkn, hp, hw, hx, hown, hg⟩ := hrel
        have HP := Lib.hid hp
        have HW := Lib.hid hw
        have HX := Lib.hid hx
        have HR := Lib.hid hown
        have HG := Lib.hid hg
        clear hp hw hx hg
        cases q with
        | zero =>
          obtain rfl := List.length_eq_zero_iff.1 hq
          go_wp2_with fail
          go_quiet (fail)
          have HR2 := Lib.hid (own_next HR.out (below_drewN (Below.refl wr.heap.size wr) nq))
          have HG2 := Lib.hid (only_drewN HG.out nq)
          clear HR HG hown
          generalize World.drewN wr nq = w2 at *
          go_wp2
          go_roundw
          case rel =>
            refine ⟨k + 1, [] ++ x :: p2 ++ r, by go_num, by omega, by omega, HP.out, ?_, HR2.out, HG2.out⟩
            have e : ([] ++ x :: p2 ++ r).take (k + 1) = x :: p2 := by
              have hk2 : p2.length = k := by simpa using hjk
              rw [List.nil_append, List.cons_append, List.take_succ_cons, ← hk2, List.take_left]
            rw [e]
            exact List.pairwise_cons.2 ⟨fun e he => Int.le_of_lt (HX.out e he), by have := HW.out; unfold Weak at this; simpa using this⟩
          case measure => simp [intOf]; omega
        | succ q =>
          obtain ⟨p0, y, rfl⟩ : ∃ p0 y, p1 = p0 ++ [y] := ⟨p1.dropLast, p1.getLast (by rintro rfl; simp at hq), (List.dropLast_concat_getLast _).symm⟩
          have hq0 : p0.length = q := by simpa using hq
          have hlen : (p0 ++ [y] ++ x :: p2 ++ r).length = n := by rw [HP.out.length_eq, hn]
          have gy : (p0 ++ [y] ++ x :: p2 ++ r)[q]'(by rw [hlen]; omega) = y := by
            simp only [List.append_assoc]
            rw [List.getElem_append_right (by omega)]
            simp [hq0]
          have gx : (p0 ++ [y] ++ x :: p2 ++ r)[q + 1]'(by rw [hlen]; omega) = x := by
            simp only [List.append_assoc]
            rw [List.getElem_append_right (by omega)]
            simp [hq0]
          have cy := own_cells nmC_len hown (by rw [hlen]; omega) gy
          have cx := own_cells nmC_len hown (by rw [hlen]; omega) gx
          have x0 := cx 0 _ rfl
          have x1 := cx 1 _ rfl
          have x2 := cx 2 _ rfl
          have x3 := cx 3 _ rfl
          have x4 := cx 4 _ rfl
          have y0 := cy 0 _ rfl
          have y1 := cy 1 _ rfl
          have y2 := cy 2 _ rfl
          have y3 := cy 3 _ rfl
          have y4 := cy 4 _ rfl
          have i1 : (0 : Int) ≤ (q : Int) + 1 := by omega
          have i2 : (q : Int) + 1 < (n : Int) := by omega
          have i3 : (0 : Int) ≤ (q : Int) := by omega
          have i4 : (q : Int) < (n : Int) := by omega
          have e0 : decide ((0 : Int) < (q : Int) + 1) = true := by rw [decide_eq_true_eq]; omega
          have ox : OwnE x := HO.out x (HP.out.mem_iff.1 (by simp))
          have oy : OwnE y := HO.out y (HP.out.mem_iff.1 (by simp))
          have HC := Lib.hid (compare_is x y wr.drew ox oy)
          have HQ := Lib.hid hq0
          clear cx cy gx gy hq hq0 hown hlen
          rw [show ((q + 1 : Nat) : Int) = (q : Int) + 1 by omega]
          simp only [Nat.add_zero] at x0 y0
          have ew : IntKind.i64.wrap (q : Int) = (q : Int) := IntWalk.i64_in _ (by omega)
          go_wp2_with fail
          refine wp_region_still_tail 14 (by kernel_rfl) (by kernel_rfl) ?_
          simp only [List.take_succ_cons, List.take_zero, List.drop_succ_cons, List.drop_zero]
          iterate 14 still_step
          refine wpStill_nil ?_
          show wpList _ _ _ _ _ wr.drew
          clear x0 x1 x2 x3 x4 y0 y1 y2 y3 y4 ew
          go_wp2_with fail
          refine HC.out.mono ?_
          rintro e w2 ⟨rfl, hb⟩
          have hb2 := (Below.refl wr.heap.size wr).drew.trans hb
          have HR2 := Lib.hid (own_next HR.out hb2)
          have HG2 := Lib.hid (grown_trans HG.out (only_of_below hb2 _))
          clear hb hb2 HR HG HC
          by_cases hc : cmpN x y < 0
          · have e1 : decide (cmpN x y < 0) = true := by rw [decide_eq_true_eq]; exact hc
            have HC := Lib.hid hc
            have hown := HR2.out
            have hlen : (p0 ++ [y] ++ x :: p2 ++ r).length = n := by rw [HP.out.length_eq, hn]
            have gy : (p0 ++ [y] ++ x :: p2 ++ r)[q]'(by rw [hlen]; omega) = y := by
              simp only [List.append_assoc]
              rw [List.getElem_append_right (by have := HQ.out; omega)]
              simp [HQ.out]
            have gx : (p0 ++ [y] ++ x :: p2 ++ r)[q + 1]'(by rw [hlen]; omega) = x := by
              simp only [List.append_assoc]
              rw [List.getElem_append_right (by have := HQ.out; omega)]
              simp [HQ.out]
            have cy := own_cells nmC_len hown (by rw [hlen]; omega) gy
            have cx := own_cells nmC_len hown (by rw [hlen]; omega) gx
            have x0 := cx 0 _ rfl
            have x1 := cx 1 _ rfl
            have x2 := cx 2 _ rfl
            have x3 := cx 3 _ rfl
            have x4 := cx 4 _ rfl
            have y0 := cy 0 _ rfl
            have y1 := cy 1 _ rfl
            have y2 := cy 2 _ rfl
            have y3 := cy 3 _ rfl
            have y4 := cy 4 _ rfl
            simp only [Nat.add_zero] at x0 y0
            have ew : IntKind.i64.wrap (q : Int) = (q : Int) := IntWalk.i64_in _ (by omega)
            have f0 := own_frozen HR2.out ((q + 1) * 5)
            have f1 := own_frozen HR2.out ((q + 1) * 5 + 1)
            have f2 := own_frozen HR2.out ((q + 1) * 5 + 2)
            have f3 := own_frozen HR2.out ((q + 1) * 5 + 3)
            have f4 := own_frozen HR2.out ((q + 1) * 5 + 4)
            have g0 := own_frozen HR2.out (q * 5)
            have g1 := own_frozen HR2.out (q * 5 + 1)
            have g2 := own_frozen HR2.out (q * 5 + 2)
            have g3 := own_frozen HR2.out (q * 5 + 3)
            have g4 := own_frozen HR2.out (q * 5 + 4)
            have n0 : ∀ i j : Nat, i < 5 → j < 5 → ¬ ((q + 1) * 5 + i = q * 5 + j) := fun i j hi hj => by omega
            generalize cmpN x y = cc at e1
            clear hc cx cy gx gy hlen hown
            go_wp2_with fail
            go_region
            clear x0 x1 x2 x3 x4 y0 y1 y2 y3 y4 f0 f1 f2 f3 f4 g0 g1 g2 g3 g4 n0
            obtain ⟨s1, s2⟩ := own_swap HR2.out HQ.out
            have HR3 := Lib.hid s1
            have HG3 := Lib.hid (grown_trans HG2.out s2)
            clear s1 s2 HR2 HG2
            generalize ((((((((((w2.setCell ⟨g, (q + 1) * 5, none⟩ (.int .i64 y.kind)).setCell ⟨g, (q + 1) * 5 + 1, none⟩ (.string (bs y.owner))).setCell ⟨g, (q + 1) * 5 + 2, none⟩ (.int .i64 y.num)).setCell ⟨g, (q + 1) * 5 + 3, none⟩ (.int .i64 y.idx)).setCell ⟨g, (q + 1) * 5 + 4, none⟩ (.string (bs y.text))).setCell ⟨g, q * 5, none⟩ (.int .i64 x.kind)).setCell ⟨g, q * 5 + 1, none⟩ (.string (bs x.owner))).setCell ⟨g, q * 5 + 2, none⟩ (.int .i64 x.num)).setCell ⟨g, q * 5 + 3, none⟩ (.int .i64 x.idx)).setCell ⟨g, q * 5 + 4, none⟩ (.string (bs x.text))) = w3 at *
            go_wp2
            go_roundw
            case rel =>
              refine ⟨q, p0, y :: p2, r, x, by go_num, HQ.out, by rw [List.length_cons]; omega, hkn, ?_, by have := HW.out; rw [List.append_assoc] at this; exact this, fun e he => ?_, own_next HR3.out (Below.refl w3.heap.size w3).drew, only_drew HG3.out⟩
              · refine List.Perm.trans ?_ HP.out
                simp only [List.append_assoc]
                exact List.Perm.append_left _ (List.Perm.swap ..)
              · rcases List.mem_cons.1 he with rfl | he
                · exact HC.out
                · exact HX.out e he
            case measure => simp [intOf]
          · have e1 : decide (cmpN x y < 0) = false := by rw [decide_eq_false_iff_not]; exact hc
            have HC := Lib.hid hc
            generalize cmpN x y = cc at e1
            clear hc
            go_wp2_with fail
            go_roundw
            case rel =>
              refine ⟨k + 1, p0 ++ [y] ++ x :: p2 ++ r, by go_num, by omega, by omega, HP.out, ?_, HR2.out, HG2.out⟩
              rw [take_mid (p0 ++ [y]) p2 r x k (by rw [List.length_append, HQ.out]; simp; omega)]
              exact weak_exit ordN (fun a ha => HO.out a (HP.out.mem_iff.1 (List.mem_append_left _ ha))) HW.out HX.out (by have := HC.out; omega)
            case measure => simp [intOf]; omega
    · have HN := Lib.hid (show k = n ∨ k = n + 1 by omega)
      go_wp2
      go_end0
      refine ⟨rfl, l', HP.out, ?_, HR.out, HG.out⟩
      have hl' : l'.length = n := by rw [HP.out.length_eq, hn]
      have := HW.out
      rwa [List.take_of_length_le (by omega)] at this
end Go.Proofs.Ytmjkcanjfjfkfaa
namespace Go.Proofs.Ytmjkcanjfjfkfaa
open Go.RowKit
set_option linter.unusedSimpArgs false
set_option linter.unusedVariables false
set_option maxRecDepth 100000 in
set_option maxHeartbeats 1000000 in
theorem len64_is (n : Nat) (w : World) (h : n ≤ 12) : Calls Try.prog 68 #[.int .u64 n] w fun e w' => (∃ k : Int, e = .returned (.int .i64 k)) ∧ w = w' := by
  have hc : n = 0 ∨ n = 1 ∨ n = 2 ∨ n = 3 ∨ n = 4 ∨ n = 5 ∨ n = 6 ∨ n = 7 ∨ n = 8 ∨ n = 9 ∨ n = 10 ∨ n = 11 ∨ n = 12 := by omega
  clear h
  rcases hc with rfl | rfl | rfl | rfl | rfl | rfl | rfl | rfl | rfl | rfl | rfl | rfl | rfl
  all_goals
    go_enter Try.func68, Try.ntmps68
    go_wp2
    go_ret
    exact ⟨⟨_, rfl⟩, rfl⟩
theorem insertion_nil {w : World} {base : Nat} : Calls Try.prog 77 #[.slice none 0 0, .int .i64 0, .int .i64 0, .func (.func 36) #[] #[]] w (InsP base (.slice none 0 0) 0 [] w) := by
  go_enter Try.func77, Try.ntmps77
  go_wp2
  refine wp_loop_rounds 1 ?_
  rw [rounds_succ]
  go_wp2
  go_end0
  exact ⟨rfl, [], List.Perm.refl _, List.Pairwise.nil, World.ownsRow_nil _ _ _ _, World.grownBy.refl _ _⟩
theorem insertion_any {w : World} {base n : Nat} {v : Value} {l : List Nm} (h : w.ownsRow base 41 5 v n (l.flatMap nmC)) (hn : l.length = n) (hl : n ≤ 12) (ho : ∀ a ∈ l, OwnE a) (hb : base ≤ w.heap.size) :
    Calls Try.prog 77 #[v, .int .i64 0, .int .i64 n, .func (.func 36) #[] #[]] w (InsP base v n l w) := by
  rcases h.2 with ⟨rfl, h0⟩ | ⟨g, cap, cur, rfl, _⟩
  · subst h0
    obtain rfl := List.length_eq_zero_iff.1 hn
    exact insertion_nil
  · exact insertion_is h hn hl ho hb
theorem pdq_is {w : World} {base n : Nat} {v : Value} {l : List Nm} {k : Int} (h : w.ownsRow base 41 5 v n (l.flatMap nmC)) (hn : l.length = n) (hl : n ≤ 12) (ho : ∀ a ∈ l, OwnE a) (hb : base ≤ w.heap.size) :
    Calls Try.prog 67 #[v, .int .i64 0, .int .i64 n, .int .i64 k, .func (.func 36) #[] #[]] w (InsP base v n l w) := by
  have H := Lib.hid (insertion_any h hn hl ho hb)
  have e1 : decide (n ≤ 12) = true := by simpa using hl
  clear h ho
  go_enter Try.func67, Try.ntmps67
  go_wp2
  refine wp_loop_rounds 1 ?_
  rw [rounds_succ]
  go_wp2_with fail
  refine H.out.mono ?_
  rintro e w' ⟨rfl, l', h1, h2, h3, h4⟩
  go_wp2
  go_end0
  exact ⟨rfl, l', h1, h2, h3, h4⟩
theorem sortfunc_is {w : World} {base n : Nat} {v : Value} {l : List Nm} (h : w.ownsRow base 41 5 v n (l.flatMap nmC)) (hn : l.length = n) (hl : n ≤ 12) (ho : ∀ a ∈ l, OwnE a) (hb : base ≤ w.heap.size) :
    Calls Try.prog 55 #[v, .func (.func 36) #[] #[]] w (InsP base v n l w) := by
  have H := Lib.hid (fun k => pdq_is (k := k) h hn hl ho hb)
  have HL := Lib.hid (len64_is n w hl)
  obtain ⟨A, c, rfl, _⟩ := own_len h
  clear h ho
  go_enter Try.func55, Try.ntmps55
  go_wp2_with fail
  refine HL.out.mono ?_
  rintro e w' ⟨⟨k, rfl⟩, rfl⟩
  go_wp2_with fail
  refine (H.out k).mono ?_
  rintro e w' ⟨rfl, l', h1, h2, h3, h4⟩
  go_wp2
  go_end0
  exact ⟨rfl, l', h1, h2, h3, h4⟩
end Go.Proofs.Ytmjkcanjfjfkfaa
namespace Go.Proofs.Ytmjkcanjfjfkfaa
open Go.RowKit
set_option linter.unusedSimpArgs false
set_option linter.unusedVariables false
def ComP (v : Value) (w : World) (e : Ending) (w' : World) : Prop := e = .returned v ∧ ∃ k, w' = w.drewN k
set_option maxRecDepth 100000 in
set_option maxHeartbeats 1000000 in
theorem compact_is {w : World} {v : Value} {l : List Nm} (h : RdNm w v l) (hl : l.length ≤ 100000) (hd : l.Nodup) : Calls Try.prog 56 #[v] w (ComP v w) := by
  obtain ⟨A, c, rfl, hc⟩ := h.form
  have H := Lib.hid h
  have HD := Lib.hid hd
  clear h hd
  have hg := guardNm
  by_cases h2 : l.length < 2
  · go_enter Try.func56, Try.ntmps56
    go_wp2
    go_ret
    exact ⟨rfl, 0, rfl⟩
  · go_enter Try.func56, Try.ntmps56
    go_wp2
    go_loopw [3] (fun i wr => ∃ (k m : Nat), i = .int .i64 k ∧ 1 ≤ k ∧ k ≤ l.length ∧ wr = w.drewN m) (fun i _ => l.length - (intOf i).toNat)
    case atStart => exact ⟨1, 0, rfl, Nat.le_refl _, by omega, rfl⟩
    case round =>
      obtain ⟨k, m, rfl, hk1, hk, hw⟩ := hrel
      have HW := Lib.hid hw
      have HR := Lib.hid (show RdNm wr (.slice A l.length c) l by rw [hw]; exact H.out)
      clear hw
      by_cases hlt : k < l.length
      · obtain ⟨q, rfl⟩ : ∃ q, k = q + 1 := ⟨k - 1, by omega⟩
        obtain ⟨b, o, rfl, hbb, x0, x1, x2, x3, x4⟩ := RdNm.piece HR.out hlt
        obtain ⟨b', o', e, _, y0, y1, y2, y3, y4⟩ := RdNm.piece HR.out (k := q) (by omega)
        obtain ⟨rfl, rfl⟩ : b' = b ∧ o' = o := by
          injection e with e; injection e with e1 e2; exact ⟨e1.symm, e2.symm⟩
        clear e
        obtain ⟨x, hx⟩ : ∃ x, l[q + 1] = x := ⟨_, rfl⟩
        obtain ⟨y, hy⟩ : ∃ y, l[q]'(by omega) = y := ⟨_, rfl⟩
        have hne : x ≠ y := by
          rw [← hx, ← hy]
          intro he
          have := (List.pairwise_iff_getElem.1 HD.out) q (q + 1) (by omega) hlt (by omega)
          exact this he.symm
        have he := fun W => eqlNm x y false (by simp [hne]) W
        rw [hx] at x0 x1 x2 x3 x4
        rw [hy] at y0 y1 y2 y3 y4
        unfold nmV nmA at he
        have i1 : (0 : Int) ≤ (q : Int) + 1 := by omega
        have i2 : (q : Int) + 1 < (l.length : Int) := by omega
        have i3 : (0 : Int) ≤ (q : Int) := by omega
        have i4 : (q : Int) < (l.length : Int) := by omega
        have ew : IntKind.i64.wrap (q : Int) = (q : Int) := IntWalk.i64_in _ (by omega)
        rw [show ((q + 1 : Nat) : Int) = (q : Int) + 1 by omega]
        clear hx hy hne
        go_wp2_with fail
        go_quiet (fail)
        clear x0 x1 x2 x3 x4 y0 y1 y2 y3 y4 ew he
        have HW2 := Lib.hid (show World.drewN wr nq = w.drewN (m + nq) by rw [HW.out, World.drewN_drewN])
        generalize World.drewN wr nq = w2 at *
        go_wp2
        go_roundw
        case rel => exact ⟨q + 1 + 1, m + nq, by go_num, by omega, by omega, HW2.out⟩
        case measure => simp [intOf]; omega
      · obtain rfl : k = l.length := by omega
        go_wp2
        go_ret
        exact ⟨rfl, m, HW.out⟩
def SortP (l : List Nm) (w : World) (e : Ending) (w' : World) : Prop := ∃ v, e = .returned v ∧ w'.ownsRow w.heap.size 41 5 v (sortU cmpN l).length ((sortU cmpN l).flatMap nmC) ∧ Below w.heap.size w w'
theorem nm_one (l : List Nm) : ∀ u ∈ l.flatMap nmC, u.oneCell' = true := by
  intro u hu
  obtain ⟨p, _, h⟩ := List.mem_flatMap.1 hu
  simp [nmC] at h
  rcases h with rfl | rfl | rfl | rfl | rfl <;> rfl
end Go.Proofs.Ytmjkcanjfjfkfaa
namespace Go.Proofs.Ytmjkcanjfjfkfaa
open Go.RowKit
set_option linter.unusedSimpArgs false
set_option linter.unusedVariables false
end Go.Proofs.Ytmjkcanjfjfkfaa
namespace Go.Proofs.Ytmjkcanjfjfkfaa
open Go.RowKit
set_option linter.unusedSimpArgs false
set_option linter.unusedVariables false
attribute [local go_sem ↓] Go.wp_at_zero Go.wp_at_succ
def KS (l : List Ac) : Prop := ∀ k (hk : k + 1 < l.length), cmpK (l[k]'(by omega)).key l[k + 1].key < 0
def IncRel (l : List Ac) (w : World) (i : Value) (wr : World) : Prop := ∃ k : Nat, 1 ≤ k ∧ k ≤ l.length + 1 ∧ i = .int .i64 k ∧ Below w.heap.size w wr
set_option maxRecDepth 100000 in
set_option maxHeartbeats 1000000 in
theorem increasing_is {w : World} {v : Value} {l : List Ac} (h : RdAc w v l) (hk : KS l) (hl : ∀ a ∈ l, a.key.lin ∈ lin5) (hlen : l.length ≤ 100) : Calls Try.prog 34 #[v] w fun e w' => e = .returned (.bool true) ∧ Below w.heap.size w w' := by
  obtain ⟨A, c, rfl, hc⟩ := RowRd.form h
  have HH := Lib.hid h
  have HK := Lib.hid hk
  have HL := Lib.hid hl
  have H0 : Hid (IncRel l w (.int .i64 (1 : Nat)) w) := Lib.hid ⟨1, Nat.le_refl _, by omega, rfl, Below.refl _ _⟩
  clear h hk hl
  go_enter Try.func34, Try.ntmps34
  go_wp2_with fail
  go_loopw [3] (fun i wr => IncRel l w i wr) (fun i _ => l.length + 1 - (intOf i).toNat)
  case atStart => exact H0.out
  case round =>
    clear H0
    obtain ⟨k, hk1, hk2, rfl, hbw⟩ := hrel
    have HBW := Lib.hid hbw
    clear hbw
    by_cases hml : k < l.length
    · have j1 : decide ((k : Int) < (l.length : Int)) = true := decide_eq_true (by omega)
      obtain ⟨m, hmk⟩ : ∃ m, k = m + 1 := ⟨k - 1, by omega⟩
      have g1 : (k : Int) - 1 = (m : Int) := by omega
      have hm2 : m < l.length := by omega
      have g4 : (m : Int) < (l.length : Int) := by omega
      have hp0 := HK.out m (by omega)
      have HP := Lib.hid (show cmpK (l[m]'hm2).key l[k].key < 0 by
        have e : l[k] = l[m + 1]'(by omega) := by congr 1
        rw [e]; exact hp0)
      clear hp0 hmk
      have g2 : IntKind.i64.wrap (m : Int) = (m : Int) := IntWalk.i64_in _ (by omega)
      have g3 : (0 : Int) ≤ (m : Int) := by omega
      have g6 : (0 : Int) ≤ (k : Int) := by omega
      have g7 : (k : Int) < (l.length : Int) := by omega
      obtain ⟨b, o, u1, u2, hbe, hbr, n1, n2, x0, x1, x2, x3, x4, x5⟩ := RdAc.piece (RdAc.next HH.out HBW.out) hm2
      subst hbe
      obtain ⟨b', o', v1, v2, hbe, hbr', n3, n4, y0, y1, y2, y3, y4, y5⟩ := RdAc.piece (RdAc.next HH.out HBW.out) hml
      injection hbe with hbe
      injection hbe with e1 e2
      subst e1 e2
      have hl1 := HL.out _ (List.getElem_mem hm2)
      have hl2 := HL.out _ (List.getElem_mem hml)
      obtain ⟨p, hp⟩ : ∃ p, l[m].key = p := ⟨_, rfl⟩
      obtain ⟨q, hq⟩ : ∃ q, l[k].key = q := ⟨_, rfl⟩
      rw [hp] at x0 x1 x2 x3 HP hl1
      rw [hq] at y0 y1 y2 y3 HP hl2
      have HKC := Lib.hid (fun W => key_compare p q W hl1 hl2)
      unfold kyV at HKC
      obtain ⟨z, hz⟩ : ∃ z, cmpK p q = z := ⟨_, rfl⟩
      rw [hz] at HKC HP
      have f1 : decide (0 ≤ z) = false := decide_eq_false (by have := HP.out; omega)
      clear hp hq hl1 hl2 hz n1 n2 n3 n4 x4 x5 y4 y5 hbr'
      go_upto_region 4 with (fail)
      refine wp_region_noPanic ?_
      refine wp_region_held_drew (S := (fun (w' : World) => w'.cell? ⟨b, o + m * 6, none⟩ = some (.int .i64 p.tick) ∧ w'.cell? ⟨b, o + m * 6 + 1, none⟩ = some (.int .i64 p.cls) ∧ w'.cell? ⟨b, o + m * 6 + 2, none⟩ = some (.int .i64 p.num) ∧ w'.cell? ⟨b, o + m * 6 + 3, none⟩ = some (.string (bs p.lin)) ∧ w'.cell? ⟨b, o + k * 6, none⟩ = some (.int .i64 q.tick) ∧ w'.cell? ⟨b, o + k * 6 + 1, none⟩ = some (.int .i64 q.cls) ∧ w'.cell? ⟨b, o + k * 6 + 2, none⟩ = some (.int .i64 q.num) ∧ w'.cell? ⟨b, o + k * 6 + 3, none⟩ = some (.string (bs q.lin)))) (by kernel_rfl) ?_ (fun hHeld => ?_)
      · exact ⟨x0, x1, x2, x3, y0, y1, y2, y3⟩
      refine wpAnyH_take (i := 0) (v := ?_) rfl (by kernel_rfl) (by kernel_rfl) (by kernel_rfl) (fun _ _ _ h => h) (Or.inl ⟨by kernel_rfl, ?_⟩) hHeld ?_
      rotate_left
      · (intro w hSw; (try dsimp only at hSw); go_simp; try with_reducible rfl)
      try simp only [Act.put, List.setIfInBounds_toArray, List.set_cons_zero, List.set_cons_succ]
      refine wpAnyH_take (i := 1) (v := ?_) rfl (by kernel_rfl) (by kernel_rfl) (by kernel_rfl) (fun _ _ _ h => h) (Or.inl ⟨by kernel_rfl, ?_⟩) hHeld ?_
      rotate_left
      · (intro w hSw; (try dsimp only at hSw); go_simp; try with_reducible rfl)
      try simp only [Act.put, List.setIfInBounds_toArray, List.set_cons_zero, List.set_cons_succ]
      refine wpAnyH_take (i := 2) (v := ?_) rfl (by kernel_rfl) (by kernel_rfl) (by kernel_rfl) (fun _ _ _ h => h) (Or.inl ⟨by kernel_rfl, ?_⟩) hHeld ?_
      rotate_left
      · (intro w hSw; (try dsimp only at hSw); go_simp; try with_reducible rfl)
      try simp only [Act.put, List.setIfInBounds_toArray, List.set_cons_zero, List.set_cons_succ]
      refine wpAnyH_take (i := 3) (v := ?_) rfl (by kernel_rfl) (by kernel_rfl) (by kernel_rfl) (fun _ _ _ h => h) (Or.inl ⟨by kernel_rfl, ?_⟩) hHeld ?_
      rotate_left
      · (intro w hSw; (try dsimp only at hSw); go_simp; try with_reducible rfl)
      try simp only [Act.put, List.setIfInBounds_toArray, List.set_cons_zero, List.set_cons_succ]
      refine wpAnyH_take (i := 4) (v := ?_) rfl (by kernel_rfl) (by kernel_rfl) (by kernel_rfl) (fun _ _ _ h => h) (Or.inl ⟨by kernel_rfl, ?_⟩) hHeld ?_
      rotate_left
      · (intro w hSw; (try dsimp only at hSw); go_simp; try with_reducible rfl)
      try simp only [Act.put, List.setIfInBounds_toArray, List.set_cons_zero, List.set_cons_succ]
      refine wpAnyH_take (i := 5) (v := ?_) rfl (by kernel_rfl) (by kernel_rfl) (by kernel_rfl) (fun _ _ _ h => h) (Or.inl ⟨by kernel_rfl, ?_⟩) hHeld ?_
      rotate_left
      · (intro w hSw; (try dsimp only at hSw); go_simp; try with_reducible rfl)
      try simp only [Act.put, List.setIfInBounds_toArray, List.set_cons_zero, List.set_cons_succ]
      refine wpAnyH_take (i := 6) (v := ?_) rfl (by kernel_rfl) (by kernel_rfl) (by kernel_rfl) (fun _ _ _ h => h) (Or.inl ⟨by kernel_rfl, ?_⟩) hHeld ?_
      rotate_left
      · (intro w hSw; (try dsimp only at hSw); go_simp; try with_reducible rfl)
      try simp only [Act.put, List.setIfInBounds_toArray, List.set_cons_zero, List.set_cons_succ]
      refine wpAnyH_take (i := 7) (v := ?_) rfl (by kernel_rfl) (by kernel_rfl) (by kernel_rfl) (fun _ _ _ h => h) (Or.inl ⟨by kernel_rfl, ?_⟩) hHeld ?_
      rotate_left
      · (intro w hSw; (try dsimp only at hSw); go_simp; try with_reducible rfl)
      try simp only [Act.put, List.setIfInBounds_toArray, List.set_cons_zero, List.set_cons_succ]
      refine wpAnyH_take (i := 8) (v := ?_) rfl (by kernel_rfl) (by kernel_rfl) (by kernel_rfl) (fun _ _ _ h => h) (Or.inl ⟨by kernel_rfl, ?_⟩) hHeld ?_
      rotate_left
      · (intro w hSw; (try dsimp only at hSw); go_simp; try with_reducible rfl)
      try simp only [Act.put, List.setIfInBounds_toArray, List.set_cons_zero, List.set_cons_succ]
      refine wpAnyH_take (i := 9) (v := ?_) rfl (by kernel_rfl) (by kernel_rfl) (by kernel_rfl) (fun _ _ _ h => h) (Or.inl ⟨by kernel_rfl, ?_⟩) hHeld ?_
      rotate_left
      · (intro w hSw; (try dsimp only at hSw); go_simp; try with_reducible rfl)
      try simp only [Act.put, List.setIfInBounds_toArray, List.set_cons_zero, List.set_cons_succ]
      refine wpAnyH_take (i := 10) (v := ?_) rfl (by kernel_rfl) (by kernel_rfl) (by kernel_rfl) (fun _ _ _ h => h) (Or.inl ⟨by kernel_rfl, ?_⟩) hHeld ?_
      rotate_left
      · (intro w hSw; (try dsimp only at hSw); go_simp; try with_reducible rfl)
      try simp only [Act.put, List.setIfInBounds_toArray, List.set_cons_zero, List.set_cons_succ]
      refine wpAnyH_ready (rs := [11]) (by kernel_rfl) (by simp) ?_
      refine AllReadyH.cons rfl (fun K hK => ?_) AllReadyH.nil
      go_simp
      refine (HKC.out wr.drew).mono ?_; rintro e w2 ⟨rfl, hb2'⟩; have hb2 := (Below.refl wr.heap.size wr).drew.trans hb2'; have HB2 := Lib.hid hb2; clear hb2'
      try (go_wp2_with fail)
      refine hK.out _ _ ?_ (fun hNew => ?_)
      · exact ⟨(hb2.cell (p := ⟨b, o + m * 6, none⟩) hbr).trans x0, (hb2.cell (p := ⟨b, o + m * 6 + 1, none⟩) hbr).trans x1, (hb2.cell (p := ⟨b, o + m * 6 + 2, none⟩) hbr).trans x2, (hb2.cell (p := ⟨b, o + m * 6 + 3, none⟩) hbr).trans x3, (hb2.cell (p := ⟨b, o + k * 6, none⟩) hbr).trans y0, (hb2.cell (p := ⟨b, o + k * 6 + 1, none⟩) hbr).trans y1, (hb2.cell (p := ⟨b, o + k * 6 + 2, none⟩) hbr).trans y2, (hb2.cell (p := ⟨b, o + k * 6 + 3, none⟩) hbr).trans y3⟩
      clear hK K hHeld
      have hHeld := hNew
      clear hNew
      try simp only [Act.put, List.setIfInBounds_toArray, List.set_cons_zero, List.set_cons_succ]
      refine wpAnyH_take (i := 12) (v := ?_) rfl (by kernel_rfl) (by kernel_rfl) (by kernel_rfl) (fun _ _ _ h => h) (Or.inl ⟨by kernel_rfl, ?_⟩) hHeld ?_
      rotate_left
      · (intro w hSw; (try dsimp only at hSw); go_simp; try with_reducible rfl)
      try simp only [Act.put, List.setIfInBounds_toArray, List.set_cons_zero, List.set_cons_succ]
      refine wpAnyH_done (by kernel_rfl) ?_ _
      clear hHeld
      try simp only [List.getElem_toArray, List.getElem_cons_zero, List.getElem_cons_succ, Act.put, List.setIfInBounds_toArray, List.set_cons_zero, List.set_cons_succ]
      refine NoPanic.normal ?_
      go_wp2_with fail
      go_roundw
      case rel => exact ⟨k + 1, by omega, by omega, by go_num, HBW.out.trans (HB2.out.mono HBW.out.size)⟩
      case measure => simp [intOf]; omega
    · have j1 : decide ((k : Int) < (l.length : Int)) = false := decide_eq_false (by omega)
      have j1n : decide (k < l.length) = false := decide_eq_false hml
      go_wp2_with fail
      go_ret
      exact ⟨rfl, HBW.out⟩
set_option maxRecDepth 100000 in
theorem sorted_is {w : World} {v : Value} {l : List Nm} (h : RdNm w v l) (hl : l.length ≤ 12) (hd : l.Nodup) (ho : ∀ a ∈ l, OwnE a) : Calls Try.prog 35 #[v, .func (.func 36) #[] #[]] w (SortP l w) := by
  have HC := Lib.hid (cloneNm h (fm_len nmC_len l) (nm_one l) (by omega))
  have HD := Lib.hid hd
  have HO := Lib.hid ho
  clear h hd ho
  go_enter Try.func35, Try.ntmps35
  go_wp2_with fail
  refine HC.out.mono ?_
  rintro e w2 ⟨v2, rfl, hown, hb⟩
  have HB := Lib.hid hb
  have hbs := hb.size
  clear hb
  go_wp2_with fail
  refine (sortfunc_is hown rfl hl HO.out hbs).mono ?_
  rintro e w3 ⟨rfl, l', hp, hw, hown3, hg⟩
  have HN := Lib.hid (hp.nodup_iff.2 HD.out)
  have hl' : l'.length = l.length := hp.length_eq
  have HS := Lib.hid (show l' = sortU cmpN l by
    have hS : ∀ a ∈ l', OwnE a := fun a ha => HO.out a (hp.mem_iff.1 ha)
    rw [← sortU_perm ordN HO.out hp]
    exact (sortU_strict ordN hS (strict_of_weak ordN hS hw HN.out)).symm)
  have HB3 := Lib.hid (below_own HB.out hown hg (Nat.le_refl _) hbs)
  rw [← hl'] at hown3
  have HR := Lib.hid hown3
  clear hown hown3 hg hp hw
  go_wp2_with fail
  refine (compact_is (l := l') (Rd.of_own HR.out) (by omega) HN.out).mono ?_
  rintro e w4 ⟨rfl, m, rfl⟩
  go_wp2
  go_ret
  rw [HS.out] at HR
  exact ⟨v2, rfl, own_next HR.out (below_drewN (Below.refl _ _) m), below_drewN HB3.out m⟩
def cntL (l : List Int) (t : Int) : Nat := (l.takeWhile fun x => decide (x < t)).length
def Asc (l : List Int) : Prop := ∀ i j (hi : i < l.length) (hj : j < l.length), i ≤ j → l[i] ≤ l[j]
theorem cntL_le (l : List Int) (t : Int) : cntL l t ≤ l.length := by unfold cntL; exact (List.takeWhile_sublist _).length_le
theorem cntL_eq : ∀ {l : List Int} {t : Int} {p : Nat}, p ≤ l.length → (∀ i (h : i < l.length), i < p → l[i] < t) → (∀ i (h : i < l.length), p ≤ i → t ≤ l[i]) → cntL l t = p
  | [], t, p, hp, _, _ => by simp at hp; subst hp; rfl
  | x :: l, t, 0, _, _, h2 => by
    have := h2 0 (by simp) (Nat.le_refl _)
    unfold cntL
    rw [List.takeWhile_cons, if_neg (by simp at this ⊢; omega)]; rfl
  | x :: l, t, p + 1, hp, h1, h2 => by
    have h0 := h1 0 (by simp) (by omega)
    unfold cntL
    rw [List.takeWhile_cons, if_pos (by simpa using h0), List.length_cons]
    have := cntL_eq (l := l) (t := t) (p := p) (by simpa using hp) (fun i h hi => by have := h1 (i + 1) (by simpa using h) (by omega); simpa using this) (fun i h hi => by have := h2 (i + 1) (by simpa using h) (by omega); simpa using this)
    unfold cntL at this
    rw [this]
set_option maxRecDepth 100000 in
theorem srch1_is {w : World} {A : Option Addr} {c : Nat} {l : List Int} {t : Int} {B2 B3 k : Nat} (z2 : w.cell? ⟨B2, 0, none⟩ = some (.slice A l.length c)) (z3 : w.cell? ⟨B3, 0, none⟩ = some (.int .i64 t)) (h : RdIn w (.slice A l.length c) l) (hk : k < l.length) (hl : l.length ≤ 100000) :
    Calls Try.prog 62 #[.int .i64 k, .pointer (some ⟨B2, 0, none⟩), .pointer (some ⟨B3, 0, none⟩)] w fun e w' => e = .returned (.bool (decide (t ≤ l[k]))) ∧ Below w.heap.size w w' := by
  obtain ⟨b, o, hb, hbl, hc⟩ := RdP.at_ h inC_len hk
  subst hb
  have y := hc 0 _ rfl
  rw [Nat.mul_one, Nat.add_zero] at y
  have j1 : (0 : Int) ≤ (k : Int) := by omega
  have j2 : (k : Int) < (l.length : Int) := by omega
  obtain ⟨x, hx⟩ : ∃ x, l[k] = x := ⟨_, rfl⟩
  rw [hx] at y ⊢
  clear hc hx h
  go_enter Try.func62, Try.ntmps62
  go_upto_region 1 with (fail)
  go_quiet (fail)
  go_wp2_with fail
  go_ret
  exact ⟨rfl, below_drewN (Below.refl _ _) _⟩
def SrRel (l : List Int) (t : Int) (w : World) (i j : Value) (wr : World) : Prop := ∃ p q : Nat, i = .int .i64 p ∧ j = .int .i64 q ∧ p ≤ q ∧ q ≤ l.length ∧ (∀ i (h : i < l.length), i < p → l[i] < t) ∧ (∀ i (h : i < l.length), q ≤ i → t ≤ l[i]) ∧ Below w.heap.size w wr
set_option maxRecDepth 100000 in
set_option maxHeartbeats 1000000 in
theorem search_ints {w : World} {v : Value} {l : List Int} (t : Int) (h : RdIn w v l) (hs : Asc l) (hl : l.length ≤ 100000) : Calls Try.prog 42 #[v, .int .i64 t] w fun e w' => e = .returned (.int .i64 (cntL l t : Nat)) ∧ Below w.heap.size w w' := by
  obtain ⟨A, c, rfl, hc⟩ := RdP.form h
  have z2 := Blk.new w 36 #[.slice A l.length c]
  have ha2 := (Below.refl w.heap.size w).alloc (Nat.le_refl _) (.cells #[.slice A l.length c] 36)
  have z2b := z2.next ((Below.refl (w.alloc (.cells #[.slice A l.length c] 36)).heap.size _).alloc (Nat.le_refl _) (.cells #[.int .i64 t] 3)) z2.lt
  have z3 := Blk.new (w.alloc (.cells #[.slice A l.length c] 36)) 3 #[.int .i64 t]
  rw [World.size_alloc] at z3
  have ha := ha2.alloc (by simp) (.cells #[.int .i64 t] 3)
  have c2 := z2b.cell 0
  have c3 := z3.cell 0
  have l2 := z2b.lt
  have l3 := z3.lt
  simp only [List.getElem?_toArray, List.getElem?_cons_zero] at c2 c3
  have HA := Lib.hid ha
  have HH := Lib.hid (RdP.next h ha)
  have HS := Lib.hid hs
  clear h hs ha2 z2 z2b z3 ha
  go_enter Try.func42, Try.ntmps42
  go_upto_region 1 with (fail)
  generalize (w.alloc (.cells #[.slice A l.length c] 36)).alloc (.cells #[.int .i64 t] 3) = W at *
  obtain ⟨B3, hb3⟩ : ∃ B, w.heap.size + 1 = B := ⟨_, rfl⟩
  obtain ⟨B2, hb2⟩ : ∃ B, w.heap.size = B := ⟨_, rfl⟩
  have HB2 := Lib.hid hb2
  rw [hb3] at c3 l3 ⊢
  rw [hb2] at c2 l2 HA ⊢
  clear hb2 hb3
  have HSR : Hid (Calls Try.prog 61 #[.int .i64 l.length, .func (.func 62) #[] #[.pointer (some ⟨B2, 0, none⟩), .pointer (some ⟨B3, 0, none⟩)]] W fun e w' => e = .returned (.int .i64 (cntL l t : Nat)) ∧ Below W.heap.size W w') := by
    refine Lib.hid ?_
    have H0 : Hid (SrRel l t W (.int .i64 (0 : Nat)) (.int .i64 l.length) W) := Lib.hid ⟨0, l.length, rfl, rfl, Nat.zero_le _, Nat.le_refl _, fun i _ h => by omega, fun i h1 h2 => by omega, Below.refl _ _⟩
    clear HA HB2
    have C2 := Lib.hid c2
    have C3 := Lib.hid c3
    clear c2 c3
    go_enter Try.func61, Try.ntmps61
    go_wp2_with fail
    go_loopw [5, 6] (fun i j wr => SrRel l t W i j wr) (fun i j _ => (intOf j).toNat - (intOf i).toNat)
    case atStart => exact H0.out
    case round =>
      clear H0
      obtain ⟨p, q, rfl, rfl, hpq, hq, hlo, hhi, hbw⟩ := hrel
      have HLO := Lib.hid hlo
      have HHI := Lib.hid hhi
      have HBW := Lib.hid hbw
      clear hlo hhi hbw
      by_cases hlt : p < q
      · obtain ⟨m, hm⟩ : ∃ m, (p + q) / 2 = m := ⟨_, rfl⟩
        have hml : m < l.length := by omega
        have j1 : ((p : Int) + (q : Int)) / 2 = (m : Int) := by omega
        have j2 : (0 : Int) ≤ (m : Int) := by omega
        have j3 : (m : Int) < (l.length : Int) := by omega
        have j4 : (0 : Int) ≤ (p : Int) + (q : Int) := by omega
        have j5 : (p : Int) + (q : Int) ≤ 200000 := by omega
        have HM := Lib.hid hm
        have j6 : decide ((p : Int) < (q : Int)) = true := decide_eq_true (by omega)
        have j7 : decide (p < q) = true := decide_eq_true hlt
        have HF := Lib.hid (srch1_is ((HBW.out.cell (p := ⟨B2, 0, none⟩) l2).trans C2.out) ((HBW.out.cell (p := ⟨B3, 0, none⟩) l3).trans C3.out) (RdP.next HH.out HBW.out) hml hl)
        obtain ⟨x, hx⟩ : ∃ x, l[m] = x := ⟨_, rfl⟩
        rw [hx] at HF
        have HX := Lib.hid hx
        obtain ⟨bq, hbq⟩ : ∃ bq, decide (t ≤ x) = bq := ⟨_, rfl⟩
        rw [hbq] at HF
        clear hx hm
        go_upto_region 4 with (fail)
        cases bq with
        | true =>
          go_wp2_with (go_at_call 62; refine HF.out.mono ?_; rintro e w2 ⟨rfl, hb2⟩; have HB2 := Lib.hid hb2; clear hb2)
          go_roundw
          case rel => exact ⟨p, m, rfl, rfl, by have := HM.out; omega, by omega, HLO.out, fun i h1 h2 => Int.le_trans (of_decide_eq_true hbq) (by rw [← HX.out]; exact HS.out m i hml h1 h2), HBW.out.trans (HB2.out.mono HBW.out.size)⟩
          case measure => have := HM.out; simp [intOf]; omega
        | false =>
          go_wp2_with (go_at_call 62; refine HF.out.mono ?_; rintro e w2 ⟨rfl, hb2⟩; have HB2 := Lib.hid hb2; clear hb2)
          go_roundw
          case rel => exact ⟨m + 1, q, by go_num, rfl, by have := HM.out; omega, hq, fun i h1 h2 => by
            have h3 := HS.out i m h1 hml (by omega)
            rw [HX.out] at h3
            have := of_decide_eq_false hbq
            omega, HHI.out, HBW.out.trans (HB2.out.mono HBW.out.size)⟩
          case measure => have := HM.out; simp [intOf]; omega
      · have j6 : decide ((p : Int) < (q : Int)) = false := decide_eq_false (by omega)
        have j7 : decide (p < q) = false := decide_eq_false hlt
        have HD := Lib.hid (cntL_eq (l := l) (t := t) (p := p) (by omega) HLO.out (fun i h1 h2 => HHI.out i h1 (by omega)))
        go_wp2_with fail
        go_ret
        exact ⟨by rw [HD.out]; rfl, HBW.out⟩
  go_wp2_with (go_at_call 61; refine HSR.out.mono ?_; rintro e w2 ⟨rfl, hb2⟩; have HBZ := Lib.hid hb2; clear hb2)
  go_ret
  exact ⟨rfl, by rw [HB2.out]; exact HA.out.trans (HBZ.out.mono (HB2.out ▸ HA.out.size))⟩
end Go.Proofs.Ytmjkcanjfjfkfaa
namespace Go.Proofs.Ytmjkcanjfjfkfaa
open Go.RowKit
set_option linter.unusedSimpArgs false
set_option linter.unusedVariables false
attribute [local go_sem ↓] Go.wp_at_zero Go.wp_at_succ
def wrI (l : List Int) (t : Int) : Int := if cntL l t = 0 then -1 else l.getD (cntL l t - 1) 0
set_option maxRecDepth 100000 in
set_option maxHeartbeats 1000000 in
theorem writer_is {w : World} {B g : Nat} {vk vl vu : Value} {bw : Nat} {ks : List Ky} {vL vU : List Value} {L U : List (List Lk)} {D : Nm → List Int} (n : Nm) (t : Int) (h : GIn w B g vk vl vu bw ks vL vU L U D) (hs : Asc (D n)) (hl : (D n).length ≤ 10000) :
    Calls Try.prog 19 #[.pointer (some ⟨g, 0, none⟩), nmV n, .int .i64 t] w fun e w' => e = .returned (.int .i64 (wrI (D n) t)) ∧ Below w.heap.size w w' := by
  have ha := (Below.refl w.heap.size w).alloc (Nat.le_refl _) (.cells #[.int .i64 n.kind, .string (bs n.owner), .int .i64 n.num, .int .i64 n.idx, .string (bs n.text)] 41)
  have zb := Blk.new w 41 #[.int .i64 n.kind, .string (bs n.owner), .int .i64 n.num, .int .i64 n.idx, .string (bs n.text)]
  have GW := Lib.hid (h.next ha)
  have HA := Lib.hid ha
  have x3 := GW.out.blk.cell 3
  have z0 := zb.cell 0
  have z1 := zb.cell 1
  have z2 := zb.cell 2
  have z3 := zb.cell 3
  have z4 := zb.cell 4
  simp only [List.getElem?_toArray, List.getElem?_cons_zero, List.getElem?_cons_succ] at x3 z0 z1 z2 z3 z4
  obtain ⟨ents, hm, hown⟩ := GW.out.wr.find n
  (try simp only at hown)
  obtain ⟨A, c, hve, hc⟩ := own_len hown.1
  rw [hve] at hown
  have HM := Lib.hid hm
  have HVE := Lib.hid hve
  have HRD := Lib.hid (show RdIn _ (.slice A (D n).length c) (D n) from Rd.of_own hown.1)
  have HS := Lib.hid hs
  obtain ⟨xs, hxs⟩ : ∃ xs, D n = xs := ⟨_, rfl⟩
  rw [hxs] at HRD HS hl HVE hc
  have HXS := Lib.hid hxs
  rw [HXS.out]
  clear h hm hown hve hxs hs zb ha GW
  go_enter Try.func19, Try.ntmps19
  simp only [nmV, nmA]
  go_upto_region 3 with (fail)
  generalize w.alloc (.cells #[.int .i64 n.kind, .string (bs n.owner), .int .i64 n.num, .int .i64 n.idx, .string (bs n.text)] 41) = W at *
  obtain ⟨cb, hcb⟩ : ∃ cb, w.heap.size = cb := ⟨_, rfl⟩
  have HCB := Lib.hid hcb
  rw [hcb] at z0 z1 z2 z3 z4 HA ⊢
  clear hcb
  refine wp_region_noPanic ?_
  refine wp_region_held_drew (S := (fun (w' : World) => w'.cell? ⟨g, 3, none⟩ = some (.map (some bw)) ∧ w'.cell? ⟨cb, 0, none⟩ = some (.int .i64 n.kind) ∧ w'.cell? ⟨cb, 1, none⟩ = some (.string (bs n.owner)) ∧ w'.cell? ⟨cb, 2, none⟩ = some (.int .i64 n.num) ∧ w'.cell? ⟨cb, 3, none⟩ = some (.int .i64 n.idx) ∧ w'.cell? ⟨cb, 4, none⟩ = some (.string (bs n.text)))) (by kernel_rfl) ?_ (fun hHeld => ?_)
  · exact ⟨x3, z0, z1, z2, z3, z4⟩
  refine wpAnyH_take (i := 0) (v := ?_) rfl (by kernel_rfl) (by kernel_rfl) (by kernel_rfl) (fun _ _ _ h => h) (Or.inl ⟨by kernel_rfl, ?_⟩) hHeld ?_
  rotate_left
  · (intro w hSw; (try dsimp only at hSw); go_simp; try with_reducible rfl)
  try simp only [Act.put, List.setIfInBounds_toArray, List.set_cons_zero, List.set_cons_succ]
  refine wpAnyH_take (i := 1) (v := ?_) rfl (by kernel_rfl) (by kernel_rfl) (by kernel_rfl) (fun _ _ _ h => h) (Or.inl ⟨by kernel_rfl, ?_⟩) hHeld ?_
  rotate_left
  · (intro w hSw; (try dsimp only at hSw); go_simp; try with_reducible rfl)
  try simp only [Act.put, List.setIfInBounds_toArray, List.set_cons_zero, List.set_cons_succ]
  refine wpAnyH_take (i := 2) (v := ?_) rfl (by kernel_rfl) (by kernel_rfl) (by kernel_rfl) (fun _ _ _ h => h) (Or.inl ⟨by kernel_rfl, ?_⟩) hHeld ?_
  rotate_left
  · (intro w hSw; (try dsimp only at hSw); go_simp; try with_reducible rfl)
  try simp only [Act.put, List.setIfInBounds_toArray, List.set_cons_zero, List.set_cons_succ]
  refine wpAnyH_take (i := 3) (v := ?_) rfl (by kernel_rfl) (by kernel_rfl) (by kernel_rfl) (fun _ _ _ h => h) (Or.inl ⟨by kernel_rfl, ?_⟩) hHeld ?_
  rotate_left
  · (intro w hSw; (try dsimp only at hSw); go_simp; try with_reducible rfl)
  try simp only [Act.put, List.setIfInBounds_toArray, List.set_cons_zero, List.set_cons_succ]
  refine wpAnyH_take (i := 4) (v := ?_) rfl (by kernel_rfl) (by kernel_rfl) (by kernel_rfl) (fun _ _ _ h => h) (Or.inl ⟨by kernel_rfl, ?_⟩) hHeld ?_
  rotate_left
  · (intro w hSw; (try dsimp only at hSw); go_simp; try with_reducible rfl)
  try simp only [Act.put, List.setIfInBounds_toArray, List.set_cons_zero, List.set_cons_succ]
  refine wpAnyH_ready (rs := [5]) (by kernel_rfl) (by simp) ?_
  refine AllReadyH.cons rfl (fun K hK => ?_) AllReadyH.nil
  refine step_look_nm _ (by rfl) _ _ 81 (by rfl) Try.underlying81 (zeroinC _) bw ents (by rfl) (show MapAt W.drew bw ents from HM.out) n (by rfl) ?_; rw [HVE.out]
  refine hK.out _ _ ?_ (fun hNew => ?_)
  · exact ⟨x3, z0, z1, z2, z3, z4⟩
  clear hK K hHeld
  have hHeld := hNew
  clear hNew
  try simp only [Act.put, List.setIfInBounds_toArray, List.set_cons_zero, List.set_cons_succ]
  refine wpAnyH_take (i := 6) (v := ?_) rfl (by kernel_rfl) (by kernel_rfl) (by kernel_rfl) (fun _ _ _ h => h) (Or.inl ⟨by kernel_rfl, ?_⟩) hHeld ?_
  rotate_left
  · (intro w hSw; (try dsimp only at hSw); go_simp; try with_reducible rfl)
  try simp only [Act.put, List.setIfInBounds_toArray, List.set_cons_zero, List.set_cons_succ]
  refine wpAnyH_done (by kernel_rfl) ?_ _
  clear hHeld
  try simp only [List.getElem_toArray, List.getElem_cons_zero, List.getElem_cons_succ, Act.put, List.setIfInBounds_toArray, List.set_cons_zero, List.set_cons_succ]
  refine NoPanic.normal ?_
  have HSI := Lib.hid (search_ints t (RdP.drew HRD.out) HS.out (by omega))
  obtain ⟨q, hq⟩ : ∃ q, cntL xs t = q := ⟨_, rfl⟩
  rw [hq] at HSI
  have HQ := Lib.hid hq
  have hql : q ≤ xs.length := by rw [← hq]; exact cntL_le xs t
  clear hq x3 z0 z1 z2 z3 z4
  cases q with
  | zero =>
    have HR := Lib.hid (show wrI xs t = -1 by unfold wrI; rw [if_pos HQ.out])
    go_wp2_with (go_at_call 42; refine HSI.out.mono ?_; rintro e w2 ⟨rfl, hb2⟩; have HB2 := Lib.hid hb2; clear hb2)
    go_ret
    exact ⟨by rw [HR.out]; rfl, by rw [HCB.out]; exact HA.out.drew.trans (HB2.out.mono (HCB.out ▸ HA.out.size))⟩
  | succ c1 =>
    have HR := Lib.hid (show wrI xs t = xs[c1]'(by omega) by
      unfold wrI
      rw [if_neg (by rw [HQ.out]; omega), HQ.out, Nat.add_sub_cancel, List.getD_eq_getElem?_getD, List.getElem?_eq_getElem (by omega)]
      rfl)
    have e1 : (((c1 + 1 : Nat) : Int) == 0) = false := by rw [beq_eq_false_iff_ne]; omega
    have e2 : ((c1 + 1 : Nat) : Int) - 1 = (c1 : Int) := by omega
    have e3 : IntKind.i64.wrap (c1 : Int) = (c1 : Int) := IntWalk.i64_in _ (by omega)
    have e4 : (0 : Int) ≤ (c1 : Int) := by omega
    have e5 : (c1 : Int) < (xs.length : Int) := by omega
    have hkl : c1 < xs.length := by omega
    obtain ⟨cn, hcn⟩ : ∃ z : Int, ((c1 + 1 : Nat) : Int) = z := ⟨_, rfl⟩
    rw [hcn] at e1 e2 HSI
    have HCN := Lib.hid hcn
    clear hcn
    go_wp2_with (go_at_call 42; refine HSI.out.mono ?_; rintro e w2 ⟨rfl, hb2⟩; have HB2 := Lib.hid hb2; obtain ⟨b, o, hb, hbl, hc1⟩ := RdP.at_ (RdP.next (RdP.drew HRD.out) hb2) inC_len hkl; subst hb; have y := hc1 0 _ rfl; rw [Nat.mul_one, Nat.add_zero] at y; clear hb2 hc1)
    go_ret
    exact ⟨by rw [HR.out]; rfl, by rw [HCB.out]; exact HA.out.drew.trans (HB2.out.mono (HCB.out ▸ HA.out.size))⟩
end Go.Proofs.Ytmjkcanjfjfkfaa
