/- Words for memory: two rows of rows; graphs. -/
import Derived.Test.YtamjllakfgphnaaGreatDoorGV
namespace Go.Proofs.YtamjllakfgphnaaGreatDoor
open Go.RowKit Go.MapKept Go.ChangeMaps
set_option linter.unusedSimpArgs false
set_option linter.unusedVariables false
/-- A dependence. -/
structure Lk where
  frm : Int
  to_ : Int
  name : Nm
deriving DecidableEq
def lkC (x : Lk) : List Value := [.int .i64 x.frm, .int .i64 x.to_, .int .i64 x.name.kind, .string (bs x.name.owner), .int .i64 x.name.num, .int .i64 x.name.idx, .string (bs x.name.text)]
def lkV (x : Lk) : Value := .agg #[.int .i64 x.frm, .int .i64 x.to_, .int .i64 x.name.kind, .string (bs x.name.owner), .int .i64 x.name.num, .int .i64 x.name.idx, .string (bs x.name.text)]
theorem lkC_len (x : Lk) : (lkC x).length = 7 := rfl
theorem kyC_len (x : Ky) : (kyC x).length = 4 := rfl
abbrev RdLk (w : World) (v : Value) (l : List Lk) : Prop := RdP 61 lkC w v l
abbrev RdKy (w : World) (v : Value) (l : List Ky) : Prop := RdP 74 kyC w v l
theorem RdLk.piece {w : World} {A : Option Addr} {n c : Nat} {l : List Lk} (h : RdLk w (.slice A n c) l) {k : Nat} (hk : k < l.length) : ∃ b o, A = some ⟨b, o, none⟩ ∧ b < w.heap.size ∧
    w.cell? ⟨b, o + k * 7, none⟩ = some (.int .i64 l[k].frm) ∧ w.cell? ⟨b, o + k * 7 + 1, none⟩ = some (.int .i64 l[k].to_) ∧ w.cell? ⟨b, o + k * 7 + 2, none⟩ = some (.int .i64 l[k].name.kind) ∧ w.cell? ⟨b, o + k * 7 + 3, none⟩ = some (.string (bs l[k].name.owner)) ∧ w.cell? ⟨b, o + k * 7 + 4, none⟩ = some (.int .i64 l[k].name.num) ∧ w.cell? ⟨b, o + k * 7 + 5, none⟩ = some (.int .i64 l[k].name.idx) ∧ w.cell? ⟨b, o + k * 7 + 6, none⟩ = some (.string (bs l[k].name.text)) := by
  obtain ⟨b, o, e, hb, hc⟩ := RdP.at_ h lkC_len hk
  exact ⟨b, o, e, hb, hc 0 _ rfl, hc 1 _ rfl, hc 2 _ rfl, hc 3 _ rfl, hc 4 _ rfl, hc 5 _ rfl, hc 6 _ rfl⟩
theorem RdKy.piece {w : World} {A : Option Addr} {n c : Nat} {l : List Ky} (h : RdKy w (.slice A n c) l) {k : Nat} (hk : k < l.length) : ∃ b o, A = some ⟨b, o, none⟩ ∧ b < w.heap.size ∧
    w.cell? ⟨b, o + k * 4, none⟩ = some (.int .i64 l[k].tick) ∧ w.cell? ⟨b, o + k * 4 + 1, none⟩ = some (.int .i64 l[k].cls) ∧ w.cell? ⟨b, o + k * 4 + 2, none⟩ = some (.int .i64 l[k].num) ∧ w.cell? ⟨b, o + k * 4 + 3, none⟩ = some (.string (bs l[k].lin)) := by
  obtain ⟨b, o, e, hb, hc⟩ := RdP.at_ h kyC_len hk
  exact ⟨b, o, e, hb, hc 0 _ rfl, hc 1 _ rfl, hc 2 _ rfl, hc 3 _ rfl⟩
/-- Two slices share no block. -/
def Apart (a b : Value) : Prop := ∀ g, a.ownBlock = some g → b.ownBlock ≠ some g
theorem Apart.symm {a b : Value} (h : Apart a b) : Apart b a := fun g hb ha => h g ha hb
theorem own_set1 {w : World} {base e g n c : Nat} {xs : List Value} (h : w.ownsRow base e 1 (.slice (some ⟨g, 0, none⟩) n c) n xs) {i : Nat} (hi : i < n) (u : Value) : (w.setCell ⟨g, i, none⟩ u).ownsRow base e 1 (.slice (some ⟨g, 0, none⟩) n c) n (xs.set i u) := by
  obtain ⟨hl, ⟨_, h0⟩ | ⟨g', cap, cur, hv, hg, hh, h1, h2, h3, h4⟩⟩ := h
  · omega
  · injection hv with hv _ h5
    injection hv with hv
    injection hv with hv _ _
    subst hv h5
    have hb := Blk.set_ (show Blk w g e cur from hh) i u
    refine ⟨by simpa using hl, .inr ⟨g, c, _, rfl, hg, hb, h1, h2, by simpa using h3, ?_⟩⟩
    rw [Array.toList_setIfInBounds, List.take_set, h4]
theorem pair_set {l : List Value} (h : l.Pairwise Apart) (i : Nat) {v : Value} (hv : ∀ (j : Nat) (x : Value), j ≠ i → l[j]? = some x → Apart x v) : (l.set i v).Pairwise Apart := by
  rw [List.pairwise_iff_getElem] at h ⊢
  intro a b ha hb hab
  rw [List.length_set] at ha hb
  rw [List.getElem_set, List.getElem_set]
  by_cases h1 : i = a
  · subst h1
    rw [if_pos rfl, if_neg (by omega)]
    exact (hv b _ (by omega) (List.getElem?_eq_getElem hb)).symm
  · rw [if_neg h1]
    by_cases h2 : i = b
    · subst h2
      rw [if_pos rfl]
      exact hv a _ (by omega) (List.getElem?_eq_getElem ha)
    · rw [if_neg h2]
      exact h a b ha hb hab
theorem pair_get {l : List Value} (h : l.Pairwise Apart) {i j : Nat} (hij : j ≠ i) {x y : Value} (hx : l[j]? = some x) (hy : l[i]? = some y) : Apart x y := by
  obtain ⟨h1, rfl⟩ := List.getElem?_eq_some_iff.1 hx
  obtain ⟨h2, rfl⟩ := List.getElem?_eq_some_iff.1 hy
  rw [List.pairwise_iff_getElem] at h
  rcases Nat.lt_or_ge j i with hl | hl
  · exact h j i h1 h2 hl
  · exact (h i j h2 h1 (by omega)).symm
/-- Behind an append to another row. -/
theorem own_grown {w w1 : World} {b1 b2 e1 e2 s1 s2 n m : Nat} {v x : Value} {xs ys : List Value} (ho : w.ownsRow b1 e1 s1 v n xs) (hx : w.ownsRow b2 e2 s2 x m ys) (hg : w.grownBy w1 x.ownBlock) (hne : e1 ≠ e2 ∨ Apart v x) : w1.ownsRow b1 e1 s1 v n xs :=
  own_same ho fun g hgv => by
    obtain ⟨cur, hc⟩ := own_cells_of ho hgv
    refine hg.block g (Array.getElem?_eq_some_iff.1 hc).1 fun e => ?_
    rcases hne with hne | hne
    · obtain ⟨cur2, hc2⟩ := own_cells_of hx e.symm
      rw [hc] at hc2
      injection hc2 with hc2
      injection hc2 with _ hc2 _
      exact hne hc2
    · exact hne g hgv e.symm
/-- Two rows of rows. -/
structure LU (w : World) (B : Nat) (vl : Value) (vL : List Value) (L : List (List Lk)) (vu : Value) (vU : List Value) (U : List (List Lk)) : Prop where
  ln : w.ownsRow B 52 1 vl L.length vL
  us : w.ownsRow B 52 1 vu U.length vU
  lu : Apart vl vu
  el : ∀ (i : Nat) (x : Value) (y : List Lk), vL[i]? = some x → L[i]? = some y → w.ownsRow B 61 7 x y.length (y.flatMap lkC)
  eu : ∀ (i : Nat) (x : Value) (y : List Lk), vU[i]? = some x → U[i]? = some y → w.ownsRow B 61 7 x y.length (y.flatMap lkC)
  ap : (vL ++ vU).Pairwise Apart
section
variable {w w' : World} {B : Nat} {vl vu : Value} {vL vU : List Value} {L U : List (List Lk)}
theorem LU.swap (h : LU w B vl vL L vu vU U) : LU w B vu vU U vl vL L := ⟨h.us, h.ln, h.lu.symm, h.eu, h.el, by
  have := h.ap
  rw [List.pairwise_append] at this ⊢
  exact ⟨this.2.1, this.1, fun a ha b hb => (this.2.2 b hb a ha).symm⟩⟩
theorem LU.keep {Ls : List TypeId} (h : LU w B vl vL L vu vU U) (k : Kept Ls w w') (h1 : Ls.contains 52 = false) (h2 : Ls.contains 61 = false) : LU w' B vl vL L vu vU U :=
  ⟨own_keep h.ln k h1, own_keep h.us k h1, h.lu, fun i x y hx hy => own_keep (h.el i x y hx hy) k h2, fun i x y hx hy => own_keep (h.eu i x y hx hy) k h2, h.ap⟩
theorem LU.lenL (h : LU w B vl vL L vu vU U) : vL.length = L.length := by have := h.ln.1; omega
theorem LU.lenU (h : LU w B vl vL L vu vU U) : vU.length = U.length := by have := h.us.1; omega
/-- A row is made longer. -/
theorem LU.add (h : LU w B vl vL L vu vU U) {gl cl : Nat} (hvl : vl = .slice (some ⟨gl, 0, none⟩) L.length cl) {i : Nat} (hi : i < L.length) {x v : Value} (hx : vL[i]? = some x) {w1 : World} {y : Lk}
    (hg : w.grownBy w1 x.ownBlock) (hown : w1.ownsRow B 61 7 v (L[i].length + 1) (L[i].flatMap lkC ++ lkC y)) (hat : AtOr w x v) :
    LU (w1.setCell ⟨gl, i, none⟩ v) B vl (vL.set i v) (L.set i (L[i] ++ [y])) vu vU U ∧ Kept [61, 52] w (w1.setCell ⟨gl, i, none⟩ v) ∧ KpM w (w1.setCell ⟨gl, i, none⟩ v) ∧ Below B w (w1.setCell ⟨gl, i, none⟩ v) := by
  subst hvl
  have hxo := h.el i x _ hx (List.getElem?_eq_getElem hi)
  have hiL : i < vL.length := by rw [h.lenL]; exact hi
  have hxi : vL[i] = x := by rw [List.getElem?_eq_getElem hiL] at hx; injection hx
  have hg2 : w1.grownBy (w1.setCell ⟨gl, i, none⟩ v) (some gl) := only_setCell (only_of_below (Below.refl _ _) _) (.inl rfl) v
  have hln1 := own_grown h.ln hxo hg (.inl (by decide))
  have hus1 := own_grown h.us hxo hg (.inl (by decide))
  have far : ∀ (j : Nat) (x' : Value), j ≠ i → (vL ++ vU)[j]? = some x' → Apart x' x := fun j x' hj hx' => by
    have := pair_get h.ap hj hx' (show (vL ++ vU)[i]? = some x by rw [List.getElem?_append_left hiL]; exact hx)
    exact this
  have lt : ∀ (j : Nat) (x' : Value), (vL ++ vU)[j]? = some x' → ∀ g, x'.ownBlock = some g → g < w.heap.size := fun j x' hx' g hgx => by
    by_cases hj : j < vL.length
    · rw [List.getElem?_append_left hj] at hx'
      obtain ⟨cur, hc⟩ := own_cells_of (h.el j x' _ hx' (List.getElem?_eq_getElem (by rw [← h.lenL]; exact hj))) hgx
      exact (Array.getElem?_eq_some_iff.1 hc).1
    · rw [List.getElem?_append_right (by omega)] at hx'
      have hj2 := (List.getElem?_eq_some_iff.1 hx').1
      obtain ⟨cur, hc⟩ := own_cells_of (h.eu _ x' _ hx' (List.getElem?_eq_getElem (by rw [← h.lenU]; exact hj2))) hgx
      exact (Array.getElem?_eq_some_iff.1 hc).1
  have k1 : Kept [61, 52] w w1 := Kept.of_own _ hxo hg rfl
  have k2 : Kept [61, 52] w1 (w1.setCell ⟨gl, i, none⟩ v) := Kept.of_own _ hln1 hg2 rfl
  refine ⟨⟨by rw [List.length_set]; exact own_set1 hln1 hi v, own_grown hus1 hln1 hg2 (.inr h.lu.symm), h.lu, ?_, ?_, ?_⟩, k1.trans k2, (KpM.of_own hxo hg).trans (KpM.of_own hln1 hg2), ?_⟩
  · intro j x' y' hx' hy'
    by_cases hj : i = j
    · subst hj
      rw [List.getElem?_set_self (by simpa using hiL)] at hx'
      rw [List.getElem?_set_self hi] at hy'
      injection hx' with hx'
      injection hy' with hy'
      subst hx' hy'
      rw [List.length_append, List.flatMap_append]
      exact own_grown (by simpa using hown) hln1 hg2 (.inl (by decide))
    · rw [List.getElem?_set_ne hj] at hx' hy'
      have hjl := (List.getElem?_eq_some_iff.1 hx').1
      exact own_grown (own_grown (h.el j x' y' hx' hy') hxo hg (.inr (far j x' (fun e => hj e.symm) (by rw [List.getElem?_append_left hjl]; exact hx')))) hln1 hg2 (.inl (by decide))
  · intro j x' y' hx' hy'
    have hjl := (List.getElem?_eq_some_iff.1 hx').1
    exact own_grown (own_grown (h.eu j x' y' hx' hy') hxo hg (.inr (far (vL.length + j) x' (by omega) (by rw [List.getElem?_append_right (by omega)]; simpa using hx')))) hln1 hg2 (.inl (by decide))
  · have := pair_set h.ap i (v := v) fun j x' hj hx' => by
      rcases hat with e | e
      · intro g hgx hv
        exact far j x' hj hx' g hgx (by rw [← e]; exact hv)
      · intro g hgx hv
        rw [e] at hv
        injection hv with hv
        have := lt j x' hx' g hgx
        omega
    rw [List.set_append_left _ _ hiL] at this
    exact this
  · have b1 : Below B w w1 := below_own (Below.refl B w) hxo hg (Nat.le_refl _) ?_
    · exact b1.setCell (p := ⟨gl, i, none⟩) (own_ge h.ln rfl) v
    · have := own_ge h.ln (g := gl) rfl
      obtain ⟨cur, hc⟩ := own_cells_of h.ln (g := gl) rfl
      have := (Array.getElem?_eq_some_iff.1 hc).1
      omega
end
/-- A graph in memory, part by part. -/
structure GIn (w : World) (B : Nat) (g : Nat) (vk vl vu : Value) (bw : Nat) (ks : List Ky) (vL vU : List Value) (L U : List (List Lk)) (D : Nm → List Int) : Prop where
  blk : Blk w g 118 #[vk, vl, vu, .map (some bw)]
  gB : B ≤ g
  ky : w.ownsRow B 74 4 vk ks.length (ks.flatMap kyC)
  lu : LU w B vl vL L vu vU U
  wr : MapRows 3 1 inC w (fun i => B ≤ i) bw D
section
variable {w w' : World} {B g : Nat} {vk vl vu : Value} {bw : Nat} {ks : List Ky} {vL vU : List Value} {L U : List (List Lk)} {D : Nm → List Int}
theorem GIn.next (h : GIn w B g vk vl vu bw ks vL vU L U D) (hb : Below w.heap.size w w') : GIn w' B g vk vl vu bw ks vL vU L U D :=
  ⟨h.blk.next hb h.blk.lt, h.gB, own_next h.ky hb, h.lu.keep (Kept.of_below [] hb) rfl rfl, h.wr.next hb⟩
theorem GIn.drewN (h : GIn w B g vk vl vu bw ks vL vU L U D) (n : Nat) : GIn (w.drewN n) B g vk vl vu bw ks vL vU L U D := h.next (below_drewN (Below.refl _ _) n)
theorem GIn.base {B' : Nat} (h : GIn w B g vk vl vu bw ks vL vU L U D) (hb : B' ≤ B) : GIn w B' g vk vl vu bw ks vL vU L U D :=
  ⟨h.blk, Nat.le_trans hb h.gB, own_base h.ky hb, ⟨own_base h.lu.ln hb, own_base h.lu.us hb, h.lu.lu, fun i x y hx hy => own_base (h.lu.el i x y hx hy) hb, fun i x y hx hy => own_base (h.lu.eu i x y hx hy) hb, h.lu.ap⟩, h.wr.kept (Kept.refl [] w) (fun _ _ _ h => h) rfl fun i hi => Nat.le_trans hb hi⟩
/-- The types of the blocks that a graph changes. -/
abbrev LG : List TypeId := [74, 118, 61, 52, 3]
/-- A key is appended. -/
theorem GIn.key_ (h : GIn w B g vk vl vu bw ks vL vU L U D) {w1 : World} {vk' : Value} {k : Ky} (hg : w.grownBy w1 vk.ownBlock) (hown : w1.ownsRow B 74 4 vk' (ks.length + 1) (ks.flatMap kyC ++ kyC k)) :
    GIn (w1.setCell ⟨g, 0, none⟩ vk') B g vk' vl vu bw (ks ++ [k]) vL vU L U D ∧ Below B w (w1.setCell ⟨g, 0, none⟩ vk') ∧ Kept LG w (w1.setCell ⟨g, 0, none⟩ vk') := by
  have hgne : vk.ownBlock ≠ some g := own_blk_ne h.ky h.blk (by decide)
  have b1 : Blk w1 g 118 #[vk, vl, vu, .map (some bw)] := h.blk.grown hg (fun e => hgne e.symm)
  have hg2 : w1.grownBy (w1.setCell ⟨g, 0, none⟩ vk') (some g) := only_setCell (only_of_below (Below.refl _ _) _) (.inl rfl) vk'
  have k2 : Kept [74, 118] w (w1.setCell ⟨g, 0, none⟩ vk') := (Kept.of_own _ h.ky hg rfl).trans (Kept.of_blk _ b1 hg2 rfl)
  have m2 : KpM w (w1.setCell ⟨g, 0, none⟩ vk') := (KpM.of_own h.ky hg).trans (KpM.of_blk b1 hg2)
  have hown2 : (w1.setCell ⟨g, 0, none⟩ vk').ownsRow B 74 4 vk' (ks.length + 1) (ks.flatMap kyC ++ kyC k) := hown.kept hg2 (.inr (own_blk_ne hown b1 (by decide)))
  refine ⟨⟨b1.set_ 0 vk', h.gB, ?_, h.lu.keep k2 rfl rfl, h.wr.kept k2 m2 rfl fun _ h => h⟩, ?_, k2.mono fun e he => by simp [LG] at he ⊢; exact ⟨he.1, he.2.1⟩⟩
  · rw [List.length_append, List.flatMap_append]
    simpa using hown2
  · have hlt := h.blk.lt
    exact (below_own (Below.refl B w) h.ky hg (Nat.le_refl _) (by have := h.gB; omega)).setCell (p := ⟨g, 0, none⟩) h.gB vk'
/-- A link is appended. -/
theorem GIn.link_ (h : GIn w B g vk vl vu bw ks vL vU L U D) {gl cl : Nat} (hvl : vl = .slice (some ⟨gl, 0, none⟩) L.length cl) {i : Nat} (hi : i < L.length) {x v : Value} (hx : vL[i]? = some x) {w1 : World} {y : Lk}
    (hg : w.grownBy w1 x.ownBlock) (hown : w1.ownsRow B 61 7 v (L[i].length + 1) (L[i].flatMap lkC ++ lkC y)) (hat : AtOr w x v) :
    GIn (w1.setCell ⟨gl, i, none⟩ v) B g vk vl vu bw ks (vL.set i v) vU (L.set i (L[i] ++ [y])) U D ∧ Below B w (w1.setCell ⟨gl, i, none⟩ v) ∧ Kept LG w (w1.setCell ⟨gl, i, none⟩ v) := by
  obtain ⟨h1, h2, h3, h4⟩ := h.lu.add hvl hi hx hg hown hat
  exact ⟨⟨h.blk.keep h2 rfl, h.gB, own_keep h.ky h2 rfl, h1, h.wr.kept h2 h3 rfl fun _ h => h⟩, h4, h2.mono fun e he => by simp [LG] at he ⊢; exact ⟨he.2.2.1, he.2.2.2.1⟩⟩
/-- A use is appended. -/
theorem GIn.use_ (h : GIn w B g vk vl vu bw ks vL vU L U D) {gl cl : Nat} (hvl : vu = .slice (some ⟨gl, 0, none⟩) U.length cl) {i : Nat} (hi : i < U.length) {x v : Value} (hx : vU[i]? = some x) {w1 : World} {y : Lk}
    (hg : w.grownBy w1 x.ownBlock) (hown : w1.ownsRow B 61 7 v (U[i].length + 1) (U[i].flatMap lkC ++ lkC y)) (hat : AtOr w x v) :
    GIn (w1.setCell ⟨gl, i, none⟩ v) B g vk vl vu bw ks vL (vU.set i v) L (U.set i (U[i] ++ [y])) D ∧ Below B w (w1.setCell ⟨gl, i, none⟩ v) ∧ Kept LG w (w1.setCell ⟨gl, i, none⟩ v) := by
  obtain ⟨h1, h2, h3, h4⟩ := h.lu.swap.add hvl hi hx hg hown hat
  exact ⟨⟨h.blk.keep h2 rfl, h.gB, own_keep h.ky h2 rfl, h1.swap, h.wr.kept h2 h3 rfl fun _ h => h⟩, h4, h2.mono fun e he => by simp [LG] at he ⊢; exact ⟨he.2.2.1, he.2.2.2.1⟩⟩
/-- A writer is appended. -/
theorem GIn.wr_ (h : GIn w B g vk vl vu bw ks vL vU L U D) (n : Nm) : ∃ ents A c, MapAt w bw ents ∧ (lookM n ents).getD (.slice none 0 0) = .slice A (D n).length c ∧ w.ownsRow 0 3 1 (.slice A (D n).length c) (D n).length ((D n).flatMap inC) ∧
    ∀ (w2 w3 : World) (v' : Value) (x : Int), Chg w w2 bw (Value.slice A (D n).length c).ownBlock → (∃ es c, w2.heap[bw]? = some (.map es c)) → w2.ownsRow 0 3 1 v' ((D n).length + 1) ((D n).flatMap inC ++ inC x) → (v'.ownBlock = (Value.slice A (D n).length c).ownBlock ∨ ∃ i, v'.ownBlock = some i ∧ w.heap.size ≤ i) →
      MapAt w3 bw (putM n v' ents) → w2.grownBy w3 (some bw) → GIn w3 B g vk vl vu bw ks vL vU L U (fun m => if m = n then D n ++ [x] else D m) ∧ Below B w w3 ∧ Kept LG w w3 := by
  obtain ⟨ents, v, hm, hve, hown, hback⟩ := h.wr.at_ n
  obtain ⟨A, c, hvs, hc⟩ := own_len hown.1
  subst hvs
  obtain ⟨es, cl, hb, _⟩ := id hm
  refine ⟨ents, A, c, hm, hve.symm, hown.1, fun w2 w3 v' x hch hbm hown' hat hmap hg3 => ?_⟩
  obtain ⟨es2, c2, hb2⟩ := id hbm
  have hs2 : w.heap.size ≤ w2.heap.size := hch.size
  have hs3 : w2.heap.size ≤ w3.heap.size := hg3.size
  have k2 : Kept [3] w w3 := (hch.kept hb hown.1).trans (Kept.of_map _ hb2 hg3)
  have hBs : B ≤ w.heap.size := by have := h.gB; have := h.blk.lt; omega
  have mw : MapRows 3 1 inC w3 (fun i => B ≤ i) bw (fun m => if m = n then D n ++ [x] else D m) :=
    hback w2 w3 v' x (fun i => B ≤ i) hch.block hbm hown' hat hmap hg3 (fun _ h => h) fun i h1 h2 => Nat.le_trans hBs h1
  refine ⟨⟨h.blk.keep k2 rfl, h.gB, own_keep h.ky k2 rfl, h.lu.keep k2 rfl rfl, mw⟩, ?_, k2.mono fun e he => by simp [LG] at he ⊢; exact he.2.2.2.2⟩
  have hfb : B ≤ bw := h.wr.1
  exact ((hch.outer (F := fun i => B ≤ i) hfb hown.2).trans (Outer.of_grown hg3 fun i hi => by injection hi with hi; subst hi; exact .inl hfb)).below hBs fun i hi => hi
end
end Go.Proofs.YtamjllakfgphnaaGreatDoor
