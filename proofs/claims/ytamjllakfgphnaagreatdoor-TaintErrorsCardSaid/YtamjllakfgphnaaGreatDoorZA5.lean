/- Walks and plain facts, packed: W88, W94, D0, W104, M15, W80, W82, W83, M18, M19. -/
import Derived.Control
import Derived.Calls
import Derived.Shelf.SlSortCmp.NoneTotal
import Derived.Shelf.SortG.Plain
import Derived.Shelf.SortG.SortNone
import Derived.Shelf.SlicesG.Clone
import Derived.Shelf.SlicesG.CompactS
import Derived.Ground.SlgnProg
import Derived.Ground.SlsfProg
import Derived.Shelf.SlGeneric
import Derived.Lib.QuietBelow
import Derived.ArgAppend
import Derived.Test.YtamjllakfgphnaaGreatDoorZA4
namespace Go.Proofs.YtamjllakfgphnaaGreatDoor
open Go.RowKit Go.Shelf
set_option linter.unusedSimpArgs false
set_option linter.unusedVariables false
attribute [local go_sem] Oper.semAt_some
def plV (n : Nm) (a : Int) : Value := .agg #[.int .i64 n.kind, .string (bs n.owner), .int .i64 n.num, .int .i64 n.idx, .string (bs n.text), .int .i64 a]
def OrgP (r : Int × Int) (w : World) (e : Ending) (w' : World) : Prop := e = .returned (.tuple #[.int .i64 r.1, .int .i64 r.2]) ∧ Below w.heap.size w w'
def stI (s : Option (Int × UInt8)) : Int := match s with | some (o, _) => o | none => 0
def stB (s : Option (Int × UInt8)) : Int := match s with | some (_, b) => (b.toNat : Int) | none => 0
structure OrgC (s : Option (Int × UInt8)) (b1 b2 b3 : Nat) (X : World) : Prop where
  c1 : Blk X b1 3 #[.int .i64 (stI s)]
  c2 : Blk X b2 4 #[.bool s.isSome]
  c3 : Blk X b3 5 #[.int .u8 (stB s)]
theorem Blk_row {X Y : World} {row : Option Nat} {b : Nat} {t : TypeId} {cs : Array Value} (h : Blk X b t cs) (hg : X.grownBy Y row) (hr : ∀ r, row = some r → ∃ o : Obj, X.heap[r]? = some o ∧ o.isCells = false) : Blk Y b t cs :=
  h.grown hg (fun e => by obtain ⟨o, ho, hc⟩ := hr b e.symm; rw [show X.heap[b]? = _ from h] at ho; cases ho; cases hc)
theorem OrgC.row {s : Option (Int × UInt8)} {b1 b2 b3 : Nat} {X Y : World} {row : Option Nat} (h : OrgC s b1 b2 b3 X) (hg : X.grownBy Y row) (hr : ∀ r, row = some r → ∃ o : Obj, X.heap[r]? = some o ∧ o.isCells = false) : OrgC s b1 b2 b3 Y :=
  ⟨Blk_row h.c1 hg hr, Blk_row h.c2 hg hr, Blk_row h.c3 hg hr⟩
theorem OrgC.next {s : Option (Int × UInt8)} {b1 b2 b3 : Nat} {X Y : World} (h : OrgC s b1 b2 b3 X) (hb : Below X.heap.size X Y) : OrgC s b1 b2 b3 Y := ⟨h.c1.next hb h.c1.lt, h.c2.next hb h.c2.lt, h.c3.next hb h.c3.lt⟩
theorem below_row {B N : Nat} {w X Y : World} {row : Option Nat} (h : Below B w X) (hBw : B ≤ w.heap.size) (hN : B ≤ N) (hg : X.grownBy Y row) (hr : ∀ r, row = some r → N ≤ r ∧ ∃ o : Obj, X.heap[r]? = some o ∧ o.isCells = false) : Below B w Y :=
  h.trans ⟨hg.os, hg.tape, hg.output, hg.size, fun k hk => hg.block k (Nat.lt_of_lt_of_le hk (Nat.le_trans hBw h.size)) (fun e => by have := (hr k e.symm).1; omega)⟩
theorem keeps_drewN (N : Nat) (X : World) (m : Nat) : KeepsFrom N X (X.drewN m) := ⟨Nat.le_refl _, fun k o _ h _ => h⟩
theorem org_on (N B b1 b2 b3 : Nat) (h1 : B + 1 = b1) (h2 : b1 + 1 = b2) (h3 : b2 + 1 = b3) (m : Nat) (xi : Int) (bb : UInt8) {X : World} {st : Option (Int × UInt8)} (hc : OrgC st b1 b2 b3 X) {t : TypeId} {cs : Array Value} (hB : Blk X B t cs) :
    OrgC (some (xi, bb)) b1 b2 b3 ((((X.drewN m).setCell ⟨b1, 0, none⟩ (.int .i64 xi)).setCell ⟨b3, 0, none⟩ (.int .u8 bb.toNat)).setCell ⟨b2, 0, none⟩ (.bool true)) ∧
    KpB B (fun k => k = b1 ∨ k = b2 ∨ k = b3) X ((((X.drewN m).setCell ⟨b1, 0, none⟩ (.int .i64 xi)).setCell ⟨b3, 0, none⟩ (.int .u8 bb.toNat)).setCell ⟨b2, 0, none⟩ (.bool true)) ∧
    KeepsFrom N X ((((X.drewN m).setCell ⟨b1, 0, none⟩ (.int .i64 xi)).setCell ⟨b3, 0, none⟩ (.int .u8 bb.toNat)).setCell ⟨b2, 0, none⟩ (.bool true)) ∧
    Blk ((((X.drewN m).setCell ⟨b1, 0, none⟩ (.int .i64 xi)).setCell ⟨b3, 0, none⟩ (.int .u8 bb.toNat)).setCell ⟨b2, 0, none⟩ (.bool true)) B t cs := by
  have hl := hB.lt
  refine ⟨⟨?_, ?_, ?_⟩, ?_, ?_, ?_⟩
  · exact (((hc.c1.drewN m).set_ 0 _).far (p := ⟨b3, 0, none⟩) (show b1 ≠ b3 by omega) _).far (p := ⟨b2, 0, none⟩) (show b1 ≠ b2 by omega) _
  · exact (((hc.c2.drewN m).far (p := ⟨b1, 0, none⟩) (show b2 ≠ b1 by omega) _).far (p := ⟨b3, 0, none⟩) (show b2 ≠ b3 by omega) _).set_ 0 _
  · exact (((hc.c3.drewN m).far (p := ⟨b1, 0, none⟩) (show b3 ≠ b1 by omega) _).set_ 0 _).far (p := ⟨b2, 0, none⟩) (show b3 ≠ b2 by omega) _
  · exact (((KpB.of_below (below_drewN (Below.refl _ _) m) (by omega)).trans (KpB.setCell _ ⟨b1, 0, none⟩ _ (by show B ≤ b1; omega) (.inl rfl))).trans (KpB.setCell _ ⟨b3, 0, none⟩ _ (by show B ≤ b3; omega) (.inr (.inr rfl)))).trans (KpB.setCell _ ⟨b2, 0, none⟩ _ (by show B ≤ b2; omega) (.inr (.inl rfl)))
  · exact (((keeps_drewN N X m).trans ((KeepsOthers.setCell _ _ _).from N)).trans ((KeepsOthers.setCell _ _ _).from N)).trans ((KeepsOthers.setCell _ _ _).from N)
  · exact (((hB.drewN m).far (p := ⟨b1, 0, none⟩) (show B ≠ b1 by omega) _).far (p := ⟨b3, 0, none⟩) (show B ≠ b3 by omega) _).far (p := ⟨b2, 0, none⟩) (show B ≠ b2 by omega) _
def OnP (A B b1 b2 b3 : Nat) (i : Int) (n : Nm) (w W7 : World) (pre : List Ver) (xi : Int) (xv : Bs) (X Y : World) : Prop :=
  KeepsFrom W7.heap.size X Y ∧ KpB B (fun k => k = b1 ∨ k = b2 ∨ k = b3) X Y ∧ (∃ st, (∀ r, orgF A none (pre ++ [⟨xi, xv, false⟩] ++ r) = orgF A st r) ∧ OrgC st b1 b2 b3 Y) ∧ Blk Y B 28 #[.int .i64 n.kind, .string (bs n.owner), .int .i64 n.num, .int .i64 n.idx, .string (bs n.text), .int .i64 (A : Int)] ∧ W7.heap.size ≤ Y.heap.size ∧ Below B w Y
set_option maxRecDepth 100000 in
set_option maxHeartbeats 4000000 in
theorem origin_is {w : World} {F0 : Nat → Prop} {g : Nat} {s0 : St} {l : List Ac} {n : Nm} (a i : Int) (hv : VAt w F0 g s0 l) (hn : OwnE n) (ho : VOk l) :
    Calls Tryz.prog 24 #[.pointer (some ⟨g, 0, none⟩), plV n a, .int .i64 i] w (OrgP (orgR l.length (verL s0 l n) a i) w) := by
  have ha := (Below.refl w.heap.size w).alloc (Nat.le_refl _) (.cells #[.int .i64 n.kind, .string (bs n.owner), .int .i64 n.num, .int .i64 n.idx, .string (bs n.text), .int .i64 a] 28)
  have z := Blk.new w 28 #[.int .i64 n.kind, .string (bs n.owner), .int .i64 n.num, .int .i64 n.idx, .string (bs n.text), .int .i64 a]
  have HV := Lib.hid (hv.next ha)
  have HZ := Lib.hid z
  have HA := Lib.hid ha
  have HN := Lib.hid hn
  have HO := Lib.hid ho
  have x0 := z.cell 0
  have x1 := z.cell 1
  have x2 := z.cell 2
  have x3 := z.cell 3
  have x4 := z.cell 4
  have x5 := z.cell 5
  simp only [qB, qC, qD] at x0 x1 x2 x3 x4 x5
  have hll : l.length ≤ 100 := ho.len
  clear hv ha z hn ho
  refine (callsIn_wide (n := 12)).1 ?_
  refine callsIn_of_wp_marks Tryz.func24 rfl trivial ?_ rfl
  simp only [plV]
  simp only [Tryz.ntmps24, List.size_toArray, List.length_cons, List.length_nil, Nat.reduceAdd, Nat.reduceSub, Array.replicate_succ, Array.replicate_zero, List.push_toArray, List.append_toArray, List.nil_append, List.cons_append]
  by_cases h1 : i < 0
  · have HR := Lib.hid (show orgR l.length (verL s0 l n) a i = (0, 2) by unfold orgR; rw [if_pos (.inl h1)])
    have d1 : decide (i < 0) = true := decide_eq_true h1
    gi_wp2
    refine ⟨trivial, ?_⟩
    gi_wp2
    exact ⟨.tuple #[.int .i64 0, .int .i64 2], by simp [results, Tryz.results24, go_sem], by rw [HR.out], HA.out⟩
  · have d1 : decide (i < 0) = false := decide_eq_false h1
    by_cases h2 : (l.length : Int) < i
    · have HR := Lib.hid (show orgR l.length (verL s0 l n) a i = (0, 2) by unfold orgR; rw [if_pos (.inr (.inl h2))])
      have d2 : decide ((l.length : Int) < i) = true := decide_eq_true h2
      gi_wp2_with (refine ⟨trivial, ?_⟩; gi_at_call 41; refine (callsIn_wide.2 (vlen_is HV.out)).mono ?_; rintro e w' ⟨rfl, rfl⟩)
      exact ⟨.tuple #[.int .i64 0, .int .i64 2], by simp [results, Tryz.results24, go_sem], by rw [HR.out], HA.out⟩
    · have d2 : decide ((l.length : Int) < i) = false := decide_eq_false h2
      by_cases h3 : a < 0
      · have HR := Lib.hid (show orgR l.length (verL s0 l n) a i = (0, 2) by unfold orgR; rw [if_pos (.inr (.inr h3))])
        have d3 : decide (a < 0) = true := decide_eq_true h3
        gi_wp2_with (refine ⟨trivial, ?_⟩; gi_at_call 41; refine (callsIn_wide.2 (vlen_is HV.out)).mono ?_; rintro e w' ⟨rfl, rfl⟩)
        exact ⟨.tuple #[.int .i64 0, .int .i64 2], by simp [results, Tryz.results24, go_sem], by rw [HR.out], HA.out⟩
      · obtain ⟨A, rfl⟩ : ∃ A : Nat, a = (A : Int) := ⟨a.toNat, by omega⟩
        have d3 : decide ((A : Int) < 0) = false := decide_eq_false h3
        have HR := Lib.hid (show orgR l.length (verL s0 l n) (A : Int) i = match orgF A none (backL i (verL s0 l n)) with | none => (0, 8) | some (o, _) => (o, 0) by unfold orgR; rw [if_neg (by omega)]; rfl)
        gi_wp2_with (refine ⟨trivial, ?_⟩; gi_at_call 41; refine (callsIn_wide.2 (vlen_is HV.out)).mono ?_; rintro e w' ⟨rfl, rfl⟩)
        clear x0 x1 x2 x3 x4 x5
        have c1 := ((Blk.new (w.alloc (.cells #[.int .i64 n.kind, .string (bs n.owner), .int .i64 n.num, .int .i64 n.idx, .string (bs n.text), .int .i64 (A : Int)] 28)) 3 #[.int .i64 0]).alloc (.cells #[.bool false] 4)).alloc (.cells #[.int .u8 0] 5)
        have c2 := (Blk.new ((w.alloc (.cells #[.int .i64 n.kind, .string (bs n.owner), .int .i64 n.num, .int .i64 n.idx, .string (bs n.text), .int .i64 (A : Int)] 28)).alloc (.cells #[.int .i64 0] 3)) 4 #[.bool false]).alloc (.cells #[.int .u8 0] 5)
        have c3 := Blk.new (((w.alloc (.cells #[.int .i64 n.kind, .string (bs n.owner), .int .i64 n.num, .int .i64 n.idx, .string (bs n.text), .int .i64 (A : Int)] 28)).alloc (.cells #[.int .i64 0] 3)).alloc (.cells #[.bool false] 4)) 5 #[.int .u8 0]
        have hz4 := ((HZ.out.alloc (.cells #[.int .i64 0] 3)).alloc (.cells #[.bool false] 4)).alloc (.cells #[.int .u8 0] 5)
        have hal := (((Below.refl (w.alloc (.cells #[.int .i64 n.kind, .string (bs n.owner), .int .i64 n.num, .int .i64 n.idx, .string (bs n.text), .int .i64 (A : Int)] 28)).heap.size (w.alloc (.cells #[.int .i64 n.kind, .string (bs n.owner), .int .i64 n.num, .int .i64 n.idx, .string (bs n.text), .int .i64 (A : Int)] 28))).alloc (Nat.le_refl _) (.cells #[.int .i64 0] 3)).alloc (by simp) (.cells #[.bool false] 4)).alloc (by simp) (.cells #[.int .u8 0] 5)
        simp only [World.size_alloc] at c1 c2 c3 hal
        have HC := Lib.hid (show OrgC none (w.heap.size + 1) (w.heap.size + 1 + 1) (w.heap.size + 1 + 1 + 1) _ from ⟨c1, c2, c3⟩)
        have HB4 := Lib.hid (HA.out.trans (hal.mono (by simp)))
        have HV4 := Lib.hid (HV.out.next (by rw [World.size_alloc]; exact hal))
        have HZ4 := Lib.hid hz4
        have hs4 : ((((w.alloc (.cells #[.int .i64 n.kind, .string (bs n.owner), .int .i64 n.num, .int .i64 n.idx, .string (bs n.text), .int .i64 (A : Int)] 28)).alloc (.cells #[.int .i64 0] 3)).alloc (.cells #[.bool false] 4)).alloc (.cells #[.int .u8 0] 5)).heap.size = w.heap.size + 4 := by simp
        clear c1 c2 c3 hal hz4 HV HA HZ
        generalize (((w.alloc (.cells #[.int .i64 n.kind, .string (bs n.owner), .int .i64 n.num, .int .i64 n.idx, .string (bs n.text), .int .i64 (A : Int)] 28)).alloc (.cells #[.int .i64 0] 3)).alloc (.cells #[.bool false] 4)).alloc (.cells #[.int .u8 0] 5) = W4 at *
        obtain ⟨b1, hb1⟩ : ∃ x, w.heap.size + 1 = x := ⟨_, rfl⟩
        rw [hb1] at HC ⊢
        obtain ⟨b2, hb2⟩ : ∃ x, b1 + 1 = x := ⟨_, rfl⟩
        rw [hb2] at HC ⊢
        obtain ⟨b3, hb3⟩ : ∃ x, b2 + 1 = x := ⟨_, rfl⟩
        rw [hb3] at HC ⊢
        obtain ⟨B, hB⟩ : ∃ x, w.heap.size = x := ⟨_, rfl⟩
        rw [hB] at HZ4 hs4 hb1 ⊢
        have HBB := Lib.hid hB
        rw [hB] at HB4
        clear hB
        refine ⟨trivial, ?_⟩
        gi_at_call 59
        refine (callsIn_wide.2 (backwards_is _ n i _)).mono ?_
        rintro e w' ⟨rfl, rfl⟩
        gi_wp2_with fail
        have K1 := ((Blk.new W4 46 #[.pointer (some ⟨g, 0, none⟩)]).alloc (.cells #[.int .i64 n.kind, .string (bs n.owner), .int .i64 n.num, .int .i64 n.idx, .string (bs n.text)] 26)).alloc (.cells #[.int .i64 i] 3)
        have K2 := (Blk.new (W4.alloc (.cells #[.pointer (some ⟨g, 0, none⟩)] 46)) 26 #[.int .i64 n.kind, .string (bs n.owner), .int .i64 n.num, .int .i64 n.idx, .string (bs n.text)]).alloc (.cells #[.int .i64 i] 3)
        have K3 := Blk.new ((W4.alloc (.cells #[.pointer (some ⟨g, 0, none⟩)] 46)).alloc (.cells #[.int .i64 n.kind, .string (bs n.owner), .int .i64 n.num, .int .i64 n.idx, .string (bs n.text)] 26)) 3 #[.int .i64 i]
        have h7 := (((Below.refl W4.heap.size W4).alloc (Nat.le_refl _) (.cells #[.pointer (some ⟨g, 0, none⟩)] 46)).alloc (by simp) (.cells #[.int .i64 n.kind, .string (bs n.owner), .int .i64 n.num, .int .i64 n.idx, .string (bs n.text)] 26)).alloc (by simp; omega) (.cells #[.int .i64 i] 3)
        have hs7 : (((W4.alloc (.cells #[.pointer (some ⟨g, 0, none⟩)] 46)).alloc (.cells #[.int .i64 n.kind, .string (bs n.owner), .int .i64 n.num, .int .i64 n.idx, .string (bs n.text)] 26)).alloc (.cells #[.int .i64 i] 3)).heap.size = W4.heap.size + 3 := by simp
        simp only [World.size_alloc] at K1 K2 K3
        have HK1 := Lib.hid K1
        have HK2 := Lib.hid K2
        have HK3 := Lib.hid (show Blk _ (W4.heap.size + 2) 3 #[.int .i64 i] from K3)
        have HC7 := Lib.hid (HC.out.next h7)
        have HV7 := Lib.hid (HV4.out.next h7)
        have HZ7 := Lib.hid (HZ4.out.next h7 HZ4.out.lt)
        have HB7 := Lib.hid (HB4.out.trans (h7.mono (by omega)))
        clear K1 K2 K3 h7 HC HV4 HZ4 HB4
        generalize ((W4.alloc (.cells #[.pointer (some ⟨g, 0, none⟩)] 46)).alloc (.cells #[.int .i64 n.kind, .string (bs n.owner), .int .i64 n.num, .int .i64 n.idx, .string (bs n.text)] 26)).alloc (.cells #[.int .i64 i] 3) = W7 at *
        rw [hs4] at hs7 HK1 HK2 HK3
        have hBw : B ≤ w.heap.size := by rw [HBB.out]; exact Nat.le_refl _
        obtain ⟨vs, hvs⟩ : ∃ vs, verL s0 l n = vs := ⟨_, rfl⟩
        have HVS := Lib.hid hvs
        have hseq := backwards_but (n := n) i HV7.out HN.out HO.out (B + 4) (B + 4 + 1) (B + 4 + 2) HK1.out HK2.out HK3.out B (fun k => k = b1 ∨ k = b2 ∨ k = b3) (fun k h => by omega) (by omega) 11 (by omega)
        rw [hvs] at hseq HR ⊢
        clear hvs
        refine wpIn_range_but rfl (by omega) (gf := 103) (lb := #[.pointer (some ⟨B + 4, 0, none⟩), .pointer (some ⟨B + 4 + 1, 0, none⟩), .pointer (some ⟨B + 4 + 2, 0, none⟩)]) rfl trivial (enters_of Tryz.func103 (by kernel_rfl) rfl) (show B ≤ W7.heap.size by omega) hseq (fun _ => rfl)
          (fun pre X => (∃ st, (∀ r, orgF A none (pre ++ r) = orgF A st r) ∧ OrgC st b1 b2 b3 X) ∧ Blk X B 28 #[.int .i64 n.kind, .string (bs n.owner), .int .i64 n.num, .int .i64 n.idx, .string (bs n.text), .int .i64 (A : Int)] ∧ W7.heap.size ≤ X.heap.size ∧ Below B w X)
          (fun c pre X => c = .exit 0 ∧ (∃ st, (∀ r, orgF A none (pre ++ r) = st) ∧ OrgC st b1 b2 b3 X) ∧ Below B w X)
          (fun s X Y row h hg hr => by
            obtain ⟨⟨st, h1, h2⟩, h3, h4, h5⟩ := h
            exact ⟨⟨st, h1, h2.row hg (fun r e => (hr r e).2)⟩, Blk_row h3 hg (fun r e => (hr r e).2), Nat.le_trans h4 hg.size, below_row h5 hBw (by omega) hg hr⟩)
          (fun c s X Y row h hg hr => by
            obtain ⟨h0, ⟨st, h1, h2⟩, h5⟩ := h
            exact ⟨h0, ⟨st, h1, h2.row hg (fun r e => (hr r e).2)⟩, below_row h5 hBw (by omega) hg hr⟩)
          ⟨⟨none, fun r => rfl, HC7.out⟩, HZ7.out, Nat.le_refl _, HB7.out⟩
          (fun x a' X => ∃ Bx, W7.heap.size ≤ Bx ∧ Blk X Bx 68 #[.int .i64 x.idx, .string (bs x.value), .bool x.absent] ∧ a' = { tmps := #[.pointer (some ⟨g, 0, none⟩), .agg #[.int .i64 n.kind, .string (bs n.owner), .int .i64 n.num, .int .i64 n.idx, .string (bs n.text), .int .i64 (A : Int)], .int .i64 i, undef, .pointer (some ⟨B, 0, none⟩), undef, .int .i64 0, .int .i64 0, .pointer (some ⟨b1, 0, none⟩), .pointer (some ⟨b2, 0, none⟩), .pointer (some ⟨b3, 0, none⟩), .pointer (some ⟨Bx, 0, none⟩), .pointer (some ⟨g, 0, none⟩), .bool false, .int .i64 i, .bool false, .bool false, .int .i64 i, .pointer (some ⟨g, 0, none⟩), .int .i64 l.length, .bool false, .bool false, .bool false, .pointer (some ⟨B, 5, none⟩), .int .i64 (A : Int), .bool false, .bool false, .pointer (some ⟨g, 0, none⟩), .pointer (some ⟨B, 0, none⟩), .agg #[.int .i64 n.kind, .string (bs n.owner), .int .i64 n.num, .int .i64 n.idx, .string (bs n.text)], .int .i64 i, .func (.func 103) #[] #[.pointer (some ⟨B + 4, 0, none⟩), .pointer (some ⟨B + 4 + 1, 0, none⟩), .pointer (some ⟨B + 4 + 2, 0, none⟩)], .agg #[.int .i64 x.idx, .string (bs x.value), .bool x.absent], undef, undef, undef, undef, undef, undef, undef, undef, undef, undef, undef, undef, undef, undef, undef, undef, undef, undef, undef, undef, undef, undef, undef, undef, undef, undef, undef, undef, undef, undef, undef, undef], defers := [] })
          (fun x a' _ X Y row h hg hr => by
            obtain ⟨Bx, h1, h2, h3⟩ := h
            exact ⟨Bx, h1, Blk_row h2 hg (fun r e => (hr r e).2), h3⟩) ?assign ?body ?done ?stop
        case assign =>
          rintro l' pre x X K ⟨⟨st, h1, h2⟩, h3, h4, h5⟩ hK
          simp only [veV]
          gi_wp2
          have hb := (Below.refl X.heap.size X).alloc (Nat.le_refl _) (.cells #[.int .i64 x.idx, .string (bs x.value), .bool x.absent] 68)
          exact hK _ _ ((KeepsOthers.alloc _ _).from _) (KpB.of_below hb (by omega)) ⟨⟨st, h1, h2.next hb⟩, h3.next hb h3.lt, Nat.le_trans h4 hb.size, h5.trans (hb.mono (by omega))⟩ ⟨X.heap.size, h4, Blk.new X _ _, rfl⟩
        case body =>
          rintro l' pre x a' X hl ⟨rr, hrr⟩ ⟨⟨st, h1, h2⟩, h3, h4, h5⟩ ⟨Bx, hBx, bX, rfl⟩ hlt
          obtain ⟨xi, xv, xa⟩ := x
          have c0 := bX.cell 0
          have c1 := bX.cell 1
          have c2 := bX.cell 2
          have p5 := h3.cell 5
          have t9 := h2.c2.cell 0
          have t10 := h2.c3.cell 0
          simp only [qB, qC, qD] at c0 c1 c2 p5 t9 t10
          have HX1 := Lib.hid h1
          have HX2 := Lib.hid h2
          have HX3 := Lib.hid h3
          have HX4 := Lib.hid h4
          have HX5 := Lib.hid h5
          have HBX := Lib.hid bX
          clear h1 h2 h3 h4 h5 hrr hseq HK1 HK2 HK3 HC7 HV7 HZ7 HB7 bX
          cases xa with
          | true =>
            have HH := Lib.hid (fun r => orgF_no A st (v := ⟨xi, xv, true⟩) rfl r)
            gi_wp2_with fail
            refine wpIn_region_quiet_round (F := Fence.wide) rfl (by kernel_rfl) (by kernel_rfl) (by kernel_rfl) ?_
            repeat (gi_big_quiet_step (fail))
            refine wpQuietIn_nil ?_
            intro _ hw'
            obtain ⟨nq, hw2⟩ := hw'
            subst hw2
            gi_wp2
            exact ⟨⟨Nat.le_refl _, fun k o _ h _ => h⟩, rfl, ⟨st, fun r => by rw [List.append_assoc, List.singleton_append, HX1.out]; exact HH.out r, HX2.out.next (below_drewN (Below.refl _ _) nq)⟩, HX5.out.trans (below_drewN (Below.refl _ _) nq)⟩
          | false =>
            rcases Nat.lt_or_ge A xv.length with hlA | hlA
            · have e1 : decide ((bs xv).size ≤ A) = false := decide_eq_false (by rw [bs_size]; omega)
              have e2 : ((A : Nat) : Int) < ((bs xv).size : Int) := by rw [bs_size]; omega
              have e3 : A < (bs xv).size := by rw [bs_size]; omega
              have hha := Lib.hid (show hasAt A ⟨xi, xv, false⟩ = true by unfold hasAt; simp [hlA])
              obtain ⟨bb, hbb⟩ : ∃ q, xv.getD A 0 = q := ⟨_, rfl⟩
              have HBB2 := Lib.hid hbb
              have e4 : (bs xv)[A]'e3 = bb := by
                rw [← hbb, List.getD_eq_getElem?_getD, List.getElem?_eq_getElem hlA]
                rfl
              clear hbb
              have f1 := HX2.out.c1.frozen 0
              have f2 := HX2.out.c2.frozen 0
              have f3 := HX2.out.c3.frozen 0
              have t8 := HX2.out.c1.cell 0
              simp only [List.getElem?_toArray, List.getElem?_cons_zero] at t8
              have n1 : ¬ b1 = Bx := by omega
              have n2 : ¬ Bx = b1 := by omega
              have n3 : ¬ b1 = B := by omega
              have n4 : ¬ B = b1 := by omega
              have HON := Lib.hid (fun (m : Nat) => org_on (W7.heap.size) B b1 b2 b3 hb1 hb2 hb3 m xi bb HX2.out HX3.out)
              have HPO : Hid ((∀ r, orgF A st (⟨xi, xv, false⟩ :: r) = orgF A (some (xi, bb)) r) → ∀ m : Nat, OnP A B b1 b2 b3 i n w W7 pre xi xv X ((((X.drewN m).setCell ⟨b1, 0, none⟩ (.int .i64 xi)).setCell ⟨b3, 0, none⟩ (.int .u8 bb.toNat)).setCell ⟨b2, 0, none⟩ (.bool true))) := Lib.hid (fun hgo m => ⟨(HON.out m).2.2.1, (HON.out m).2.1, ⟨some (xi, bb), fun r => by rw [List.append_assoc, List.singleton_append, HX1.out]; exact hgo r, (HON.out m).1⟩, (HON.out m).2.2.2, Nat.le_trans HX4.out (HON.out m).2.1.low.size, HX5.out.trans (HON.out m).2.1.low⟩)
              cases st with
              | none =>
                (try simp only [Option.isSome, stB] at t9 t10)
                have HPO2 := Lib.hid (HPO.out (fun r => by rw [orgF_first A hha.out]; exact congrArg (fun q => orgF A (some (xi, q)) r) HBB2.out))
                gi_wp2_with fail
                refine wpIn_region_quiet_round (F := Fence.wide) rfl (by kernel_rfl) (by kernel_rfl) (by kernel_rfl) ?_
                repeat (gi_big_quiet_step (fail))
                refine wpQuietIn_nil ?_
                intro _ hw'
                obtain ⟨nq, hw2⟩ := hw'
                subst hw2
                gi_wp2_with fail
                refine wpIn_region_any_round (F := Fence.wide) rfl (by kernel_rfl) (by kernel_rfl) ?_
                try (change wpAnyIn _ _ _ _ _ _ _ _ _ (World.drew _))
                refine wpAnyIn_take (i := 0) (v := ?_) rfl rfl (by kernel_rfl) (by kernel_rfl) (by kernel_rfl) (fun _ _ _ h => h) ⟨Or.inl ⟨by kernel_rfl, ?_⟩, fun w => rfl⟩ ?_
                rotate_left
                · (intro w; go_simp; try with_reducible rfl)
                try simp only [Act.put, pB, pC, pD]
                refine wpAnyIn_take (i := 2) (v := ?_) rfl rfl (by kernel_rfl) (by kernel_rfl) (by kernel_rfl) (fun _ _ _ h => h) ⟨Or.inl ⟨by kernel_rfl, ?_⟩, fun w => rfl⟩ ?_
                rotate_left
                · (intro w; go_simp; try with_reducible rfl)
                try simp only [Act.put, pB, pC, pD]
                refine wpAnyIn_take (i := 4) (v := ?_) rfl rfl (by kernel_rfl) (by kernel_rfl) (by kernel_rfl) (fun _ _ _ h => h) ⟨Or.inl ⟨by kernel_rfl, ?_⟩, fun w => rfl⟩ ?_
                rotate_left
                · (intro w; go_simp; try with_reducible rfl)
                try simp only [Act.put, pB, pC, pD]
                refine wpAnyIn_ready (rs := [1, 3, 5]) (by kernel_rfl) (by simp) ?_
                refine AllReadyIn.cons rfl (fun K hK => ?_) (AllReadyIn.cons rfl (fun K hK => ?_) (AllReadyIn.cons rfl (fun K hK => ?_) AllReadyIn.nil))
                · go_simp
                  refine hK _ _ ?_
                  clear hK K
                  refine wpAnyIn_ready (rs := [3, 5, 7]) (by kernel_rfl) (by simp) ?_
                  refine AllReadyIn.cons rfl (fun K hK => ?_) (AllReadyIn.cons rfl (fun K hK => ?_) (AllReadyIn.cons rfl (fun K hK => ?_) AllReadyIn.nil))
                  · go_simp
                    refine hK _ _ ?_
                    clear hK K
                    refine wpAnyIn_ready (rs := [5, 7]) (by kernel_rfl) (by simp) ?_
                    refine AllReadyIn.cons rfl (fun K hK => ?_) (AllReadyIn.cons rfl (fun K hK => ?_) AllReadyIn.nil)
                    · go_simp
                      refine hK _ _ ?_
                      clear hK K
                      refine wpAnyIn_ready (rs := [6, 7]) (by kernel_rfl) (by simp) ?_
                      refine AllReadyIn.cons rfl (fun K hK => ?_) (AllReadyIn.cons rfl (fun K hK => ?_) AllReadyIn.nil)
                      · go_simp
                        refine hK _ _ ?_
                        clear hK K
                        refine wpAnyIn_ready (rs := [7]) (by kernel_rfl) (by simp) ?_
                        refine AllReadyIn.cons rfl (fun K hK => ?_) AllReadyIn.nil
                        · go_simp
                          refine hK _ _ ?_
                          clear hK K
                          refine wpAnyIn_ready (rs := [8]) (by kernel_rfl) (by simp) ?_
                          refine AllReadyIn.cons rfl (fun K hK => ?_) AllReadyIn.nil
                          · go_simp
                            refine hK _ _ ?_
                            clear hK K
                            refine wpAnyIn_ready (rs := [9]) (by kernel_rfl) (by simp) ?_
                            refine AllReadyIn.cons rfl (fun K hK => ?_) AllReadyIn.nil
                            · go_simp
                              refine hK _ _ ?_
                              clear hK K
                              refine wpAnyIn_done (by kernel_rfl) ?_ _
                              gi_wp2
                              obtain ⟨q1, q2, q3, q4, q5, q6⟩ := HPO2.out (nq + 1)
                              exact ⟨q1, q2, q3, q4, q5, q6⟩
                      · go_simp
                        refine hK _ _ ?_
                        clear hK K
                        refine wpAnyIn_ready (rs := [6]) (by kernel_rfl) (by simp) ?_
                        refine AllReadyIn.cons rfl (fun K hK => ?_) AllReadyIn.nil
                        · go_simp
                          refine hK _ _ ?_
                          clear hK K
                          refine wpAnyIn_ready (rs := [8]) (by kernel_rfl) (by simp) ?_
                          refine AllReadyIn.cons rfl (fun K hK => ?_) AllReadyIn.nil
                          · go_simp
                            refine hK _ _ ?_
                            clear hK K
                            refine wpAnyIn_ready (rs := [9]) (by kernel_rfl) (by simp) ?_
                            refine AllReadyIn.cons rfl (fun K hK => ?_) AllReadyIn.nil
                            · go_simp
                              refine hK _ _ ?_
                              clear hK K
                              refine wpAnyIn_done (by kernel_rfl) ?_ _
                              gi_wp2
                              obtain ⟨q1, q2, q3, q4, q5, q6⟩ := HPO2.out (nq + 1)
                              exact ⟨q1, q2, q3, q4, q5, q6⟩
                    · go_simp
                      refine hK _ _ ?_
                      clear hK K
                      refine wpAnyIn_ready (rs := [5]) (by kernel_rfl) (by simp) ?_
                      refine AllReadyIn.cons rfl (fun K hK => ?_) AllReadyIn.nil
                      · go_simp
                        refine hK _ _ ?_
                        clear hK K
                        refine wpAnyIn_ready (rs := [6]) (by kernel_rfl) (by simp) ?_
                        refine AllReadyIn.cons rfl (fun K hK => ?_) AllReadyIn.nil
                        · go_simp
                          refine hK _ _ ?_
                          clear hK K
                          refine wpAnyIn_ready (rs := [8]) (by kernel_rfl) (by simp) ?_
                          refine AllReadyIn.cons rfl (fun K hK => ?_) AllReadyIn.nil
                          · go_simp
                            refine hK _ _ ?_
                            clear hK K
                            refine wpAnyIn_ready (rs := [9]) (by kernel_rfl) (by simp) ?_
                            refine AllReadyIn.cons rfl (fun K hK => ?_) AllReadyIn.nil
                            · go_simp
                              refine hK _ _ ?_
                              clear hK K
                              refine wpAnyIn_done (by kernel_rfl) ?_ _
                              gi_wp2
                              obtain ⟨q1, q2, q3, q4, q5, q6⟩ := HPO2.out (nq + 1)
                              exact ⟨q1, q2, q3, q4, q5, q6⟩
                  · go_simp
                    refine hK _ _ ?_
                    clear hK K
                    refine wpAnyIn_ready (rs := [3, 7]) (by kernel_rfl) (by simp) ?_
                    refine AllReadyIn.cons rfl (fun K hK => ?_) (AllReadyIn.cons rfl (fun K hK => ?_) AllReadyIn.nil)
                    · go_simp
                      refine hK _ _ ?_
                      clear hK K
                      refine wpAnyIn_ready (rs := [6, 7]) (by kernel_rfl) (by simp) ?_
                      refine AllReadyIn.cons rfl (fun K hK => ?_) (AllReadyIn.cons rfl (fun K hK => ?_) AllReadyIn.nil)
                      · go_simp
                        refine hK _ _ ?_
                        clear hK K
                        refine wpAnyIn_ready (rs := [7]) (by kernel_rfl) (by simp) ?_
                        refine AllReadyIn.cons rfl (fun K hK => ?_) AllReadyIn.nil
                        · go_simp
                          refine hK _ _ ?_
                          clear hK K
                          refine wpAnyIn_ready (rs := [8]) (by kernel_rfl) (by simp) ?_
                          refine AllReadyIn.cons rfl (fun K hK => ?_) AllReadyIn.nil
                          · go_simp
                            refine hK _ _ ?_
                            clear hK K
                            refine wpAnyIn_ready (rs := [9]) (by kernel_rfl) (by simp) ?_
                            refine AllReadyIn.cons rfl (fun K hK => ?_) AllReadyIn.nil
                            · go_simp
                              refine hK _ _ ?_
                              clear hK K
                              refine wpAnyIn_done (by kernel_rfl) ?_ _
                              gi_wp2
                              obtain ⟨q1, q2, q3, q4, q5, q6⟩ := HPO2.out (nq + 1)
                              exact ⟨q1, q2, q3, q4, q5, q6⟩
                      · go_simp
                        refine hK _ _ ?_
                        clear hK K
                        refine wpAnyIn_ready (rs := [6]) (by kernel_rfl) (by simp) ?_
                        refine AllReadyIn.cons rfl (fun K hK => ?_) AllReadyIn.nil
                        · go_simp
                          refine hK _ _ ?_
                          clear hK K
                          refine wpAnyIn_ready (rs := [8]) (by kernel_rfl) (by simp) ?_
                          refine AllReadyIn.cons rfl (fun K hK => ?_) AllReadyIn.nil
                          · go_simp
                            refine hK _ _ ?_
                            clear hK K
                            refine wpAnyIn_ready (rs := [9]) (by kernel_rfl) (by simp) ?_
                            refine AllReadyIn.cons rfl (fun K hK => ?_) AllReadyIn.nil
                            · go_simp
                              refine hK _ _ ?_
                              clear hK K
                              refine wpAnyIn_done (by kernel_rfl) ?_ _
                              gi_wp2
                              obtain ⟨q1, q2, q3, q4, q5, q6⟩ := HPO2.out (nq + 1)
                              exact ⟨q1, q2, q3, q4, q5, q6⟩
                    · go_simp
                      refine hK _ _ ?_
                      clear hK K
                      refine wpAnyIn_ready (rs := [3]) (by kernel_rfl) (by simp) ?_
                      refine AllReadyIn.cons rfl (fun K hK => ?_) AllReadyIn.nil
                      · go_simp
                        refine hK _ _ ?_
                        clear hK K
                        refine wpAnyIn_ready (rs := [6]) (by kernel_rfl) (by simp) ?_
                        refine AllReadyIn.cons rfl (fun K hK => ?_) AllReadyIn.nil
                        · go_simp
                          refine hK _ _ ?_
                          clear hK K
                          refine wpAnyIn_ready (rs := [8]) (by kernel_rfl) (by simp) ?_
                          refine AllReadyIn.cons rfl (fun K hK => ?_) AllReadyIn.nil
                          · go_simp
                            refine hK _ _ ?_
                            clear hK K
                            refine wpAnyIn_ready (rs := [9]) (by kernel_rfl) (by simp) ?_
                            refine AllReadyIn.cons rfl (fun K hK => ?_) AllReadyIn.nil
                            · go_simp
                              refine hK _ _ ?_
                              clear hK K
                              refine wpAnyIn_done (by kernel_rfl) ?_ _
                              gi_wp2
                              obtain ⟨q1, q2, q3, q4, q5, q6⟩ := HPO2.out (nq + 1)
                              exact ⟨q1, q2, q3, q4, q5, q6⟩
                  · go_simp
                    refine hK _ _ ?_
                    clear hK K
                    refine wpAnyIn_ready (rs := [3, 5]) (by kernel_rfl) (by simp) ?_
                    refine AllReadyIn.cons rfl (fun K hK => ?_) (AllReadyIn.cons rfl (fun K hK => ?_) AllReadyIn.nil)
                    · go_simp
                      refine hK _ _ ?_
                      clear hK K
                      refine wpAnyIn_ready (rs := [5]) (by kernel_rfl) (by simp) ?_
                      refine AllReadyIn.cons rfl (fun K hK => ?_) AllReadyIn.nil
                      · go_simp
                        refine hK _ _ ?_
                        clear hK K
                        refine wpAnyIn_ready (rs := [6]) (by kernel_rfl) (by simp) ?_
                        refine AllReadyIn.cons rfl (fun K hK => ?_) AllReadyIn.nil
                        · go_simp
                          refine hK _ _ ?_
                          clear hK K
                          refine wpAnyIn_ready (rs := [8]) (by kernel_rfl) (by simp) ?_
                          refine AllReadyIn.cons rfl (fun K hK => ?_) AllReadyIn.nil
                          · go_simp
                            refine hK _ _ ?_
                            clear hK K
                            refine wpAnyIn_ready (rs := [9]) (by kernel_rfl) (by simp) ?_
                            refine AllReadyIn.cons rfl (fun K hK => ?_) AllReadyIn.nil
                            · go_simp
                              refine hK _ _ ?_
                              clear hK K
                              refine wpAnyIn_done (by kernel_rfl) ?_ _
                              gi_wp2
                              obtain ⟨q1, q2, q3, q4, q5, q6⟩ := HPO2.out (nq + 1)
                              exact ⟨q1, q2, q3, q4, q5, q6⟩
                    · go_simp
                      refine hK _ _ ?_
                      clear hK K
                      refine wpAnyIn_ready (rs := [3]) (by kernel_rfl) (by simp) ?_
                      refine AllReadyIn.cons rfl (fun K hK => ?_) AllReadyIn.nil
                      · go_simp
                        refine hK _ _ ?_
                        clear hK K
                        refine wpAnyIn_ready (rs := [6]) (by kernel_rfl) (by simp) ?_
                        refine AllReadyIn.cons rfl (fun K hK => ?_) AllReadyIn.nil
                        · go_simp
                          refine hK _ _ ?_
                          clear hK K
                          refine wpAnyIn_ready (rs := [8]) (by kernel_rfl) (by simp) ?_
                          refine AllReadyIn.cons rfl (fun K hK => ?_) AllReadyIn.nil
                          · go_simp
                            refine hK _ _ ?_
                            clear hK K
                            refine wpAnyIn_ready (rs := [9]) (by kernel_rfl) (by simp) ?_
                            refine AllReadyIn.cons rfl (fun K hK => ?_) AllReadyIn.nil
                            · go_simp
                              refine hK _ _ ?_
                              clear hK K
                              refine wpAnyIn_done (by kernel_rfl) ?_ _
                              gi_wp2
                              obtain ⟨q1, q2, q3, q4, q5, q6⟩ := HPO2.out (nq + 1)
                              exact ⟨q1, q2, q3, q4, q5, q6⟩
                · go_simp
                  refine hK _ _ ?_
                  clear hK K
                  refine wpAnyIn_ready (rs := [1, 5]) (by kernel_rfl) (by simp) ?_
                  refine AllReadyIn.cons rfl (fun K hK => ?_) (AllReadyIn.cons rfl (fun K hK => ?_) AllReadyIn.nil)
                  · go_simp
                    refine hK _ _ ?_
                    clear hK K
                    refine wpAnyIn_ready (rs := [5, 7]) (by kernel_rfl) (by simp) ?_
                    refine AllReadyIn.cons rfl (fun K hK => ?_) (AllReadyIn.cons rfl (fun K hK => ?_) AllReadyIn.nil)
                    · go_simp
                      refine hK _ _ ?_
                      clear hK K
                      refine wpAnyIn_ready (rs := [6, 7]) (by kernel_rfl) (by simp) ?_
                      refine AllReadyIn.cons rfl (fun K hK => ?_) (AllReadyIn.cons rfl (fun K hK => ?_) AllReadyIn.nil)
                      · go_simp
                        refine hK _ _ ?_
                        clear hK K
                        refine wpAnyIn_ready (rs := [7]) (by kernel_rfl) (by simp) ?_
                        refine AllReadyIn.cons rfl (fun K hK => ?_) AllReadyIn.nil
                        · go_simp
                          refine hK _ _ ?_
                          clear hK K
                          refine wpAnyIn_ready (rs := [8]) (by kernel_rfl) (by simp) ?_
                          refine AllReadyIn.cons rfl (fun K hK => ?_) AllReadyIn.nil
                          · go_simp
                            refine hK _ _ ?_
                            clear hK K
                            refine wpAnyIn_ready (rs := [9]) (by kernel_rfl) (by simp) ?_
                            refine AllReadyIn.cons rfl (fun K hK => ?_) AllReadyIn.nil
                            · go_simp
                              refine hK _ _ ?_
                              clear hK K
                              refine wpAnyIn_done (by kernel_rfl) ?_ _
                              gi_wp2
                              obtain ⟨q1, q2, q3, q4, q5, q6⟩ := HPO2.out (nq + 1)
                              exact ⟨q1, q2, q3, q4, q5, q6⟩
                      · go_simp
                        refine hK _ _ ?_
                        clear hK K
                        refine wpAnyIn_ready (rs := [6]) (by kernel_rfl) (by simp) ?_
                        refine AllReadyIn.cons rfl (fun K hK => ?_) AllReadyIn.nil
                        · go_simp
                          refine hK _ _ ?_
                          clear hK K
                          refine wpAnyIn_ready (rs := [8]) (by kernel_rfl) (by simp) ?_
                          refine AllReadyIn.cons rfl (fun K hK => ?_) AllReadyIn.nil
                          · go_simp
                            refine hK _ _ ?_
                            clear hK K
                            refine wpAnyIn_ready (rs := [9]) (by kernel_rfl) (by simp) ?_
                            refine AllReadyIn.cons rfl (fun K hK => ?_) AllReadyIn.nil
                            · go_simp
                              refine hK _ _ ?_
                              clear hK K
                              refine wpAnyIn_done (by kernel_rfl) ?_ _
                              gi_wp2
                              obtain ⟨q1, q2, q3, q4, q5, q6⟩ := HPO2.out (nq + 1)
                              exact ⟨q1, q2, q3, q4, q5, q6⟩
                    · go_simp
                      refine hK _ _ ?_
                      clear hK K
                      refine wpAnyIn_ready (rs := [5]) (by kernel_rfl) (by simp) ?_
                      refine AllReadyIn.cons rfl (fun K hK => ?_) AllReadyIn.nil
                      · go_simp
                        refine hK _ _ ?_
                        clear hK K
                        refine wpAnyIn_ready (rs := [6]) (by kernel_rfl) (by simp) ?_
                        refine AllReadyIn.cons rfl (fun K hK => ?_) AllReadyIn.nil
                        · go_simp
                          refine hK _ _ ?_
                          clear hK K
                          refine wpAnyIn_ready (rs := [8]) (by kernel_rfl) (by simp) ?_
                          refine AllReadyIn.cons rfl (fun K hK => ?_) AllReadyIn.nil
                          · go_simp
                            refine hK _ _ ?_
                            clear hK K
                            refine wpAnyIn_ready (rs := [9]) (by kernel_rfl) (by simp) ?_
                            refine AllReadyIn.cons rfl (fun K hK => ?_) AllReadyIn.nil
                            · go_simp
                              refine hK _ _ ?_
                              clear hK K
                              refine wpAnyIn_done (by kernel_rfl) ?_ _
                              gi_wp2
                              obtain ⟨q1, q2, q3, q4, q5, q6⟩ := HPO2.out (nq + 1)
                              exact ⟨q1, q2, q3, q4, q5, q6⟩
                  · go_simp
                    refine hK _ _ ?_
                    clear hK K
                    refine wpAnyIn_ready (rs := [1, 6]) (by kernel_rfl) (by simp) ?_
                    refine AllReadyIn.cons rfl (fun K hK => ?_) (AllReadyIn.cons rfl (fun K hK => ?_) AllReadyIn.nil)
                    · go_simp
                      refine hK _ _ ?_
                      clear hK K
                      refine wpAnyIn_ready (rs := [6, 7]) (by kernel_rfl) (by simp) ?_
                      refine AllReadyIn.cons rfl (fun K hK => ?_) (AllReadyIn.cons rfl (fun K hK => ?_) AllReadyIn.nil)
                      · go_simp
                        refine hK _ _ ?_
                        clear hK K
                        refine wpAnyIn_ready (rs := [7]) (by kernel_rfl) (by simp) ?_
                        refine AllReadyIn.cons rfl (fun K hK => ?_) AllReadyIn.nil
                        · go_simp
                          refine hK _ _ ?_
                          clear hK K
                          refine wpAnyIn_ready (rs := [8]) (by kernel_rfl) (by simp) ?_
                          refine AllReadyIn.cons rfl (fun K hK => ?_) AllReadyIn.nil
                          · go_simp
                            refine hK _ _ ?_
                            clear hK K
                            refine wpAnyIn_ready (rs := [9]) (by kernel_rfl) (by simp) ?_
                            refine AllReadyIn.cons rfl (fun K hK => ?_) AllReadyIn.nil
                            · go_simp
                              refine hK _ _ ?_
                              clear hK K
                              refine wpAnyIn_done (by kernel_rfl) ?_ _
                              gi_wp2
                              obtain ⟨q1, q2, q3, q4, q5, q6⟩ := HPO2.out (nq + 1)
                              exact ⟨q1, q2, q3, q4, q5, q6⟩
                      · go_simp
                        refine hK _ _ ?_
                        clear hK K
                        refine wpAnyIn_ready (rs := [6]) (by kernel_rfl) (by simp) ?_
                        refine AllReadyIn.cons rfl (fun K hK => ?_) AllReadyIn.nil
                        · go_simp
                          refine hK _ _ ?_
                          clear hK K
                          refine wpAnyIn_ready (rs := [8]) (by kernel_rfl) (by simp) ?_
                          refine AllReadyIn.cons rfl (fun K hK => ?_) AllReadyIn.nil
                          · go_simp
                            refine hK _ _ ?_
                            clear hK K
                            refine wpAnyIn_ready (rs := [9]) (by kernel_rfl) (by simp) ?_
                            refine AllReadyIn.cons rfl (fun K hK => ?_) AllReadyIn.nil
                            · go_simp
                              refine hK _ _ ?_
                              clear hK K
                              refine wpAnyIn_done (by kernel_rfl) ?_ _
                              gi_wp2
                              obtain ⟨q1, q2, q3, q4, q5, q6⟩ := HPO2.out (nq + 1)
                              exact ⟨q1, q2, q3, q4, q5, q6⟩
                    · go_simp
                      refine hK _ _ ?_
                      clear hK K
                      refine wpAnyIn_ready (rs := [1]) (by kernel_rfl) (by simp) ?_
                      refine AllReadyIn.cons rfl (fun K hK => ?_) AllReadyIn.nil
                      · go_simp
                        refine hK _ _ ?_
                        clear hK K
                        refine wpAnyIn_ready (rs := [7]) (by kernel_rfl) (by simp) ?_
                        refine AllReadyIn.cons rfl (fun K hK => ?_) AllReadyIn.nil
                        · go_simp
                          refine hK _ _ ?_
                          clear hK K
                          refine wpAnyIn_ready (rs := [8]) (by kernel_rfl) (by simp) ?_
                          refine AllReadyIn.cons rfl (fun K hK => ?_) AllReadyIn.nil
                          · go_simp
                            refine hK _ _ ?_
                            clear hK K
                            refine wpAnyIn_ready (rs := [9]) (by kernel_rfl) (by simp) ?_
                            refine AllReadyIn.cons rfl (fun K hK => ?_) AllReadyIn.nil
                            · go_simp
                              refine hK _ _ ?_
                              clear hK K
                              refine wpAnyIn_done (by kernel_rfl) ?_ _
                              gi_wp2
                              obtain ⟨q1, q2, q3, q4, q5, q6⟩ := HPO2.out (nq + 1)
                              exact ⟨q1, q2, q3, q4, q5, q6⟩
                · go_simp
                  refine hK _ _ ?_
                  clear hK K
                  refine wpAnyIn_ready (rs := [1, 3]) (by kernel_rfl) (by simp) ?_
                  refine AllReadyIn.cons rfl (fun K hK => ?_) (AllReadyIn.cons rfl (fun K hK => ?_) AllReadyIn.nil)
                  · go_simp
                    refine hK _ _ ?_
                    clear hK K
                    refine wpAnyIn_ready (rs := [3, 7]) (by kernel_rfl) (by simp) ?_
                    refine AllReadyIn.cons rfl (fun K hK => ?_) (AllReadyIn.cons rfl (fun K hK => ?_) AllReadyIn.nil)
                    · go_simp
                      refine hK _ _ ?_
                      clear hK K
                      refine wpAnyIn_ready (rs := [6, 7]) (by kernel_rfl) (by simp) ?_
                      refine AllReadyIn.cons rfl (fun K hK => ?_) (AllReadyIn.cons rfl (fun K hK => ?_) AllReadyIn.nil)
                      · go_simp
                        refine hK _ _ ?_
                        clear hK K
                        refine wpAnyIn_ready (rs := [7]) (by kernel_rfl) (by simp) ?_
                        refine AllReadyIn.cons rfl (fun K hK => ?_) AllReadyIn.nil
                        · go_simp
                          refine hK _ _ ?_
                          clear hK K
                          refine wpAnyIn_ready (rs := [8]) (by kernel_rfl) (by simp) ?_
                          refine AllReadyIn.cons rfl (fun K hK => ?_) AllReadyIn.nil
                          · go_simp
                            refine hK _ _ ?_
                            clear hK K
                            refine wpAnyIn_ready (rs := [9]) (by kernel_rfl) (by simp) ?_
                            refine AllReadyIn.cons rfl (fun K hK => ?_) AllReadyIn.nil
                            · go_simp
                              refine hK _ _ ?_
                              clear hK K
                              refine wpAnyIn_done (by kernel_rfl) ?_ _
                              gi_wp2
                              obtain ⟨q1, q2, q3, q4, q5, q6⟩ := HPO2.out (nq + 1)
                              exact ⟨q1, q2, q3, q4, q5, q6⟩
                      · go_simp
                        refine hK _ _ ?_
                        clear hK K
                        refine wpAnyIn_ready (rs := [6]) (by kernel_rfl) (by simp) ?_
                        refine AllReadyIn.cons rfl (fun K hK => ?_) AllReadyIn.nil
                        · go_simp
                          refine hK _ _ ?_
                          clear hK K
                          refine wpAnyIn_ready (rs := [8]) (by kernel_rfl) (by simp) ?_
                          refine AllReadyIn.cons rfl (fun K hK => ?_) AllReadyIn.nil
                          · go_simp
                            refine hK _ _ ?_
                            clear hK K
                            refine wpAnyIn_ready (rs := [9]) (by kernel_rfl) (by simp) ?_
                            refine AllReadyIn.cons rfl (fun K hK => ?_) AllReadyIn.nil
                            · go_simp
                              refine hK _ _ ?_
                              clear hK K
                              refine wpAnyIn_done (by kernel_rfl) ?_ _
                              gi_wp2
                              obtain ⟨q1, q2, q3, q4, q5, q6⟩ := HPO2.out (nq + 1)
                              exact ⟨q1, q2, q3, q4, q5, q6⟩
                    · go_simp
                      refine hK _ _ ?_
                      clear hK K
                      refine wpAnyIn_ready (rs := [3]) (by kernel_rfl) (by simp) ?_
                      refine AllReadyIn.cons rfl (fun K hK => ?_) AllReadyIn.nil
                      · go_simp
                        refine hK _ _ ?_
                        clear hK K
                        refine wpAnyIn_ready (rs := [6]) (by kernel_rfl) (by simp) ?_
                        refine AllReadyIn.cons rfl (fun K hK => ?_) AllReadyIn.nil
                        · go_simp
                          refine hK _ _ ?_
                          clear hK K
                          refine wpAnyIn_ready (rs := [8]) (by kernel_rfl) (by simp) ?_
                          refine AllReadyIn.cons rfl (fun K hK => ?_) AllReadyIn.nil
                          · go_simp
                            refine hK _ _ ?_
                            clear hK K
                            refine wpAnyIn_ready (rs := [9]) (by kernel_rfl) (by simp) ?_
                            refine AllReadyIn.cons rfl (fun K hK => ?_) AllReadyIn.nil
                            · go_simp
                              refine hK _ _ ?_
                              clear hK K
                              refine wpAnyIn_done (by kernel_rfl) ?_ _
                              gi_wp2
                              obtain ⟨q1, q2, q3, q4, q5, q6⟩ := HPO2.out (nq + 1)
                              exact ⟨q1, q2, q3, q4, q5, q6⟩
                  · go_simp
                    refine hK _ _ ?_
                    clear hK K
                    refine wpAnyIn_ready (rs := [1, 6]) (by kernel_rfl) (by simp) ?_
                    refine AllReadyIn.cons rfl (fun K hK => ?_) (AllReadyIn.cons rfl (fun K hK => ?_) AllReadyIn.nil)
                    · go_simp
                      refine hK _ _ ?_
                      clear hK K
                      refine wpAnyIn_ready (rs := [6, 7]) (by kernel_rfl) (by simp) ?_
                      refine AllReadyIn.cons rfl (fun K hK => ?_) (AllReadyIn.cons rfl (fun K hK => ?_) AllReadyIn.nil)
                      · go_simp
                        refine hK _ _ ?_
                        clear hK K
                        refine wpAnyIn_ready (rs := [7]) (by kernel_rfl) (by simp) ?_
                        refine AllReadyIn.cons rfl (fun K hK => ?_) AllReadyIn.nil
                        · go_simp
                          refine hK _ _ ?_
                          clear hK K
                          refine wpAnyIn_ready (rs := [8]) (by kernel_rfl) (by simp) ?_
                          refine AllReadyIn.cons rfl (fun K hK => ?_) AllReadyIn.nil
                          · go_simp
                            refine hK _ _ ?_
                            clear hK K
                            refine wpAnyIn_ready (rs := [9]) (by kernel_rfl) (by simp) ?_
                            refine AllReadyIn.cons rfl (fun K hK => ?_) AllReadyIn.nil
                            · go_simp
                              refine hK _ _ ?_
                              clear hK K
                              refine wpAnyIn_done (by kernel_rfl) ?_ _
                              gi_wp2
                              obtain ⟨q1, q2, q3, q4, q5, q6⟩ := HPO2.out (nq + 1)
                              exact ⟨q1, q2, q3, q4, q5, q6⟩
                      · go_simp
                        refine hK _ _ ?_
                        clear hK K
                        refine wpAnyIn_ready (rs := [6]) (by kernel_rfl) (by simp) ?_
                        refine AllReadyIn.cons rfl (fun K hK => ?_) AllReadyIn.nil
                        · go_simp
                          refine hK _ _ ?_
                          clear hK K
                          refine wpAnyIn_ready (rs := [8]) (by kernel_rfl) (by simp) ?_
                          refine AllReadyIn.cons rfl (fun K hK => ?_) AllReadyIn.nil
                          · go_simp
                            refine hK _ _ ?_
                            clear hK K
                            refine wpAnyIn_ready (rs := [9]) (by kernel_rfl) (by simp) ?_
                            refine AllReadyIn.cons rfl (fun K hK => ?_) AllReadyIn.nil
                            · go_simp
                              refine hK _ _ ?_
                              clear hK K
                              refine wpAnyIn_done (by kernel_rfl) ?_ _
                              gi_wp2
                              obtain ⟨q1, q2, q3, q4, q5, q6⟩ := HPO2.out (nq + 1)
                              exact ⟨q1, q2, q3, q4, q5, q6⟩
                    · go_simp
                      refine hK _ _ ?_
                      clear hK K
                      refine wpAnyIn_ready (rs := [1]) (by kernel_rfl) (by simp) ?_
                      refine AllReadyIn.cons rfl (fun K hK => ?_) AllReadyIn.nil
                      · go_simp
                        refine hK _ _ ?_
                        clear hK K
                        refine wpAnyIn_ready (rs := [7]) (by kernel_rfl) (by simp) ?_
                        refine AllReadyIn.cons rfl (fun K hK => ?_) AllReadyIn.nil
                        · go_simp
                          refine hK _ _ ?_
                          clear hK K
                          refine wpAnyIn_ready (rs := [8]) (by kernel_rfl) (by simp) ?_
                          refine AllReadyIn.cons rfl (fun K hK => ?_) AllReadyIn.nil
                          · go_simp
                            refine hK _ _ ?_
                            clear hK K
                            refine wpAnyIn_ready (rs := [9]) (by kernel_rfl) (by simp) ?_
                            refine AllReadyIn.cons rfl (fun K hK => ?_) AllReadyIn.nil
                            · go_simp
                              refine hK _ _ ?_
                              clear hK K
                              refine wpAnyIn_done (by kernel_rfl) ?_ _
                              gi_wp2
                              obtain ⟨q1, q2, q3, q4, q5, q6⟩ := HPO2.out (nq + 1)
                              exact ⟨q1, q2, q3, q4, q5, q6⟩
              | some ob =>
                obtain ⟨oo, ob⟩ := ob
                (try simp only [Option.isSome, stB] at t9 t10)
                by_cases hne : bb = ob
                · subst hne
                  have HPO2 := Lib.hid (HPO.out (fun r => orgF_eq A hha.out HBB2.out r))
                  have e5 : (((bb.toNat : Int)) != ((bb.toNat : Int))) = false := by simp
                  gi_wp2_with fail
                  refine wpIn_region_quiet_round (F := Fence.wide) rfl (by kernel_rfl) (by kernel_rfl) (by kernel_rfl) ?_
                  repeat (gi_big_quiet_step (fail))
                  refine wpQuietIn_nil ?_
                  intro _ hw'
                  obtain ⟨nq, hw2⟩ := hw'
                  subst hw2
                  gi_wp2_with fail
                  refine wpIn_region_any_round (F := Fence.wide) rfl (by kernel_rfl) (by kernel_rfl) ?_
                  try (change wpAnyIn _ _ _ _ _ _ _ _ _ (World.drew _))
                  refine wpAnyIn_take (i := 0) (v := ?_) rfl rfl (by kernel_rfl) (by kernel_rfl) (by kernel_rfl) (fun _ _ _ h => h) ⟨Or.inl ⟨by kernel_rfl, ?_⟩, fun w => rfl⟩ ?_
                  rotate_left
                  · (intro w; go_simp; try with_reducible rfl)
                  try simp only [Act.put, pB, pC, pD]
                  refine wpAnyIn_take (i := 2) (v := ?_) rfl rfl (by kernel_rfl) (by kernel_rfl) (by kernel_rfl) (fun _ _ _ h => h) ⟨Or.inl ⟨by kernel_rfl, ?_⟩, fun w => rfl⟩ ?_
                  rotate_left
                  · (intro w; go_simp; try with_reducible rfl)
                  try simp only [Act.put, pB, pC, pD]
                  refine wpAnyIn_take (i := 4) (v := ?_) rfl rfl (by kernel_rfl) (by kernel_rfl) (by kernel_rfl) (fun _ _ _ h => h) ⟨Or.inl ⟨by kernel_rfl, ?_⟩, fun w => rfl⟩ ?_
                  rotate_left
                  · (intro w; go_simp; try with_reducible rfl)
                  try simp only [Act.put, pB, pC, pD]
                  refine wpAnyIn_ready (rs := [1, 3, 5]) (by kernel_rfl) (by simp) ?_
                  refine AllReadyIn.cons rfl (fun K hK => ?_) (AllReadyIn.cons rfl (fun K hK => ?_) (AllReadyIn.cons rfl (fun K hK => ?_) AllReadyIn.nil))
                  · go_simp
                    refine hK _ _ ?_
                    clear hK K
                    refine wpAnyIn_ready (rs := [3, 5, 7]) (by kernel_rfl) (by simp) ?_
                    refine AllReadyIn.cons rfl (fun K hK => ?_) (AllReadyIn.cons rfl (fun K hK => ?_) (AllReadyIn.cons rfl (fun K hK => ?_) AllReadyIn.nil))
                    · go_simp
                      refine hK _ _ ?_
                      clear hK K
                      refine wpAnyIn_ready (rs := [5, 7]) (by kernel_rfl) (by simp) ?_
                      refine AllReadyIn.cons rfl (fun K hK => ?_) (AllReadyIn.cons rfl (fun K hK => ?_) AllReadyIn.nil)
                      · go_simp
                        refine hK _ _ ?_
                        clear hK K
                        refine wpAnyIn_ready (rs := [6, 7]) (by kernel_rfl) (by simp) ?_
                        refine AllReadyIn.cons rfl (fun K hK => ?_) (AllReadyIn.cons rfl (fun K hK => ?_) AllReadyIn.nil)
                        · go_simp
                          refine hK _ _ ?_
                          clear hK K
                          refine wpAnyIn_ready (rs := [7]) (by kernel_rfl) (by simp) ?_
                          refine AllReadyIn.cons rfl (fun K hK => ?_) AllReadyIn.nil
                          · go_simp
                            refine hK _ _ ?_
                            clear hK K
                            refine wpAnyIn_ready (rs := [8]) (by kernel_rfl) (by simp) ?_
                            refine AllReadyIn.cons rfl (fun K hK => ?_) AllReadyIn.nil
                            · go_simp
                              refine hK _ _ ?_
                              clear hK K
                              refine wpAnyIn_ready (rs := [9]) (by kernel_rfl) (by simp) ?_
                              refine AllReadyIn.cons rfl (fun K hK => ?_) AllReadyIn.nil
                              · go_simp
                                refine hK _ _ ?_
                                clear hK K
                                refine wpAnyIn_done (by kernel_rfl) ?_ _
                                gi_wp2
                                obtain ⟨q1, q2, q3, q4, q5, q6⟩ := HPO2.out (nq + 1)
                                exact ⟨q1, q2, q3, q4, q5, q6⟩
                        · go_simp
                          refine hK _ _ ?_
                          clear hK K
                          refine wpAnyIn_ready (rs := [6]) (by kernel_rfl) (by simp) ?_
                          refine AllReadyIn.cons rfl (fun K hK => ?_) AllReadyIn.nil
                          · go_simp
                            refine hK _ _ ?_
                            clear hK K
                            refine wpAnyIn_ready (rs := [8]) (by kernel_rfl) (by simp) ?_
                            refine AllReadyIn.cons rfl (fun K hK => ?_) AllReadyIn.nil
                            · go_simp
                              refine hK _ _ ?_
                              clear hK K
                              refine wpAnyIn_ready (rs := [9]) (by kernel_rfl) (by simp) ?_
                              refine AllReadyIn.cons rfl (fun K hK => ?_) AllReadyIn.nil
                              · go_simp
                                refine hK _ _ ?_
                                clear hK K
                                refine wpAnyIn_done (by kernel_rfl) ?_ _
                                gi_wp2
                                obtain ⟨q1, q2, q3, q4, q5, q6⟩ := HPO2.out (nq + 1)
                                exact ⟨q1, q2, q3, q4, q5, q6⟩
                      · go_simp
                        refine hK _ _ ?_
                        clear hK K
                        refine wpAnyIn_ready (rs := [5]) (by kernel_rfl) (by simp) ?_
                        refine AllReadyIn.cons rfl (fun K hK => ?_) AllReadyIn.nil
                        · go_simp
                          refine hK _ _ ?_
                          clear hK K
                          refine wpAnyIn_ready (rs := [6]) (by kernel_rfl) (by simp) ?_
                          refine AllReadyIn.cons rfl (fun K hK => ?_) AllReadyIn.nil
                          · go_simp
                            refine hK _ _ ?_
                            clear hK K
                            refine wpAnyIn_ready (rs := [8]) (by kernel_rfl) (by simp) ?_
                            refine AllReadyIn.cons rfl (fun K hK => ?_) AllReadyIn.nil
                            · go_simp
                              refine hK _ _ ?_
                              clear hK K
                              refine wpAnyIn_ready (rs := [9]) (by kernel_rfl) (by simp) ?_
                              refine AllReadyIn.cons rfl (fun K hK => ?_) AllReadyIn.nil
                              · go_simp
                                refine hK _ _ ?_
                                clear hK K
                                refine wpAnyIn_done (by kernel_rfl) ?_ _
                                gi_wp2
                                obtain ⟨q1, q2, q3, q4, q5, q6⟩ := HPO2.out (nq + 1)
                                exact ⟨q1, q2, q3, q4, q5, q6⟩
                    · go_simp
                      refine hK _ _ ?_
                      clear hK K
                      refine wpAnyIn_ready (rs := [3, 7]) (by kernel_rfl) (by simp) ?_
                      refine AllReadyIn.cons rfl (fun K hK => ?_) (AllReadyIn.cons rfl (fun K hK => ?_) AllReadyIn.nil)
                      · go_simp
                        refine hK _ _ ?_
                        clear hK K
                        refine wpAnyIn_ready (rs := [6, 7]) (by kernel_rfl) (by simp) ?_
                        refine AllReadyIn.cons rfl (fun K hK => ?_) (AllReadyIn.cons rfl (fun K hK => ?_) AllReadyIn.nil)
                        · go_simp
                          refine hK _ _ ?_
                          clear hK K
                          refine wpAnyIn_ready (rs := [7]) (by kernel_rfl) (by simp) ?_
                          refine AllReadyIn.cons rfl (fun K hK => ?_) AllReadyIn.nil
                          · go_simp
                            refine hK _ _ ?_
                            clear hK K
                            refine wpAnyIn_ready (rs := [8]) (by kernel_rfl) (by simp) ?_
                            refine AllReadyIn.cons rfl (fun K hK => ?_) AllReadyIn.nil
                            · go_simp
                              refine hK _ _ ?_
                              clear hK K
                              refine wpAnyIn_ready (rs := [9]) (by kernel_rfl) (by simp) ?_
                              refine AllReadyIn.cons rfl (fun K hK => ?_) AllReadyIn.nil
                              · go_simp
                                refine hK _ _ ?_
                                clear hK K
                                refine wpAnyIn_done (by kernel_rfl) ?_ _
                                gi_wp2
                                obtain ⟨q1, q2, q3, q4, q5, q6⟩ := HPO2.out (nq + 1)
                                exact ⟨q1, q2, q3, q4, q5, q6⟩
                        · go_simp
                          refine hK _ _ ?_
                          clear hK K
                          refine wpAnyIn_ready (rs := [6]) (by kernel_rfl) (by simp) ?_
                          refine AllReadyIn.cons rfl (fun K hK => ?_) AllReadyIn.nil
                          · go_simp
                            refine hK _ _ ?_
                            clear hK K
                            refine wpAnyIn_ready (rs := [8]) (by kernel_rfl) (by simp) ?_
                            refine AllReadyIn.cons rfl (fun K hK => ?_) AllReadyIn.nil
                            · go_simp
                              refine hK _ _ ?_
                              clear hK K
                              refine wpAnyIn_ready (rs := [9]) (by kernel_rfl) (by simp) ?_
                              refine AllReadyIn.cons rfl (fun K hK => ?_) AllReadyIn.nil
                              · go_simp
                                refine hK _ _ ?_
                                clear hK K
                                refine wpAnyIn_done (by kernel_rfl) ?_ _
                                gi_wp2
                                obtain ⟨q1, q2, q3, q4, q5, q6⟩ := HPO2.out (nq + 1)
                                exact ⟨q1, q2, q3, q4, q5, q6⟩
                      · go_simp
                        refine hK _ _ ?_
                        clear hK K
                        refine wpAnyIn_ready (rs := [3]) (by kernel_rfl) (by simp) ?_
                        refine AllReadyIn.cons rfl (fun K hK => ?_) AllReadyIn.nil
                        · go_simp
                          refine hK _ _ ?_
                          clear hK K
                          refine wpAnyIn_ready (rs := [6]) (by kernel_rfl) (by simp) ?_
                          refine AllReadyIn.cons rfl (fun K hK => ?_) AllReadyIn.nil
                          · go_simp
                            refine hK _ _ ?_
                            clear hK K
                            refine wpAnyIn_ready (rs := [8]) (by kernel_rfl) (by simp) ?_
                            refine AllReadyIn.cons rfl (fun K hK => ?_) AllReadyIn.nil
                            · go_simp
                              refine hK _ _ ?_
                              clear hK K
                              refine wpAnyIn_ready (rs := [9]) (by kernel_rfl) (by simp) ?_
                              refine AllReadyIn.cons rfl (fun K hK => ?_) AllReadyIn.nil
                              · go_simp
                                refine hK _ _ ?_
                                clear hK K
                                refine wpAnyIn_done (by kernel_rfl) ?_ _
                                gi_wp2
                                obtain ⟨q1, q2, q3, q4, q5, q6⟩ := HPO2.out (nq + 1)
                                exact ⟨q1, q2, q3, q4, q5, q6⟩
                    · go_simp
                      refine hK _ _ ?_
                      clear hK K
                      refine wpAnyIn_ready (rs := [3, 5]) (by kernel_rfl) (by simp) ?_
                      refine AllReadyIn.cons rfl (fun K hK => ?_) (AllReadyIn.cons rfl (fun K hK => ?_) AllReadyIn.nil)
                      · go_simp
                        refine hK _ _ ?_
                        clear hK K
                        refine wpAnyIn_ready (rs := [5]) (by kernel_rfl) (by simp) ?_
                        refine AllReadyIn.cons rfl (fun K hK => ?_) AllReadyIn.nil
                        · go_simp
                          refine hK _ _ ?_
                          clear hK K
                          refine wpAnyIn_ready (rs := [6]) (by kernel_rfl) (by simp) ?_
                          refine AllReadyIn.cons rfl (fun K hK => ?_) AllReadyIn.nil
                          · go_simp
                            refine hK _ _ ?_
                            clear hK K
                            refine wpAnyIn_ready (rs := [8]) (by kernel_rfl) (by simp) ?_
                            refine AllReadyIn.cons rfl (fun K hK => ?_) AllReadyIn.nil
                            · go_simp
                              refine hK _ _ ?_
                              clear hK K
                              refine wpAnyIn_ready (rs := [9]) (by kernel_rfl) (by simp) ?_
                              refine AllReadyIn.cons rfl (fun K hK => ?_) AllReadyIn.nil
                              · go_simp
                                refine hK _ _ ?_
                                clear hK K
                                refine wpAnyIn_done (by kernel_rfl) ?_ _
                                gi_wp2
                                obtain ⟨q1, q2, q3, q4, q5, q6⟩ := HPO2.out (nq + 1)
                                exact ⟨q1, q2, q3, q4, q5, q6⟩
                      · go_simp
                        refine hK _ _ ?_
                        clear hK K
                        refine wpAnyIn_ready (rs := [3]) (by kernel_rfl) (by simp) ?_
                        refine AllReadyIn.cons rfl (fun K hK => ?_) AllReadyIn.nil
                        · go_simp
                          refine hK _ _ ?_
                          clear hK K
                          refine wpAnyIn_ready (rs := [6]) (by kernel_rfl) (by simp) ?_
                          refine AllReadyIn.cons rfl (fun K hK => ?_) AllReadyIn.nil
                          · go_simp
                            refine hK _ _ ?_
                            clear hK K
                            refine wpAnyIn_ready (rs := [8]) (by kernel_rfl) (by simp) ?_
                            refine AllReadyIn.cons rfl (fun K hK => ?_) AllReadyIn.nil
                            · go_simp
                              refine hK _ _ ?_
                              clear hK K
                              refine wpAnyIn_ready (rs := [9]) (by kernel_rfl) (by simp) ?_
                              refine AllReadyIn.cons rfl (fun K hK => ?_) AllReadyIn.nil
                              · go_simp
                                refine hK _ _ ?_
                                clear hK K
                                refine wpAnyIn_done (by kernel_rfl) ?_ _
                                gi_wp2
                                obtain ⟨q1, q2, q3, q4, q5, q6⟩ := HPO2.out (nq + 1)
                                exact ⟨q1, q2, q3, q4, q5, q6⟩
                  · go_simp
                    refine hK _ _ ?_
                    clear hK K
                    refine wpAnyIn_ready (rs := [1, 5]) (by kernel_rfl) (by simp) ?_
                    refine AllReadyIn.cons rfl (fun K hK => ?_) (AllReadyIn.cons rfl (fun K hK => ?_) AllReadyIn.nil)
                    · go_simp
                      refine hK _ _ ?_
                      clear hK K
                      refine wpAnyIn_ready (rs := [5, 7]) (by kernel_rfl) (by simp) ?_
                      refine AllReadyIn.cons rfl (fun K hK => ?_) (AllReadyIn.cons rfl (fun K hK => ?_) AllReadyIn.nil)
                      · go_simp
                        refine hK _ _ ?_
                        clear hK K
                        refine wpAnyIn_ready (rs := [6, 7]) (by kernel_rfl) (by simp) ?_
                        refine AllReadyIn.cons rfl (fun K hK => ?_) (AllReadyIn.cons rfl (fun K hK => ?_) AllReadyIn.nil)
                        · go_simp
                          refine hK _ _ ?_
                          clear hK K
                          refine wpAnyIn_ready (rs := [7]) (by kernel_rfl) (by simp) ?_
                          refine AllReadyIn.cons rfl (fun K hK => ?_) AllReadyIn.nil
                          · go_simp
                            refine hK _ _ ?_
                            clear hK K
                            refine wpAnyIn_ready (rs := [8]) (by kernel_rfl) (by simp) ?_
                            refine AllReadyIn.cons rfl (fun K hK => ?_) AllReadyIn.nil
                            · go_simp
                              refine hK _ _ ?_
                              clear hK K
                              refine wpAnyIn_ready (rs := [9]) (by kernel_rfl) (by simp) ?_
                              refine AllReadyIn.cons rfl (fun K hK => ?_) AllReadyIn.nil
                              · go_simp
                                refine hK _ _ ?_
                                clear hK K
                                refine wpAnyIn_done (by kernel_rfl) ?_ _
                                gi_wp2
                                obtain ⟨q1, q2, q3, q4, q5, q6⟩ := HPO2.out (nq + 1)
                                exact ⟨q1, q2, q3, q4, q5, q6⟩
                        · go_simp
                          refine hK _ _ ?_
                          clear hK K
                          refine wpAnyIn_ready (rs := [6]) (by kernel_rfl) (by simp) ?_
                          refine AllReadyIn.cons rfl (fun K hK => ?_) AllReadyIn.nil
                          · go_simp
                            refine hK _ _ ?_
                            clear hK K
                            refine wpAnyIn_ready (rs := [8]) (by kernel_rfl) (by simp) ?_
                            refine AllReadyIn.cons rfl (fun K hK => ?_) AllReadyIn.nil
                            · go_simp
                              refine hK _ _ ?_
                              clear hK K
                              refine wpAnyIn_ready (rs := [9]) (by kernel_rfl) (by simp) ?_
                              refine AllReadyIn.cons rfl (fun K hK => ?_) AllReadyIn.nil
                              · go_simp
                                refine hK _ _ ?_
                                clear hK K
                                refine wpAnyIn_done (by kernel_rfl) ?_ _
                                gi_wp2
                                obtain ⟨q1, q2, q3, q4, q5, q6⟩ := HPO2.out (nq + 1)
                                exact ⟨q1, q2, q3, q4, q5, q6⟩
                      · go_simp
                        refine hK _ _ ?_
                        clear hK K
                        refine wpAnyIn_ready (rs := [5]) (by kernel_rfl) (by simp) ?_
                        refine AllReadyIn.cons rfl (fun K hK => ?_) AllReadyIn.nil
                        · go_simp
                          refine hK _ _ ?_
                          clear hK K
                          refine wpAnyIn_ready (rs := [6]) (by kernel_rfl) (by simp) ?_
                          refine AllReadyIn.cons rfl (fun K hK => ?_) AllReadyIn.nil
                          · go_simp
                            refine hK _ _ ?_
                            clear hK K
                            refine wpAnyIn_ready (rs := [8]) (by kernel_rfl) (by simp) ?_
                            refine AllReadyIn.cons rfl (fun K hK => ?_) AllReadyIn.nil
                            · go_simp
                              refine hK _ _ ?_
                              clear hK K
                              refine wpAnyIn_ready (rs := [9]) (by kernel_rfl) (by simp) ?_
                              refine AllReadyIn.cons rfl (fun K hK => ?_) AllReadyIn.nil
                              · go_simp
                                refine hK _ _ ?_
                                clear hK K
                                refine wpAnyIn_done (by kernel_rfl) ?_ _
                                gi_wp2
                                obtain ⟨q1, q2, q3, q4, q5, q6⟩ := HPO2.out (nq + 1)
                                exact ⟨q1, q2, q3, q4, q5, q6⟩
                    · go_simp
                      refine hK _ _ ?_
                      clear hK K
                      refine wpAnyIn_ready (rs := [1, 6]) (by kernel_rfl) (by simp) ?_
                      refine AllReadyIn.cons rfl (fun K hK => ?_) (AllReadyIn.cons rfl (fun K hK => ?_) AllReadyIn.nil)
                      · go_simp
                        refine hK _ _ ?_
                        clear hK K
                        refine wpAnyIn_ready (rs := [6, 7]) (by kernel_rfl) (by simp) ?_
                        refine AllReadyIn.cons rfl (fun K hK => ?_) (AllReadyIn.cons rfl (fun K hK => ?_) AllReadyIn.nil)
                        · go_simp
                          refine hK _ _ ?_
                          clear hK K
                          refine wpAnyIn_ready (rs := [7]) (by kernel_rfl) (by simp) ?_
                          refine AllReadyIn.cons rfl (fun K hK => ?_) AllReadyIn.nil
                          · go_simp
                            refine hK _ _ ?_
                            clear hK K
                            refine wpAnyIn_ready (rs := [8]) (by kernel_rfl) (by simp) ?_
                            refine AllReadyIn.cons rfl (fun K hK => ?_) AllReadyIn.nil
                            · go_simp
                              refine hK _ _ ?_
                              clear hK K
                              refine wpAnyIn_ready (rs := [9]) (by kernel_rfl) (by simp) ?_
                              refine AllReadyIn.cons rfl (fun K hK => ?_) AllReadyIn.nil
                              · go_simp
                                refine hK _ _ ?_
                                clear hK K
                                refine wpAnyIn_done (by kernel_rfl) ?_ _
                                gi_wp2
                                obtain ⟨q1, q2, q3, q4, q5, q6⟩ := HPO2.out (nq + 1)
                                exact ⟨q1, q2, q3, q4, q5, q6⟩
                        · go_simp
                          refine hK _ _ ?_
                          clear hK K
                          refine wpAnyIn_ready (rs := [6]) (by kernel_rfl) (by simp) ?_
                          refine AllReadyIn.cons rfl (fun K hK => ?_) AllReadyIn.nil
                          · go_simp
                            refine hK _ _ ?_
                            clear hK K
                            refine wpAnyIn_ready (rs := [8]) (by kernel_rfl) (by simp) ?_
                            refine AllReadyIn.cons rfl (fun K hK => ?_) AllReadyIn.nil
                            · go_simp
                              refine hK _ _ ?_
                              clear hK K
                              refine wpAnyIn_ready (rs := [9]) (by kernel_rfl) (by simp) ?_
                              refine AllReadyIn.cons rfl (fun K hK => ?_) AllReadyIn.nil
                              · go_simp
                                refine hK _ _ ?_
                                clear hK K
                                refine wpAnyIn_done (by kernel_rfl) ?_ _
                                gi_wp2
                                obtain ⟨q1, q2, q3, q4, q5, q6⟩ := HPO2.out (nq + 1)
                                exact ⟨q1, q2, q3, q4, q5, q6⟩
                      · go_simp
                        refine hK _ _ ?_
                        clear hK K
                        refine wpAnyIn_ready (rs := [1]) (by kernel_rfl) (by simp) ?_
                        refine AllReadyIn.cons rfl (fun K hK => ?_) AllReadyIn.nil
                        · go_simp
                          refine hK _ _ ?_
                          clear hK K
                          refine wpAnyIn_ready (rs := [7]) (by kernel_rfl) (by simp) ?_
                          refine AllReadyIn.cons rfl (fun K hK => ?_) AllReadyIn.nil
                          · go_simp
                            refine hK _ _ ?_
                            clear hK K
                            refine wpAnyIn_ready (rs := [8]) (by kernel_rfl) (by simp) ?_
                            refine AllReadyIn.cons rfl (fun K hK => ?_) AllReadyIn.nil
                            · go_simp
                              refine hK _ _ ?_
                              clear hK K
                              refine wpAnyIn_ready (rs := [9]) (by kernel_rfl) (by simp) ?_
                              refine AllReadyIn.cons rfl (fun K hK => ?_) AllReadyIn.nil
                              · go_simp
                                refine hK _ _ ?_
                                clear hK K
                                refine wpAnyIn_done (by kernel_rfl) ?_ _
                                gi_wp2
                                obtain ⟨q1, q2, q3, q4, q5, q6⟩ := HPO2.out (nq + 1)
                                exact ⟨q1, q2, q3, q4, q5, q6⟩
                  · go_simp
                    refine hK _ _ ?_
                    clear hK K
                    refine wpAnyIn_ready (rs := [1, 3]) (by kernel_rfl) (by simp) ?_
                    refine AllReadyIn.cons rfl (fun K hK => ?_) (AllReadyIn.cons rfl (fun K hK => ?_) AllReadyIn.nil)
                    · go_simp
                      refine hK _ _ ?_
                      clear hK K
                      refine wpAnyIn_ready (rs := [3, 7]) (by kernel_rfl) (by simp) ?_
                      refine AllReadyIn.cons rfl (fun K hK => ?_) (AllReadyIn.cons rfl (fun K hK => ?_) AllReadyIn.nil)
                      · go_simp
                        refine hK _ _ ?_
                        clear hK K
                        refine wpAnyIn_ready (rs := [6, 7]) (by kernel_rfl) (by simp) ?_
                        refine AllReadyIn.cons rfl (fun K hK => ?_) (AllReadyIn.cons rfl (fun K hK => ?_) AllReadyIn.nil)
                        · go_simp
                          refine hK _ _ ?_
                          clear hK K
                          refine wpAnyIn_ready (rs := [7]) (by kernel_rfl) (by simp) ?_
                          refine AllReadyIn.cons rfl (fun K hK => ?_) AllReadyIn.nil
                          · go_simp
                            refine hK _ _ ?_
                            clear hK K
                            refine wpAnyIn_ready (rs := [8]) (by kernel_rfl) (by simp) ?_
                            refine AllReadyIn.cons rfl (fun K hK => ?_) AllReadyIn.nil
                            · go_simp
                              refine hK _ _ ?_
                              clear hK K
                              refine wpAnyIn_ready (rs := [9]) (by kernel_rfl) (by simp) ?_
                              refine AllReadyIn.cons rfl (fun K hK => ?_) AllReadyIn.nil
                              · go_simp
                                refine hK _ _ ?_
                                clear hK K
                                refine wpAnyIn_done (by kernel_rfl) ?_ _
                                gi_wp2
                                obtain ⟨q1, q2, q3, q4, q5, q6⟩ := HPO2.out (nq + 1)
                                exact ⟨q1, q2, q3, q4, q5, q6⟩
                        · go_simp
                          refine hK _ _ ?_
                          clear hK K
                          refine wpAnyIn_ready (rs := [6]) (by kernel_rfl) (by simp) ?_
                          refine AllReadyIn.cons rfl (fun K hK => ?_) AllReadyIn.nil
                          · go_simp
                            refine hK _ _ ?_
                            clear hK K
                            refine wpAnyIn_ready (rs := [8]) (by kernel_rfl) (by simp) ?_
                            refine AllReadyIn.cons rfl (fun K hK => ?_) AllReadyIn.nil
                            · go_simp
                              refine hK _ _ ?_
                              clear hK K
                              refine wpAnyIn_ready (rs := [9]) (by kernel_rfl) (by simp) ?_
                              refine AllReadyIn.cons rfl (fun K hK => ?_) AllReadyIn.nil
                              · go_simp
                                refine hK _ _ ?_
                                clear hK K
                                refine wpAnyIn_done (by kernel_rfl) ?_ _
                                gi_wp2
                                obtain ⟨q1, q2, q3, q4, q5, q6⟩ := HPO2.out (nq + 1)
                                exact ⟨q1, q2, q3, q4, q5, q6⟩
                      · go_simp
                        refine hK _ _ ?_
                        clear hK K
                        refine wpAnyIn_ready (rs := [3]) (by kernel_rfl) (by simp) ?_
                        refine AllReadyIn.cons rfl (fun K hK => ?_) AllReadyIn.nil
                        · go_simp
                          refine hK _ _ ?_
                          clear hK K
                          refine wpAnyIn_ready (rs := [6]) (by kernel_rfl) (by simp) ?_
                          refine AllReadyIn.cons rfl (fun K hK => ?_) AllReadyIn.nil
                          · go_simp
                            refine hK _ _ ?_
                            clear hK K
                            refine wpAnyIn_ready (rs := [8]) (by kernel_rfl) (by simp) ?_
                            refine AllReadyIn.cons rfl (fun K hK => ?_) AllReadyIn.nil
                            · go_simp
                              refine hK _ _ ?_
                              clear hK K
                              refine wpAnyIn_ready (rs := [9]) (by kernel_rfl) (by simp) ?_
                              refine AllReadyIn.cons rfl (fun K hK => ?_) AllReadyIn.nil
                              · go_simp
                                refine hK _ _ ?_
                                clear hK K
                                refine wpAnyIn_done (by kernel_rfl) ?_ _
                                gi_wp2
                                obtain ⟨q1, q2, q3, q4, q5, q6⟩ := HPO2.out (nq + 1)
                                exact ⟨q1, q2, q3, q4, q5, q6⟩
                    · go_simp
                      refine hK _ _ ?_
                      clear hK K
                      refine wpAnyIn_ready (rs := [1, 6]) (by kernel_rfl) (by simp) ?_
                      refine AllReadyIn.cons rfl (fun K hK => ?_) (AllReadyIn.cons rfl (fun K hK => ?_) AllReadyIn.nil)
                      · go_simp
                        refine hK _ _ ?_
                        clear hK K
                        refine wpAnyIn_ready (rs := [6, 7]) (by kernel_rfl) (by simp) ?_
                        refine AllReadyIn.cons rfl (fun K hK => ?_) (AllReadyIn.cons rfl (fun K hK => ?_) AllReadyIn.nil)
                        · go_simp
                          refine hK _ _ ?_
                          clear hK K
                          refine wpAnyIn_ready (rs := [7]) (by kernel_rfl) (by simp) ?_
                          refine AllReadyIn.cons rfl (fun K hK => ?_) AllReadyIn.nil
                          · go_simp
                            refine hK _ _ ?_
                            clear hK K
                            refine wpAnyIn_ready (rs := [8]) (by kernel_rfl) (by simp) ?_
                            refine AllReadyIn.cons rfl (fun K hK => ?_) AllReadyIn.nil
                            · go_simp
                              refine hK _ _ ?_
                              clear hK K
                              refine wpAnyIn_ready (rs := [9]) (by kernel_rfl) (by simp) ?_
                              refine AllReadyIn.cons rfl (fun K hK => ?_) AllReadyIn.nil
                              · go_simp
                                refine hK _ _ ?_
                                clear hK K
                                refine wpAnyIn_done (by kernel_rfl) ?_ _
                                gi_wp2
                                obtain ⟨q1, q2, q3, q4, q5, q6⟩ := HPO2.out (nq + 1)
                                exact ⟨q1, q2, q3, q4, q5, q6⟩
                        · go_simp
                          refine hK _ _ ?_
                          clear hK K
                          refine wpAnyIn_ready (rs := [6]) (by kernel_rfl) (by simp) ?_
                          refine AllReadyIn.cons rfl (fun K hK => ?_) AllReadyIn.nil
                          · go_simp
                            refine hK _ _ ?_
                            clear hK K
                            refine wpAnyIn_ready (rs := [8]) (by kernel_rfl) (by simp) ?_
                            refine AllReadyIn.cons rfl (fun K hK => ?_) AllReadyIn.nil
                            · go_simp
                              refine hK _ _ ?_
                              clear hK K
                              refine wpAnyIn_ready (rs := [9]) (by kernel_rfl) (by simp) ?_
                              refine AllReadyIn.cons rfl (fun K hK => ?_) AllReadyIn.nil
                              · go_simp
                                refine hK _ _ ?_
                                clear hK K
                                refine wpAnyIn_done (by kernel_rfl) ?_ _
                                gi_wp2
                                obtain ⟨q1, q2, q3, q4, q5, q6⟩ := HPO2.out (nq + 1)
                                exact ⟨q1, q2, q3, q4, q5, q6⟩
                      · go_simp
                        refine hK _ _ ?_
                        clear hK K
                        refine wpAnyIn_ready (rs := [1]) (by kernel_rfl) (by simp) ?_
                        refine AllReadyIn.cons rfl (fun K hK => ?_) AllReadyIn.nil
                        · go_simp
                          refine hK _ _ ?_
                          clear hK K
                          refine wpAnyIn_ready (rs := [7]) (by kernel_rfl) (by simp) ?_
                          refine AllReadyIn.cons rfl (fun K hK => ?_) AllReadyIn.nil
                          · go_simp
                            refine hK _ _ ?_
                            clear hK K
                            refine wpAnyIn_ready (rs := [8]) (by kernel_rfl) (by simp) ?_
                            refine AllReadyIn.cons rfl (fun K hK => ?_) AllReadyIn.nil
                            · go_simp
                              refine hK _ _ ?_
                              clear hK K
                              refine wpAnyIn_ready (rs := [9]) (by kernel_rfl) (by simp) ?_
                              refine AllReadyIn.cons rfl (fun K hK => ?_) AllReadyIn.nil
                              · go_simp
                                refine hK _ _ ?_
                                clear hK K
                                refine wpAnyIn_done (by kernel_rfl) ?_ _
                                gi_wp2
                                obtain ⟨q1, q2, q3, q4, q5, q6⟩ := HPO2.out (nq + 1)
                                exact ⟨q1, q2, q3, q4, q5, q6⟩
                · have HH := Lib.hid (fun r => orgF_ne A (o := oo) (v := ⟨xi, xv, false⟩) (fun e => hne (HBB2.out.symm.trans e)) r)
                  have e5 : (((bb.toNat : Int)) != ((ob.toNat : Int))) = true := by
                    rw [bne_iff_ne]
                    intro e
                    exact hne (UInt8.toNat_inj.1 (by omega))
                  clear hne
                  gi_wp2_with fail
                  refine wpIn_region_quiet_round (F := Fence.wide) rfl (by kernel_rfl) (by kernel_rfl) (by kernel_rfl) ?_
                  repeat (gi_big_quiet_step (fail))
                  refine wpQuietIn_nil ?_
                  intro _ hw'
                  obtain ⟨nq, hw2⟩ := hw'
                  subst hw2
                  gi_wp2
                  exact ⟨⟨Nat.le_refl _, fun k o _ h _ => h⟩, rfl, ⟨some (oo, ob), fun r => by rw [List.append_assoc, List.singleton_append, HX1.out]; exact HH.out r, HX2.out.next (below_drewN (Below.refl _ _) nq)⟩, HX5.out.trans (below_drewN (Below.refl _ _) nq)⟩
            · have e1 : decide ((bs xv).size ≤ A) = true := decide_eq_true (by rw [bs_size]; omega)
              have HH := Lib.hid (fun r => orgF_no A st (v := ⟨xi, xv, false⟩) (show hasAt A ⟨xi, xv, false⟩ = false by unfold hasAt; simp; omega) r)
              gi_wp2_with fail
              refine wpIn_region_quiet_round (F := Fence.wide) rfl (by kernel_rfl) (by kernel_rfl) (by kernel_rfl) ?_
              repeat (gi_big_quiet_step (fail))
              refine wpQuietIn_nil ?_
              intro _ hw'
              obtain ⟨nq, hw2⟩ := hw'
              subst hw2
              gi_wp2
              exact ⟨⟨Nat.le_refl _, fun k o _ h _ => h⟩, rfl, ⟨st, fun r => by rw [List.append_assoc, List.singleton_append, HX1.out]; exact HH.out r, HX2.out.next (below_drewN (Below.refl _ _) nq)⟩, HX5.out.trans (below_drewN (Below.refl _ _) nq)⟩
        case done =>
          rintro D ys X hD rfl ⟨⟨st, h1, h2⟩, h3, h4, h5⟩ hK
          have hst : orgF A none (backL i vs) = st := by have := h1 []; rw [List.append_nil, orgF_nil] at this; exact this
          have HRS := Lib.hid HR
          have HST := Lib.hid hst
          have hbl := below_row h5 hBw (show B ≤ W7.heap.size by omega) (grownBy_putObj' X D (.deferred none)) (fun r e => by cases e; exact ⟨hD, _, hK, rfl⟩)
          have HBL := Lib.hid hbl
          have y1 := h2.c1.cell 0
          have y2 := h2.c2.cell 0
          simp only [List.getElem?_toArray, List.getElem?_cons_zero] at y1 y2
          have HK := Lib.hid hK
          clear hst hbl HR h1 h2 hK
          cases st with
          | none =>
            (try simp only [Option.isSome] at y2)
            gi_wp2
            refine ⟨by simp, .inl ⟨_, _, rfl, run_takeDeferred HK.out, ?_⟩⟩
            exact ⟨.tuple #[.int .i64 0, .int .i64 8], by simp [results, Tryz.results24, go_sem], by rw [HVS.out, HRS.out.out, HST.out], by rw [HBB.out]; exact HBL.out⟩
          | some ob =>
            obtain ⟨oo, bb⟩ := ob
            (try simp only [Option.isSome, stI] at y1 y2)
            gi_wp2
            refine ⟨by simp, .inl ⟨_, _, rfl, run_takeDeferred HK.out, ?_⟩⟩
            exact ⟨.tuple #[.int .i64 oo, .int .i64 0], by simp [results, Tryz.results24, go_sem], by rw [HVS.out, HRS.out.out, HST.out], by rw [HBB.out]; exact HBL.out⟩
        case stop =>
          rintro D c pre X hD ⟨rest, hrest⟩ ⟨rfl, ⟨st, h1, h2⟩, h5⟩ hK
          have hst : orgF A none (backL i vs) = st := by rw [← hrest]; exact h1 rest
          have HRS := Lib.hid HR
          have HST := Lib.hid hst
          have hbl := below_row h5 hBw (show B ≤ W7.heap.size by omega) (grownBy_putObj' X D (.deferred none)) (fun r e => by cases e; exact ⟨hD, _, hK, rfl⟩)
          have HBL := Lib.hid hbl
          have y1 := h2.c1.cell 0
          have y2 := h2.c2.cell 0
          simp only [List.getElem?_toArray, List.getElem?_cons_zero] at y1 y2
          have HK := Lib.hid hK
          clear hst hbl HR h1 h2 hK
          cases st with
          | none =>
            (try simp only [Option.isSome] at y2)
            gi_wp2
            refine ⟨by simp, .inl ⟨_, _, rfl, run_takeDeferred HK.out, ?_⟩⟩
            exact ⟨.tuple #[.int .i64 0, .int .i64 8], by simp [results, Tryz.results24, go_sem], by rw [HVS.out, HRS.out.out, HST.out], by rw [HBB.out]; exact HBL.out⟩
          | some ob =>
            obtain ⟨oo, bb⟩ := ob
            (try simp only [Option.isSome, stI] at y1 y2)
            gi_wp2
            refine ⟨by simp, .inl ⟨_, _, rfl, run_takeDeferred HK.out, ?_⟩⟩
            exact ⟨.tuple #[.int .i64 oo, .int .i64 0], by simp [results, Tryz.results24, go_sem], by rw [HVS.out, HRS.out.out, HST.out], by rw [HBB.out]; exact HBL.out⟩
end Go.Proofs.YtamjllakfgphnaaGreatDoor
namespace Go.Proofs.YtamjllakfgphnaaGreatDoor
open Go.RowKit
set_option linter.unusedSimpArgs false
set_option linter.unusedVariables false
attribute [local go_sem ↓] Go.wp_at_zero Go.wp_at_succ
abbrev RdSt (w : World) (v : Value) (l : List Bs) : Prop := RdP 22 (fun s => [Value.string (bs s)]) w v l
theorem RdSt.piece {w : World} {A : Option Addr} {n c : Nat} {l : List Bs} (h : RdSt w (.slice A n c) l) {k : Nat} (hk : k < l.length) : ∃ b o, A = some ⟨b, o, none⟩ ∧ b < w.heap.size ∧ w.cell? ⟨b, o + k, none⟩ = some (.string (bs l[k])) := by
  obtain ⟨b, o, e, hb, hc⟩ := RdP.at_ (s := 1) h (fun _ => rfl) hk
  have := hc 0 _ rfl
  rw [Nat.mul_one, Nat.add_zero] at this
  exact ⟨b, o, e, hb, this⟩
theorem RdIn_piece {w : World} {A : Option Addr} {n c : Nat} {l : List Int} (h : RdIn w (.slice A n c) l) {k : Nat} (hk : k < l.length) : ∃ b o, A = some ⟨b, o, none⟩ ∧ b < w.heap.size ∧ w.cell? ⟨b, o + k, none⟩ = some (.int .i64 l[k]) := by
  obtain ⟨b, o, e, hb, hc⟩ := RdP.at_ (s := 1) h inC_len hk
  have := hc 0 _ rfl
  rw [Nat.mul_one, Nat.add_zero] at this
  exact ⟨b, o, e, hb, this⟩
end Go.Proofs.YtamjllakfgphnaaGreatDoor
namespace Go.Proofs.YtamjllakfgphnaaGreatDoor
open Go
theorem ask_mono {α : Type} : ∀ (s : Ask α) (w : World), w.drawn ≤ (w.ask s).2.drawn
  | .done a, w => Nat.le_refl _
  | .ask what range k, w => by
    simp only [World.ask]
    split
    · exact ask_mono _ _
    · exact Nat.le_trans (Nat.le_succ w.drawn) (ask_mono _ { w with drawn := w.drawn + 1 })
theorem sys_mono (w : World) (c : Sys) : w.drawn ≤ (w.sys c).2.drawn := by
  have h := ask_mono (Kernel.perform c w.os) w
  unfold World.sys
  split
  · exact Nat.le_refl _
  · rename_i r os w' _ e
    rw [e] at h
    exact h
def Result.w {α : Type} : Result α → World
  | .ok _ w => w
  | .halt _ w => w
theorem viewStore_drawn {p : Program} {w w' : World} {at_ : Addr} {u : TypeId} {a : Addr} {v : Value} {b : Bool} {l : List Addr} (h : w.viewStore p at_ u a v b = .ok (w', l)) : w'.drawn = w.drawn := by
  unfold World.viewStore at h
  simp only [bind, Except.bind, pure, Except.pure, MonadExcept.throw, throwThe, MonadExceptOf.throw] at h
  repeat' (first | (cases h; done) | (injection h with h; injection h with h _; rw [← h]; done) | split at h)
theorem farStore_drawn {p : Program} {w w' : World} {a : Addr} {v : Value} {b : Bool} {l : List Addr} (h : w.farStore p a v b = .ok (w', l)) : w'.drawn = w.drawn := by
  unfold World.farStore at h
  split at h
  · split at h
    · rename_i e
      injection h with h
      subst h
      exact viewStore_drawn e
    · cases h
  · cases h
theorem freeze_drawn (w : World) (a : Addr) (n : Nat) : (w.freeze a n).drawn = w.drawn := by
  unfold World.freeze
  split <;> rfl
theorem set_drawn (w : World) (a : Addr) (v : Value) : (w.setCell a v).drawn = w.drawn := rfl
theorem run_mono {α : Type} (p : Program) : ∀ (s : Sem α) (w : World), w.drawn ≤ (Result.w (s.run p w)).drawn
  | .pure a, w => Nat.le_refl _
  | .load m a k, w => by
    simp only [Sem.run]
    split
    · exact run_mono p _ _
    · split
      · exact run_mono p _ _
      · exact Nat.le_refl _
  | .store m a v k, w => by
    have h1 := fun w' => run_mono p k w'
    cases v
    all_goals simp only [Sem.run]
    all_goals first
      | exact Nat.le_refl _
      | (split
         · split
           · exact Nat.le_refl _
           · exact Nat.le_trans (Nat.le_of_eq (set_drawn w a _).symm) (h1 _)
         · split
           · rename_i e
             have := farStore_drawn e
             rw [← this]
             exact h1 _
           · exact Nat.le_refl _)
  | .new o k, w => by simp only [Sem.run]; exact run_mono p (k w.heap.size) { w with heap := w.heap.push o }
  | .shape r k, w => by simp only [Sem.run]; exact run_mono p _ _
  | .freeze a n k, w => by simp only [Sem.run]; have := run_mono p k (w.freeze a n); rw [freeze_drawn] at this; exact this
  | .frozen a k, w => by simp only [Sem.run]; exact run_mono p _ _
  | .getObj r k, w => by
    simp only [Sem.run]
    split <;> first | exact Nat.le_refl _ | exact run_mono p _ _
  | .setObj r o k, w => by
    simp only [Sem.run]
    split <;> first | exact Nat.le_refl _ | exact run_mono p k { w with heap := w.heap.setIfInBounds r o }
  | .choose q k, w => by
    simp only [Sem.run]
    split
    · exact run_mono p _ _
    · exact Nat.le_trans (Nat.le_succ _) (run_mono p _ { w with drawn := w.drawn + 1 })
  | .sys c k, w => by simp only [Sem.run]; exact Nat.le_trans (sys_mono w c) (run_mono p _ _)
  | .program k, w => by simp only [Sem.run]; exact run_mono p _ _
  | .mark _ k, w => by simp only [Sem.run]; exact run_mono p _ _
  | .halt h, w => Nat.le_refl _
theorem runT_mono {α : Type} (p : Program) : ∀ (s : Sem α) (w : World) (es : Array Event), w.drawn ≤ (Result.w (s.runT p w es).1).drawn
  | .pure a, w, es => Nat.le_refl _
  | .load m a k, w, es => by
    simp only [Sem.runT]
    split
    · exact runT_mono p _ _ _
    · split
      · exact runT_mono p _ _ _
      · exact Nat.le_refl _
  | .store m a v k, w, es => by
    have h1 := fun w' es => runT_mono p k w' es
    cases v
    all_goals simp only [Sem.runT]
    all_goals first
      | exact Nat.le_refl _
      | (split
         · split
           · exact Nat.le_refl _
           · exact Nat.le_trans (Nat.le_of_eq (set_drawn w a _).symm) (h1 _ _)
         · split
           · rename_i e
             have := farStore_drawn e
             rw [← this]
             exact h1 _ _
           · exact Nat.le_refl _)
  | .new o k, w, es => by simp only [Sem.runT]; exact runT_mono p (k w.heap.size) { w with heap := w.heap.push o } es
  | .shape r k, w, es => by simp only [Sem.runT]; exact runT_mono p _ _ _
  | .freeze a n k, w, es => by simp only [Sem.runT]; have := runT_mono p k (w.freeze a n) es; rw [freeze_drawn] at this; exact this
  | .frozen a k, w, es => by simp only [Sem.runT]; exact runT_mono p _ _ _
  | .getObj r k, w, es => by
    simp only [Sem.runT]
    split <;> first | exact Nat.le_refl _ | exact runT_mono p _ _ _
  | .setObj r o k, w, es => by
    simp only [Sem.runT]
    split <;> first | exact Nat.le_refl _ | exact runT_mono p k { w with heap := w.heap.setIfInBounds r o } _
  | .choose q k, w, es => by
    simp only [Sem.runT]
    split
    · exact runT_mono p _ _ _
    · exact Nat.le_trans (Nat.le_succ _) (runT_mono p _ { w with drawn := w.drawn + 1 } _)
  | .sys c k, w, es => by simp only [Sem.runT]; exact Nat.le_trans (sys_mono w c) (runT_mono p _ _ _)
  | .program k, w, es => by simp only [Sem.runT]; exact runT_mono p _ _ _
  | .mark _ k, w, es => by simp only [Sem.runT]; exact runT_mono p _ _ _
  | .halt h, w, es => Nat.le_refl _
theorem run_ok {α : Type} {p : Program} {s : Sem α} {w w1 : World} {a : α} (h : s.run p w = .ok a w1) : w.drawn ≤ w1.drawn := by
  have := run_mono p s w; rw [h] at this; exact this
theorem run_halt {α : Type} {p : Program} {s : Sem α} {w w1 : World} {a : Halt} (h : s.run p w = .halt a w1) : w.drawn ≤ w1.drawn := by
  have := run_mono p s w; rw [h] at this; exact this
theorem runT_ok {α : Type} {p : Program} {s : Sem α} {w w1 : World} {es es1 : Array Event} {a : α} (h : s.runT p w es = (.ok a w1, es1)) : w.drawn ≤ w1.drawn := by
  have := runT_mono p s w es; rw [h] at this; exact this
theorem runT_halt {α : Type} {p : Program} {s : Sem α} {w w1 : World} {es es1 : Array Event} {a : Halt} (h : s.runT p w es = (.halt a w1, es1)) : w.drawn ≤ w1.drawn := by
  have := runT_mono p s w es; rw [h] at this; exact this
def wld : GStep → World
  | .go _ w _ | .comm _ _ _ _ w _ | .spawn _ _ w _ | .count _ w _ | .timer _ _ w _ | .alone _ _ w _ | .newcoro _ _ _ w _ | .coroswitch _ _ _ w _ | .collect _ w _ | .watch _ w _ | .ended _ w _ => w
theorem wld_after (es : Array Event) (s : GStep) : wld (s.after es) = wld s := by cases s <;> rfl
theorem wld_ite {c : Prop} [Decidable c] {a b : GStep} {n : Nat} (h1 : n ≤ (wld a).drawn) (h2 : n ≤ (wld b).drawn) : n ≤ (wld (if c then a else b)).drawn := by
  split
  · exact h1
  · exact h2
theorem doReturn_w (p : Program) (main : Bool) (fr : Frame) (callers : List Frame) (dying : Option Dying) (v : Value) (w : World) : wld (doReturn p main fr callers dying v w) = w := by
  unfold doReturn
  repeat' (first | rfl | split)
theorem endThrow_w (fr : Frame) (m : String) (w : World) : wld (endThrow fr m w) = w := rfl
theorem endPrinting_w (p : Program) (fr : Frame) (v : Value) (w : World) : wld (endPrinting p fr v w) = w := by
  unfold endPrinting
  simp only
  repeat' (first | rfl | split)
theorem endFatal_w (p : Program) (fr : Frame) (callers : List Frame) (dying : Option Dying) (m : String) (w : World) : w.drawn ≤ (wld (endFatal p fr callers dying m w)).drawn := by
  unfold endFatal
  simp only
  split
  · rename_i h; exact run_ok h
  · rename_i h; exact run_halt h
  · rename_i h; exact run_halt h
theorem endWith_w (w : World) (fd : Nat) (text : ByteArray) (o : Outcome) : w.drawn ≤ (wld (endWith w fd text o)).drawn := by
  have h := sys_mono w (.write fd text)
  unfold endWith
  simp only
  split
  · rename_i e; rw [e] at h; split <;> exact h
  · rename_i e; rw [e] at h; exact h
  · rename_i e; rw [e] at h; exact h
theorem endWith_ended (w : World) (fd : Nat) (text : ByteArray) (o : Outcome) : ∃ o2 w2, endWith w fd text o = .ended o2 w2 := by
  unfold endWith
  simp only
  split
  · split <;> exact ⟨_, _, rfl⟩
  · exact ⟨_, _, rfl⟩
  · exact ⟨_, _, rfl⟩
theorem callDeferred_w (p : Program) (fr : Frame) (callers : List Frame) (dying : Option Dying) (d : Deferred) (w : World) : w.drawn ≤ (wld (callDeferred p fr callers dying d w)).drawn := by
  unfold callDeferred
  refine wld_ite (Nat.le_refl _) ?_
  simp only
  rw [wld_after]
  have h := runT_mono p (invoke d.target d.args) w #[]
  generalize (invoke d.target d.args).runT p w #[] = q at h
  obtain ⟨r, es⟩ := q
  have h2 : w.drawn ≤ (Result.w r).drawn := h
  clear h
  simp only
  repeat' (first | exact h2 | (refine Nat.le_trans h2 ?_; first | exact Nat.le_of_eq (congrArg World.drawn (endThrow_w _ _ _).symm) | exact endFatal_w _ _ _ _ _ _ ; done) | split)
theorem unwind_w (p : Program) (main : Bool) (fr : Frame) (callers : List Frame) (dying : Option Dying) (w : World) : w.drawn ≤ (wld (unwind p main fr callers dying w)).drawn := by
  unfold unwind
  split
  · rename_i block _ ds _
    simp only
    rw [wld_after]
    have h := runT_mono p (Instr.takeDeferred block) w #[]
    generalize (Instr.takeDeferred block).runT p w #[] = q at h
    obtain ⟨r, es⟩ := q
    have h2 : w.drawn ≤ (Result.w r).drawn := h
    clear h
    simp only
    split <;> exact h2
  · exact callDeferred_w _ _ _ _ _ _
  · split
    · exact Nat.le_refl _
    · refine wld_ite (Nat.le_refl _) ?_
      split
      · exact Nat.le_refl _
      · split
        · refine wld_ite (Nat.le_refl _) ?_
          split
          · rename_i h; exact run_ok h
          · rename_i h; exact run_halt h
          · rename_i h; exact run_halt h
        · split
          · exact Nat.le_of_eq (congrArg World.drawn (endPrinting_w _ _ _ _).symm)
          · exact Nat.le_refl _
    · split
      · exact Nat.le_of_eq (congrArg World.drawn (doReturn_w _ _ _ _ _ _ _).symm)
      · rename_i fn _
        simp only
        rw [wld_after]
        have h := runT_mono p (results fn fr.tmps) w #[]
        generalize (results fn fr.tmps).runT p w #[] = q at h
        obtain ⟨r, es⟩ := q
        have h2 : w.drawn ≤ (Result.w r).drawn := h
        clear h
        simp only
        split
        · rw [doReturn_w]; exact h2
        · exact h2
        · exact h2
theorem writeOn_w (p : Program) (fr : Frame) (d : Dying) (f : Fatal) (w : World) : w.drawn ≤ (wld (writeOn p fr d f w)).drawn := by
  unfold writeOn
  simp only
  split
  · exact Nat.le_refl _
  · split
    · rename_i h; exact runT_ok h
    · rename_i h; exact runT_halt h
    · rename_i h; exact runT_halt h
    · rename_i h; exact runT_halt h
theorem die_w (p : Program) (fr : Frame) (d : Dying) (w : World) : w.drawn ≤ (wld (die p fr d w)).drawn := by
  unfold die
  split
  · exact writeOn_w _ _ _ _ _
  · split
    · split
      · exact Nat.le_refl _
      · exact endWith_w _ _ _ _
    · rename_i v mark rest _
      simp only
      split
      · exact Nat.le_refl _
      · split
        · rename_i h; exact run_ok h
        · rename_i h; exact run_halt h
      · rename_i t recv name _
        rw [wld_after]
        have h := runT_mono p (invoke (.fn (.method name) #[]) #[.iface t recv]) w #[]
        generalize (invoke (.fn (.method name) #[]) #[.iface t recv]).runT p w #[] = q at h
        obtain ⟨r, es⟩ := q
        have h2 : w.drawn ≤ (Result.w r).drawn := h
        clear h
        simp only
        split
        · exact h2
        · exact h2
        · exact h2
        · rw [endPrinting_w]; exact h2
        · exact Nat.le_refl _
      · exact Nat.le_refl _
theorem early_w (p : Program) (fr : Frame) (callers : List Frame) (dying : Option Dying) (g : Nat) (w : World) : w.drawn ≤ (wld (early p fr callers dying g w)).drawn := by
  have hn : ∀ w1 : World, w1.drawn ≤ (wld (match w1.heap[g]? with
    | some (.pending c elem) =>
      .go { frame := fr, callers, status := .running, dying } { w1 with heap := w1.heap.setIfInBounds g (.cells c elem) }
    | _ => .ended (.stuck "early: the variable does not wait" (fr.pos p)) w1)).drawn := fun w1 => by
    split <;> exact Nat.le_refl _
  unfold early
  simp only
  refine wld_ite (hn w) ?_
  split
  · exact Nat.le_refl _
  · refine wld_ite (hn w) ?_
    refine wld_ite (hn w) ?_
    split
    · exact Nat.le_refl _
    · exact Nat.le_refl _
    · exact Nat.le_refl _
    · exact hn w
    · refine wld_ite (Nat.le_refl _) ?_
      refine wld_ite (hn w) ?_
      split
      · rename_i h; exact Nat.le_trans (run_ok h) (hn _)
      · rename_i h; exact run_ok h
      · rename_i h; exact run_halt h
theorem apply_w (p : Program) (listen : Bool) (fr : Frame) (callers : List Frame) (dying : Option Dying) (s : Sem Next) (w : World) : w.drawn ≤ (wld (stepG.apply p listen fr callers dying s w)).drawn := by
  unfold stepG.apply
  simp only
  rw [wld_after]
  have h : w.drawn ≤ (Result.w (if listen = true then s.runT p w #[] else (s.run p w, #[])).1).drawn := by
    split
    · exact runT_mono p s w #[]
    · exact run_mono p s w
  generalize (if listen = true then s.runT p w #[] else (s.run p w, #[])) = q at h
  obtain ⟨r, es⟩ := q
  have h2 : w.drawn ≤ (Result.w r).drawn := h
  clear h
  simp only
  cases r with
  | ok a w1 =>
    have h3 : w.drawn ≤ w1.drawn := h2
    clear h2
    cases a <;> simp only <;> first
      | exact h3
      | (repeat' (first | exact h3 | split))
  | halt a w1 =>
    have h3 : w.drawn ≤ w1.drawn := h2
    clear h2
    cases a <;> first
      | exact h3
      | exact Nat.le_trans h3 (endFatal_w _ _ _ _ _ _)
      | (rename_i u
         cases u <;> first
           | exact h3
           | exact Nat.le_trans h3 (early_w _ _ _ _ _ _))
theorem oper_w (p : Program) (listen : Bool) (fr : Frame) (callers : List Frame) (dying : Option Dying) (w : World) : w.drawn ≤ (wld (stepG.oper p listen fr callers dying w)).drawn := by
  unfold stepG.oper
  split
  · exact Nat.le_refl _
  · split
    · exact apply_w _ _ _ _ _ _ _
    · exact apply_w _ _ _ _ _ _ _
theorem exec_w (p : Program) (main : Bool) (listen : Bool) (fr : Frame) (callers : List Frame) (dying : Option Dying) (w : World) : w.drawn ≤ (wld (stepG.exec p main listen fr callers dying w)).drawn := by
  have hlv : ∀ jump : Option Code, w.drawn ≤ (wld (match fr.roundOf with
      | none => if jump matches none | some .ret then (.go { frame := { fr with mode := .returning }, callers, status := .running, dying } w) else .ended (.stuck "exit, goto: no such block or label" (fr.pos p)) w
      | some l =>
        let (r, es) := (Instr.endRound l jump).runT p w #[]
        GStep.after (seen p fr.fn es) <| match r with
        | .ok v w => doReturn p main fr callers dying v w
        | .halt _ w => .ended (.stuck "range over a function: no such loop" (fr.pos p)) w)).drawn := fun jump => by
    split
    · refine wld_ite (Nat.le_refl _) (Nat.le_refl _)
    · rename_i l _
      simp only
      rw [wld_after]
      have h := runT_mono p (Instr.endRound l jump) w #[]
      generalize (Instr.endRound l jump).runT p w #[] = q at h
      obtain ⟨r, es⟩ := q
      have h2 : w.drawn ≤ (Result.w r).drawn := h
      clear h
      simp only
      split
      · rw [doReturn_w]; exact h2
      · exact h2
  unfold stepG.exec
  simp only
  split
  · exact hlv none
  · exact hlv (some .ret)
  · exact Nat.le_refl _
  · exact Nat.le_refl _
  · exact Nat.le_refl _
  · exact Nat.le_refl _
  · exact Nat.le_refl _
  · split <;> exact Nat.le_refl _
  · exact Nat.le_refl _
  · exact Nat.le_refl _
  · exact Nat.le_refl _
  · exact Nat.le_refl _
  · rename_i id k _
    cases hx : exitTo id k with
    | none => exact hlv (some (.exit id))
    | some t => exact Nat.le_refl _
  · rename_i l k _
    cases hx : gotoIn l k with
    | none => exact hlv (some (.goto l))
    | some t => exact Nat.le_refl _
  · rename_i f params assign body k _
    rw [wld_after]
    have h := runT_mono p (Instr.enterLoop fr.fn fr.tmps params assign body fr.roundOf) w #[]
    generalize (Instr.enterLoop fr.fn fr.tmps params assign body fr.roundOf).runT p w #[] = q at h
    obtain ⟨r, es⟩ := q
    have h2 : w.drawn ≤ (Result.w r).drawn := h
    clear h
    simp only
    split
    · exact Nat.le_trans h2 (apply_w _ _ _ _ _ _ _)
    · exact h2
  · exact Nat.le_refl _
  · exact apply_w _ _ _ _ _ _ _
  · rename_i l k _
    rw [wld_after]
    have h := runT_mono p (Instr.endLoop l) w #[]
    generalize (Instr.endLoop l).runT p w #[] = q at h
    obtain ⟨r, es⟩ := q
    have h2 : w.drawn ≤ (Result.w r).drawn := h
    clear h
    simp only
    split <;> exact h2
  · exact Nat.le_refl _
  · exact apply_w _ _ _ _ _ _ _
  · rename_i row args _ _
    cases hx : Extern.next row with
    | none => exact Nat.le_refl _
    | some e => exact apply_w _ _ _ _ _ _ _
  · refine wld_ite (Nat.le_refl _) ?_
    split
    · rename_i h; exact run_ok h
    · rename_i h; exact run_halt h
  · exact Nat.le_refl _
  · refine wld_ite (oper_w _ _ _ _ _ _) (Nat.le_refl _)
theorem stepG_w (p : Program) (main : Bool) (g : Goroutine) (w : World) (listen : Bool) : w.drawn ≤ (wld (stepG p main g w listen)).drawn := by
  unfold stepG
  simp only
  split
  · exact die_w _ _ _ _
  · exact exec_w _ _ _ _ _ _ _
  · exact unwind_w _ _ _ _ _ _
def sw : Stepped → World
  | .next m => m.world
  | .ended _ w => w
theorem waiting_w {rest : Rest} {cases_ : Array CommCase} {w w1 : World} (h : waitingAt rest cases_ w = some w1) : w1.drawn = w.drawn := by
  unfold waitingAt at h
  split at h
  · split at h
    · injection h with h; rw [← h]
    · cases h
  · injection h with h; rw [h]
theorem communicate_w (p : Program) (rest : Rest) (gs : Array Goroutine) (i : Nat) (g : Goroutine) (cases_ : Array CommCase) (blocking : Bool) (shape : CommShape) (w : World) : w.drawn ≤ (sw (communicate p rest gs i g cases_ blocking shape w).1).drawn := by
  unfold communicate
  simp only
  split
  · exact Nat.le_refl _
  · split
    · split
      · split
        · rename_i h; exact Nat.le_of_eq (waiting_w h).symm
        · exact Nat.le_refl _
      · exact Nat.le_refl _
    · split
      · rename_i h; exact run_halt h
      · rename_i h
        have h1 := run_ok h
        clear h
        split
        · split
          · rename_i h; exact Nat.le_trans h1 (run_halt h)
          · exact h1
        · exact h1
        · exact h1
        · split
          · exact h1
          · split
            · rename_i h; have h3 := Nat.le_trans h1 (run_ok h); exact h3
            · rename_i h; have h3 := Nat.le_trans h1 (run_halt h); exact h3
        · exact h1
        · exact h1
        · exact h1
theorem serve_w (p : Program) (m : Machine) (k : Nat) : m.world.drawn ≤ (sw (serve p m k)).drawn := by
  unfold serve
  split
  · exact Nat.le_refl _
  · exact Nat.le_refl _
  · simp only
    split
    · exact Nat.le_refl _
    · exact Nat.le_refl _
theorem look_w (p : Program) (gs : Array Goroutine) (rest : Rest) (w : World) : w.drawn ≤ (sw (Go.look p gs rest w)).drawn := by
  unfold Go.look
  split
  · simp only
    split
    · exact Nat.le_refl _
    · split
      · exact Nat.le_refl _
      · split
        · rename_i h; have h3 := run_ok h; exact h3
        · rename_i h; have h3 := run_halt h; exact h3
        · rename_i h; have h3 := run_halt h; exact h3
  · exact Nat.le_refl _
theorem drain_w (w : World) (c : Nat) : (drain w c).2.drawn = w.drawn := by
  unfold drain
  split <;> rfl
theorem retime_w (m : Machine) (k : Nat) (t : Timer) (when_ period : Nat) : (retime m k t when_ period).2.world.drawn = m.world.drawn := by
  unfold retime
  simp only
  split
  · exact drain_w _ _
  · rfl
theorem timerOp_w {m m1 : Machine} {op : TimerOp} {v : Value} (h : timerOp m op = .ok (v, m1)) : m1.world.drawn = m.world.drawn := by
  have hop : ∀ {var : Addr} {m2 : Machine}, timerOp.opened m var = some m2 → m2.world.drawn = m.world.drawn := fun {var m2} h => by
    unfold timerOp.opened at h
    split at h
    · split at h
      · injection h with h; rw [← h]
      · cases h
    · injection h with h; rw [h]
  have hnm : ∀ {var : Addr} {f : Nat → Timer → Value × Machine} {n : Nat}, (∀ k t, (f k t).2.world.drawn = n) → timerOp.named m var f = .ok (v, m1) → m1.world.drawn = n := fun {var f n} hf h => by
    unfold timerOp.named at h
    split at h
    · injection h with h
      have := hf ‹_› (m.rest.timers.getD ‹_› default)
      rw [h] at this
      exact this
    · cases h
  unfold timerOp at h
  split at h
  · split at h
    · injection h with h; injection h with _ h; rw [← h]; rfl
    · split at h
      · split at h
        · cases h
        · injection h with h; injection h with _ h; rw [← h]
      · cases h
  · exact hnm (fun k t => retime_w _ _ _ _ _) h
  · split at h
    · rename_i m2 h2
      exact hnm (fun k t => (retime_w _ _ _ _ _).trans (hop h2)) h
    · cases h
  · injection h with h; injection h with _ h; rw [← h]; rfl
theorem runT_w (p : Program) (m : Machine) (i : Nat) (listen : Bool) : m.world.drawn ≤ (sw (runT p m i listen).1).drawn := by
  unfold runT
  simp only
  have h := stepG_w p (i == 0) (m.gs.swapAt! i { (default : Goroutine) with status := .finished }).1 m.world listen
  generalize stepG p (i == 0) (m.gs.swapAt! i { (default : Goroutine) with status := .finished }).1 m.world listen = s at h
  cases s with
  | ended o w es => exact h
  | comm g c b sh w es => exact Nat.le_trans h (communicate_w _ _ _ _ _ _ _ _ _)
  | go g w es => exact h
  | spawn g c w es => exact h
  | count g w es =>
    simp only
    split
    · exact h
    · exact h
  | alone g on w es => exact h
  | collect g w es => exact Nat.le_trans h (look_w _ _ _ _)
  | watch g w es => exact h
  | newcoro g c d w es => exact h
  | coroswitch g c ex w es =>
    simp only
    split
    · exact h
    · exact h
    · exact h
  | timer g op w es =>
    simp only
    split
    · rename_i h2
      have := timerOp_w h2
      exact Nat.le_trans h (Nat.le_of_eq this.symm)
    · exact h
    · exact h
    · exact h
def mw : Move → World
  | .goroutine m _ => m.world
  | .machine s _ => sw s
theorem askOn_w (p : Program) (m : Machine) : m.world.drawn ≤ (mw (askOn p m)).drawn := by
  have hp : ∀ (rs : List Nat) (m : Machine), m.world.drawn ≤ (mw (match (choose (.sched rs.length)).run p m.world with
      | .halt _ w => .machine (.ended (.stuck "sched" "") w)
      | .ok k world =>
        if rs.length ≤ 1 then .goroutine { m with world } (rs.getD k 0) else
        match (choose (.extern "sched.slice" 65536)).run p world with
        | .halt _ w => .machine (.ended (.stuck "sched.slice" "") w)
        | .ok n world => .goroutine { m with world, rest := { m.rest with slice := if n = 0 then none else some (rs.getD k 0, n) } } (rs.getD k 0))).drawn := fun rs m => by
    split
    · rename_i h; exact run_halt h
    · rename_i h
      have h1 := run_ok h
      split
      · exact h1
      · split
        · rename_i h2; exact Nat.le_trans h1 (run_halt h2)
        · rename_i h2; have h3 := Nat.le_trans h1 (run_ok h2); exact h3
  unfold askOn
  simp only
  split
  · rename_i h; exact run_halt h
  · rename_i k world h
    have h1 := run_ok h
    clear h
    split
    · exact Nat.le_trans h1 (serve_w p { m with world } _)
    · split
      · split
        · exact h1
        · split
          · exact h1
          · split
            · rename_i h2
              have := endWith_w world 2 (bytes ("fatal error: " ++ (if (m.gs.any fun g => g.status == .blocked || g.status == .parked) = true then "all goroutines are asleep - deadlock!" else "no goroutines (main called runtime.Goexit) - deadlock!") ++ "\n")) (.fatal (if (m.gs.any fun g => g.status == .blocked || g.status == .parked) = true then "all goroutines are asleep - deadlock!" else "no goroutines (main called runtime.Goexit) - deadlock!"))
              rw [h2] at this
              exact Nat.le_trans h1 this
            · rename_i hx
              obtain ⟨o2, w2, e2⟩ := endWith_ended world 2 (bytes ("fatal error: " ++ (if (m.gs.any fun g => g.status == .blocked || g.status == .parked) = true then "all goroutines are asleep - deadlock!" else "no goroutines (main called runtime.Goexit) - deadlock!") ++ "\n")) (.fatal (if (m.gs.any fun g => g.status == .blocked || g.status == .parked) = true then "all goroutines are asleep - deadlock!" else "no goroutines (main called runtime.Goexit) - deadlock!"))
              exact absurd e2 (hx _ _ _)
      · split
        · exact Nat.le_trans h1 (hp _ { m with world })
        · split
          · rename_i h2; exact Nat.le_trans h1 (run_halt h2)
          · rename_i h2; exact Nat.le_trans (Nat.le_trans h1 (run_ok h2)) (hp _ { m with world := _ })
          · rename_i h2; have h3 := Nat.le_trans h1 (run_ok h2); exact h3
          · rename_i h2; exact Nat.le_trans (Nat.le_trans h1 (run_ok h2)) (hp _ (Machine.advanceTo { m with world := _ } _))
theorem ask_w (p : Program) (m : Machine) : m.world.drawn ≤ (mw (ask p m)).drawn := by
  unfold ask
  split
  · split
    · rename_i h; exact run_halt h
    · rename_i world h
      have h1 := run_ok h
      have h2 := look_w p m.gs m.rest world
      split
      · rename_i m2 h3
        rw [h3] at h2
        exact Nat.le_trans (Nat.le_trans h1 h2) (askOn_w p m2)
      · exact Nat.le_trans h1 h2
    · rename_i world _ h
      have h1 := run_ok h
      exact Nat.le_trans h1 (askOn_w p { m with world := _ })
  · exact askOn_w p m
theorem move_w (p : Program) (m : Machine) : m.world.drawn ≤ (mw (move p m)).drawn := by
  unfold move
  split
  · split <;> exact Nat.le_refl _
  · split
    · split
      · exact Nat.le_refl _
      · exact ask_w p { m with rest := { m.rest with slice := none } }
    · exact ask_w p m
theorem step_w (p : Program) (m : Machine) : m.world.drawn ≤ (sw (step p m)).drawn := by
  have h := move_w p m
  unfold step stepT
  split
  · rename_i m2 i h2
    rw [h2] at h
    exact Nat.le_trans h (runT_w p m2 i true)
  · rename_i s ops h2
    rw [h2] at h
    exact h
theorem runN_w (p : Program) : ∀ (n : Nat) (m m2 : Machine), runN p n m = .next m2 → m.world.drawn ≤ m2.world.drawn
  | 0, m, m2, h => by
    simp only [runN] at h
    injection h with h
    rw [h]; exact Nat.le_refl _
  | n + 1, m, m2, h => by
    have h1 := step_w p m
    simp only [runN] at h
    split at h
    · rename_i m3 h3
      rw [h3] at h1
      exact Nat.le_trans h1 (runN_w p n m3 m2 h)
    · rename_i hx
      exact absurd h (hx _)
theorem steps_w {p : Program} {m m2 : Machine} (h : Steps p m m2) : m.world.drawn ≤ m2.world.drawn := by
  obtain ⟨n, h⟩ := h
  exact runN_w p n m m2 h
theorem calls_drawn {P : Program} {f : FuncId} {args : Array Value} {w : World} {v : Value} {R : World → Prop} (h : Calls P f args w fun e w' => e = .returned v ∧ R w') : Calls P f args w fun e w' => e = .returned v ∧ R w' ∧ w.drawn ≤ w'.drawn := by
  intro cs
  obtain ⟨e, w', fr, ⟨he, hr⟩, hc, hf, hl⟩ := h cs
  subst he
  exact ⟨_, w', fr, ⟨rfl, hr, steps_w hc⟩, hc, hf, hl⟩
end Go.Proofs.YtamjllakfgphnaaGreatDoor
namespace Go.Proofs
open Go.Shelf Go.Lib
shelf_lay_g SlLaysN.n42 Slgn 42 at Tryz 88 as YtamjllakfgphnaaGreatDoor.laidClone
shelf_lay_g SlLaysN.n44 Slgn 44 at Tryz 92 as YtamjllakfgphnaaGreatDoor.laidCompact
shelf_lay_g SlLaysF.n6 Slsf 6 at Tryz 89 as YtamjllakfgphnaaGreatDoor.laidSortF
shelf_lay_g SlLaysN.n53 Slgn 53 at Tryz 68 as YtamjllakfgphnaaGreatDoor.laidSortI
end Go.Proofs
namespace Go.Proofs.YtamjllakfgphnaaGreatDoor
open Go.RowKit Go.Sort Go.Shelf
set_option linter.unusedSimpArgs false
set_option linter.unusedVariables false
attribute [local go_sem ↓] Go.wp_at_zero Go.wp_at_succ
abbrev LN := {s : Bs // s ∈ lin5}
instance : Inhabited LN := ⟨⟨[], by decide⟩⟩
def encLN (x : LN) : Value := .string (bs x.1)
def cfN (x y : LN) : Int := cmpS x.1 y.1
theorem swo1 : ∀ a ∈ lin5, decide (cmpS a a < 0) = false := by decide +kernel
theorem swo2 : ∀ a ∈ lin5, ∀ b ∈ lin5, ∀ c ∈ lin5, decide (cmpS a b < 0) = true → decide (cmpS b c < 0) = true → decide (cmpS a c < 0) = true := by decide +kernel
theorem swo3 : ∀ a ∈ lin5, ∀ b ∈ lin5, ∀ c ∈ lin5, decide (cmpS a b < 0) = false → decide (cmpS b c < 0) = false → decide (cmpS a c < 0) = false := by decide +kernel
theorem swoN : SWO (ltOf cfN) := ⟨fun x => swo1 x.1 x.2, fun x y z => swo2 x.1 x.2 y.1 y.2 z.1 z.2, fun x y z => swo3 x.1 x.2 y.1 y.2 z.1 z.2⟩
theorem grown_of_below {w w' : World} (h : Go.RowKit.Below w.heap.size w w') (hd : w.drawn ≤ w'.drawn) : ∃ q os, w' = grow (w.drewN q) os := by
  obtain ⟨p, hp⟩ := regrown_of_below h
  have e : w'.drawn = p.d := by rw [hp]; rfl
  refine ⟨p.d - w.drawn, p.os, ?_⟩
  rw [hp]
  unfold redrawn World.drewN
  rw [show w.drawn + (p.d - w.drawn) = p.d by omega]
theorem lincmp1_is {a b : Bs} (w : World) (ha : a ∈ lin5) (hb : b ∈ lin5) : Calls Tryz.prog 90 #[.string (bs a), .string (bs b)] w fun e w' => e = .returned (.int .i64 (cmpS a b)) ∧ Go.RowKit.Below w.heap.size w w' := by
  obtain ⟨z, hz⟩ : ∃ z, cmpS a b = z := ⟨_, rfl⟩
  have hc := lin_cmp5 w ha hb
  rw [hz] at hc ⊢
  clear hz
  obtain ⟨x, hx⟩ : ∃ x, bs a = x := ⟨_, rfl⟩
  obtain ⟨y, hy⟩ : ∃ y, bs b = y := ⟨_, rfl⟩
  rw [hx, hy] at hc ⊢
  clear hx hy ha hb
  go_enter Tryz.func90, Tryz.ntmps90
  go_wp2_with (go_at_call 91; refine hc.mono ?_; rintro e w1 ⟨rfl, hb1⟩)
  go_ret
  exact ⟨rfl, hb1⟩
theorem cmpLaysN (w : World) (blk off size : Nat) : CmpLays1 Tryz.prog 90 #[] encLN cfN blk off size w := by
  intro m os dk hs x y
  refine (calls_drawn (lincmp1_is (sortWorld encLN w blk off m dk os) x.2 y.2)).mono ?_
  rintro e w' ⟨rfl, hb, hd⟩
  exact ⟨rfl, grown_of_below hb hd⟩
theorem heap_put {α : Type} [Inhabited α] (enc : α → Value) {w : World} {g n off : Nat} {cur : Array Value} {e : TypeId} {fr : Nat × Nat} (d : Array α) (os : Array Obj) (hb : w.heap[g]? = some (.cells cur e fr)) :
    (sortWorld enc w g off n d os).heap[g]? = some (.cells (putCells enc off d cur) e fr) := by
  have hg : g < w.heap.size := (Array.getElem?_eq_some_iff.1 hb).1
  unfold sortWorld grow
  simp only
  rw [Array.getElem?_append_left (by simpa [putRow, mapBlock, Sort.ahead] using hg)]
  simp [putRow, mapBlock, Sort.ahead, Array.getElem?_modify, hb, onCells]
theorem grownBy_put {α : Type} [Inhabited α] (enc : α → Value) {w : World} {g n off : Nat} (d : Array α) (os : Array Obj) : w.grownBy (sortWorld enc w g off n d os) (some g) := by
  refine ⟨rfl, rfl, rfl, by simp [sortWorld, grow, putRow, mapBlock, Sort.ahead], fun k hk hne => ?_⟩
  have : g ≠ k := fun e => hne (by rw [e])
  unfold sortWorld grow
  simp only
  rw [Array.getElem?_append_left (by simpa [putRow, mapBlock, Sort.ahead] using hk)]
  simp [putRow, mapBlock, Sort.ahead, Array.getElem?_modify, this]
theorem put_world {α : Type} [Inhabited α] (enc : α → Value) (w : World) (g off n : Nat) (d : Array α) : putRow enc (Sort.ahead w n) g off d = sortWorld enc w g off n d #[] := by
  unfold sortWorld
  rw [grow_empty]
theorem holds_put {α : Type} [Inhabited α] (enc : α → Value) {w : World} {g n off : Nat} {cur : Array Value} {e : TypeId} (d : Array α) (os : Array Obj) (hb : w.heap[g]? = some (.cells cur e (0, 0))) (hs : off + d.size ≤ cur.size) : Holds enc (sortWorld enc w g off n d os) g off d := by
  have h1 := heap_put enc (n := n) (off := off) d os hb
  intro j hj
  refine ⟨?_, (show Blk _ g e _ from h1).frozen _⟩
  rw [cell_of_row _ g (off + j) _ _ _ h1]
  unfold putCells
  rw [Array.getElem?_mapIdx, Array.getElem?_eq_getElem (by omega)]
  simp only [Option.map_some]
  rw [if_pos ⟨by omega, by omega⟩, show off + j - off = j by omega]
def srtA (l : List LN) : Array LN := pdq (ltOf cfN) l.toArray 0 l.length (Lib.bitLen l.length) true true
def srtL (l : List LN) : List Bs := Lib.compact ((srtA l).toList.map Subtype.val)
def lsrt (l : List Bs) : List Bs := if h : ∀ s ∈ l, s ∈ lin5 then srtL (l.pmap Subtype.mk h) else []
theorem srtA_size (l : List LN) : (srtA l).size = l.length := by
  have := (pdq_sorts (ltOf cfN) swoN l.toArray 0 l.toArray.size (Lib.bitLen l.toArray.size) true true (Nat.zero_le _) (Nat.le_refl _) (Or.inl rfl)).1.1
  simpa [srtA] using this
theorem compact_le {α : Type} [Inhabited α] [DecidableEq α] (l : List α) : (Lib.compact l).length ≤ l.length := by
  unfold Lib.compact Lib.compactUpTo
  rw [List.length_map]
  refine Nat.le_trans (List.length_filter_le _ _) (by simp)
theorem srtL_le (l : List LN) : (srtL l).length ≤ l.length := by
  unfold srtL
  refine Nat.le_trans (compact_le _) ?_
  rw [List.length_map, Array.length_toList, srtA_size]
  exact Nat.le_refl _
theorem fm_st (l : List Bs) : l.flatMap (fun s => [Value.string (bs s)]) = l.map fun s => Value.string (bs s) := by
  induction l with
  | nil => rfl
  | cons a l ih => rw [List.flatMap_cons, ih]; rfl
theorem rd_holds {w : World} {g c : Nat} {cur : Array Value} (l : List Bs) (hb : w.heap[g]? = some (.cells cur 22 (0, 0))) (hc : l.length ≤ c) (hm : c ≤ maxLen) (h : ∀ j (hj : j < l.length), w.cell? ⟨g, j, none⟩ = some (.string (bs l[j]))) : RdSt w (.slice (some ⟨g, 0, none⟩) l.length c) l := by
  refine ⟨_, c, rfl, hc, hm, .inr ⟨g, 0, cur, _, rfl, hb, fun j u hj => ?_⟩⟩
  rw [fm_st, List.getElem?_map] at hj
  obtain ⟨s, hs, rfl⟩ := Option.map_eq_some_iff.1 hj
  obtain ⟨hjl, rfl⟩ := List.getElem?_eq_some_iff.1 hs
  rw [Nat.zero_add, ← cell_of_row _ g j _ _ _ hb]
  exact h j hjl
theorem stsort_is {w : World} {B g c : Nat} (l : List LN) (hown : w.ownsRow B 22 1 (.slice (some ⟨g, 0, none⟩) l.length c) l.length (l.map encLN)) (hl : 0 < l.length) (hm : l.length ≤ 100000) :
    Calls Tryz.prog 89 #[.slice (some ⟨g, 0, none⟩) l.length c, .func (.func 90) #[] #[]] w fun e w' => e = .returned (.tuple #[]) ∧ w'.ownsRow B 22 1 (.slice (some ⟨g, 0, none⟩) l.length c) l.length ((srtA l).toList.map encLN) ∧ w.grownBy w' (some g) := by
  obtain ⟨hlen, ⟨_, h1⟩ | ⟨g', cap, cur, hv, hg, hh, h1, h2, h3, h4⟩⟩ := hown
  · omega
  injection hv with hA _ hcc
  injection hA with hA
  injection hA with hA _ _
  subst hA hcc
  have hcs : ∀ j (hj : j < l.length), cur[j]? = some (encLN l[j]) := fun j hj => by
    have h6 := congrArg (fun x => x[j]?) h4
    (try simp only at h6)
    rw [List.getElem?_take_of_lt (by omega), List.getElem?_map, List.getElem?_eq_getElem hj] at h6
    rw [← Array.getElem?_toList, h6]
    rfl
  have hH : Holds encLN w g 0 l.toArray := by
    intro j hj
    have hjl : j < l.length := by simpa using hj
    refine ⟨?_, (show Blk w g _ _ from hh).frozen _⟩
    rw [Nat.zero_add, cell_of_row _ g j _ _ _ hh, hcs j hjl]
    simp [hjl]
  have hsz : l.toArray.size = l.length := by simp
  have hs := Any.slices_SortFunc_eq laidSortF encLN (fun _ => rfl) cfN swoN 90 #[] g 0 c l.toArray w (fun args w => by kernel_rfl) (cmpLaysN w g 0 _) hH (Array.getElem?_eq_some_iff.1 hh).1 (by rw [hsz]; omega)
  rw [hsz] at hs
  refine hs.mono ?_
  rintro e w' ⟨rfl, n, os, rfl⟩
  have hA := srtA_size l
  have hcur : l.length ≤ cur.size := by
    have := congrArg List.length h4
    simp at this
    omega
  refine ⟨rfl, ⟨by simp [hA], .inr ⟨g, c, _, rfl, hg, heap_put encLN (off := 0) (srtA l) os hh, h1, h2, ?_, ?_⟩⟩, grownBy_put _ _ _⟩
  · simpa [putCells] using h3
  · apply List.ext_getElem?
    intro j
    by_cases hj : j < l.length
    · rw [List.getElem?_take_of_lt (by omega), Array.getElem?_toList]
      unfold putCells
      rw [Array.getElem?_mapIdx, Array.getElem?_eq_getElem (by omega)]
      simp only [Option.map_some]
      rw [if_pos ⟨by omega, by omega⟩, List.getElem?_map, Array.getElem?_toList, Array.getElem?_eq_getElem (by omega)]
      simp [hA, hj]
    · rw [List.getElem?_eq_none (by rw [List.length_take]; omega), List.getElem?_eq_none (by simp [hA]; omega)]
end Go.Proofs.YtamjllakfgphnaaGreatDoor
namespace Go.Proofs.YtamjllakfgphnaaGreatDoor
open Go.RowKit Go.MapKept Go.ChangeMaps
set_option linter.unusedSimpArgs false
set_option linter.unusedVariables false
structure Lk where
  frm : Int
  to_ : Int
  name : Nm
deriving DecidableEq
def lkC (x : Lk) : List Value := [.int .i64 x.frm, .int .i64 x.to_, .int .i64 x.name.kind, .string (bs x.name.owner), .int .i64 x.name.num, .int .i64 x.name.idx, .string (bs x.name.text)]
theorem lkC_len (x : Lk) : (lkC x).length = 7 := rfl
theorem kyC_len (x : Ky) : (kyC x).length = 4 := rfl
abbrev RdLk (w : World) (v : Value) (l : List Lk) : Prop := RdP 61 lkC w v l
abbrev RdKy (w : World) (v : Value) (l : List Ky) : Prop := RdP 74 kyC w v l
theorem RdLk.piece {w : World} {A : Option Addr} {n c : Nat} {l : List Lk} (h : RdLk w (.slice A n c) l) {k : Nat} (hk : k < l.length) : ∃ b o, A = some ⟨b, o, none⟩ ∧ b < w.heap.size ∧
    w.cell? ⟨b, o + k * 7, none⟩ = some (.int .i64 l[k].frm) ∧ w.cell? ⟨b, o + k * 7 + 1, none⟩ = some (.int .i64 l[k].to_) ∧ w.cell? ⟨b, o + k * 7 + 2, none⟩ = some (.int .i64 l[k].name.kind) ∧ w.cell? ⟨b, o + k * 7 + 3, none⟩ = some (.string (bs l[k].name.owner)) ∧ w.cell? ⟨b, o + k * 7 + 4, none⟩ = some (.int .i64 l[k].name.num) ∧ w.cell? ⟨b, o + k * 7 + 5, none⟩ = some (.int .i64 l[k].name.idx) ∧ w.cell? ⟨b, o + k * 7 + 6, none⟩ = some (.string (bs l[k].name.text)) := by
  obtain ⟨b, o, e, hb, hc⟩ := RdP.at_ h lkC_len hk
  exact ⟨b, o, e, hb, hc 0 _ rfl, hc 1 _ rfl, hc 2 _ rfl, hc 3 _ rfl, hc 4 _ rfl, hc 5 _ rfl, hc 6 _ rfl⟩
theorem RdKy.piece {w : World} {A : Option Addr} {n c : Nat} {l : List Ky} (h : RdKy w (.slice A n c) l) {k : Nat} (hk : k < l.length) : ∃ b o, A = some ⟨b, o, none⟩ ∧ b < w.heap.size ∧
    w.cell? ⟨b, o + k * 4, none⟩ = some (.int .i64 l[k].tick) ∧ w.cell? ⟨b, o + k * 4 + 1, none⟩ = some (.int .i64 l[k].cls) ∧ w.cell? ⟨b, o + k * 4 + 2, none⟩ = some (.int .i64 l[k].num) ∧ w.cell? ⟨b, o + k * 4 + 3, none⟩ = some (.string (bs l[k].lin)) := by
  obtain ⟨b, o, e, hb, hc⟩ := RdP.at_ h kyC_len hk
  exact ⟨b, o, e, hb, hc 0 _ rfl, hc 1 _ rfl, hc 2 _ rfl, hc 3 _ rfl⟩
def Apart (a b : Value) : Prop := ∀ g, a.ownBlock = some g → b.ownBlock ≠ some g
theorem Apart.symm {a b : Value} (h : Apart a b) : Apart b a := fun g hb ha => h g ha hb
theorem own_set1 {w : World} {base e g n c : Nat} {xs : List Value} (h : w.ownsRow base e 1 (.slice (some ⟨g, 0, none⟩) n c) n xs) {i : Nat} (hi : i < n) (u : Value) : (w.setCell ⟨g, i, none⟩ u).ownsRow base e 1 (.slice (some ⟨g, 0, none⟩) n c) n (xs.set i u) := by
  obtain ⟨hl, ⟨_, h0⟩ | ⟨g', cap, cur, hv, hg, hh, h1, h2, h3, h4⟩⟩ := h
  · omega
  · injection hv with hv _ h5
    injection hv with hv
    injection hv with hv _ _
    subst hv h5
    have hb := Blk.set_ (show Blk w g e cur from hh) i u
    refine ⟨by simpa using hl, .inr ⟨g, c, _, rfl, hg, hb, h1, h2, by simpa using h3, ?_⟩⟩
    rw [Array.toList_setIfInBounds, List.take_set, h4]
theorem pair_set {l : List Value} (h : l.Pairwise Apart) (i : Nat) {v : Value} (hv : ∀ (j : Nat) (x : Value), j ≠ i → l[j]? = some x → Apart x v) : (l.set i v).Pairwise Apart := by
  rw [List.pairwise_iff_getElem] at h ⊢
  intro a b ha hb hab
  rw [List.length_set] at ha hb
  rw [List.getElem_set, List.getElem_set]
  by_cases h1 : i = a
  · subst h1
    rw [if_pos rfl, if_neg (by omega)]
    exact (hv b _ (by omega) (List.getElem?_eq_getElem hb)).symm
  · rw [if_neg h1]
    by_cases h2 : i = b
    · subst h2
      rw [if_pos rfl]
      exact hv a _ (by omega) (List.getElem?_eq_getElem ha)
    · rw [if_neg h2]
      exact h a b ha hb hab
theorem pair_get {l : List Value} (h : l.Pairwise Apart) {i j : Nat} (hij : j ≠ i) {x y : Value} (hx : l[j]? = some x) (hy : l[i]? = some y) : Apart x y := by
  obtain ⟨h1, rfl⟩ := List.getElem?_eq_some_iff.1 hx
  obtain ⟨h2, rfl⟩ := List.getElem?_eq_some_iff.1 hy
  rw [List.pairwise_iff_getElem] at h
  rcases Nat.lt_or_ge j i with hl | hl
  · exact h j i h1 h2 hl
  · exact (h i j h2 h1 (by omega)).symm
theorem own_grown {w w1 : World} {b1 b2 e1 e2 s1 s2 n m : Nat} {v x : Value} {xs ys : List Value} (ho : w.ownsRow b1 e1 s1 v n xs) (hx : w.ownsRow b2 e2 s2 x m ys) (hg : w.grownBy w1 x.ownBlock) (hne : e1 ≠ e2 ∨ Apart v x) : w1.ownsRow b1 e1 s1 v n xs :=
  own_same ho fun g hgv => by
    obtain ⟨cur, hc⟩ := own_cells_of ho hgv
    refine hg.block g (Array.getElem?_eq_some_iff.1 hc).1 fun e => ?_
    rcases hne with hne | hne
    · obtain ⟨cur2, hc2⟩ := own_cells_of hx e.symm
      rw [hc] at hc2
      injection hc2 with hc2
      injection hc2 with _ hc2 _
      exact hne hc2
    · exact hne g hgv e.symm
structure LU (w : World) (B : Nat) (vl : Value) (vL : List Value) (L : List (List Lk)) (vu : Value) (vU : List Value) (U : List (List Lk)) : Prop where
  ln : w.ownsRow B 52 1 vl L.length vL
  us : w.ownsRow B 52 1 vu U.length vU
  lu : Apart vl vu
  el : ∀ (i : Nat) (x : Value) (y : List Lk), vL[i]? = some x → L[i]? = some y → w.ownsRow B 61 7 x y.length (y.flatMap lkC)
  eu : ∀ (i : Nat) (x : Value) (y : List Lk), vU[i]? = some x → U[i]? = some y → w.ownsRow B 61 7 x y.length (y.flatMap lkC)
  ap : (vL ++ vU).Pairwise Apart
section
variable {w w' : World} {B : Nat} {vl vu : Value} {vL vU : List Value} {L U : List (List Lk)}
theorem LU.swap (h : LU w B vl vL L vu vU U) : LU w B vu vU U vl vL L := ⟨h.us, h.ln, h.lu.symm, h.eu, h.el, by
  have := h.ap
  rw [List.pairwise_append] at this ⊢
  exact ⟨this.2.1, this.1, fun a ha b hb => (this.2.2 b hb a ha).symm⟩⟩
theorem LU.keep {Ls : List TypeId} (h : LU w B vl vL L vu vU U) (k : Kept Ls w w') (h1 : Ls.contains 52 = false) (h2 : Ls.contains 61 = false) : LU w' B vl vL L vu vU U :=
  ⟨own_keep h.ln k h1, own_keep h.us k h1, h.lu, fun i x y hx hy => own_keep (h.el i x y hx hy) k h2, fun i x y hx hy => own_keep (h.eu i x y hx hy) k h2, h.ap⟩
theorem LU.lenL (h : LU w B vl vL L vu vU U) : vL.length = L.length := by have := h.ln.1; omega
theorem LU.lenU (h : LU w B vl vL L vu vU U) : vU.length = U.length := by have := h.us.1; omega
theorem LU.add (h : LU w B vl vL L vu vU U) {gl cl : Nat} (hvl : vl = .slice (some ⟨gl, 0, none⟩) L.length cl) {i : Nat} (hi : i < L.length) {x v : Value} (hx : vL[i]? = some x) {w1 : World} {y : Lk}
    (hg : w.grownBy w1 x.ownBlock) (hown : w1.ownsRow B 61 7 v (L[i].length + 1) (L[i].flatMap lkC ++ lkC y)) (hat : AtOr w x v) :
    LU (w1.setCell ⟨gl, i, none⟩ v) B vl (vL.set i v) (L.set i (L[i] ++ [y])) vu vU U ∧ Kept [61, 52] w (w1.setCell ⟨gl, i, none⟩ v) ∧ KpM w (w1.setCell ⟨gl, i, none⟩ v) ∧ Below B w (w1.setCell ⟨gl, i, none⟩ v) := by
  subst hvl
  have hxo := h.el i x _ hx (List.getElem?_eq_getElem hi)
  have hiL : i < vL.length := by rw [h.lenL]; exact hi
  have hxi : vL[i] = x := by rw [List.getElem?_eq_getElem hiL] at hx; injection hx
  have hg2 : w1.grownBy (w1.setCell ⟨gl, i, none⟩ v) (some gl) := only_setCell (only_of_below (Below.refl _ _) _) (.inl rfl) v
  have hln1 := own_grown h.ln hxo hg (.inl (by decide))
  have hus1 := own_grown h.us hxo hg (.inl (by decide))
  have far : ∀ (j : Nat) (x' : Value), j ≠ i → (vL ++ vU)[j]? = some x' → Apart x' x := fun j x' hj hx' => by
    have := pair_get h.ap hj hx' (show (vL ++ vU)[i]? = some x by rw [List.getElem?_append_left hiL]; exact hx)
    exact this
  have lt : ∀ (j : Nat) (x' : Value), (vL ++ vU)[j]? = some x' → ∀ g, x'.ownBlock = some g → g < w.heap.size := fun j x' hx' g hgx => by
    by_cases hj : j < vL.length
    · rw [List.getElem?_append_left hj] at hx'
      obtain ⟨cur, hc⟩ := own_cells_of (h.el j x' _ hx' (List.getElem?_eq_getElem (by rw [← h.lenL]; exact hj))) hgx
      exact (Array.getElem?_eq_some_iff.1 hc).1
    · rw [List.getElem?_append_right (by omega)] at hx'
      have hj2 := (List.getElem?_eq_some_iff.1 hx').1
      obtain ⟨cur, hc⟩ := own_cells_of (h.eu _ x' _ hx' (List.getElem?_eq_getElem (by rw [← h.lenU]; exact hj2))) hgx
      exact (Array.getElem?_eq_some_iff.1 hc).1
  have k1 : Kept [61, 52] w w1 := Kept.of_own _ hxo hg rfl
  have k2 : Kept [61, 52] w1 (w1.setCell ⟨gl, i, none⟩ v) := Kept.of_own _ hln1 hg2 rfl
  refine ⟨⟨by rw [List.length_set]; exact own_set1 hln1 hi v, own_grown hus1 hln1 hg2 (.inr h.lu.symm), h.lu, ?_, ?_, ?_⟩, k1.trans k2, (KpM.of_own hxo hg).trans (KpM.of_own hln1 hg2), ?_⟩
  · intro j x' y' hx' hy'
    by_cases hj : i = j
    · subst hj
      rw [List.getElem?_set_self (by simpa using hiL)] at hx'
      rw [List.getElem?_set_self hi] at hy'
      injection hx' with hx'
      injection hy' with hy'
      subst hx' hy'
      rw [List.length_append, List.flatMap_append]
      exact own_grown (by simpa using hown) hln1 hg2 (.inl (by decide))
    · rw [List.getElem?_set_ne hj] at hx' hy'
      have hjl := (List.getElem?_eq_some_iff.1 hx').1
      exact own_grown (own_grown (h.el j x' y' hx' hy') hxo hg (.inr (far j x' (fun e => hj e.symm) (by rw [List.getElem?_append_left hjl]; exact hx')))) hln1 hg2 (.inl (by decide))
  · intro j x' y' hx' hy'
    have hjl := (List.getElem?_eq_some_iff.1 hx').1
    exact own_grown (own_grown (h.eu j x' y' hx' hy') hxo hg (.inr (far (vL.length + j) x' (by omega) (by rw [List.getElem?_append_right (by omega)]; simpa using hx')))) hln1 hg2 (.inl (by decide))
  · have := pair_set h.ap i (v := v) fun j x' hj hx' => by
      rcases hat with e | e
      · intro g hgx hv
        exact far j x' hj hx' g hgx (by rw [← e]; exact hv)
      · intro g hgx hv
        rw [e] at hv
        injection hv with hv
        have := lt j x' hx' g hgx
        omega
    rw [List.set_append_left _ _ hiL] at this
    exact this
  · have b1 : Below B w w1 := below_own (Below.refl B w) hxo hg (Nat.le_refl _) ?_
    · exact b1.setCell (p := ⟨gl, i, none⟩) (own_ge h.ln rfl) v
    · have := own_ge h.ln (g := gl) rfl
      obtain ⟨cur, hc⟩ := own_cells_of h.ln (g := gl) rfl
      have := (Array.getElem?_eq_some_iff.1 hc).1
      omega
end
structure GIn (w : World) (B : Nat) (g : Nat) (vk vl vu : Value) (bw : Nat) (ks : List Ky) (vL vU : List Value) (L U : List (List Lk)) (D : Nm → List Int) : Prop where
  blk : Blk w g 118 #[vk, vl, vu, .map (some bw)]
  gB : B ≤ g
  ky : w.ownsRow B 74 4 vk ks.length (ks.flatMap kyC)
  lu : LU w B vl vL L vu vU U
  wr : MapRows 3 1 inC w (fun i => B ≤ i) bw D
section
variable {w w' : World} {B g : Nat} {vk vl vu : Value} {bw : Nat} {ks : List Ky} {vL vU : List Value} {L U : List (List Lk)} {D : Nm → List Int}
theorem GIn.next (h : GIn w B g vk vl vu bw ks vL vU L U D) (hb : Below w.heap.size w w') : GIn w' B g vk vl vu bw ks vL vU L U D :=
  ⟨h.blk.next hb h.blk.lt, h.gB, own_next h.ky hb, h.lu.keep (Kept.of_below [] hb) rfl rfl, h.wr.next hb⟩
theorem GIn.drewN (h : GIn w B g vk vl vu bw ks vL vU L U D) (n : Nat) : GIn (w.drewN n) B g vk vl vu bw ks vL vU L U D := h.next (below_drewN (Below.refl _ _) n)
theorem GIn.base {B' : Nat} (h : GIn w B g vk vl vu bw ks vL vU L U D) (hb : B' ≤ B) : GIn w B' g vk vl vu bw ks vL vU L U D :=
  ⟨h.blk, Nat.le_trans hb h.gB, own_base h.ky hb, ⟨own_base h.lu.ln hb, own_base h.lu.us hb, h.lu.lu, fun i x y hx hy => own_base (h.lu.el i x y hx hy) hb, fun i x y hx hy => own_base (h.lu.eu i x y hx hy) hb, h.lu.ap⟩, h.wr.kept (Kept.refl [] w) (fun _ _ _ h => h) rfl fun i hi => Nat.le_trans hb hi⟩
abbrev LG : List TypeId := [74, 118, 61, 52, 3]
theorem GIn.key_ (h : GIn w B g vk vl vu bw ks vL vU L U D) {w1 : World} {vk' : Value} {k : Ky} (hg : w.grownBy w1 vk.ownBlock) (hown : w1.ownsRow B 74 4 vk' (ks.length + 1) (ks.flatMap kyC ++ kyC k)) :
    GIn (w1.setCell ⟨g, 0, none⟩ vk') B g vk' vl vu bw (ks ++ [k]) vL vU L U D ∧ Below B w (w1.setCell ⟨g, 0, none⟩ vk') ∧ Kept LG w (w1.setCell ⟨g, 0, none⟩ vk') := by
  have hgne : vk.ownBlock ≠ some g := own_blk_ne h.ky h.blk (by decide)
  have b1 : Blk w1 g 118 #[vk, vl, vu, .map (some bw)] := h.blk.grown hg (fun e => hgne e.symm)
  have hg2 : w1.grownBy (w1.setCell ⟨g, 0, none⟩ vk') (some g) := only_setCell (only_of_below (Below.refl _ _) _) (.inl rfl) vk'
  have k2 : Kept [74, 118] w (w1.setCell ⟨g, 0, none⟩ vk') := (Kept.of_own _ h.ky hg rfl).trans (Kept.of_blk _ b1 hg2 rfl)
  have m2 : KpM w (w1.setCell ⟨g, 0, none⟩ vk') := (KpM.of_own h.ky hg).trans (KpM.of_blk b1 hg2)
  have hown2 : (w1.setCell ⟨g, 0, none⟩ vk').ownsRow B 74 4 vk' (ks.length + 1) (ks.flatMap kyC ++ kyC k) := hown.kept hg2 (.inr (own_blk_ne hown b1 (by decide)))
  refine ⟨⟨b1.set_ 0 vk', h.gB, ?_, h.lu.keep k2 rfl rfl, h.wr.kept k2 m2 rfl fun _ h => h⟩, ?_, k2.mono fun e he => by simp [LG] at he ⊢; exact ⟨he.1, he.2.1⟩⟩
  · rw [List.length_append, List.flatMap_append]
    simpa using hown2
  · have hlt := h.blk.lt
    exact (below_own (Below.refl B w) h.ky hg (Nat.le_refl _) (by have := h.gB; omega)).setCell (p := ⟨g, 0, none⟩) h.gB vk'
theorem GIn.link_ (h : GIn w B g vk vl vu bw ks vL vU L U D) {gl cl : Nat} (hvl : vl = .slice (some ⟨gl, 0, none⟩) L.length cl) {i : Nat} (hi : i < L.length) {x v : Value} (hx : vL[i]? = some x) {w1 : World} {y : Lk}
    (hg : w.grownBy w1 x.ownBlock) (hown : w1.ownsRow B 61 7 v (L[i].length + 1) (L[i].flatMap lkC ++ lkC y)) (hat : AtOr w x v) :
    GIn (w1.setCell ⟨gl, i, none⟩ v) B g vk vl vu bw ks (vL.set i v) vU (L.set i (L[i] ++ [y])) U D ∧ Below B w (w1.setCell ⟨gl, i, none⟩ v) ∧ Kept LG w (w1.setCell ⟨gl, i, none⟩ v) := by
  obtain ⟨h1, h2, h3, h4⟩ := h.lu.add hvl hi hx hg hown hat
  exact ⟨⟨h.blk.keep h2 rfl, h.gB, own_keep h.ky h2 rfl, h1, h.wr.kept h2 h3 rfl fun _ h => h⟩, h4, h2.mono fun e he => by simp [LG] at he ⊢; exact ⟨he.2.2.1, he.2.2.2.1⟩⟩
theorem GIn.use_ (h : GIn w B g vk vl vu bw ks vL vU L U D) {gl cl : Nat} (hvl : vu = .slice (some ⟨gl, 0, none⟩) U.length cl) {i : Nat} (hi : i < U.length) {x v : Value} (hx : vU[i]? = some x) {w1 : World} {y : Lk}
    (hg : w.grownBy w1 x.ownBlock) (hown : w1.ownsRow B 61 7 v (U[i].length + 1) (U[i].flatMap lkC ++ lkC y)) (hat : AtOr w x v) :
    GIn (w1.setCell ⟨gl, i, none⟩ v) B g vk vl vu bw ks vL (vU.set i v) L (U.set i (U[i] ++ [y])) D ∧ Below B w (w1.setCell ⟨gl, i, none⟩ v) ∧ Kept LG w (w1.setCell ⟨gl, i, none⟩ v) := by
  obtain ⟨h1, h2, h3, h4⟩ := h.lu.swap.add hvl hi hx hg hown hat
  exact ⟨⟨h.blk.keep h2 rfl, h.gB, own_keep h.ky h2 rfl, h1.swap, h.wr.kept h2 h3 rfl fun _ h => h⟩, h4, h2.mono fun e he => by simp [LG] at he ⊢; exact ⟨he.2.2.1, he.2.2.2.1⟩⟩
theorem GIn.wr_ (h : GIn w B g vk vl vu bw ks vL vU L U D) (n : Nm) : ∃ ents A c, MapAt w bw ents ∧ (lookM n ents).getD (.slice none 0 0) = .slice A (D n).length c ∧ w.ownsRow 0 3 1 (.slice A (D n).length c) (D n).length ((D n).flatMap inC) ∧
    ∀ (w2 w3 : World) (v' : Value) (x : Int), Chg w w2 bw (Value.slice A (D n).length c).ownBlock → (∃ es c, w2.heap[bw]? = some (.map es c)) → w2.ownsRow 0 3 1 v' ((D n).length + 1) ((D n).flatMap inC ++ inC x) → (v'.ownBlock = (Value.slice A (D n).length c).ownBlock ∨ ∃ i, v'.ownBlock = some i ∧ w.heap.size ≤ i) →
      MapAt w3 bw (putM n v' ents) → w2.grownBy w3 (some bw) → GIn w3 B g vk vl vu bw ks vL vU L U (fun m => if m = n then D n ++ [x] else D m) ∧ Below B w w3 ∧ Kept LG w w3 := by
  obtain ⟨ents, v, hm, hve, hown, hback⟩ := h.wr.at_ n
  obtain ⟨A, c, hvs, hc⟩ := own_len hown.1
  subst hvs
  obtain ⟨es, cl, hb, _⟩ := id hm
  refine ⟨ents, A, c, hm, hve.symm, hown.1, fun w2 w3 v' x hch hbm hown' hat hmap hg3 => ?_⟩
  obtain ⟨es2, c2, hb2⟩ := id hbm
  have hs2 : w.heap.size ≤ w2.heap.size := hch.size
  have hs3 : w2.heap.size ≤ w3.heap.size := hg3.size
  have k2 : Kept [3] w w3 := (hch.kept hb hown.1).trans (Kept.of_map _ hb2 hg3)
  have hBs : B ≤ w.heap.size := by have := h.gB; have := h.blk.lt; omega
  have mw : MapRows 3 1 inC w3 (fun i => B ≤ i) bw (fun m => if m = n then D n ++ [x] else D m) :=
    hback w2 w3 v' x (fun i => B ≤ i) hch.block hbm hown' hat hmap hg3 (fun _ h => h) fun i h1 h2 => Nat.le_trans hBs h1
  refine ⟨⟨h.blk.keep k2 rfl, h.gB, own_keep h.ky k2 rfl, h.lu.keep k2 rfl rfl, mw⟩, ?_, k2.mono fun e he => by simp [LG] at he ⊢; exact he.2.2.2.2⟩
  have hfb : B ≤ bw := h.wr.1
  exact ((hch.outer (F := fun i => B ≤ i) hfb hown.2).trans (Outer.of_grown hg3 fun i hi => by injection hi with hi; subst hi; exact .inl hfb)).below hBs fun i hi => hi
end
end Go.Proofs.YtamjllakfgphnaaGreatDoor
namespace Go.Proofs.YtamjllakfgphnaaGreatDoor
open Go.RowKit
set_option linter.unusedSimpArgs false
set_option linter.unusedVariables false
attribute [local go_sem ↓] Go.wp_at_zero Go.wp_at_succ
def KS (l : List Ac) : Prop := ∀ k (hk : k + 1 < l.length), cmpK (l[k]'(by omega)).key l[k + 1].key < 0
def IncRel (l : List Ac) (w : World) (i : Value) (wr : World) : Prop := ∃ k : Nat, 1 ≤ k ∧ k ≤ l.length + 1 ∧ i = .int .i64 k ∧ Below w.heap.size w wr
set_option maxRecDepth 100000 in
set_option maxHeartbeats 1000000 in
theorem increasing_is {w : World} {v : Value} {l : List Ac} (h : RdAc w v l) (hk : KS l) (hl : ∀ a ∈ l, a.key.lin ∈ lin5) (hlen : l.length ≤ 100) : Calls Tryz.prog 55 #[v] w fun e w' => e = .returned (.bool true) ∧ Below w.heap.size w w' := by
  obtain ⟨A, c, rfl, hc⟩ := RowRd.form h
  have HH := Lib.hid h
  have HK := Lib.hid hk
  have HL := Lib.hid hl
  have H0 : Hid (IncRel l w (.int .i64 (1 : Nat)) w) := Lib.hid ⟨1, Nat.le_refl _, by omega, rfl, Below.refl _ _⟩
  clear h hk hl
  go_enter Tryz.func55, Tryz.ntmps55
  go_wp2_with fail
  go_loopw [3] (fun i wr => IncRel l w i wr) (fun i _ => l.length + 1 - (intOf i).toNat)
  case atStart => exact H0.out
  case round =>
    clear H0
    obtain ⟨k, hk1, hk2, rfl, hbw⟩ := hrel
    have HBW := Lib.hid hbw
    clear hbw
    by_cases hml : k < l.length
    · have j1 : decide ((k : Int) < (l.length : Int)) = true := decide_eq_true (by omega)
      obtain ⟨m, hmk⟩ : ∃ m, k = m + 1 := ⟨k - 1, by omega⟩
      have g1 : (k : Int) - 1 = (m : Int) := by omega
      have hm2 : m < l.length := by omega
      have g4 : (m : Int) < (l.length : Int) := by omega
      have hp0 := HK.out m (by omega)
      have HP := Lib.hid (show cmpK (l[m]'hm2).key l[k].key < 0 by
        have e : l[k] = l[m + 1]'(by omega) := by congr 1
        rw [e]; exact hp0)
      clear hp0 hmk
      have g2 : IntKind.i64.wrap (m : Int) = (m : Int) := IntWalk.i64_in _ (by omega)
      have g3 : (0 : Int) ≤ (m : Int) := by omega
      have g6 : (0 : Int) ≤ (k : Int) := by omega
      have g7 : (k : Int) < (l.length : Int) := by omega
      obtain ⟨b, o, u1, u2, hbe, hbr, n1, n2, x0, x1, x2, x3, x4, x5⟩ := RdAc.piece (RdAc.next HH.out HBW.out) hm2
      subst hbe
      obtain ⟨b', o', v1, v2, hbe, hbr', n3, n4, y0, y1, y2, y3, y4, y5⟩ := RdAc.piece (RdAc.next HH.out HBW.out) hml
      injection hbe with hbe
      injection hbe with e1 e2
      subst e1 e2
      have hl1 := HL.out _ (List.getElem_mem hm2)
      have hl2 := HL.out _ (List.getElem_mem hml)
      obtain ⟨p, hp⟩ : ∃ p, l[m].key = p := ⟨_, rfl⟩
      obtain ⟨q, hq⟩ : ∃ q, l[k].key = q := ⟨_, rfl⟩
      rw [hp] at x0 x1 x2 x3 HP hl1
      rw [hq] at y0 y1 y2 y3 HP hl2
      have HKC := Lib.hid (fun W => key_compare p q W hl1 hl2)
      unfold kyV at HKC
      obtain ⟨z, hz⟩ : ∃ z, cmpK p q = z := ⟨_, rfl⟩
      rw [hz] at HKC HP
      have f1 : decide (0 ≤ z) = false := decide_eq_false (by have := HP.out; omega)
      clear hp hq hl1 hl2 hz n1 n2 n3 n4 x4 x5 y4 y5 hbr'
      go_upto_region 4 with (fail)
      refine wp_region_noPanic ?_
      refine wp_region_held_drew (S := (fun (w' : World) => w'.cell? ⟨b, o + m * 6, none⟩ = some (.int .i64 p.tick) ∧ w'.cell? ⟨b, o + m * 6 + 1, none⟩ = some (.int .i64 p.cls) ∧ w'.cell? ⟨b, o + m * 6 + 2, none⟩ = some (.int .i64 p.num) ∧ w'.cell? ⟨b, o + m * 6 + 3, none⟩ = some (.string (bs p.lin)) ∧ w'.cell? ⟨b, o + k * 6, none⟩ = some (.int .i64 q.tick) ∧ w'.cell? ⟨b, o + k * 6 + 1, none⟩ = some (.int .i64 q.cls) ∧ w'.cell? ⟨b, o + k * 6 + 2, none⟩ = some (.int .i64 q.num) ∧ w'.cell? ⟨b, o + k * 6 + 3, none⟩ = some (.string (bs q.lin)))) (by kernel_rfl) ?_ (fun hHeld => ?_)
      · exact ⟨x0, x1, x2, x3, y0, y1, y2, y3⟩
      refine tk (v := ?_) 0 rfl (by kernel_rfl) (fun _ _ _ h => h) ?_ hHeld ?_
      rotate_left
      · (intro w h; (try dsimp only at h); go_simp; try with_reducible rfl)
      try simp only [Act.put, pB, pC, pD]
      refine tk (v := ?_) 1 rfl (by kernel_rfl) (fun _ _ _ h => h) ?_ hHeld ?_
      rotate_left
      · (intro w h; (try dsimp only at h); go_simp; try with_reducible rfl)
      try simp only [Act.put, pB, pC, pD]
      refine tk (v := ?_) 2 rfl (by kernel_rfl) (fun _ _ _ h => h) ?_ hHeld ?_
      rotate_left
      · (intro w h; (try dsimp only at h); go_simp; try with_reducible rfl)
      try simp only [Act.put, pB, pC, pD]
      refine tk (v := ?_) 3 rfl (by kernel_rfl) (fun _ _ _ h => h) ?_ hHeld ?_
      rotate_left
      · (intro w h; (try dsimp only at h); go_simp; try with_reducible rfl)
      try simp only [Act.put, pB, pC, pD]
      refine tk (v := ?_) 4 rfl (by kernel_rfl) (fun _ _ _ h => h) ?_ hHeld ?_
      rotate_left
      · (intro w h; (try dsimp only at h); go_simp; try with_reducible rfl)
      try simp only [Act.put, pB, pC, pD]
      refine tk (v := ?_) 5 rfl (by kernel_rfl) (fun _ _ _ h => h) ?_ hHeld ?_
      rotate_left
      · (intro w h; (try dsimp only at h); go_simp; try with_reducible rfl)
      try simp only [Act.put, pB, pC, pD]
      refine tk (v := ?_) 6 rfl (by kernel_rfl) (fun _ _ _ h => h) ?_ hHeld ?_
      rotate_left
      · (intro w h; (try dsimp only at h); go_simp; try with_reducible rfl)
      try simp only [Act.put, pB, pC, pD]
      refine tk (v := ?_) 7 rfl (by kernel_rfl) (fun _ _ _ h => h) ?_ hHeld ?_
      rotate_left
      · (intro w h; (try dsimp only at h); go_simp; try with_reducible rfl)
      try simp only [Act.put, pB, pC, pD]
      refine tk (v := ?_) 8 rfl (by kernel_rfl) (fun _ _ _ h => h) ?_ hHeld ?_
      rotate_left
      · (intro w h; (try dsimp only at h); go_simp; try with_reducible rfl)
      try simp only [Act.put, pB, pC, pD]
      refine tk (v := ?_) 9 rfl (by kernel_rfl) (fun _ _ _ h => h) ?_ hHeld ?_
      rotate_left
      · (intro w h; (try dsimp only at h); go_simp; try with_reducible rfl)
      try simp only [Act.put, pB, pC, pD]
      refine tk (v := ?_) 10 rfl (by kernel_rfl) (fun _ _ _ h => h) ?_ hHeld ?_
      rotate_left
      · (intro w h; (try dsimp only at h); go_simp; try with_reducible rfl)
      try simp only [Act.put, pB, pC, pD]
      refine wpAnyH_ready (rs := [11]) (by kernel_rfl) (by simp) ?_
      refine AllReadyH.cons rfl (fun K hK => ?_) AllReadyH.nil
      go_simp
      refine (HKC.out wr.drew).mono ?_; rintro e w2 ⟨rfl, hb2'⟩; have hb2 := (Below.refl wr.heap.size wr).drew.trans hb2'; have HB2 := Lib.hid hb2; clear hb2'
      try (go_wp2_with fail)
      refine hK.out _ _ ?_ (fun hNew => ?_)
      · exact ⟨(hb2.cell (p := ⟨b, o + m * 6, none⟩) hbr).trans x0, (hb2.cell (p := ⟨b, o + m * 6 + 1, none⟩) hbr).trans x1, (hb2.cell (p := ⟨b, o + m * 6 + 2, none⟩) hbr).trans x2, (hb2.cell (p := ⟨b, o + m * 6 + 3, none⟩) hbr).trans x3, (hb2.cell (p := ⟨b, o + k * 6, none⟩) hbr).trans y0, (hb2.cell (p := ⟨b, o + k * 6 + 1, none⟩) hbr).trans y1, (hb2.cell (p := ⟨b, o + k * 6 + 2, none⟩) hbr).trans y2, (hb2.cell (p := ⟨b, o + k * 6 + 3, none⟩) hbr).trans y3⟩
      clear hK K hHeld
      have hHeld := hNew
      clear hNew
      try simp only [Act.put, pB, pC, pD]
      refine tk (v := ?_) 12 rfl (by kernel_rfl) (fun _ _ _ h => h) ?_ hHeld ?_
      rotate_left
      · (intro w h; (try dsimp only at h); go_simp; try with_reducible rfl)
      try simp only [Act.put, pB, pC, pD]
      refine wpAnyH_done (by kernel_rfl) ?_ _
      clear hHeld
      try simp only [List.getElem_toArray, List.getElem_cons_zero, List.getElem_cons_succ, Act.put, pB, pC, pD]
      refine NoPanic.normal ?_
      go_wp2_with fail
      go_roundw
      case rel => exact ⟨k + 1, by omega, by omega, by go_num, HBW.out.trans (HB2.out.mono HBW.out.size)⟩
      case measure => simp [intOf]; omega
    · have j1 : decide ((k : Int) < (l.length : Int)) = false := decide_eq_false (by omega)
      have j1n : decide (k < l.length) = false := decide_eq_false hml
      go_wp2_with fail
      go_ret
      exact ⟨rfl, HBW.out⟩
set_option maxRecDepth 100000 in
theorem sorted_is {w : World} {v : Value} {l : List Nm} (h : RdNm w v l) (hl : l.length ≤ 12) (hd : l.Nodup) (ho : ∀ a ∈ l, OwnE a) : Calls Tryz.prog 56 #[v, .func (.func 57) #[] #[]] w (SortP l w) := by
  have HC := Lib.hid (cloneNm h (fm_len nmC_len l) (nm_one l) (by omega))
  have HD := Lib.hid hd
  have HO := Lib.hid ho
  clear h hd ho
  go_enter Tryz.func56, Tryz.ntmps56
  go_wp2_with fail
  refine HC.out.mono ?_
  rintro e w2 ⟨v2, rfl, hown, hb⟩
  have HB := Lib.hid hb
  have hbs := hb.size
  clear hb
  go_wp2_with fail
  refine (sortfunc_is hown rfl hl HO.out hbs).mono ?_
  rintro e w3 ⟨rfl, l', hp, hw, hown3, hg⟩
  have HN := Lib.hid (hp.nodup_iff.2 HD.out)
  have hl' : l'.length = l.length := hp.length_eq
  have HS := Lib.hid (show l' = sortU cmpN l by
    have hS : ∀ a ∈ l', OwnE a := fun a ha => HO.out a (hp.mem_iff.1 ha)
    rw [← sortU_perm ordN HO.out hp]
    exact (sortU_strict ordN hS (strict_of_weak ordN hS hw HN.out)).symm)
  have HB3 := Lib.hid (below_own HB.out hown hg (Nat.le_refl _) hbs)
  rw [← hl'] at hown3
  have HR := Lib.hid hown3
  clear hown hown3 hg hp hw
  go_wp2_with fail
  refine (compact_is (l := l') (Rd.of_own HR.out) (by omega) HN.out).mono ?_
  rintro e w4 ⟨rfl, m, rfl⟩
  go_wp2
  go_ret
  rw [HS.out] at HR
  exact ⟨v2, rfl, own_next HR.out (below_drewN (Below.refl _ _) m), below_drewN HB3.out m⟩
def cntL (l : List Int) (t : Int) : Nat := (l.takeWhile fun x => decide (x < t)).length
def Asc (l : List Int) : Prop := ∀ i j (hi : i < l.length) (hj : j < l.length), i ≤ j → l[i] ≤ l[j]
theorem cntL_le (l : List Int) (t : Int) : cntL l t ≤ l.length := by unfold cntL; exact (List.takeWhile_sublist _).length_le
theorem cntL_eq : ∀ {l : List Int} {t : Int} {p : Nat}, p ≤ l.length → (∀ i (h : i < l.length), i < p → l[i] < t) → (∀ i (h : i < l.length), p ≤ i → t ≤ l[i]) → cntL l t = p
  | [], t, p, hp, _, _ => by simp at hp; subst hp; rfl
  | x :: l, t, 0, _, _, h2 => by
    have := h2 0 (by simp) (Nat.le_refl _)
    unfold cntL
    rw [List.takeWhile_cons, if_neg (by simp at this ⊢; omega)]; rfl
  | x :: l, t, p + 1, hp, h1, h2 => by
    have h0 := h1 0 (by simp) (by omega)
    unfold cntL
    rw [List.takeWhile_cons, if_pos (by simpa using h0), List.length_cons]
    have := cntL_eq (l := l) (t := t) (p := p) (by simpa using hp) (fun i h hi => by have := h1 (i + 1) (by simpa using h) (by omega); simpa using this) (fun i h hi => by have := h2 (i + 1) (by simpa using h) (by omega); simpa using this)
    unfold cntL at this
    rw [this]
set_option maxRecDepth 100000 in
theorem srch1_is {w : World} {A : Option Addr} {c : Nat} {l : List Int} {t : Int} {B2 B3 k : Nat} (z2 : w.cell? ⟨B2, 0, none⟩ = some (.slice A l.length c)) (z3 : w.cell? ⟨B3, 0, none⟩ = some (.int .i64 t)) (h : RdIn w (.slice A l.length c) l) (hk : k < l.length) (hl : l.length ≤ 100000) :
    Calls Tryz.prog 138 #[.int .i64 k, .pointer (some ⟨B2, 0, none⟩), .pointer (some ⟨B3, 0, none⟩)] w fun e w' => e = .returned (.bool (decide (t ≤ l[k]))) ∧ Below w.heap.size w w' := by
  obtain ⟨b, o, hb, hbl, hc⟩ := RdP.at_ h inC_len hk
  subst hb
  have y := hc 0 _ rfl
  rw [Nat.mul_one, Nat.add_zero] at y
  have j1 : (0 : Int) ≤ (k : Int) := by omega
  have j2 : (k : Int) < (l.length : Int) := by omega
  obtain ⟨x, hx⟩ : ∃ x, l[k] = x := ⟨_, rfl⟩
  rw [hx] at y ⊢
  clear hc hx h
  go_enter Tryz.func138, Tryz.ntmps138
  go_upto_region 1 with (fail)
  go_quiet (fail)
  go_wp2_with fail
  go_ret
  exact ⟨rfl, below_drewN (Below.refl _ _) _⟩
def SrRel (l : List Int) (t : Int) (w : World) (i j : Value) (wr : World) : Prop := ∃ p q : Nat, i = .int .i64 p ∧ j = .int .i64 q ∧ p ≤ q ∧ q ≤ l.length ∧ (∀ i (h : i < l.length), i < p → l[i] < t) ∧ (∀ i (h : i < l.length), q ≤ i → t ≤ l[i]) ∧ Below w.heap.size w wr
set_option maxRecDepth 100000 in
set_option maxHeartbeats 1000000 in
theorem search_ints {w : World} {v : Value} {l : List Int} (t : Int) (h : RdIn w v l) (hs : Asc l) (hl : l.length ≤ 100000) : Calls Tryz.prog 102 #[v, .int .i64 t] w fun e w' => e = .returned (.int .i64 (cntL l t : Nat)) ∧ Below w.heap.size w w' := by
  obtain ⟨A, c, rfl, hc⟩ := RdP.form h
  have z2 := Blk.new w 33 #[.slice A l.length c]
  have ha2 := (Below.refl w.heap.size w).alloc (Nat.le_refl _) (.cells #[.slice A l.length c] 33)
  have z2b := z2.next ((Below.refl (w.alloc (.cells #[.slice A l.length c] 33)).heap.size _).alloc (Nat.le_refl _) (.cells #[.int .i64 t] 3)) z2.lt
  have z3 := Blk.new (w.alloc (.cells #[.slice A l.length c] 33)) 3 #[.int .i64 t]
  rw [World.size_alloc] at z3
  have ha := ha2.alloc (by simp) (.cells #[.int .i64 t] 3)
  have c2 := z2b.cell 0
  have c3 := z3.cell 0
  have l2 := z2b.lt
  have l3 := z3.lt
  simp only [List.getElem?_toArray, List.getElem?_cons_zero] at c2 c3
  have HA := Lib.hid ha
  have HH := Lib.hid (RdP.next h ha)
  have HS := Lib.hid hs
  clear h hs ha2 z2 z2b z3 ha
  go_enter Tryz.func102, Tryz.ntmps102
  go_upto_region 1 with (fail)
  generalize (w.alloc (.cells #[.slice A l.length c] 33)).alloc (.cells #[.int .i64 t] 3) = W at *
  obtain ⟨B3, hb3⟩ : ∃ B, w.heap.size + 1 = B := ⟨_, rfl⟩
  obtain ⟨B2, hb2⟩ : ∃ B, w.heap.size = B := ⟨_, rfl⟩
  have HB2 := Lib.hid hb2
  rw [hb3] at c3 l3 ⊢
  rw [hb2] at c2 l2 HA ⊢
  clear hb2 hb3
  have HSR : Hid (Calls Tryz.prog 137 #[.int .i64 l.length, .func (.func 138) #[] #[.pointer (some ⟨B2, 0, none⟩), .pointer (some ⟨B3, 0, none⟩)]] W fun e w' => e = .returned (.int .i64 (cntL l t : Nat)) ∧ Below W.heap.size W w') := by
    refine Lib.hid ?_
    have H0 : Hid (SrRel l t W (.int .i64 (0 : Nat)) (.int .i64 l.length) W) := Lib.hid ⟨0, l.length, rfl, rfl, Nat.zero_le _, Nat.le_refl _, fun i _ h => by omega, fun i h1 h2 => by omega, Below.refl _ _⟩
    clear HA HB2
    have C2 := Lib.hid c2
    have C3 := Lib.hid c3
    clear c2 c3
    go_enter Tryz.func137, Tryz.ntmps137
    go_wp2_with fail
    go_loopw [5, 6] (fun i j wr => SrRel l t W i j wr) (fun i j _ => (intOf j).toNat - (intOf i).toNat)
    case atStart => exact H0.out
    case round =>
      clear H0
      obtain ⟨p, q, rfl, rfl, hpq, hq, hlo, hhi, hbw⟩ := hrel
      have HLO := Lib.hid hlo
      have HHI := Lib.hid hhi
      have HBW := Lib.hid hbw
      clear hlo hhi hbw
      by_cases hlt : p < q
      · obtain ⟨m, hm⟩ : ∃ m, (p + q) / 2 = m := ⟨_, rfl⟩
        have hml : m < l.length := by omega
        have j1 : ((p : Int) + (q : Int)) / 2 = (m : Int) := by omega
        have j2 : (0 : Int) ≤ (m : Int) := by omega
        have j3 : (m : Int) < (l.length : Int) := by omega
        have j4 : (0 : Int) ≤ (p : Int) + (q : Int) := by omega
        have j5 : (p : Int) + (q : Int) ≤ 200000 := by omega
        have HM := Lib.hid hm
        have j6 : decide ((p : Int) < (q : Int)) = true := decide_eq_true (by omega)
        have j7 : decide (p < q) = true := decide_eq_true hlt
        have HF := Lib.hid (srch1_is ((HBW.out.cell (p := ⟨B2, 0, none⟩) l2).trans C2.out) ((HBW.out.cell (p := ⟨B3, 0, none⟩) l3).trans C3.out) (RdP.next HH.out HBW.out) hml hl)
        obtain ⟨x, hx⟩ : ∃ x, l[m] = x := ⟨_, rfl⟩
        rw [hx] at HF
        have HX := Lib.hid hx
        obtain ⟨bq, hbq⟩ : ∃ bq, decide (t ≤ x) = bq := ⟨_, rfl⟩
        rw [hbq] at HF
        clear hx hm
        go_upto_region 4 with (fail)
        cases bq with
        | true =>
          go_wp2_with (go_at_call 138; refine HF.out.mono ?_; rintro e w2 ⟨rfl, hb2⟩; have HB2 := Lib.hid hb2; clear hb2)
          go_roundw
          case rel => exact ⟨p, m, rfl, rfl, by have := HM.out; omega, by omega, HLO.out, fun i h1 h2 => Int.le_trans (of_decide_eq_true hbq) (by rw [← HX.out]; exact HS.out m i hml h1 h2), HBW.out.trans (HB2.out.mono HBW.out.size)⟩
          case measure => have := HM.out; simp [intOf]; omega
        | false =>
          go_wp2_with (go_at_call 138; refine HF.out.mono ?_; rintro e w2 ⟨rfl, hb2⟩; have HB2 := Lib.hid hb2; clear hb2)
          go_roundw
          case rel => exact ⟨m + 1, q, by go_num, rfl, by have := HM.out; omega, hq, fun i h1 h2 => by
            have h3 := HS.out i m h1 hml (by omega)
            rw [HX.out] at h3
            have := of_decide_eq_false hbq
            omega, HHI.out, HBW.out.trans (HB2.out.mono HBW.out.size)⟩
          case measure => have := HM.out; simp [intOf]; omega
      · have j6 : decide ((p : Int) < (q : Int)) = false := decide_eq_false (by omega)
        have j7 : decide (p < q) = false := decide_eq_false hlt
        have HD := Lib.hid (cntL_eq (l := l) (t := t) (p := p) (by omega) HLO.out (fun i h1 h2 => HHI.out i h1 (by omega)))
        go_wp2_with fail
        go_ret
        exact ⟨by rw [HD.out]; rfl, HBW.out⟩
  go_wp2_with (go_at_call 137; refine HSR.out.mono ?_; rintro e w2 ⟨rfl, hb2⟩; have HBZ := Lib.hid hb2; clear hb2)
  go_ret
  exact ⟨rfl, by rw [HB2.out]; exact HA.out.trans (HBZ.out.mono (HB2.out ▸ HA.out.size))⟩
def wrI (l : List Int) (t : Int) : Int := if cntL l t = 0 then -1 else l.getD (cntL l t - 1) 0
set_option maxRecDepth 100000 in
set_option maxHeartbeats 1000000 in
theorem writer_is {w : World} {B g : Nat} {vk vl vu : Value} {bw : Nat} {ks : List Ky} {vL vU : List Value} {L U : List (List Lk)} {D : Nm → List Int} (n : Nm) (t : Int) (h : GIn w B g vk vl vu bw ks vL vU L U D) (hs : Asc (D n)) (hl : (D n).length ≤ 10000) :
    Calls Tryz.prog 58 #[.pointer (some ⟨g, 0, none⟩), nmV n, .int .i64 t] w fun e w' => e = .returned (.int .i64 (wrI (D n) t)) ∧ Below w.heap.size w w' := by
  have ha := (Below.refl w.heap.size w).alloc (Nat.le_refl _) (.cells #[.int .i64 n.kind, .string (bs n.owner), .int .i64 n.num, .int .i64 n.idx, .string (bs n.text)] 26)
  have zb := Blk.new w 26 #[.int .i64 n.kind, .string (bs n.owner), .int .i64 n.num, .int .i64 n.idx, .string (bs n.text)]
  have GW := Lib.hid (h.next ha)
  have HA := Lib.hid ha
  have x3 := GW.out.blk.cell 3
  have z0 := zb.cell 0
  have z1 := zb.cell 1
  have z2 := zb.cell 2
  have z3 := zb.cell 3
  have z4 := zb.cell 4
  simp only [qB, qC, qD] at x3 z0 z1 z2 z3 z4
  obtain ⟨ents, hm, hown⟩ := GW.out.wr.find n
  (try simp only at hown)
  obtain ⟨A, c, hve, hc⟩ := own_len hown.1
  rw [hve] at hown
  have HM := Lib.hid hm
  have HVE := Lib.hid hve
  have HRD := Lib.hid (show RdIn _ (.slice A (D n).length c) (D n) from Rd.of_own hown.1)
  have HS := Lib.hid hs
  obtain ⟨xs, hxs⟩ : ∃ xs, D n = xs := ⟨_, rfl⟩
  rw [hxs] at HRD HS hl HVE hc
  have HXS := Lib.hid hxs
  rw [HXS.out]
  clear h hm hown hve hxs hs zb ha GW
  go_enter Tryz.func58, Tryz.ntmps58
  simp only [nmV, nmA]
  go_upto_region 3 with (fail)
  generalize w.alloc (.cells #[.int .i64 n.kind, .string (bs n.owner), .int .i64 n.num, .int .i64 n.idx, .string (bs n.text)] 26) = W at *
  obtain ⟨cb, hcb⟩ : ∃ cb, w.heap.size = cb := ⟨_, rfl⟩
  have HCB := Lib.hid hcb
  rw [hcb] at z0 z1 z2 z3 z4 HA ⊢
  clear hcb
  refine wp_region_noPanic ?_
  refine wp_region_held_drew (S := (fun (w' : World) => w'.cell? ⟨g, 3, none⟩ = some (.map (some bw)) ∧ w'.cell? ⟨cb, 0, none⟩ = some (.int .i64 n.kind) ∧ w'.cell? ⟨cb, 1, none⟩ = some (.string (bs n.owner)) ∧ w'.cell? ⟨cb, 2, none⟩ = some (.int .i64 n.num) ∧ w'.cell? ⟨cb, 3, none⟩ = some (.int .i64 n.idx) ∧ w'.cell? ⟨cb, 4, none⟩ = some (.string (bs n.text)))) (by kernel_rfl) ?_ (fun hHeld => ?_)
  · exact ⟨x3, z0, z1, z2, z3, z4⟩
  refine tk (v := ?_) 0 rfl (by kernel_rfl) (fun _ _ _ h => h) ?_ hHeld ?_
  rotate_left
  · (intro w h; (try dsimp only at h); go_simp; try with_reducible rfl)
  try simp only [Act.put, pB, pC, pD]
  refine tk (v := ?_) 1 rfl (by kernel_rfl) (fun _ _ _ h => h) ?_ hHeld ?_
  rotate_left
  · (intro w h; (try dsimp only at h); go_simp; try with_reducible rfl)
  try simp only [Act.put, pB, pC, pD]
  refine tk (v := ?_) 2 rfl (by kernel_rfl) (fun _ _ _ h => h) ?_ hHeld ?_
  rotate_left
  · (intro w h; (try dsimp only at h); go_simp; try with_reducible rfl)
  try simp only [Act.put, pB, pC, pD]
  refine tk (v := ?_) 3 rfl (by kernel_rfl) (fun _ _ _ h => h) ?_ hHeld ?_
  rotate_left
  · (intro w h; (try dsimp only at h); go_simp; try with_reducible rfl)
  try simp only [Act.put, pB, pC, pD]
  refine tk (v := ?_) 4 rfl (by kernel_rfl) (fun _ _ _ h => h) ?_ hHeld ?_
  rotate_left
  · (intro w h; (try dsimp only at h); go_simp; try with_reducible rfl)
  try simp only [Act.put, pB, pC, pD]
  refine wpAnyH_ready (rs := [5]) (by kernel_rfl) (by simp) ?_
  refine AllReadyH.cons rfl (fun K hK => ?_) AllReadyH.nil
  refine step_look_nm _ (by rfl) _ _ 116 (by rfl) Tryz.underlying116 (zeroinC _) bw ents (by rfl) (show MapAt W.drew bw ents from HM.out) n (by rfl) ?_; rw [HVE.out]
  refine hK.out _ _ ?_ (fun hNew => ?_)
  · exact ⟨x3, z0, z1, z2, z3, z4⟩
  clear hK K hHeld
  have hHeld := hNew
  clear hNew
  try simp only [Act.put, pB, pC, pD]
  refine tk (v := ?_) 6 rfl (by kernel_rfl) (fun _ _ _ h => h) ?_ hHeld ?_
  rotate_left
  · (intro w h; (try dsimp only at h); go_simp; try with_reducible rfl)
  try simp only [Act.put, pB, pC, pD]
  refine wpAnyH_done (by kernel_rfl) ?_ _
  clear hHeld
  try simp only [List.getElem_toArray, List.getElem_cons_zero, List.getElem_cons_succ, Act.put, pB, pC, pD]
  refine NoPanic.normal ?_
  have HSI := Lib.hid (search_ints t (RdP.drew HRD.out) HS.out (by omega))
  obtain ⟨q, hq⟩ : ∃ q, cntL xs t = q := ⟨_, rfl⟩
  rw [hq] at HSI
  have HQ := Lib.hid hq
  have hql : q ≤ xs.length := by rw [← hq]; exact cntL_le xs t
  clear hq x3 z0 z1 z2 z3 z4
  cases q with
  | zero =>
    have HR := Lib.hid (show wrI xs t = -1 by unfold wrI; rw [if_pos HQ.out])
    go_wp2_with (go_at_call 102; refine HSI.out.mono ?_; rintro e w2 ⟨rfl, hb2⟩; have HB2 := Lib.hid hb2; clear hb2)
    go_ret
    exact ⟨by rw [HR.out]; rfl, by rw [HCB.out]; exact HA.out.drew.trans (HB2.out.mono (HCB.out ▸ HA.out.size))⟩
  | succ c1 =>
    have HR := Lib.hid (show wrI xs t = xs[c1]'(by omega) by
      unfold wrI
      rw [if_neg (by rw [HQ.out]; omega), HQ.out, Nat.add_sub_cancel, List.getD_eq_getElem?_getD, List.getElem?_eq_getElem (by omega)]
      rfl)
    have e1 : (((c1 + 1 : Nat) : Int) == 0) = false := by rw [beq_eq_false_iff_ne]; omega
    have e2 : ((c1 + 1 : Nat) : Int) - 1 = (c1 : Int) := by omega
    have e3 : IntKind.i64.wrap (c1 : Int) = (c1 : Int) := IntWalk.i64_in _ (by omega)
    have e4 : (0 : Int) ≤ (c1 : Int) := by omega
    have e5 : (c1 : Int) < (xs.length : Int) := by omega
    have hkl : c1 < xs.length := by omega
    obtain ⟨cn, hcn⟩ : ∃ z : Int, ((c1 + 1 : Nat) : Int) = z := ⟨_, rfl⟩
    rw [hcn] at e1 e2 HSI
    have HCN := Lib.hid hcn
    clear hcn
    go_wp2_with (go_at_call 102; refine HSI.out.mono ?_; rintro e w2 ⟨rfl, hb2⟩; have HB2 := Lib.hid hb2; obtain ⟨b, o, hb, hbl, hc1⟩ := RdP.at_ (RdP.next (RdP.drew HRD.out) hb2) inC_len hkl; subst hb; have y := hc1 0 _ rfl; rw [Nat.mul_one, Nat.add_zero] at y; clear hb2 hc1)
    go_ret
    exact ⟨by rw [HR.out]; rfl, by rw [HCB.out]; exact HA.out.drew.trans (HB2.out.mono (HCB.out ▸ HA.out.size))⟩
end Go.Proofs.YtamjllakfgphnaaGreatDoor
namespace Go.Proofs.YtamjllakfgphnaaGreatDoor
open Go.RowKit
set_option linter.unusedSimpArgs false
set_option linter.unusedVariables false
def wls (l : List Ac) (n : Nm) : List Int := (vers n 0 l).map Ver.idx
def wlsT (d : List Ac) (ws : List Ch) (n : Nm) : List Int := wls d n ++ (ws.filter fun c => c.name == n).map fun _ => (d.length : Int)
theorem wls_snoc (d : List Ac) (a : Ac) (n : Nm) : wls (d ++ [a]) n = wlsT d a.writes n := by
  unfold wls wlsT wls
  rw [vers_snoc, List.map_append, List.map_map]
  simp only [Nat.zero_add]
  rfl
theorem wlsT_nil (d : List Ac) (n : Nm) : wlsT d [] n = wls d n := by unfold wlsT; simp
theorem wlsT_snoc (d : List Ac) (ws : List Ch) (c : Ch) (n : Nm) : wlsT d (ws ++ [c]) n = if n = c.name then wlsT d ws c.name ++ [(d.length : Int)] else wlsT d ws n := by
  unfold wlsT
  rw [List.filter_append, List.map_append]
  by_cases h : n = c.name
  · subst h
    rw [if_pos rfl]
    simp
  · rw [if_neg h]
    have : (c.name == n) = false := by rw [beq_eq_false_iff_ne]; exact fun e => h e.symm
    simp [this]
theorem wls_bd {l : List Ac} {n : Nm} {x : Int} (h : x ∈ wls l n) : 0 ≤ x ∧ x < l.length := by
  obtain ⟨v, hv, rfl⟩ := List.mem_map.1 h
  have := vers_idx n 0 l v hv
  omega
theorem wls_asc {l : List Ac} (h : ∀ a ∈ l, ordCh a.writes = true) (n : Nm) : Asc (wls l n) := by
  have h1 := vers_inc n 0 l h
  intro i j hi hj hij
  unfold wls at hi hj ⊢
  rw [List.length_map] at hi hj
  simp only [List.getElem_map]
  rcases Nat.lt_or_ge i j with h2 | h2
  · have := List.pairwise_iff_getElem.1 h1 i j hi hj h2
    omega
  · obtain rfl : i = j := by omega
    exact Int.le_refl _
theorem wls_len {l : List Ac} (h : ∀ a ∈ l, a.writes.length ≤ 10) (hl : l.length ≤ 100) (n : Nm) : (wls l n).length ≤ 1000 := by
  have := vers_len n 0 l h
  unfold wls
  rw [List.length_map]
  omega
theorem wrI_mem (xs : List Int) (t : Int) : wrI xs t = -1 ∨ wrI xs t ∈ xs := by
  unfold wrI
  split
  · exact .inl rfl
  · rename_i h
    have h1 := cntL_le xs t
    rw [List.getD_eq_getElem?_getD, List.getElem?_eq_getElem (by omega)]
    exact .inr (List.getElem_mem _)
def lnkA (d : List Ac) (a : Ac) : List Lk := a.reads.map fun c => ⟨wrI (wls d c.name) d.length, d.length, c.name⟩
def lnkF (d : List Ac) : List Ac → List (List Lk)
  | [] => []
  | a :: r => lnkA d a :: lnkF (d ++ [a]) r
def lnkD (l : List Ac) : List (List Lk) := lnkF [] l
theorem lnkF_snoc (a : Ac) : ∀ (d r : List Ac), lnkF d (r ++ [a]) = lnkF d r ++ [lnkA (d ++ r) a]
  | d, [] => by rw [List.append_nil]; rfl
  | d, b :: r => by
    simp only [List.cons_append, lnkF, lnkF_snoc a (d ++ [b]) r, List.append_assoc, List.singleton_append, List.cons_append, List.nil_append]
theorem lnkF_len : ∀ (d r : List Ac), (lnkF d r).length = r.length
  | d, [] => rfl
  | d, b :: r => by simp only [lnkF, List.length_cons, lnkF_len (d ++ [b]) r]
theorem lnkD_take (l : List Ac) (k : Nat) (hk : k < l.length) : lnkD (l.take (k + 1)) = lnkD (l.take k) ++ [lnkA (l.take k) l[k]] := by
  unfold lnkD
  rw [List.take_succ_eq_append_getElem hk, lnkF_snoc, List.nil_append]
theorem lnkD_len (l : List Ac) : (lnkD l).length = l.length := lnkF_len [] l
theorem lnkA_frm {d : List Ac} {a : Ac} {x : Lk} (h : x ∈ lnkA d a) : -1 ≤ x.frm ∧ x.frm < d.length := by
  obtain ⟨c, _, rfl⟩ := List.mem_map.1 h
  simp only
  rcases wrI_mem (wls d c.name) d.length with e | e
  · rw [e]; omega
  · have := wls_bd e; omega
def UT (N : Nat) (fl : List Lk) : List (List Lk) := (List.range N).map fun (j : Nat) => fl.filter fun x => decide (x.frm = (j : Int))
theorem UT_len (N : Nat) (fl : List Lk) : (UT N fl).length = N := by simp [UT]
theorem UT_nil (N : Nat) : UT N [] = List.replicate N [] := by
  apply List.ext_getElem
  · simp [UT]
  · intro i h1 h2; simp [UT]
theorem UT_get (N : Nat) (fl : List Lk) (j : Nat) (hj : j < (UT N fl).length) : (UT N fl)[j] = fl.filter fun x => decide (x.frm = (j : Int)) := by simp [UT]
theorem UT_neg (N : Nat) (fl : List Lk) (x : Lk) (h : x.frm < 0) : UT N (fl ++ [x]) = UT N fl := by
  unfold UT
  apply List.map_congr_left
  intro j _
  rw [List.filter_append]
  have : decide (x.frm = (j : Int)) = false := decide_eq_false (by omega)
  simp [this]
theorem UT_add (N : Nat) (fl : List Lk) (x : Lk) (j : Nat) (hj : j < (UT N fl).length) (h : x.frm = (j : Int)) : UT N (fl ++ [x]) = (UT N fl).set j ((UT N fl)[j] ++ [x]) := by
  apply List.ext_getElem
  · simp [UT]
  · intro i h1 h2
    rw [UT_get, List.getElem_set, List.filter_append]
    by_cases e : j = i
    · subst e
      rw [if_pos rfl, UT_get]
      have : decide (x.frm = (j : Int)) = true := decide_eq_true h
      simp [this]
    · rw [if_neg e, UT_get]
      have : decide (x.frm = (i : Int)) = false := decide_eq_false (by omega)
      simp [this]
def GAt (w : World) (B g : Nat) (l : List Ac) : Prop := ∃ vk vl vu bw vL vU, GIn w B g vk vl vu bw (l.map Ac.key) vL vU (lnkD l) (UT l.length (lnkD l).flatten) (wls l)
theorem GAt.next {w w' : World} {B g : Nat} {l : List Ac} (h : GAt w B g l) (hb : Below w.heap.size w w') : GAt w' B g l := by
  obtain ⟨vk, vl, vu, bw, vL, vU, h⟩ := h
  exact ⟨vk, vl, vu, bw, vL, vU, h.next hb⟩
theorem GIn.data {w : World} {B g : Nat} {vk vl vu : Value} {bw : Nat} {ks : List Ky} {vL vU : List Value} {L U : List (List Lk)} {D : Nm → List Int} (h : GIn w B g vk vl vu bw ks vL vU L U D) {D' : Nm → List Int} (hd : ∀ n, D n = D' n) : GIn w B g vk vl vu bw ks vL vU L U D' := by
  have : D = D' := funext hd
  rw [← this]; exact h
theorem reads_names {a : Ac} (h : ordCh a.reads = true) : (a.reads.map Ch.name).Nodup ∧ (∀ n ∈ a.reads.map Ch.name, OwnE n) ∧ sortU cmpN (a.reads.map Ch.name) = a.reads.map Ch.name := by
  obtain ⟨h1, h2⟩ := ord_nodup h
  have ho : ∀ n ∈ a.reads.map Ch.name, IsOb n := fun n hn => by
    obtain ⟨c, hc, rfl⟩ := List.mem_map.1 hn
    exact okCh_ob (h2 c hc)
  have hE : ∀ n ∈ a.reads.map Ch.name, OwnE n := fun n hn => (ho n hn).own
  have hs : Strict cmpN (a.reads.map Ch.name) := by
    unfold Strict
    rw [List.pairwise_map]
    exact h1
  refine ⟨?_, hE, sortU_strict ordN hE hs⟩
  refine List.Pairwise.imp_of_mem ?_ hs
  intro x y hx hy hxy e
  subst e
  rw [ordN.refl (hE x hx)] at hxy
  omega
end Go.Proofs.YtamjllakfgphnaaGreatDoor
namespace Go.Proofs.YtamjllakfgphnaaGreatDoor
open Go.RowKit Go.MapKept Go.ChangeMaps
set_option linter.unusedSimpArgs false
set_option linter.unusedVariables false
abbrev ikV (n : Int) : Value := .int .i64 n
theorem nm_injI {a b : Int} (h : ikV a = ikV b) : a = b := by
  injection h
theorem chk_nmI (em : Bool) (n : Int) (w : World) : (Instr.checkKey em 10000 3 (ikV n)).run Tryz.prog w = .ok () w := by
  kernel_rfl
theorem now_nmI (n a : Int) : Instr.sameNow (.int .i64) (ikV n) (ikV a) = some (decide (a = n)) := by
  simp only [Instr.sameNow, ikV, if_true]
  rw [Option.some.injEq, Bool.eq_iff_iff, beq_iff_eq, decide_eq_true_iff]
  exact eq_comm
theorem find_nmI (n : Int) : ∀ (es : List MapEntry) (ents : List (Int × Value)) (i : Nat), es.map (fun e => (e.key, e.val)) = ents.map (fun p => (ikV p.1, p.2)) → Instr.findNow (.int .i64) (ikV n) es i = some (posM n ents i)
  | [], [], i, _ => by simp [Instr.findNow, posM]
  | [], p :: l, i, h => by simp at h
  | e :: es, [], i, h => by simp at h
  | e :: es, (a, v) :: l, i, h => by
    simp only [List.map_cons, List.cons.injEq, Prod.mk.injEq] at h
    obtain ⟨⟨h1, h2⟩, h3⟩ := h
    unfold Instr.findNow posM
    rw [h1, now_nmI]
    by_cases ha : a = n
    · simp [ha, h2]
    · rw [decide_eq_false ha, if_neg ha]
      exact find_nmI n es l (i + 1) h3
theorem key_nmI (n : Int) (w : World) {es : List MapEntry} {ents : List (Int × Value)} (h : es.map (fun e => (e.key, e.val)) = ents.map (fun p => (ikV p.1, p.2))) : (Instr.findKey 3 (ikV n) es).run Tryz.prog w = .ok (posM n ents 0) w :=
  run_findKey Tryz.underlying3 (find_nmI n es ents 0 h)
theorem same_nmI (a : Int) : Instr.sameBits 10000 (ikV a) (ikV a) = true := by
  simp [Instr.sameBits]
def MapAtI (w : World) (b : Nat) (ents : List (Int × Value)) : Prop := ∃ es clock, w.heap[b]? = some (.map es clock) ∧ es.toList.map (fun e => (e.key, e.val)) = ents.map (fun p => (ikV p.1, p.2)) ∧ Stamped es clock
theorem MapAtI.lt {w : World} {b : Nat} {ents : List (Int × Value)} (h : MapAtI w b ents) : b < w.heap.size := by
  obtain ⟨es, c, hb, _⟩ := h
  exact (Array.getElem?_eq_some_iff.1 hb).1
theorem MapAtI.same {w w' : World} {b : Nat} {ents : List (Int × Value)} (h : MapAtI w b ents) (e : w'.heap[b]? = w.heap[b]?) : MapAtI w' b ents := by
  obtain ⟨es, c, hb, h2⟩ := h
  exact ⟨es, c, e.trans hb, h2⟩
theorem MapAtI.next {w w' : World} {b : Nat} {ents : List (Int × Value)} (h : MapAtI w b ents) (hb : Below w.heap.size w w') : MapAtI w' b ents := h.same (hb.block b h.lt)
theorem MapAtI.new (w : World) : MapAtI (w.alloc (.map #[] 0)) w.heap.size [] := ⟨#[], 0, (MapKept.heap_alloc w _).1, rfl, stamped_empty 0⟩
theorem map_lookI {w : World} {b : Nat} {ents : List (Int × Value)} (h : MapAtI w b ents) (n : Int) {t E : TypeId} (ht : Tryz.prog.underlying t = some (.map 3 E)) {z : Value} (hz : (zeroValue E).run Tryz.prog w = .ok z w) :
    (Instr.lookup t (.map (some b)) (ikV n) false).run Tryz.prog w = .ok ((lookM n ents).getD z) w := by
  obtain ⟨es, c, hb, he, hs⟩ := h
  rw [← posM_look n ents 0]
  cases hp : posM n ents 0 with
  | none => simp [Instr.lookup, run_underlying ht, MapKept.run_getObj_map hb, chk_nmI, key_nmI n w he, hp, hz, Result.andThen]
  | some q => simp [Instr.lookup, run_underlying ht, MapKept.run_getObj_map hb, chk_nmI, key_nmI n w he, hp, hz, Result.andThen]
theorem map_putI {w : World} {b : Nat} {ents : List (Int × Value)} (h : MapAtI w b ents) (n : Int) (v : Value) {t E : TypeId} (ht : Tryz.prog.underlying t = some (.map 3 E)) :
    ∃ w', (Instr.mapUpdate t (.map (some b)) (ikV n) v).run Tryz.prog w = .ok () w' ∧ MapAtI w' b (putM n v ents) ∧ w.grownBy w' (some b) := by
  obtain ⟨es, c, hb, he, hs⟩ := h
  have hlen : es.size = ents.length := by have := congrArg List.length he; simpa using this
  have key : ∀ o : Obj, (w.grownBy (setBlock w b o) (some b)) := fun o => ⟨rfl, rfl, rfl, by simp [setBlock], fun i _ hi => heap_setBlock_other hb _ (fun e1 => hi (by rw [e1]))⟩
  cases hp : posM n ents 0 with
  | none =>
    obtain ⟨h1, h2⟩ := posM_none v hp
    refine ⟨setBlock w b (.map (es.push { key := ikV n, val := v, born := c }) (c + 1)), ?_, ⟨_, _, heap_setBlock_same hb _, ?_, ?_⟩, key _⟩
    · simp [Instr.mapUpdate, run_underlying ht, MapKept.run_getObj_map hb, chk_nmI, key_nmI n w he, hp, MapKept.run_setObj_map _ hb, Result.andThen, setBlock]
    · rw [h2]
      simp [he]
    · refine stamped_push hs fun x hx e => ?_
      have hm : (x.key, x.val) ∈ es.toList.map fun e => (e.key, e.val) := List.mem_map.2 ⟨x, hx, rfl⟩
      rw [he] at hm
      obtain ⟨p, hp1, hp2⟩ := List.mem_map.1 hm
      injection hp2 with hp2 _
      exact h1 p hp1 (nm_injI (hp2.trans e))
  | some q =>
    obtain ⟨j, u⟩ := q
    obtain ⟨k, hj, h1, h2⟩ := posM_some v hp
    rw [Nat.zero_add] at hj
    subst hj
    have hk : j < es.size := by
      rw [hlen]
      exact (List.getElem?_eq_some_iff.1 h1).1
    have hg : es[j]? = some es[j] := Array.getElem?_eq_getElem hk
    have hkey : es[j].key = ikV n := by
      have e1 : (es.toList.map fun e => (e.key, e.val))[j]? = some (es[j].key, es[j].val) := by simp [hg]
      rw [he, List.getElem?_map, h1] at e1
      simp only [Option.map_some, Option.some.injEq, Prod.mk.injEq] at e1
      exact e1.1.symm
    refine ⟨setBlock w b (.map (es.modify j fun e => { e with key := ikV n, val := v }) c), ?_, ⟨_, _, heap_setBlock_same hb _, ?_, ?_⟩, key _⟩
    · have hst : (Instr.keyThatStays (ikV n) (ikV n)).run Tryz.prog w = .ok (ikV n) w := by simp [Instr.keyThatStays, same_nmI]
      simp [Instr.mapUpdate, run_underlying ht, MapKept.run_getObj_map hb, chk_nmI, key_nmI n w he, hp, hg, hkey, hst, MapKept.run_setObj_map _ hb, Result.andThen, setBlock]
    · rw [h2]
      apply List.ext_getElem?
      intro i
      have e1 : (es.toList.map fun e => (e.key, e.val))[i]? = (ents.map fun p => (ikV p.1, p.2))[i]? := by rw [he]
      simp only [List.getElem?_map, Array.getElem?_toList, Array.getElem?_modify, List.getElem?_set] at e1 ⊢
      by_cases hij : j = i
      · subst hij
        rw [hg]
        simp [← hlen, hk]
      · simp only [if_neg hij]
        exact e1
    · exact stamped_modify hs _ _ (fun _ _ => rfl) fun e _ hej => by
        rw [hg] at hej
        cases hej
        exact hkey.symm
abbrev skV (n : Bs) : Value := .string (bs n)
theorem nm_injS {a b : Bs} (h : skV a = skV b) : a = b := by
  injection h with h; exact bs_inj h
theorem chk_nmS (em : Bool) (n : Bs) (w : World) : (Instr.checkKey em 10000 22 (skV n)).run Tryz.prog w = .ok () w := by
  kernel_rfl
theorem now_nmS (n a : Bs) : Instr.sameNow .string (skV n) (skV a) = some (decide (a = n)) := by
  simp only [Instr.sameNow, skV]
  rw [Option.some.injEq, Bool.eq_iff_iff, bytes_beq, decide_eq_true_iff]
  exact ⟨fun e => (bs_inj e).symm, fun e => by rw [e]⟩
theorem find_nmS (n : Bs) : ∀ (es : List MapEntry) (ents : List (Bs × Value)) (i : Nat), es.map (fun e => (e.key, e.val)) = ents.map (fun p => (skV p.1, p.2)) → Instr.findNow .string (skV n) es i = some (posM n ents i)
  | [], [], i, _ => by simp [Instr.findNow, posM]
  | [], p :: l, i, h => by simp at h
  | e :: es, [], i, h => by simp at h
  | e :: es, (a, v) :: l, i, h => by
    simp only [List.map_cons, List.cons.injEq, Prod.mk.injEq] at h
    obtain ⟨⟨h1, h2⟩, h3⟩ := h
    unfold Instr.findNow posM
    rw [h1, now_nmS]
    by_cases ha : a = n
    · simp [ha, h2]
    · rw [decide_eq_false ha, if_neg ha]
      exact find_nmS n es l (i + 1) h3
theorem key_nmS (n : Bs) (w : World) {es : List MapEntry} {ents : List (Bs × Value)} (h : es.map (fun e => (e.key, e.val)) = ents.map (fun p => (skV p.1, p.2))) : (Instr.findKey 22 (skV n) es).run Tryz.prog w = .ok (posM n ents 0) w :=
  run_findKey Tryz.underlying22 (find_nmS n es ents 0 h)
theorem same_nmS (a : Bs) : Instr.sameBits 10000 (skV a) (skV a) = true := by
  have hb : ∀ b : ByteArray, (b == b) = true := fun b => (bytes_beq b b).2 rfl
  simp [Instr.sameBits, hb]
def MapAtS (w : World) (b : Nat) (ents : List (Bs × Value)) : Prop := ∃ es clock, w.heap[b]? = some (.map es clock) ∧ es.toList.map (fun e => (e.key, e.val)) = ents.map (fun p => (skV p.1, p.2)) ∧ Stamped es clock
theorem MapAtS.lt {w : World} {b : Nat} {ents : List (Bs × Value)} (h : MapAtS w b ents) : b < w.heap.size := by
  obtain ⟨es, c, hb, _⟩ := h
  exact (Array.getElem?_eq_some_iff.1 hb).1
theorem MapAtS.same {w w' : World} {b : Nat} {ents : List (Bs × Value)} (h : MapAtS w b ents) (e : w'.heap[b]? = w.heap[b]?) : MapAtS w' b ents := by
  obtain ⟨es, c, hb, h2⟩ := h
  exact ⟨es, c, e.trans hb, h2⟩
theorem MapAtS.next {w w' : World} {b : Nat} {ents : List (Bs × Value)} (h : MapAtS w b ents) (hb : Below w.heap.size w w') : MapAtS w' b ents := h.same (hb.block b h.lt)
theorem MapAtS.new (w : World) : MapAtS (w.alloc (.map #[] 0)) w.heap.size [] := ⟨#[], 0, (MapKept.heap_alloc w _).1, rfl, stamped_empty 0⟩
theorem map_lookS {w : World} {b : Nat} {ents : List (Bs × Value)} (h : MapAtS w b ents) (n : Bs) {t E : TypeId} (ht : Tryz.prog.underlying t = some (.map 22 E)) {z : Value} (hz : (zeroValue E).run Tryz.prog w = .ok z w) :
    (Instr.lookup t (.map (some b)) (skV n) false).run Tryz.prog w = .ok ((lookM n ents).getD z) w := by
  obtain ⟨es, c, hb, he, hs⟩ := h
  rw [← posM_look n ents 0]
  cases hp : posM n ents 0 with
  | none => simp [Instr.lookup, run_underlying ht, MapKept.run_getObj_map hb, chk_nmS, key_nmS n w he, hp, hz, Result.andThen]
  | some q => simp [Instr.lookup, run_underlying ht, MapKept.run_getObj_map hb, chk_nmS, key_nmS n w he, hp, hz, Result.andThen]
theorem map_putS {w : World} {b : Nat} {ents : List (Bs × Value)} (h : MapAtS w b ents) (n : Bs) (v : Value) {t E : TypeId} (ht : Tryz.prog.underlying t = some (.map 22 E)) :
    ∃ w', (Instr.mapUpdate t (.map (some b)) (skV n) v).run Tryz.prog w = .ok () w' ∧ MapAtS w' b (putM n v ents) ∧ w.grownBy w' (some b) := by
  obtain ⟨es, c, hb, he, hs⟩ := h
  have hlen : es.size = ents.length := by have := congrArg List.length he; simpa using this
  have key : ∀ o : Obj, (w.grownBy (setBlock w b o) (some b)) := fun o => ⟨rfl, rfl, rfl, by simp [setBlock], fun i _ hi => heap_setBlock_other hb _ (fun e1 => hi (by rw [e1]))⟩
  cases hp : posM n ents 0 with
  | none =>
    obtain ⟨h1, h2⟩ := posM_none v hp
    refine ⟨setBlock w b (.map (es.push { key := skV n, val := v, born := c }) (c + 1)), ?_, ⟨_, _, heap_setBlock_same hb _, ?_, ?_⟩, key _⟩
    · simp [Instr.mapUpdate, run_underlying ht, MapKept.run_getObj_map hb, chk_nmS, key_nmS n w he, hp, MapKept.run_setObj_map _ hb, Result.andThen, setBlock]
    · rw [h2]
      simp [he]
    · refine stamped_push hs fun x hx e => ?_
      have hm : (x.key, x.val) ∈ es.toList.map fun e => (e.key, e.val) := List.mem_map.2 ⟨x, hx, rfl⟩
      rw [he] at hm
      obtain ⟨p, hp1, hp2⟩ := List.mem_map.1 hm
      injection hp2 with hp2 _
      exact h1 p hp1 (nm_injS (hp2.trans e))
  | some q =>
    obtain ⟨j, u⟩ := q
    obtain ⟨k, hj, h1, h2⟩ := posM_some v hp
    rw [Nat.zero_add] at hj
    subst hj
    have hk : j < es.size := by
      rw [hlen]
      exact (List.getElem?_eq_some_iff.1 h1).1
    have hg : es[j]? = some es[j] := Array.getElem?_eq_getElem hk
    have hkey : es[j].key = skV n := by
      have e1 : (es.toList.map fun e => (e.key, e.val))[j]? = some (es[j].key, es[j].val) := by simp [hg]
      rw [he, List.getElem?_map, h1] at e1
      simp only [Option.map_some, Option.some.injEq, Prod.mk.injEq] at e1
      exact e1.1.symm
    refine ⟨setBlock w b (.map (es.modify j fun e => { e with key := skV n, val := v }) c), ?_, ⟨_, _, heap_setBlock_same hb _, ?_, ?_⟩, key _⟩
    · have hst : (Instr.keyThatStays (skV n) (skV n)).run Tryz.prog w = .ok (skV n) w := by simp [Instr.keyThatStays, same_nmS]
      simp [Instr.mapUpdate, run_underlying ht, MapKept.run_getObj_map hb, chk_nmS, key_nmS n w he, hp, hg, hkey, hst, MapKept.run_setObj_map _ hb, Result.andThen, setBlock]
    · rw [h2]
      apply List.ext_getElem?
      intro i
      have e1 : (es.toList.map fun e => (e.key, e.val))[i]? = (ents.map fun p => (skV p.1, p.2))[i]? := by rw [he]
      simp only [List.getElem?_map, Array.getElem?_toList, Array.getElem?_modify, List.getElem?_set] at e1 ⊢
      by_cases hij : j = i
      · subst hij
        rw [hg]
        simp [← hlen, hk]
      · simp only [if_neg hij]
        exact e1
    · exact stamped_modify hs _ _ (fun _ _ => rfl) fun e _ hej => by
        rw [hg] at hej
        cases hej
        exact hkey.symm
def QOwn (w : World) (B : Nat) (v : Value) (Q : List Int) : Prop :=
  ∃ (g o c : Nat) (cur : Array Value), v = .slice (some ⟨g, o, none⟩) Q.length c ∧ B ≤ g ∧ Blk w g 3 cur ∧ Q.length ≤ c ∧ o + c ≤ cur.size ∧ c ≤ maxLen ∧ ∀ (j : Nat) (hj : j < Q.length), cur[o + j]? = some (.int .i64 Q[j])
theorem QOwn.next {w w' : World} {B : Nat} {v : Value} {Q : List Int} (h : QOwn w B v Q) (hb : Below w.heap.size w w') : QOwn w' B v Q := by
  obtain ⟨g, o, c, cur, h1, h2, h3, h4⟩ := h
  exact ⟨g, o, c, cur, h1, h2, h3.next hb h3.lt, h4⟩
theorem QOwn.grown {w w' : World} {B : Nat} {v : Value} {Q : List Int} {row : Option Nat} (h : QOwn w B v Q) (hg : w.grownBy w' row) (hne : ∀ r cs, row = some r → w.heap[r]? ≠ some (.cells cs 3 (0, 0))) : QOwn w' B v Q := by
  obtain ⟨g, o, c, cur, h1, h2, h3, h4⟩ := h
  exact ⟨g, o, c, cur, h1, h2, h3.grown hg (fun e => hne g cur e.symm h3), h4⟩
theorem QOwn.form {w : World} {B : Nat} {v : Value} {Q : List Int} (h : QOwn w B v Q) : ∃ A c, v = .slice A Q.length c ∧ Q.length ≤ c := by
  obtain ⟨g, o, c, cur, h1, h2, h3, h4, _⟩ := h
  exact ⟨_, c, h1, h4⟩
theorem QOwn.at0 {w : World} {B : Nat} {v : Value} {x : Int} {Q : List Int} (h : QOwn w B v (x :: Q)) : ∃ g o c, v = .slice (some ⟨g, o, none⟩) (Q.length + 1) c ∧ Q.length + 1 ≤ c ∧ w.cell? ⟨g, o, none⟩ = some (.int .i64 x) := by
  obtain ⟨g, o, c, cur, h1, h2, h3, h4, h5, h6, h7⟩ := h
  refine ⟨g, o, c, h1, h4, ?_⟩
  have := h7 0 (by simp)
  rw [h3.cell o]
  simpa using this
theorem QOwn.tail {w : World} {B : Nat} {A : Option Addr} {n c : Nat} {x : Int} {Q : List Int} (h : QOwn w B (.slice A n c) (x :: Q)) : QOwn w B (.slice (if c = 1 then A else A.map (·.add 1)) (n - 1) (c - 1)) Q := by
  obtain ⟨g, o, c', cur, h1, h2, h3, h4, h5, h6, h7⟩ := h
  injection h1 with e1 e2 e3
  subst e1 e2 e3
  simp only [List.length_cons] at h4 h7 ⊢
  by_cases hc : c = 1
  · rw [if_pos hc]
    refine ⟨g, o, c - 1, cur, by rw [Nat.add_sub_cancel], h2, h3, by omega, by omega, by omega, fun j hj => ?_⟩
    omega
  · rw [if_neg hc]
    refine ⟨g, o + 1, c - 1, cur, by rw [Nat.add_sub_cancel]; rfl, h2, h3, by omega, by omega, by omega, fun j hj => ?_⟩
    have := h7 (j + 1) (by omega)
    rw [show o + 1 + j = o + (j + 1) by omega]
    simpa using this
theorem QOwn.push {w : World} {B : Nat} {v : Value} {Q : List Int} (h : QOwn w B v Q) (x : Int) (hB : B ≤ w.heap.size) (hl : Q.length ≤ 1000000) (ty : TypeId) :
    ∃ v' w', (Builtin.append_ #[33, 33] ty #[v, .slice (some ⟨w.heap.size, 0, none⟩) 1 1]).run Tryz.prog (w.alloc (.cells #[.int .i64 x] 3)) = .ok v' w' ∧ QOwn w' B v' (Q ++ [x]) ∧ (∀ b, b < w.heap.size → (∀ cs, w.heap[b]? ≠ some (.cells cs 3 (0, 0))) → w'.heap[b]? = w.heap[b]?) ∧ Below B w w' ∧ w.heap.size ≤ w'.heap.size := by
  obtain ⟨g, o, c, cur, rfl, h2, h3, h4, h5, h6, h7⟩ := h
  obtain ⟨i0, hi, hz0, hz1, hz2⟩ := info_parts infoIn
  have hal := (Below.refl w.heap.size w).alloc (Nat.le_refl _) (.cells #[.int .i64 x] 3)
  have hz := Blk.new w 3 #[.int .i64 x]
  have h3' := h3.next hal h3.lt
  have hnews : ∀ (j : Nat) (u : Value), [Value.int .i64 x][j]? = some u → (w.alloc (.cells #[.int .i64 x] 3)).cell? ((⟨w.heap.size, 0, none⟩ : Addr).add j) = some u := fun j u hj => by
    rw [add_off, Nat.zero_add, hz.cell j]
    simpa using hj
  by_cases hr : Q.length + 1 ≤ c
  · have hgl := h3'.lt
    have hcell : ∀ j, j < [Value.int .i64 x].length → ((w.alloc (.cells #[.int .i64 x] 3)).cell? ⟨g, o + Q.length * i0.size + j, none⟩).isSome = true := fun j hj => by
      rw [hz1, h3'.cell]
      simp only [List.length_singleton] at hj
      rw [Array.getElem?_eq_getElem (by omega)]
      rfl
    have hfro : ∀ j, j < [Value.int .i64 x].length → (w.alloc (.cells #[.int .i64 x] 3)).frozen? ⟨g, o + Q.length * i0.size + j, none⟩ = false := fun j hj => h3'.frozen _
    have hrun := run_append_room_cells (P := Tryz.prog) (w := w.alloc (.cells #[.int .i64 x] 3)) 33 ty 3 i0 Tryz.underlying33 hi g o Q.length c ⟨w.heap.size, 0, none⟩ 1 1 [.int .i64 x] (by rw [hz1]; rfl) hnews (by simp [Value.oneCell']) hr hcell hfro
    rw [hz1, Nat.mul_one] at hrun
    refine ⟨_, _, hrun, ?_⟩
    have hset : (w.alloc (.cells #[.int .i64 x] 3)).setCells g (o + Q.length) [.int .i64 x] = (w.alloc (.cells #[.int .i64 x] 3)).setCell ⟨g, o + Q.length, none⟩ (.int .i64 x) := rfl
    rw [hset]
    have hs := h3'.set_ (o + Q.length) (.int .i64 x)
    refine ⟨⟨g, o, c, _, by simp, h2, hs, by simpa using hr, by simpa using h5, h6, fun j hj => ?_⟩, fun b hb hne => ?_, ((hal.mono hB).setCell (p := ⟨g, o + Q.length, none⟩) h2 _), ?_⟩
    · simp only [List.length_append, List.length_singleton] at hj
      rw [Array.getElem?_setIfInBounds]
      by_cases hjq : j < Q.length
      · rw [if_neg (by omega), h7 j hjq, List.getElem_append_left hjq]
      · obtain rfl : j = Q.length := by omega
        rw [if_pos rfl, if_pos (by omega), List.getElem_append_right (Nat.le_refl _)]
        simp
    · have hbg : b ≠ g := fun e => hne cur (by rw [e]; exact h3)
      exact (Below.heap_setCell _ ⟨g, o + Q.length, none⟩ _ b hbg).trans (hal.block b hb)
    · rw [World.size_setCell]
      exact hal.size
  · have hQ : Q.length = c := by omega
    have holds : ∀ (j : Nat) (u : Value), (Q.map (fun y => Value.int .i64 y))[j]? = some u → (w.alloc (.cells #[.int .i64 x] 3)).cell? ⟨g, o + j, none⟩ = some u := fun j u hj => by
      rw [h3'.cell]
      rw [List.getElem?_map] at hj
      obtain ⟨y, hy, rfl⟩ := Option.map_eq_some_iff.1 hj
      obtain ⟨hjl, rfl⟩ := List.getElem?_eq_some_iff.1 hy
      exact h7 j hjl
    obtain ⟨v', w', hrun, hown, hg⟩ := run_append_arg_grows (P := Tryz.prog) (w := w.alloc (.cells #[.int .i64 x] 3)) 33 ty 3 i0 (.int .i64 0) 1 8 Tryz.underlying33 hi hz0 hz1 hz2 rfl (by decide) ⟨g, o, none⟩ Q.length c (Q.map (fun y => Value.int .i64 y)) (by simp) (fun j u hj => by rw [add_off]; exact holds j u hj) ⟨w.heap.size, 0, none⟩ 1 1 [.int .i64 x] rfl hnews (by omega) (by simp only [maxLen]; omega) (by omega)
    have hbelow := hal.grown hg (Nat.le_of_lt (Blk.lt hz)) (fun k hk => by cases hk)
    refine ⟨v', w', hrun, ?_, fun b hb hne => hbelow.block b hb, hbelow.mono hB, hbelow.size⟩
    rcases hown with ⟨hlen, ⟨_, h0⟩ | ⟨g', c', cur', rfl, hge, hb', hle, hmx, hcs, htk⟩⟩
    · omega
    have hsz0 : w.heap.size ≤ g' := Nat.le_trans (Nat.le_of_lt (Blk.lt hz)) hge
    refine ⟨g', 0, c', cur', by simp, Nat.le_trans hB hsz0, hb', by simpa using hle, by omega, hmx, fun j hj => ?_⟩
    rw [Nat.zero_add]
    have h8 := congrArg (fun l => l[j]?) htk
    simp only [List.length_append, List.length_singleton] at hj
    rw [List.getElem?_take_of_lt (by omega)] at h8
    rw [← Array.getElem?_toList, h8, ← List.map_singleton (f := fun y => Value.int .i64 y), ← List.map_append, List.getElem?_map, List.getElem?_eq_getElem (by simpa using hj)]
    rfl
end Go.Proofs.YtamjllakfgphnaaGreatDoor
