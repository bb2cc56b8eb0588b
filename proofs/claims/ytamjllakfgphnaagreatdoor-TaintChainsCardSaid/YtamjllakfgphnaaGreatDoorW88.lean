/- Walks of layer 54: the origin of a byte. -/
import Derived.Sort.BigQuietIn
import Derived.Test.YtamjllakfgphnaaGreatDoorW87
import Derived.Test.YtamjllakfgphnaaGreatDoorN2
namespace Go.Proofs.YtamjllakfgphnaaGreatDoor
open Go.RowKit Go.Shelf
set_option linter.unusedSimpArgs false
set_option linter.unusedVariables false
attribute [local go_sem] Oper.semAt_some
/-- A place as an argument. -/
def plV (n : Nm) (a : Int) : Value := .agg #[.int .i64 n.kind, .string (bs n.owner), .int .i64 n.num, .int .i64 n.idx, .string (bs n.text), .int .i64 a]
def OrgP (r : Int × Int) (w : World) (e : Ending) (w' : World) : Prop := e = .returned (.tuple #[.int .i64 r.1, .int .i64 r.2]) ∧ Below w.heap.size w w'
def stI (s : Option (Int × UInt8)) : Int := match s with | some (o, _) => o | none => 0
def stB (s : Option (Int × UInt8)) : Int := match s with | some (_, b) => (b.toNat : Int) | none => 0
/-- The three variables of the loop. -/
structure OrgC (s : Option (Int × UInt8)) (b1 b2 b3 : Nat) (X : World) : Prop where
  c1 : Blk X b1 3 #[.int .i64 (stI s)]
  c2 : Blk X b2 4 #[.bool s.isSome]
  c3 : Blk X b3 5 #[.int .u8 (stB s)]
theorem Blk_row {X Y : World} {row : Option Nat} {b : Nat} {t : TypeId} {cs : Array Value} (h : Blk X b t cs) (hg : X.grownBy Y row) (hr : ∀ r, row = some r → ∃ o : Obj, X.heap[r]? = some o ∧ o.isCells = false) : Blk Y b t cs :=
  h.grown hg (fun e => by obtain ⟨o, ho, hc⟩ := hr b e.symm; rw [show X.heap[b]? = _ from h] at ho; cases ho; cases hc)
theorem OrgC.row {s : Option (Int × UInt8)} {b1 b2 b3 : Nat} {X Y : World} {row : Option Nat} (h : OrgC s b1 b2 b3 X) (hg : X.grownBy Y row) (hr : ∀ r, row = some r → ∃ o : Obj, X.heap[r]? = some o ∧ o.isCells = false) : OrgC s b1 b2 b3 Y :=
  ⟨Blk_row h.c1 hg hr, Blk_row h.c2 hg hr, Blk_row h.c3 hg hr⟩
theorem OrgC.next {s : Option (Int × UInt8)} {b1 b2 b3 : Nat} {X Y : World} (h : OrgC s b1 b2 b3 X) (hb : Below X.heap.size X Y) : OrgC s b1 b2 b3 Y := ⟨h.c1.next hb h.c1.lt, h.c2.next hb h.c2.lt, h.c3.next hb h.c3.lt⟩
theorem below_row {B N : Nat} {w X Y : World} {row : Option Nat} (h : Below B w X) (hBw : B ≤ w.heap.size) (hN : B ≤ N) (hg : X.grownBy Y row) (hr : ∀ r, row = some r → N ≤ r ∧ ∃ o : Obj, X.heap[r]? = some o ∧ o.isCells = false) : Below B w Y :=
  h.trans ⟨hg.os, hg.tape, hg.output, hg.size, fun k hk => hg.block k (Nat.lt_of_lt_of_le hk (Nat.le_trans hBw h.size)) (fun e => by have := (hr k e.symm).1; omega)⟩
theorem keeps_drewN (N : Nat) (X : World) (m : Nat) : KeepsFrom N X (X.drewN m) := ⟨Nat.le_refl _, fun k o _ h _ => h⟩
/-- A round that goes on. -/
theorem org_on (N B b1 b2 b3 : Nat) (h1 : B + 1 = b1) (h2 : b1 + 1 = b2) (h3 : b2 + 1 = b3) (m : Nat) (xi : Int) (bb : UInt8) {X : World} {st : Option (Int × UInt8)} (hc : OrgC st b1 b2 b3 X) {t : TypeId} {cs : Array Value} (hB : Blk X B t cs) :
    OrgC (some (xi, bb)) b1 b2 b3 ((((X.drewN m).setCell ⟨b1, 0, none⟩ (.int .i64 xi)).setCell ⟨b3, 0, none⟩ (.int .u8 bb.toNat)).setCell ⟨b2, 0, none⟩ (.bool true)) ∧
    KpB B (fun k => k = b1 ∨ k = b2 ∨ k = b3) X ((((X.drewN m).setCell ⟨b1, 0, none⟩ (.int .i64 xi)).setCell ⟨b3, 0, none⟩ (.int .u8 bb.toNat)).setCell ⟨b2, 0, none⟩ (.bool true)) ∧
    KeepsFrom N X ((((X.drewN m).setCell ⟨b1, 0, none⟩ (.int .i64 xi)).setCell ⟨b3, 0, none⟩ (.int .u8 bb.toNat)).setCell ⟨b2, 0, none⟩ (.bool true)) ∧
    Blk ((((X.drewN m).setCell ⟨b1, 0, none⟩ (.int .i64 xi)).setCell ⟨b3, 0, none⟩ (.int .u8 bb.toNat)).setCell ⟨b2, 0, none⟩ (.bool true)) B t cs := by
  have hl := hB.lt
  refine ⟨⟨?_, ?_, ?_⟩, ?_, ?_, ?_⟩
  · exact (((hc.c1.drewN m).set_ 0 _).far (p := ⟨b3, 0, none⟩) (show b1 ≠ b3 by omega) _).far (p := ⟨b2, 0, none⟩) (show b1 ≠ b2 by omega) _
  · exact (((hc.c2.drewN m).far (p := ⟨b1, 0, none⟩) (show b2 ≠ b1 by omega) _).far (p := ⟨b3, 0, none⟩) (show b2 ≠ b3 by omega) _).set_ 0 _
  · exact (((hc.c3.drewN m).far (p := ⟨b1, 0, none⟩) (show b3 ≠ b1 by omega) _).set_ 0 _).far (p := ⟨b2, 0, none⟩) (show b3 ≠ b2 by omega) _
  · exact (((KpB.of_below (below_drewN (Below.refl _ _) m) (by omega)).trans (KpB.setCell _ ⟨b1, 0, none⟩ _ (by show B ≤ b1; omega) (.inl rfl))).trans (KpB.setCell _ ⟨b3, 0, none⟩ _ (by show B ≤ b3; omega) (.inr (.inr rfl)))).trans (KpB.setCell _ ⟨b2, 0, none⟩ _ (by show B ≤ b2; omega) (.inr (.inl rfl)))
  · exact (((keeps_drewN N X m).trans ((KeepsOthers.setCell _ _ _).from N)).trans ((KeepsOthers.setCell _ _ _).from N)).trans ((KeepsOthers.setCell _ _ _).from N)
  · exact (((hB.drewN m).far (p := ⟨b1, 0, none⟩) (show B ≠ b1 by omega) _).far (p := ⟨b3, 0, none⟩) (show B ≠ b3 by omega) _).far (p := ⟨b2, 0, none⟩) (show B ≠ b2 by omega) _
def OnP (A B b1 b2 b3 : Nat) (i : Int) (n : Nm) (w W7 : World) (pre : List Ver) (xi : Int) (xv : Bs) (X Y : World) : Prop :=
  KeepsFrom W7.heap.size X Y ∧ KpB B (fun k => k = b1 ∨ k = b2 ∨ k = b3) X Y ∧ (∃ st, (∀ r, orgF A none (pre ++ [⟨xi, xv, false⟩] ++ r) = orgF A st r) ∧ OrgC st b1 b2 b3 Y) ∧ Blk Y B 28 #[.int .i64 n.kind, .string (bs n.owner), .int .i64 n.num, .int .i64 n.idx, .string (bs n.text), .int .i64 (A : Int)] ∧ W7.heap.size ≤ Y.heap.size ∧ Below B w Y
set_option maxRecDepth 100000 in
set_option maxHeartbeats 4000000 in
theorem origin_is {w : World} {F0 : Nat → Prop} {g : Nat} {s0 : St} {l : List Ac} {n : Nm} (a i : Int) (hv : VAt w F0 g s0 l) (hn : OwnE n) (ho : VOk l) :
    Calls Tryz.prog 24 #[.pointer (some ⟨g, 0, none⟩), plV n a, .int .i64 i] w (OrgP (orgR l.length (verL s0 l n) a i) w) := by
  have ha := (Below.refl w.heap.size w).alloc (Nat.le_refl _) (.cells #[.int .i64 n.kind, .string (bs n.owner), .int .i64 n.num, .int .i64 n.idx, .string (bs n.text), .int .i64 a] 28)
  have z := Blk.new w 28 #[.int .i64 n.kind, .string (bs n.owner), .int .i64 n.num, .int .i64 n.idx, .string (bs n.text), .int .i64 a]
  have HV := Lib.hid (hv.next ha)
  have HZ := Lib.hid z
  have HA := Lib.hid ha
  have HN := Lib.hid hn
  have HO := Lib.hid ho
  have x0 := z.cell 0
  have x1 := z.cell 1
  have x2 := z.cell 2
  have x3 := z.cell 3
  have x4 := z.cell 4
  have x5 := z.cell 5
  simp only [List.getElem?_toArray, List.getElem?_cons_zero, List.getElem?_cons_succ] at x0 x1 x2 x3 x4 x5
  have hll : l.length ≤ 100 := ho.len
  clear hv ha z hn ho
  refine (callsIn_wide (n := 12)).1 ?_
  refine callsIn_of_wp_marks Tryz.func24 rfl trivial ?_ rfl
  simp only [plV]
  simp only [Tryz.ntmps24, List.size_toArray, List.length_cons, List.length_nil, Nat.reduceAdd, Nat.reduceSub, Array.replicate_succ, Array.replicate_zero, List.push_toArray, List.append_toArray, List.nil_append, List.cons_append]
  by_cases h1 : i < 0
  · have HR := Lib.hid (show orgR l.length (verL s0 l n) a i = (0, 2) by unfold orgR; rw [if_pos (.inl h1)])
    have d1 : decide (i < 0) = true := decide_eq_true h1
    gi_wp2
    refine ⟨trivial, ?_⟩
    gi_wp2
    exact ⟨.tuple #[.int .i64 0, .int .i64 2], by simp [results, Tryz.results24, go_sem], by rw [HR.out], HA.out⟩
  · have d1 : decide (i < 0) = false := decide_eq_false h1
    by_cases h2 : (l.length : Int) < i
    · have HR := Lib.hid (show orgR l.length (verL s0 l n) a i = (0, 2) by unfold orgR; rw [if_pos (.inr (.inl h2))])
      have d2 : decide ((l.length : Int) < i) = true := decide_eq_true h2
      gi_wp2_with (refine ⟨trivial, ?_⟩; gi_at_call 41; refine (callsIn_wide.2 (vlen_is HV.out)).mono ?_; rintro e w' ⟨rfl, rfl⟩)
      exact ⟨.tuple #[.int .i64 0, .int .i64 2], by simp [results, Tryz.results24, go_sem], by rw [HR.out], HA.out⟩
    · have d2 : decide ((l.length : Int) < i) = false := decide_eq_false h2
      by_cases h3 : a < 0
      · have HR := Lib.hid (show orgR l.length (verL s0 l n) a i = (0, 2) by unfold orgR; rw [if_pos (.inr (.inr h3))])
        have d3 : decide (a < 0) = true := decide_eq_true h3
        gi_wp2_with (refine ⟨trivial, ?_⟩; gi_at_call 41; refine (callsIn_wide.2 (vlen_is HV.out)).mono ?_; rintro e w' ⟨rfl, rfl⟩)
        exact ⟨.tuple #[.int .i64 0, .int .i64 2], by simp [results, Tryz.results24, go_sem], by rw [HR.out], HA.out⟩
      · obtain ⟨A, rfl⟩ : ∃ A : Nat, a = (A : Int) := ⟨a.toNat, by omega⟩
        have d3 : decide ((A : Int) < 0) = false := decide_eq_false h3
        have HR := Lib.hid (show orgR l.length (verL s0 l n) (A : Int) i = match orgF A none (backL i (verL s0 l n)) with | none => (0, 8) | some (o, _) => (o, 0) by unfold orgR; rw [if_neg (by omega)]; rfl)
        gi_wp2_with (refine ⟨trivial, ?_⟩; gi_at_call 41; refine (callsIn_wide.2 (vlen_is HV.out)).mono ?_; rintro e w' ⟨rfl, rfl⟩)
        clear x0 x1 x2 x3 x4 x5
        have c1 := ((Blk.new (w.alloc (.cells #[.int .i64 n.kind, .string (bs n.owner), .int .i64 n.num, .int .i64 n.idx, .string (bs n.text), .int .i64 (A : Int)] 28)) 3 #[.int .i64 0]).alloc (.cells #[.bool false] 4)).alloc (.cells #[.int .u8 0] 5)
        have c2 := (Blk.new ((w.alloc (.cells #[.int .i64 n.kind, .string (bs n.owner), .int .i64 n.num, .int .i64 n.idx, .string (bs n.text), .int .i64 (A : Int)] 28)).alloc (.cells #[.int .i64 0] 3)) 4 #[.bool false]).alloc (.cells #[.int .u8 0] 5)
        have c3 := Blk.new (((w.alloc (.cells #[.int .i64 n.kind, .string (bs n.owner), .int .i64 n.num, .int .i64 n.idx, .string (bs n.text), .int .i64 (A : Int)] 28)).alloc (.cells #[.int .i64 0] 3)).alloc (.cells #[.bool false] 4)) 5 #[.int .u8 0]
        have hz4 := ((HZ.out.alloc (.cells #[.int .i64 0] 3)).alloc (.cells #[.bool false] 4)).alloc (.cells #[.int .u8 0] 5)
        have hal := (((Below.refl (w.alloc (.cells #[.int .i64 n.kind, .string (bs n.owner), .int .i64 n.num, .int .i64 n.idx, .string (bs n.text), .int .i64 (A : Int)] 28)).heap.size (w.alloc (.cells #[.int .i64 n.kind, .string (bs n.owner), .int .i64 n.num, .int .i64 n.idx, .string (bs n.text), .int .i64 (A : Int)] 28))).alloc (Nat.le_refl _) (.cells #[.int .i64 0] 3)).alloc (by simp) (.cells #[.bool false] 4)).alloc (by simp) (.cells #[.int .u8 0] 5)
        simp only [World.size_alloc] at c1 c2 c3 hal
        have HC := Lib.hid (show OrgC none (w.heap.size + 1) (w.heap.size + 1 + 1) (w.heap.size + 1 + 1 + 1) _ from ⟨c1, c2, c3⟩)
        have HB4 := Lib.hid (HA.out.trans (hal.mono (by simp)))
        have HV4 := Lib.hid (HV.out.next (by rw [World.size_alloc]; exact hal))
        have HZ4 := Lib.hid hz4
        have hs4 : ((((w.alloc (.cells #[.int .i64 n.kind, .string (bs n.owner), .int .i64 n.num, .int .i64 n.idx, .string (bs n.text), .int .i64 (A : Int)] 28)).alloc (.cells #[.int .i64 0] 3)).alloc (.cells #[.bool false] 4)).alloc (.cells #[.int .u8 0] 5)).heap.size = w.heap.size + 4 := by simp
        clear c1 c2 c3 hal hz4 HV HA HZ
        generalize (((w.alloc (.cells #[.int .i64 n.kind, .string (bs n.owner), .int .i64 n.num, .int .i64 n.idx, .string (bs n.text), .int .i64 (A : Int)] 28)).alloc (.cells #[.int .i64 0] 3)).alloc (.cells #[.bool false] 4)).alloc (.cells #[.int .u8 0] 5) = W4 at *
        obtain ⟨b1, hb1⟩ : ∃ x, w.heap.size + 1 = x := ⟨_, rfl⟩
        rw [hb1] at HC ⊢
        obtain ⟨b2, hb2⟩ : ∃ x, b1 + 1 = x := ⟨_, rfl⟩
        rw [hb2] at HC ⊢
        obtain ⟨b3, hb3⟩ : ∃ x, b2 + 1 = x := ⟨_, rfl⟩
        rw [hb3] at HC ⊢
        obtain ⟨B, hB⟩ : ∃ x, w.heap.size = x := ⟨_, rfl⟩
        rw [hB] at HZ4 hs4 hb1 ⊢
        have HBB := Lib.hid hB
        rw [hB] at HB4
        clear hB
        refine ⟨trivial, ?_⟩
        gi_at_call 59
        refine (callsIn_wide.2 (backwards_is _ n i _)).mono ?_
        rintro e w' ⟨rfl, rfl⟩
        gi_wp2_with fail
        have K1 := ((Blk.new W4 46 #[.pointer (some ⟨g, 0, none⟩)]).alloc (.cells #[.int .i64 n.kind, .string (bs n.owner), .int .i64 n.num, .int .i64 n.idx, .string (bs n.text)] 26)).alloc (.cells #[.int .i64 i] 3)
        have K2 := (Blk.new (W4.alloc (.cells #[.pointer (some ⟨g, 0, none⟩)] 46)) 26 #[.int .i64 n.kind, .string (bs n.owner), .int .i64 n.num, .int .i64 n.idx, .string (bs n.text)]).alloc (.cells #[.int .i64 i] 3)
        have K3 := Blk.new ((W4.alloc (.cells #[.pointer (some ⟨g, 0, none⟩)] 46)).alloc (.cells #[.int .i64 n.kind, .string (bs n.owner), .int .i64 n.num, .int .i64 n.idx, .string (bs n.text)] 26)) 3 #[.int .i64 i]
        have h7 := (((Below.refl W4.heap.size W4).alloc (Nat.le_refl _) (.cells #[.pointer (some ⟨g, 0, none⟩)] 46)).alloc (by simp) (.cells #[.int .i64 n.kind, .string (bs n.owner), .int .i64 n.num, .int .i64 n.idx, .string (bs n.text)] 26)).alloc (by simp; omega) (.cells #[.int .i64 i] 3)
        have hs7 : (((W4.alloc (.cells #[.pointer (some ⟨g, 0, none⟩)] 46)).alloc (.cells #[.int .i64 n.kind, .string (bs n.owner), .int .i64 n.num, .int .i64 n.idx, .string (bs n.text)] 26)).alloc (.cells #[.int .i64 i] 3)).heap.size = W4.heap.size + 3 := by simp
        simp only [World.size_alloc] at K1 K2 K3
        have HK1 := Lib.hid K1
        have HK2 := Lib.hid K2
        have HK3 := Lib.hid (show Blk _ (W4.heap.size + 2) 3 #[.int .i64 i] from K3)
        have HC7 := Lib.hid (HC.out.next h7)
        have HV7 := Lib.hid (HV4.out.next h7)
        have HZ7 := Lib.hid (HZ4.out.next h7 HZ4.out.lt)
        have HB7 := Lib.hid (HB4.out.trans (h7.mono (by omega)))
        clear K1 K2 K3 h7 HC HV4 HZ4 HB4
        generalize ((W4.alloc (.cells #[.pointer (some ⟨g, 0, none⟩)] 46)).alloc (.cells #[.int .i64 n.kind, .string (bs n.owner), .int .i64 n.num, .int .i64 n.idx, .string (bs n.text)] 26)).alloc (.cells #[.int .i64 i] 3) = W7 at *
        rw [hs4] at hs7 HK1 HK2 HK3
        have hBw : B ≤ w.heap.size := by rw [HBB.out]; exact Nat.le_refl _
        obtain ⟨vs, hvs⟩ : ∃ vs, verL s0 l n = vs := ⟨_, rfl⟩
        have HVS := Lib.hid hvs
        have hseq := backwards_but (n := n) i HV7.out HN.out HO.out (B + 4) (B + 4 + 1) (B + 4 + 2) HK1.out HK2.out HK3.out B (fun k => k = b1 ∨ k = b2 ∨ k = b3) (fun k h => by omega) (by omega) 11 (by omega)
        rw [hvs] at hseq HR ⊢
        clear hvs
        refine wpIn_range_but rfl (by omega) (gf := 103) (lb := #[.pointer (some ⟨B + 4, 0, none⟩), .pointer (some ⟨B + 4 + 1, 0, none⟩), .pointer (some ⟨B + 4 + 2, 0, none⟩)]) rfl trivial (enters_of Tryz.func103 (by kernel_rfl) rfl) (show B ≤ W7.heap.size by omega) hseq (fun _ => rfl)
          (fun pre X => (∃ st, (∀ r, orgF A none (pre ++ r) = orgF A st r) ∧ OrgC st b1 b2 b3 X) ∧ Blk X B 28 #[.int .i64 n.kind, .string (bs n.owner), .int .i64 n.num, .int .i64 n.idx, .string (bs n.text), .int .i64 (A : Int)] ∧ W7.heap.size ≤ X.heap.size ∧ Below B w X)
          (fun c pre X => c = .exit 0 ∧ (∃ st, (∀ r, orgF A none (pre ++ r) = st) ∧ OrgC st b1 b2 b3 X) ∧ Below B w X)
          (fun s X Y row h hg hr => by
            obtain ⟨⟨st, h1, h2⟩, h3, h4, h5⟩ := h
            exact ⟨⟨st, h1, h2.row hg (fun r e => (hr r e).2)⟩, Blk_row h3 hg (fun r e => (hr r e).2), Nat.le_trans h4 hg.size, below_row h5 hBw (by omega) hg hr⟩)
          (fun c s X Y row h hg hr => by
            obtain ⟨h0, ⟨st, h1, h2⟩, h5⟩ := h
            exact ⟨h0, ⟨st, h1, h2.row hg (fun r e => (hr r e).2)⟩, below_row h5 hBw (by omega) hg hr⟩)
          ⟨⟨none, fun r => rfl, HC7.out⟩, HZ7.out, Nat.le_refl _, HB7.out⟩
          (fun x a' X => ∃ Bx, W7.heap.size ≤ Bx ∧ Blk X Bx 68 #[.int .i64 x.idx, .string (bs x.value), .bool x.absent] ∧ a' = { tmps := #[.pointer (some ⟨g, 0, none⟩), .agg #[.int .i64 n.kind, .string (bs n.owner), .int .i64 n.num, .int .i64 n.idx, .string (bs n.text), .int .i64 (A : Int)], .int .i64 i, undef, .pointer (some ⟨B, 0, none⟩), undef, .int .i64 0, .int .i64 0, .pointer (some ⟨b1, 0, none⟩), .pointer (some ⟨b2, 0, none⟩), .pointer (some ⟨b3, 0, none⟩), .pointer (some ⟨Bx, 0, none⟩), .pointer (some ⟨g, 0, none⟩), .bool false, .int .i64 i, .bool false, .bool false, .int .i64 i, .pointer (some ⟨g, 0, none⟩), .int .i64 l.length, .bool false, .bool false, .bool false, .pointer (some ⟨B, 5, none⟩), .int .i64 (A : Int), .bool false, .bool false, .pointer (some ⟨g, 0, none⟩), .pointer (some ⟨B, 0, none⟩), .agg #[.int .i64 n.kind, .string (bs n.owner), .int .i64 n.num, .int .i64 n.idx, .string (bs n.text)], .int .i64 i, .func (.func 103) #[] #[.pointer (some ⟨B + 4, 0, none⟩), .pointer (some ⟨B + 4 + 1, 0, none⟩), .pointer (some ⟨B + 4 + 2, 0, none⟩)], .agg #[.int .i64 x.idx, .string (bs x.value), .bool x.absent], undef, undef, undef, undef, undef, undef, undef, undef, undef, undef, undef, undef, undef, undef, undef, undef, undef, undef, undef, undef, undef, undef, undef, undef, undef, undef, undef, undef, undef, undef, undef, undef], defers := [] })
          (fun x a' _ X Y row h hg hr => by
            obtain ⟨Bx, h1, h2, h3⟩ := h
            exact ⟨Bx, h1, Blk_row h2 hg (fun r e => (hr r e).2), h3⟩) ?assign ?body ?done ?stop
        case assign =>
          rintro l' pre x X K ⟨⟨st, h1, h2⟩, h3, h4, h5⟩ hK
          simp only [veV]
          gi_wp2
          have hb := (Below.refl X.heap.size X).alloc (Nat.le_refl _) (.cells #[.int .i64 x.idx, .string (bs x.value), .bool x.absent] 68)
          exact hK _ _ ((KeepsOthers.alloc _ _).from _) (KpB.of_below hb (by omega)) ⟨⟨st, h1, h2.next hb⟩, h3.next hb h3.lt, Nat.le_trans h4 hb.size, h5.trans (hb.mono (by omega))⟩ ⟨X.heap.size, h4, Blk.new X _ _, rfl⟩
        case body =>
          rintro l' pre x a' X hl ⟨rr, hrr⟩ ⟨⟨st, h1, h2⟩, h3, h4, h5⟩ ⟨Bx, hBx, bX, rfl⟩ hlt
          obtain ⟨xi, xv, xa⟩ := x
          have c0 := bX.cell 0
          have c1 := bX.cell 1
          have c2 := bX.cell 2
          have p5 := h3.cell 5
          have t9 := h2.c2.cell 0
          have t10 := h2.c3.cell 0
          simp only [List.getElem?_toArray, List.getElem?_cons_zero, List.getElem?_cons_succ] at c0 c1 c2 p5 t9 t10
          have HX1 := Lib.hid h1
          have HX2 := Lib.hid h2
          have HX3 := Lib.hid h3
          have HX4 := Lib.hid h4
          have HX5 := Lib.hid h5
          have HBX := Lib.hid bX
          clear h1 h2 h3 h4 h5 hrr hseq HK1 HK2 HK3 HC7 HV7 HZ7 HB7 bX
          cases xa with
          | true =>
            have HH := Lib.hid (fun r => orgF_no A st (v := ⟨xi, xv, true⟩) rfl r)
            gi_wp2_with fail
            refine wpIn_region_quiet_round (F := Fence.wide) rfl (by kernel_rfl) (by kernel_rfl) (by kernel_rfl) ?_
            repeat (gi_big_quiet_step (fail))
            refine wpQuietIn_nil ?_
            intro _ hw'
            obtain ⟨nq, hw2⟩ := hw'
            subst hw2
            gi_wp2
            exact ⟨⟨Nat.le_refl _, fun k o _ h _ => h⟩, rfl, ⟨st, fun r => by rw [List.append_assoc, List.singleton_append, HX1.out]; exact HH.out r, HX2.out.next (below_drewN (Below.refl _ _) nq)⟩, HX5.out.trans (below_drewN (Below.refl _ _) nq)⟩
          | false =>
            rcases Nat.lt_or_ge A xv.length with hlA | hlA
            · have e1 : decide ((bs xv).size ≤ A) = false := decide_eq_false (by rw [bs_size]; omega)
              have e2 : ((A : Nat) : Int) < ((bs xv).size : Int) := by rw [bs_size]; omega
              have e3 : A < (bs xv).size := by rw [bs_size]; omega
              have hha := Lib.hid (show hasAt A ⟨xi, xv, false⟩ = true by unfold hasAt; simp [hlA])
              obtain ⟨bb, hbb⟩ : ∃ q, xv.getD A 0 = q := ⟨_, rfl⟩
              have HBB2 := Lib.hid hbb
              have e4 : (bs xv)[A]'e3 = bb := by
                rw [← hbb, List.getD_eq_getElem?_getD, List.getElem?_eq_getElem hlA]
                rfl
              clear hbb
              have f1 := HX2.out.c1.frozen 0
              have f2 := HX2.out.c2.frozen 0
              have f3 := HX2.out.c3.frozen 0
              have t8 := HX2.out.c1.cell 0
              simp only [List.getElem?_toArray, List.getElem?_cons_zero] at t8
              have n1 : ¬ b1 = Bx := by omega
              have n2 : ¬ Bx = b1 := by omega
              have n3 : ¬ b1 = B := by omega
              have n4 : ¬ B = b1 := by omega
              have HON := Lib.hid (fun (m : Nat) => org_on (W7.heap.size) B b1 b2 b3 hb1 hb2 hb3 m xi bb HX2.out HX3.out)
              have HPO : Hid ((∀ r, orgF A st (⟨xi, xv, false⟩ :: r) = orgF A (some (xi, bb)) r) → ∀ m : Nat, OnP A B b1 b2 b3 i n w W7 pre xi xv X ((((X.drewN m).setCell ⟨b1, 0, none⟩ (.int .i64 xi)).setCell ⟨b3, 0, none⟩ (.int .u8 bb.toNat)).setCell ⟨b2, 0, none⟩ (.bool true))) := Lib.hid (fun hgo m => ⟨(HON.out m).2.2.1, (HON.out m).2.1, ⟨some (xi, bb), fun r => by rw [List.append_assoc, List.singleton_append, HX1.out]; exact hgo r, (HON.out m).1⟩, (HON.out m).2.2.2, Nat.le_trans HX4.out (HON.out m).2.1.low.size, HX5.out.trans (HON.out m).2.1.low⟩)
              cases st with
              | none =>
                (try simp only [Option.isSome, stB] at t9 t10)
                have HPO2 := Lib.hid (HPO.out (fun r => by rw [orgF_first A hha.out]; exact congrArg (fun q => orgF A (some (xi, q)) r) HBB2.out))
                gi_wp2_with fail
                refine wpIn_region_quiet_round (F := Fence.wide) rfl (by kernel_rfl) (by kernel_rfl) (by kernel_rfl) ?_
                repeat (gi_big_quiet_step (fail))
                refine wpQuietIn_nil ?_
                intro _ hw'
                obtain ⟨nq, hw2⟩ := hw'
                subst hw2
                gi_wp2_with fail
                refine wpIn_region_any_round (F := Fence.wide) rfl (by kernel_rfl) (by kernel_rfl) ?_
                try (change wpAnyIn _ _ _ _ _ _ _ _ _ (World.drew _))
                refine wpAnyIn_take (i := 0) (v := ?_) rfl rfl (by kernel_rfl) (by kernel_rfl) (by kernel_rfl) (fun _ _ _ h => h) ⟨Or.inl ⟨by kernel_rfl, ?_⟩, fun w => rfl⟩ ?_
                rotate_left
                · (intro w; go_simp; try with_reducible rfl)
                try simp only [Act.put, List.setIfInBounds_toArray, List.set_cons_zero, List.set_cons_succ]
                refine wpAnyIn_take (i := 2) (v := ?_) rfl rfl (by kernel_rfl) (by kernel_rfl) (by kernel_rfl) (fun _ _ _ h => h) ⟨Or.inl ⟨by kernel_rfl, ?_⟩, fun w => rfl⟩ ?_
                rotate_left
                · (intro w; go_simp; try with_reducible rfl)
                try simp only [Act.put, List.setIfInBounds_toArray, List.set_cons_zero, List.set_cons_succ]
                refine wpAnyIn_take (i := 4) (v := ?_) rfl rfl (by kernel_rfl) (by kernel_rfl) (by kernel_rfl) (fun _ _ _ h => h) ⟨Or.inl ⟨by kernel_rfl, ?_⟩, fun w => rfl⟩ ?_
                rotate_left
                · (intro w; go_simp; try with_reducible rfl)
                try simp only [Act.put, List.setIfInBounds_toArray, List.set_cons_zero, List.set_cons_succ]
                refine wpAnyIn_ready (rs := [1, 3, 5]) (by kernel_rfl) (by simp) ?_
                refine AllReadyIn.cons rfl (fun K hK => ?_) (AllReadyIn.cons rfl (fun K hK => ?_) (AllReadyIn.cons rfl (fun K hK => ?_) AllReadyIn.nil))
                · go_simp
                  refine hK _ _ ?_
                  clear hK K
                  refine wpAnyIn_ready (rs := [3, 5, 7]) (by kernel_rfl) (by simp) ?_
                  refine AllReadyIn.cons rfl (fun K hK => ?_) (AllReadyIn.cons rfl (fun K hK => ?_) (AllReadyIn.cons rfl (fun K hK => ?_) AllReadyIn.nil))
                  · go_simp
                    refine hK _ _ ?_
                    clear hK K
                    refine wpAnyIn_ready (rs := [5, 7]) (by kernel_rfl) (by simp) ?_
                    refine AllReadyIn.cons rfl (fun K hK => ?_) (AllReadyIn.cons rfl (fun K hK => ?_) AllReadyIn.nil)
                    · go_simp
                      refine hK _ _ ?_
                      clear hK K
                      refine wpAnyIn_ready (rs := [6, 7]) (by kernel_rfl) (by simp) ?_
                      refine AllReadyIn.cons rfl (fun K hK => ?_) (AllReadyIn.cons rfl (fun K hK => ?_) AllReadyIn.nil)
                      · go_simp
                        refine hK _ _ ?_
                        clear hK K
                        refine wpAnyIn_ready (rs := [7]) (by kernel_rfl) (by simp) ?_
                        refine AllReadyIn.cons rfl (fun K hK => ?_) AllReadyIn.nil
                        · go_simp
                          refine hK _ _ ?_
                          clear hK K
                          refine wpAnyIn_ready (rs := [8]) (by kernel_rfl) (by simp) ?_
                          refine AllReadyIn.cons rfl (fun K hK => ?_) AllReadyIn.nil
                          · go_simp
                            refine hK _ _ ?_
                            clear hK K
                            refine wpAnyIn_ready (rs := [9]) (by kernel_rfl) (by simp) ?_
                            refine AllReadyIn.cons rfl (fun K hK => ?_) AllReadyIn.nil
                            · go_simp
                              refine hK _ _ ?_
                              clear hK K
                              refine wpAnyIn_done (by kernel_rfl) ?_ _
                              gi_wp2
                              obtain ⟨q1, q2, q3, q4, q5, q6⟩ := HPO2.out (nq + 1)
                              exact ⟨q1, q2, q3, q4, q5, q6⟩
                      · go_simp
                        refine hK _ _ ?_
                        clear hK K
                        refine wpAnyIn_ready (rs := [6]) (by kernel_rfl) (by simp) ?_
                        refine AllReadyIn.cons rfl (fun K hK => ?_) AllReadyIn.nil
                        · go_simp
                          refine hK _ _ ?_
                          clear hK K
                          refine wpAnyIn_ready (rs := [8]) (by kernel_rfl) (by simp) ?_
                          refine AllReadyIn.cons rfl (fun K hK => ?_) AllReadyIn.nil
                          · go_simp
                            refine hK _ _ ?_
                            clear hK K
                            refine wpAnyIn_ready (rs := [9]) (by kernel_rfl) (by simp) ?_
                            refine AllReadyIn.cons rfl (fun K hK => ?_) AllReadyIn.nil
                            · go_simp
                              refine hK _ _ ?_
                              clear hK K
                              refine wpAnyIn_done (by kernel_rfl) ?_ _
                              gi_wp2
                              obtain ⟨q1, q2, q3, q4, q5, q6⟩ := HPO2.out (nq + 1)
                              exact ⟨q1, q2, q3, q4, q5, q6⟩
                    · go_simp
                      refine hK _ _ ?_
                      clear hK K
                      refine wpAnyIn_ready (rs := [5]) (by kernel_rfl) (by simp) ?_
                      refine AllReadyIn.cons rfl (fun K hK => ?_) AllReadyIn.nil
                      · go_simp
                        refine hK _ _ ?_
                        clear hK K
                        refine wpAnyIn_ready (rs := [6]) (by kernel_rfl) (by simp) ?_
                        refine AllReadyIn.cons rfl (fun K hK => ?_) AllReadyIn.nil
                        · go_simp
                          refine hK _ _ ?_
                          clear hK K
                          refine wpAnyIn_ready (rs := [8]) (by kernel_rfl) (by simp) ?_
                          refine AllReadyIn.cons rfl (fun K hK => ?_) AllReadyIn.nil
                          · go_simp
                            refine hK _ _ ?_
                            clear hK K
                            refine wpAnyIn_ready (rs := [9]) (by kernel_rfl) (by simp) ?_
                            refine AllReadyIn.cons rfl (fun K hK => ?_) AllReadyIn.nil
                            · go_simp
                              refine hK _ _ ?_
                              clear hK K
                              refine wpAnyIn_done (by kernel_rfl) ?_ _
                              gi_wp2
                              obtain ⟨q1, q2, q3, q4, q5, q6⟩ := HPO2.out (nq + 1)
                              exact ⟨q1, q2, q3, q4, q5, q6⟩
                  · go_simp
                    refine hK _ _ ?_
                    clear hK K
                    refine wpAnyIn_ready (rs := [3, 7]) (by kernel_rfl) (by simp) ?_
                    refine AllReadyIn.cons rfl (fun K hK => ?_) (AllReadyIn.cons rfl (fun K hK => ?_) AllReadyIn.nil)
                    · go_simp
                      refine hK _ _ ?_
                      clear hK K
                      refine wpAnyIn_ready (rs := [6, 7]) (by kernel_rfl) (by simp) ?_
                      refine AllReadyIn.cons rfl (fun K hK => ?_) (AllReadyIn.cons rfl (fun K hK => ?_) AllReadyIn.nil)
                      · go_simp
                        refine hK _ _ ?_
                        clear hK K
                        refine wpAnyIn_ready (rs := [7]) (by kernel_rfl) (by simp) ?_
                        refine AllReadyIn.cons rfl (fun K hK => ?_) AllReadyIn.nil
                        · go_simp
                          refine hK _ _ ?_
                          clear hK K
                          refine wpAnyIn_ready (rs := [8]) (by kernel_rfl) (by simp) ?_
                          refine AllReadyIn.cons rfl (fun K hK => ?_) AllReadyIn.nil
                          · go_simp
                            refine hK _ _ ?_
                            clear hK K
                            refine wpAnyIn_ready (rs := [9]) (by kernel_rfl) (by simp) ?_
                            refine AllReadyIn.cons rfl (fun K hK => ?_) AllReadyIn.nil
                            · go_simp
                              refine hK _ _ ?_
                              clear hK K
                              refine wpAnyIn_done (by kernel_rfl) ?_ _
                              gi_wp2
                              obtain ⟨q1, q2, q3, q4, q5, q6⟩ := HPO2.out (nq + 1)
                              exact ⟨q1, q2, q3, q4, q5, q6⟩
                      · go_simp
                        refine hK _ _ ?_
                        clear hK K
                        refine wpAnyIn_ready (rs := [6]) (by kernel_rfl) (by simp) ?_
                        refine AllReadyIn.cons rfl (fun K hK => ?_) AllReadyIn.nil
                        · go_simp
                          refine hK _ _ ?_
                          clear hK K
                          refine wpAnyIn_ready (rs := [8]) (by kernel_rfl) (by simp) ?_
                          refine AllReadyIn.cons rfl (fun K hK => ?_) AllReadyIn.nil
                          · go_simp
                            refine hK _ _ ?_
                            clear hK K
                            refine wpAnyIn_ready (rs := [9]) (by kernel_rfl) (by simp) ?_
                            refine AllReadyIn.cons rfl (fun K hK => ?_) AllReadyIn.nil
                            · go_simp
                              refine hK _ _ ?_
                              clear hK K
                              refine wpAnyIn_done (by kernel_rfl) ?_ _
                              gi_wp2
                              obtain ⟨q1, q2, q3, q4, q5, q6⟩ := HPO2.out (nq + 1)
                              exact ⟨q1, q2, q3, q4, q5, q6⟩
                    · go_simp
                      refine hK _ _ ?_
                      clear hK K
                      refine wpAnyIn_ready (rs := [3]) (by kernel_rfl) (by simp) ?_
                      refine AllReadyIn.cons rfl (fun K hK => ?_) AllReadyIn.nil
                      · go_simp
                        refine hK _ _ ?_
                        clear hK K
                        refine wpAnyIn_ready (rs := [6]) (by kernel_rfl) (by simp) ?_
                        refine AllReadyIn.cons rfl (fun K hK => ?_) AllReadyIn.nil
                        · go_simp
                          refine hK _ _ ?_
                          clear hK K
                          refine wpAnyIn_ready (rs := [8]) (by kernel_rfl) (by simp) ?_
                          refine AllReadyIn.cons rfl (fun K hK => ?_) AllReadyIn.nil
                          · go_simp
                            refine hK _ _ ?_
                            clear hK K
                            refine wpAnyIn_ready (rs := [9]) (by kernel_rfl) (by simp) ?_
                            refine AllReadyIn.cons rfl (fun K hK => ?_) AllReadyIn.nil
                            · go_simp
                              refine hK _ _ ?_
                              clear hK K
                              refine wpAnyIn_done (by kernel_rfl) ?_ _
                              gi_wp2
                              obtain ⟨q1, q2, q3, q4, q5, q6⟩ := HPO2.out (nq + 1)
                              exact ⟨q1, q2, q3, q4, q5, q6⟩
                  · go_simp
                    refine hK _ _ ?_
                    clear hK K
                    refine wpAnyIn_ready (rs := [3, 5]) (by kernel_rfl) (by simp) ?_
                    refine AllReadyIn.cons rfl (fun K hK => ?_) (AllReadyIn.cons rfl (fun K hK => ?_) AllReadyIn.nil)
                    · go_simp
                      refine hK _ _ ?_
                      clear hK K
                      refine wpAnyIn_ready (rs := [5]) (by kernel_rfl) (by simp) ?_
                      refine AllReadyIn.cons rfl (fun K hK => ?_) AllReadyIn.nil
                      · go_simp
                        refine hK _ _ ?_
                        clear hK K
                        refine wpAnyIn_ready (rs := [6]) (by kernel_rfl) (by simp) ?_
                        refine AllReadyIn.cons rfl (fun K hK => ?_) AllReadyIn.nil
                        · go_simp
                          refine hK _ _ ?_
                          clear hK K
                          refine wpAnyIn_ready (rs := [8]) (by kernel_rfl) (by simp) ?_
                          refine AllReadyIn.cons rfl (fun K hK => ?_) AllReadyIn.nil
                          · go_simp
                            refine hK _ _ ?_
                            clear hK K
                            refine wpAnyIn_ready (rs := [9]) (by kernel_rfl) (by simp) ?_
                            refine AllReadyIn.cons rfl (fun K hK => ?_) AllReadyIn.nil
                            · go_simp
                              refine hK _ _ ?_
                              clear hK K
                              refine wpAnyIn_done (by kernel_rfl) ?_ _
                              gi_wp2
                              obtain ⟨q1, q2, q3, q4, q5, q6⟩ := HPO2.out (nq + 1)
                              exact ⟨q1, q2, q3, q4, q5, q6⟩
                    · go_simp
                      refine hK _ _ ?_
                      clear hK K
                      refine wpAnyIn_ready (rs := [3]) (by kernel_rfl) (by simp) ?_
                      refine AllReadyIn.cons rfl (fun K hK => ?_) AllReadyIn.nil
                      · go_simp
                        refine hK _ _ ?_
                        clear hK K
                        refine wpAnyIn_ready (rs := [6]) (by kernel_rfl) (by simp) ?_
                        refine AllReadyIn.cons rfl (fun K hK => ?_) AllReadyIn.nil
                        · go_simp
                          refine hK _ _ ?_
                          clear hK K
                          refine wpAnyIn_ready (rs := [8]) (by kernel_rfl) (by simp) ?_
                          refine AllReadyIn.cons rfl (fun K hK => ?_) AllReadyIn.nil
                          · go_simp
                            refine hK _ _ ?_
                            clear hK K
                            refine wpAnyIn_ready (rs := [9]) (by kernel_rfl) (by simp) ?_
                            refine AllReadyIn.cons rfl (fun K hK => ?_) AllReadyIn.nil
                            · go_simp
                              refine hK _ _ ?_
                              clear hK K
                              refine wpAnyIn_done (by kernel_rfl) ?_ _
                              gi_wp2
                              obtain ⟨q1, q2, q3, q4, q5, q6⟩ := HPO2.out (nq + 1)
                              exact ⟨q1, q2, q3, q4, q5, q6⟩
                · go_simp
                  refine hK _ _ ?_
                  clear hK K
                  refine wpAnyIn_ready (rs := [1, 5]) (by kernel_rfl) (by simp) ?_
                  refine AllReadyIn.cons rfl (fun K hK => ?_) (AllReadyIn.cons rfl (fun K hK => ?_) AllReadyIn.nil)
                  · go_simp
                    refine hK _ _ ?_
                    clear hK K
                    refine wpAnyIn_ready (rs := [5, 7]) (by kernel_rfl) (by simp) ?_
                    refine AllReadyIn.cons rfl (fun K hK => ?_) (AllReadyIn.cons rfl (fun K hK => ?_) AllReadyIn.nil)
                    · go_simp
                      refine hK _ _ ?_
                      clear hK K
                      refine wpAnyIn_ready (rs := [6, 7]) (by kernel_rfl) (by simp) ?_
                      refine AllReadyIn.cons rfl (fun K hK => ?_) (AllReadyIn.cons rfl (fun K hK => ?_) AllReadyIn.nil)
                      · go_simp
                        refine hK _ _ ?_
                        clear hK K
                        refine wpAnyIn_ready (rs := [7]) (by kernel_rfl) (by simp) ?_
                        refine AllReadyIn.cons rfl (fun K hK => ?_) AllReadyIn.nil
                        · go_simp
                          refine hK _ _ ?_
                          clear hK K
                          refine wpAnyIn_ready (rs := [8]) (by kernel_rfl) (by simp) ?_
                          refine AllReadyIn.cons rfl (fun K hK => ?_) AllReadyIn.nil
                          · go_simp
                            refine hK _ _ ?_
                            clear hK K
                            refine wpAnyIn_ready (rs := [9]) (by kernel_rfl) (by simp) ?_
                            refine AllReadyIn.cons rfl (fun K hK => ?_) AllReadyIn.nil
                            · go_simp
                              refine hK _ _ ?_
                              clear hK K
                              refine wpAnyIn_done (by kernel_rfl) ?_ _
                              gi_wp2
                              obtain ⟨q1, q2, q3, q4, q5, q6⟩ := HPO2.out (nq + 1)
                              exact ⟨q1, q2, q3, q4, q5, q6⟩
                      · go_simp
                        refine hK _ _ ?_
                        clear hK K
                        refine wpAnyIn_ready (rs := [6]) (by kernel_rfl) (by simp) ?_
                        refine AllReadyIn.cons rfl (fun K hK => ?_) AllReadyIn.nil
                        · go_simp
                          refine hK _ _ ?_
                          clear hK K
                          refine wpAnyIn_ready (rs := [8]) (by kernel_rfl) (by simp) ?_
                          refine AllReadyIn.cons rfl (fun K hK => ?_) AllReadyIn.nil
                          · go_simp
                            refine hK _ _ ?_
                            clear hK K
                            refine wpAnyIn_ready (rs := [9]) (by kernel_rfl) (by simp) ?_
                            refine AllReadyIn.cons rfl (fun K hK => ?_) AllReadyIn.nil
                            · go_simp
                              refine hK _ _ ?_
                              clear hK K
                              refine wpAnyIn_done (by kernel_rfl) ?_ _
                              gi_wp2
                              obtain ⟨q1, q2, q3, q4, q5, q6⟩ := HPO2.out (nq + 1)
                              exact ⟨q1, q2, q3, q4, q5, q6⟩
                    · go_simp
                      refine hK _ _ ?_
                      clear hK K
                      refine wpAnyIn_ready (rs := [5]) (by kernel_rfl) (by simp) ?_
                      refine AllReadyIn.cons rfl (fun K hK => ?_) AllReadyIn.nil
                      · go_simp
                        refine hK _ _ ?_
                        clear hK K
                        refine wpAnyIn_ready (rs := [6]) (by kernel_rfl) (by simp) ?_
                        refine AllReadyIn.cons rfl (fun K hK => ?_) AllReadyIn.nil
                        · go_simp
                          refine hK _ _ ?_
                          clear hK K
                          refine wpAnyIn_ready (rs := [8]) (by kernel_rfl) (by simp) ?_
                          refine AllReadyIn.cons rfl (fun K hK => ?_) AllReadyIn.nil
                          · go_simp
                            refine hK _ _ ?_
                            clear hK K
                            refine wpAnyIn_ready (rs := [9]) (by kernel_rfl) (by simp) ?_
                            refine AllReadyIn.cons rfl (fun K hK => ?_) AllReadyIn.nil
                            · go_simp
                              refine hK _ _ ?_
                              clear hK K
                              refine wpAnyIn_done (by kernel_rfl) ?_ _
                              gi_wp2
                              obtain ⟨q1, q2, q3, q4, q5, q6⟩ := HPO2.out (nq + 1)
                              exact ⟨q1, q2, q3, q4, q5, q6⟩
                  · go_simp
                    refine hK _ _ ?_
                    clear hK K
                    refine wpAnyIn_ready (rs := [1, 6]) (by kernel_rfl) (by simp) ?_
                    refine AllReadyIn.cons rfl (fun K hK => ?_) (AllReadyIn.cons rfl (fun K hK => ?_) AllReadyIn.nil)
                    · go_simp
                      refine hK _ _ ?_
                      clear hK K
                      refine wpAnyIn_ready (rs := [6, 7]) (by kernel_rfl) (by simp) ?_
                      refine AllReadyIn.cons rfl (fun K hK => ?_) (AllReadyIn.cons rfl (fun K hK => ?_) AllReadyIn.nil)
                      · go_simp
                        refine hK _ _ ?_
                        clear hK K
                        refine wpAnyIn_ready (rs := [7]) (by kernel_rfl) (by simp) ?_
                        refine AllReadyIn.cons rfl (fun K hK => ?_) AllReadyIn.nil
                        · go_simp
                          refine hK _ _ ?_
                          clear hK K
                          refine wpAnyIn_ready (rs := [8]) (by kernel_rfl) (by simp) ?_
                          refine AllReadyIn.cons rfl (fun K hK => ?_) AllReadyIn.nil
                          · go_simp
                            refine hK _ _ ?_
                            clear hK K
                            refine wpAnyIn_ready (rs := [9]) (by kernel_rfl) (by simp) ?_
                            refine AllReadyIn.cons rfl (fun K hK => ?_) AllReadyIn.nil
                            · go_simp
                              refine hK _ _ ?_
                              clear hK K
                              refine wpAnyIn_done (by kernel_rfl) ?_ _
                              gi_wp2
                              obtain ⟨q1, q2, q3, q4, q5, q6⟩ := HPO2.out (nq + 1)
                              exact ⟨q1, q2, q3, q4, q5, q6⟩
                      · go_simp
                        refine hK _ _ ?_
                        clear hK K
                        refine wpAnyIn_ready (rs := [6]) (by kernel_rfl) (by simp) ?_
                        refine AllReadyIn.cons rfl (fun K hK => ?_) AllReadyIn.nil
                        · go_simp
                          refine hK _ _ ?_
                          clear hK K
                          refine wpAnyIn_ready (rs := [8]) (by kernel_rfl) (by simp) ?_
                          refine AllReadyIn.cons rfl (fun K hK => ?_) AllReadyIn.nil
                          · go_simp
                            refine hK _ _ ?_
                            clear hK K
                            refine wpAnyIn_ready (rs := [9]) (by kernel_rfl) (by simp) ?_
                            refine AllReadyIn.cons rfl (fun K hK => ?_) AllReadyIn.nil
                            · go_simp
                              refine hK _ _ ?_
                              clear hK K
                              refine wpAnyIn_done (by kernel_rfl) ?_ _
                              gi_wp2
                              obtain ⟨q1, q2, q3, q4, q5, q6⟩ := HPO2.out (nq + 1)
                              exact ⟨q1, q2, q3, q4, q5, q6⟩
                    · go_simp
                      refine hK _ _ ?_
                      clear hK K
                      refine wpAnyIn_ready (rs := [1]) (by kernel_rfl) (by simp) ?_
                      refine AllReadyIn.cons rfl (fun K hK => ?_) AllReadyIn.nil
                      · go_simp
                        refine hK _ _ ?_
                        clear hK K
                        refine wpAnyIn_ready (rs := [7]) (by kernel_rfl) (by simp) ?_
                        refine AllReadyIn.cons rfl (fun K hK => ?_) AllReadyIn.nil
                        · go_simp
                          refine hK _ _ ?_
                          clear hK K
                          refine wpAnyIn_ready (rs := [8]) (by kernel_rfl) (by simp) ?_
                          refine AllReadyIn.cons rfl (fun K hK => ?_) AllReadyIn.nil
                          · go_simp
                            refine hK _ _ ?_
                            clear hK K
                            refine wpAnyIn_ready (rs := [9]) (by kernel_rfl) (by simp) ?_
                            refine AllReadyIn.cons rfl (fun K hK => ?_) AllReadyIn.nil
                            · go_simp
                              refine hK _ _ ?_
                              clear hK K
                              refine wpAnyIn_done (by kernel_rfl) ?_ _
                              gi_wp2
                              obtain ⟨q1, q2, q3, q4, q5, q6⟩ := HPO2.out (nq + 1)
                              exact ⟨q1, q2, q3, q4, q5, q6⟩
                · go_simp
                  refine hK _ _ ?_
                  clear hK K
                  refine wpAnyIn_ready (rs := [1, 3]) (by kernel_rfl) (by simp) ?_
                  refine AllReadyIn.cons rfl (fun K hK => ?_) (AllReadyIn.cons rfl (fun K hK => ?_) AllReadyIn.nil)
                  · go_simp
                    refine hK _ _ ?_
                    clear hK K
                    refine wpAnyIn_ready (rs := [3, 7]) (by kernel_rfl) (by simp) ?_
                    refine AllReadyIn.cons rfl (fun K hK => ?_) (AllReadyIn.cons rfl (fun K hK => ?_) AllReadyIn.nil)
                    · go_simp
                      refine hK _ _ ?_
                      clear hK K
                      refine wpAnyIn_ready (rs := [6, 7]) (by kernel_rfl) (by simp) ?_
                      refine AllReadyIn.cons rfl (fun K hK => ?_) (AllReadyIn.cons rfl (fun K hK => ?_) AllReadyIn.nil)
                      · go_simp
                        refine hK _ _ ?_
                        clear hK K
                        refine wpAnyIn_ready (rs := [7]) (by kernel_rfl) (by simp) ?_
                        refine AllReadyIn.cons rfl (fun K hK => ?_) AllReadyIn.nil
                        · go_simp
                          refine hK _ _ ?_
                          clear hK K
                          refine wpAnyIn_ready (rs := [8]) (by kernel_rfl) (by simp) ?_
                          refine AllReadyIn.cons rfl (fun K hK => ?_) AllReadyIn.nil
                          · go_simp
                            refine hK _ _ ?_
                            clear hK K
                            refine wpAnyIn_ready (rs := [9]) (by kernel_rfl) (by simp) ?_
                            refine AllReadyIn.cons rfl (fun K hK => ?_) AllReadyIn.nil
                            · go_simp
                              refine hK _ _ ?_
                              clear hK K
                              refine wpAnyIn_done (by kernel_rfl) ?_ _
                              gi_wp2
                              obtain ⟨q1, q2, q3, q4, q5, q6⟩ := HPO2.out (nq + 1)
                              exact ⟨q1, q2, q3, q4, q5, q6⟩
                      · go_simp
                        refine hK _ _ ?_
                        clear hK K
                        refine wpAnyIn_ready (rs := [6]) (by kernel_rfl) (by simp) ?_
                        refine AllReadyIn.cons rfl (fun K hK => ?_) AllReadyIn.nil
                        · go_simp
                          refine hK _ _ ?_
                          clear hK K
                          refine wpAnyIn_ready (rs := [8]) (by kernel_rfl) (by simp) ?_
                          refine AllReadyIn.cons rfl (fun K hK => ?_) AllReadyIn.nil
                          · go_simp
                            refine hK _ _ ?_
                            clear hK K
                            refine wpAnyIn_ready (rs := [9]) (by kernel_rfl) (by simp) ?_
                            refine AllReadyIn.cons rfl (fun K hK => ?_) AllReadyIn.nil
                            · go_simp
                              refine hK _ _ ?_
                              clear hK K
                              refine wpAnyIn_done (by kernel_rfl) ?_ _
                              gi_wp2
                              obtain ⟨q1, q2, q3, q4, q5, q6⟩ := HPO2.out (nq + 1)
                              exact ⟨q1, q2, q3, q4, q5, q6⟩
                    · go_simp
                      refine hK _ _ ?_
                      clear hK K
                      refine wpAnyIn_ready (rs := [3]) (by kernel_rfl) (by simp) ?_
                      refine AllReadyIn.cons rfl (fun K hK => ?_) AllReadyIn.nil
                      · go_simp
                        refine hK _ _ ?_
                        clear hK K
                        refine wpAnyIn_ready (rs := [6]) (by kernel_rfl) (by simp) ?_
                        refine AllReadyIn.cons rfl (fun K hK => ?_) AllReadyIn.nil
                        · go_simp
                          refine hK _ _ ?_
                          clear hK K
                          refine wpAnyIn_ready (rs := [8]) (by kernel_rfl) (by simp) ?_
                          refine AllReadyIn.cons rfl (fun K hK => ?_) AllReadyIn.nil
                          · go_simp
                            refine hK _ _ ?_
                            clear hK K
                            refine wpAnyIn_ready (rs := [9]) (by kernel_rfl) (by simp) ?_
                            refine AllReadyIn.cons rfl (fun K hK => ?_) AllReadyIn.nil
                            · go_simp
                              refine hK _ _ ?_
                              clear hK K
                              refine wpAnyIn_done (by kernel_rfl) ?_ _
                              gi_wp2
                              obtain ⟨q1, q2, q3, q4, q5, q6⟩ := HPO2.out (nq + 1)
                              exact ⟨q1, q2, q3, q4, q5, q6⟩
                  · go_simp
                    refine hK _ _ ?_
                    clear hK K
                    refine wpAnyIn_ready (rs := [1, 6]) (by kernel_rfl) (by simp) ?_
                    refine AllReadyIn.cons rfl (fun K hK => ?_) (AllReadyIn.cons rfl (fun K hK => ?_) AllReadyIn.nil)
                    · go_simp
                      refine hK _ _ ?_
                      clear hK K
                      refine wpAnyIn_ready (rs := [6, 7]) (by kernel_rfl) (by simp) ?_
                      refine AllReadyIn.cons rfl (fun K hK => ?_) (AllReadyIn.cons rfl (fun K hK => ?_) AllReadyIn.nil)
                      · go_simp
                        refine hK _ _ ?_
                        clear hK K
                        refine wpAnyIn_ready (rs := [7]) (by kernel_rfl) (by simp) ?_
                        refine AllReadyIn.cons rfl (fun K hK => ?_) AllReadyIn.nil
                        · go_simp
                          refine hK _ _ ?_
                          clear hK K
                          refine wpAnyIn_ready (rs := [8]) (by kernel_rfl) (by simp) ?_
                          refine AllReadyIn.cons rfl (fun K hK => ?_) AllReadyIn.nil
                          · go_simp
                            refine hK _ _ ?_
                            clear hK K
                            refine wpAnyIn_ready (rs := [9]) (by kernel_rfl) (by simp) ?_
                            refine AllReadyIn.cons rfl (fun K hK => ?_) AllReadyIn.nil
                            · go_simp
                              refine hK _ _ ?_
                              clear hK K
                              refine wpAnyIn_done (by kernel_rfl) ?_ _
                              gi_wp2
                              obtain ⟨q1, q2, q3, q4, q5, q6⟩ := HPO2.out (nq + 1)
                              exact ⟨q1, q2, q3, q4, q5, q6⟩
                      · go_simp
                        refine hK _ _ ?_
                        clear hK K
                        refine wpAnyIn_ready (rs := [6]) (by kernel_rfl) (by simp) ?_
                        refine AllReadyIn.cons rfl (fun K hK => ?_) AllReadyIn.nil
                        · go_simp
                          refine hK _ _ ?_
                          clear hK K
                          refine wpAnyIn_ready (rs := [8]) (by kernel_rfl) (by simp) ?_
                          refine AllReadyIn.cons rfl (fun K hK => ?_) AllReadyIn.nil
                          · go_simp
                            refine hK _ _ ?_
                            clear hK K
                            refine wpAnyIn_ready (rs := [9]) (by kernel_rfl) (by simp) ?_
                            refine AllReadyIn.cons rfl (fun K hK => ?_) AllReadyIn.nil
                            · go_simp
                              refine hK _ _ ?_
                              clear hK K
                              refine wpAnyIn_done (by kernel_rfl) ?_ _
                              gi_wp2
                              obtain ⟨q1, q2, q3, q4, q5, q6⟩ := HPO2.out (nq + 1)
                              exact ⟨q1, q2, q3, q4, q5, q6⟩
                    · go_simp
                      refine hK _ _ ?_
                      clear hK K
                      refine wpAnyIn_ready (rs := [1]) (by kernel_rfl) (by simp) ?_
                      refine AllReadyIn.cons rfl (fun K hK => ?_) AllReadyIn.nil
                      · go_simp
                        refine hK _ _ ?_
                        clear hK K
                        refine wpAnyIn_ready (rs := [7]) (by kernel_rfl) (by simp) ?_
                        refine AllReadyIn.cons rfl (fun K hK => ?_) AllReadyIn.nil
                        · go_simp
                          refine hK _ _ ?_
                          clear hK K
                          refine wpAnyIn_ready (rs := [8]) (by kernel_rfl) (by simp) ?_
                          refine AllReadyIn.cons rfl (fun K hK => ?_) AllReadyIn.nil
                          · go_simp
                            refine hK _ _ ?_
                            clear hK K
                            refine wpAnyIn_ready (rs := [9]) (by kernel_rfl) (by simp) ?_
                            refine AllReadyIn.cons rfl (fun K hK => ?_) AllReadyIn.nil
                            · go_simp
                              refine hK _ _ ?_
                              clear hK K
                              refine wpAnyIn_done (by kernel_rfl) ?_ _
                              gi_wp2
                              obtain ⟨q1, q2, q3, q4, q5, q6⟩ := HPO2.out (nq + 1)
                              exact ⟨q1, q2, q3, q4, q5, q6⟩
              | some ob =>
                obtain ⟨oo, ob⟩ := ob
                (try simp only [Option.isSome, stB] at t9 t10)
                by_cases hne : bb = ob
                · subst hne
                  have HPO2 := Lib.hid (HPO.out (fun r => orgF_eq A hha.out HBB2.out r))
                  have e5 : (((bb.toNat : Int)) != ((bb.toNat : Int))) = false := by simp
                  gi_wp2_with fail
                  refine wpIn_region_quiet_round (F := Fence.wide) rfl (by kernel_rfl) (by kernel_rfl) (by kernel_rfl) ?_
                  repeat (gi_big_quiet_step (fail))
                  refine wpQuietIn_nil ?_
                  intro _ hw'
                  obtain ⟨nq, hw2⟩ := hw'
                  subst hw2
                  gi_wp2_with fail
                  refine wpIn_region_any_round (F := Fence.wide) rfl (by kernel_rfl) (by kernel_rfl) ?_
                  try (change wpAnyIn _ _ _ _ _ _ _ _ _ (World.drew _))
                  refine wpAnyIn_take (i := 0) (v := ?_) rfl rfl (by kernel_rfl) (by kernel_rfl) (by kernel_rfl) (fun _ _ _ h => h) ⟨Or.inl ⟨by kernel_rfl, ?_⟩, fun w => rfl⟩ ?_
                  rotate_left
                  · (intro w; go_simp; try with_reducible rfl)
                  try simp only [Act.put, List.setIfInBounds_toArray, List.set_cons_zero, List.set_cons_succ]
                  refine wpAnyIn_take (i := 2) (v := ?_) rfl rfl (by kernel_rfl) (by kernel_rfl) (by kernel_rfl) (fun _ _ _ h => h) ⟨Or.inl ⟨by kernel_rfl, ?_⟩, fun w => rfl⟩ ?_
                  rotate_left
                  · (intro w; go_simp; try with_reducible rfl)
                  try simp only [Act.put, List.setIfInBounds_toArray, List.set_cons_zero, List.set_cons_succ]
                  refine wpAnyIn_take (i := 4) (v := ?_) rfl rfl (by kernel_rfl) (by kernel_rfl) (by kernel_rfl) (fun _ _ _ h => h) ⟨Or.inl ⟨by kernel_rfl, ?_⟩, fun w => rfl⟩ ?_
                  rotate_left
                  · (intro w; go_simp; try with_reducible rfl)
                  try simp only [Act.put, List.setIfInBounds_toArray, List.set_cons_zero, List.set_cons_succ]
                  refine wpAnyIn_ready (rs := [1, 3, 5]) (by kernel_rfl) (by simp) ?_
                  refine AllReadyIn.cons rfl (fun K hK => ?_) (AllReadyIn.cons rfl (fun K hK => ?_) (AllReadyIn.cons rfl (fun K hK => ?_) AllReadyIn.nil))
                  · go_simp
                    refine hK _ _ ?_
                    clear hK K
                    refine wpAnyIn_ready (rs := [3, 5, 7]) (by kernel_rfl) (by simp) ?_
                    refine AllReadyIn.cons rfl (fun K hK => ?_) (AllReadyIn.cons rfl (fun K hK => ?_) (AllReadyIn.cons rfl (fun K hK => ?_) AllReadyIn.nil))
                    · go_simp
                      refine hK _ _ ?_
                      clear hK K
                      refine wpAnyIn_ready (rs := [5, 7]) (by kernel_rfl) (by simp) ?_
                      refine AllReadyIn.cons rfl (fun K hK => ?_) (AllReadyIn.cons rfl (fun K hK => ?_) AllReadyIn.nil)
                      · go_simp
                        refine hK _ _ ?_
                        clear hK K
                        refine wpAnyIn_ready (rs := [6, 7]) (by kernel_rfl) (by simp) ?_
                        refine AllReadyIn.cons rfl (fun K hK => ?_) (AllReadyIn.cons rfl (fun K hK => ?_) AllReadyIn.nil)
                        · go_simp
                          refine hK _ _ ?_
                          clear hK K
                          refine wpAnyIn_ready (rs := [7]) (by kernel_rfl) (by simp) ?_
                          refine AllReadyIn.cons rfl (fun K hK => ?_) AllReadyIn.nil
                          · go_simp
                            refine hK _ _ ?_
                            clear hK K
                            refine wpAnyIn_ready (rs := [8]) (by kernel_rfl) (by simp) ?_
                            refine AllReadyIn.cons rfl (fun K hK => ?_) AllReadyIn.nil
                            · go_simp
                              refine hK _ _ ?_
                              clear hK K
                              refine wpAnyIn_ready (rs := [9]) (by kernel_rfl) (by simp) ?_
                              refine AllReadyIn.cons rfl (fun K hK => ?_) AllReadyIn.nil
                              · go_simp
                                refine hK _ _ ?_
                                clear hK K
                                refine wpAnyIn_done (by kernel_rfl) ?_ _
                                gi_wp2
                                obtain ⟨q1, q2, q3, q4, q5, q6⟩ := HPO2.out (nq + 1)
                                exact ⟨q1, q2, q3, q4, q5, q6⟩
                        · go_simp
                          refine hK _ _ ?_
                          clear hK K
                          refine wpAnyIn_ready (rs := [6]) (by kernel_rfl) (by simp) ?_
                          refine AllReadyIn.cons rfl (fun K hK => ?_) AllReadyIn.nil
                          · go_simp
                            refine hK _ _ ?_
                            clear hK K
                            refine wpAnyIn_ready (rs := [8]) (by kernel_rfl) (by simp) ?_
                            refine AllReadyIn.cons rfl (fun K hK => ?_) AllReadyIn.nil
                            · go_simp
                              refine hK _ _ ?_
                              clear hK K
                              refine wpAnyIn_ready (rs := [9]) (by kernel_rfl) (by simp) ?_
                              refine AllReadyIn.cons rfl (fun K hK => ?_) AllReadyIn.nil
                              · go_simp
                                refine hK _ _ ?_
                                clear hK K
                                refine wpAnyIn_done (by kernel_rfl) ?_ _
                                gi_wp2
                                obtain ⟨q1, q2, q3, q4, q5, q6⟩ := HPO2.out (nq + 1)
                                exact ⟨q1, q2, q3, q4, q5, q6⟩
                      · go_simp
                        refine hK _ _ ?_
                        clear hK K
                        refine wpAnyIn_ready (rs := [5]) (by kernel_rfl) (by simp) ?_
                        refine AllReadyIn.cons rfl (fun K hK => ?_) AllReadyIn.nil
                        · go_simp
                          refine hK _ _ ?_
                          clear hK K
                          refine wpAnyIn_ready (rs := [6]) (by kernel_rfl) (by simp) ?_
                          refine AllReadyIn.cons rfl (fun K hK => ?_) AllReadyIn.nil
                          · go_simp
                            refine hK _ _ ?_
                            clear hK K
                            refine wpAnyIn_ready (rs := [8]) (by kernel_rfl) (by simp) ?_
                            refine AllReadyIn.cons rfl (fun K hK => ?_) AllReadyIn.nil
                            · go_simp
                              refine hK _ _ ?_
                              clear hK K
                              refine wpAnyIn_ready (rs := [9]) (by kernel_rfl) (by simp) ?_
                              refine AllReadyIn.cons rfl (fun K hK => ?_) AllReadyIn.nil
                              · go_simp
                                refine hK _ _ ?_
                                clear hK K
                                refine wpAnyIn_done (by kernel_rfl) ?_ _
                                gi_wp2
                                obtain ⟨q1, q2, q3, q4, q5, q6⟩ := HPO2.out (nq + 1)
                                exact ⟨q1, q2, q3, q4, q5, q6⟩
                    · go_simp
                      refine hK _ _ ?_
                      clear hK K
                      refine wpAnyIn_ready (rs := [3, 7]) (by kernel_rfl) (by simp) ?_
                      refine AllReadyIn.cons rfl (fun K hK => ?_) (AllReadyIn.cons rfl (fun K hK => ?_) AllReadyIn.nil)
                      · go_simp
                        refine hK _ _ ?_
                        clear hK K
                        refine wpAnyIn_ready (rs := [6, 7]) (by kernel_rfl) (by simp) ?_
                        refine AllReadyIn.cons rfl (fun K hK => ?_) (AllReadyIn.cons rfl (fun K hK => ?_) AllReadyIn.nil)
                        · go_simp
                          refine hK _ _ ?_
                          clear hK K
                          refine wpAnyIn_ready (rs := [7]) (by kernel_rfl) (by simp) ?_
                          refine AllReadyIn.cons rfl (fun K hK => ?_) AllReadyIn.nil
                          · go_simp
                            refine hK _ _ ?_
                            clear hK K
                            refine wpAnyIn_ready (rs := [8]) (by kernel_rfl) (by simp) ?_
                            refine AllReadyIn.cons rfl (fun K hK => ?_) AllReadyIn.nil
                            · go_simp
                              refine hK _ _ ?_
                              clear hK K
                              refine wpAnyIn_ready (rs := [9]) (by kernel_rfl) (by simp) ?_
                              refine AllReadyIn.cons rfl (fun K hK => ?_) AllReadyIn.nil
                              · go_simp
                                refine hK _ _ ?_
                                clear hK K
                                refine wpAnyIn_done (by kernel_rfl) ?_ _
                                gi_wp2
                                obtain ⟨q1, q2, q3, q4, q5, q6⟩ := HPO2.out (nq + 1)
                                exact ⟨q1, q2, q3, q4, q5, q6⟩
                        · go_simp
                          refine hK _ _ ?_
                          clear hK K
                          refine wpAnyIn_ready (rs := [6]) (by kernel_rfl) (by simp) ?_
                          refine AllReadyIn.cons rfl (fun K hK => ?_) AllReadyIn.nil
                          · go_simp
                            refine hK _ _ ?_
                            clear hK K
                            refine wpAnyIn_ready (rs := [8]) (by kernel_rfl) (by simp) ?_
                            refine AllReadyIn.cons rfl (fun K hK => ?_) AllReadyIn.nil
                            · go_simp
                              refine hK _ _ ?_
                              clear hK K
                              refine wpAnyIn_ready (rs := [9]) (by kernel_rfl) (by simp) ?_
                              refine AllReadyIn.cons rfl (fun K hK => ?_) AllReadyIn.nil
                              · go_simp
                                refine hK _ _ ?_
                                clear hK K
                                refine wpAnyIn_done (by kernel_rfl) ?_ _
                                gi_wp2
                                obtain ⟨q1, q2, q3, q4, q5, q6⟩ := HPO2.out (nq + 1)
                                exact ⟨q1, q2, q3, q4, q5, q6⟩
                      · go_simp
                        refine hK _ _ ?_
                        clear hK K
                        refine wpAnyIn_ready (rs := [3]) (by kernel_rfl) (by simp) ?_
                        refine AllReadyIn.cons rfl (fun K hK => ?_) AllReadyIn.nil
                        · go_simp
                          refine hK _ _ ?_
                          clear hK K
                          refine wpAnyIn_ready (rs := [6]) (by kernel_rfl) (by simp) ?_
                          refine AllReadyIn.cons rfl (fun K hK => ?_) AllReadyIn.nil
                          · go_simp
                            refine hK _ _ ?_
                            clear hK K
                            refine wpAnyIn_ready (rs := [8]) (by kernel_rfl) (by simp) ?_
                            refine AllReadyIn.cons rfl (fun K hK => ?_) AllReadyIn.nil
                            · go_simp
                              refine hK _ _ ?_
                              clear hK K
                              refine wpAnyIn_ready (rs := [9]) (by kernel_rfl) (by simp) ?_
                              refine AllReadyIn.cons rfl (fun K hK => ?_) AllReadyIn.nil
                              · go_simp
                                refine hK _ _ ?_
                                clear hK K
                                refine wpAnyIn_done (by kernel_rfl) ?_ _
                                gi_wp2
                                obtain ⟨q1, q2, q3, q4, q5, q6⟩ := HPO2.out (nq + 1)
                                exact ⟨q1, q2, q3, q4, q5, q6⟩
                    · go_simp
                      refine hK _ _ ?_
                      clear hK K
                      refine wpAnyIn_ready (rs := [3, 5]) (by kernel_rfl) (by simp) ?_
                      refine AllReadyIn.cons rfl (fun K hK => ?_) (AllReadyIn.cons rfl (fun K hK => ?_) AllReadyIn.nil)
                      · go_simp
                        refine hK _ _ ?_
                        clear hK K
                        refine wpAnyIn_ready (rs := [5]) (by kernel_rfl) (by simp) ?_
                        refine AllReadyIn.cons rfl (fun K hK => ?_) AllReadyIn.nil
                        · go_simp
                          refine hK _ _ ?_
                          clear hK K
                          refine wpAnyIn_ready (rs := [6]) (by kernel_rfl) (by simp) ?_
                          refine AllReadyIn.cons rfl (fun K hK => ?_) AllReadyIn.nil
                          · go_simp
                            refine hK _ _ ?_
                            clear hK K
                            refine wpAnyIn_ready (rs := [8]) (by kernel_rfl) (by simp) ?_
                            refine AllReadyIn.cons rfl (fun K hK => ?_) AllReadyIn.nil
                            · go_simp
                              refine hK _ _ ?_
                              clear hK K
                              refine wpAnyIn_ready (rs := [9]) (by kernel_rfl) (by simp) ?_
                              refine AllReadyIn.cons rfl (fun K hK => ?_) AllReadyIn.nil
                              · go_simp
                                refine hK _ _ ?_
                                clear hK K
                                refine wpAnyIn_done (by kernel_rfl) ?_ _
                                gi_wp2
                                obtain ⟨q1, q2, q3, q4, q5, q6⟩ := HPO2.out (nq + 1)
                                exact ⟨q1, q2, q3, q4, q5, q6⟩
                      · go_simp
                        refine hK _ _ ?_
                        clear hK K
                        refine wpAnyIn_ready (rs := [3]) (by kernel_rfl) (by simp) ?_
                        refine AllReadyIn.cons rfl (fun K hK => ?_) AllReadyIn.nil
                        · go_simp
                          refine hK _ _ ?_
                          clear hK K
                          refine wpAnyIn_ready (rs := [6]) (by kernel_rfl) (by simp) ?_
                          refine AllReadyIn.cons rfl (fun K hK => ?_) AllReadyIn.nil
                          · go_simp
                            refine hK _ _ ?_
                            clear hK K
                            refine wpAnyIn_ready (rs := [8]) (by kernel_rfl) (by simp) ?_
                            refine AllReadyIn.cons rfl (fun K hK => ?_) AllReadyIn.nil
                            · go_simp
                              refine hK _ _ ?_
                              clear hK K
                              refine wpAnyIn_ready (rs := [9]) (by kernel_rfl) (by simp) ?_
                              refine AllReadyIn.cons rfl (fun K hK => ?_) AllReadyIn.nil
                              · go_simp
                                refine hK _ _ ?_
                                clear hK K
                                refine wpAnyIn_done (by kernel_rfl) ?_ _
                                gi_wp2
                                obtain ⟨q1, q2, q3, q4, q5, q6⟩ := HPO2.out (nq + 1)
                                exact ⟨q1, q2, q3, q4, q5, q6⟩
                  · go_simp
                    refine hK _ _ ?_
                    clear hK K
                    refine wpAnyIn_ready (rs := [1, 5]) (by kernel_rfl) (by simp) ?_
                    refine AllReadyIn.cons rfl (fun K hK => ?_) (AllReadyIn.cons rfl (fun K hK => ?_) AllReadyIn.nil)
                    · go_simp
                      refine hK _ _ ?_
                      clear hK K
                      refine wpAnyIn_ready (rs := [5, 7]) (by kernel_rfl) (by simp) ?_
                      refine AllReadyIn.cons rfl (fun K hK => ?_) (AllReadyIn.cons rfl (fun K hK => ?_) AllReadyIn.nil)
                      · go_simp
                        refine hK _ _ ?_
                        clear hK K
                        refine wpAnyIn_ready (rs := [6, 7]) (by kernel_rfl) (by simp) ?_
                        refine AllReadyIn.cons rfl (fun K hK => ?_) (AllReadyIn.cons rfl (fun K hK => ?_) AllReadyIn.nil)
                        · go_simp
                          refine hK _ _ ?_
                          clear hK K
                          refine wpAnyIn_ready (rs := [7]) (by kernel_rfl) (by simp) ?_
                          refine AllReadyIn.cons rfl (fun K hK => ?_) AllReadyIn.nil
                          · go_simp
                            refine hK _ _ ?_
                            clear hK K
                            refine wpAnyIn_ready (rs := [8]) (by kernel_rfl) (by simp) ?_
                            refine AllReadyIn.cons rfl (fun K hK => ?_) AllReadyIn.nil
                            · go_simp
                              refine hK _ _ ?_
                              clear hK K
                              refine wpAnyIn_ready (rs := [9]) (by kernel_rfl) (by simp) ?_
                              refine AllReadyIn.cons rfl (fun K hK => ?_) AllReadyIn.nil
                              · go_simp
                                refine hK _ _ ?_
                                clear hK K
                                refine wpAnyIn_done (by kernel_rfl) ?_ _
                                gi_wp2
                                obtain ⟨q1, q2, q3, q4, q5, q6⟩ := HPO2.out (nq + 1)
                                exact ⟨q1, q2, q3, q4, q5, q6⟩
                        · go_simp
                          refine hK _ _ ?_
                          clear hK K
                          refine wpAnyIn_ready (rs := [6]) (by kernel_rfl) (by simp) ?_
                          refine AllReadyIn.cons rfl (fun K hK => ?_) AllReadyIn.nil
                          · go_simp
                            refine hK _ _ ?_
                            clear hK K
                            refine wpAnyIn_ready (rs := [8]) (by kernel_rfl) (by simp) ?_
                            refine AllReadyIn.cons rfl (fun K hK => ?_) AllReadyIn.nil
                            · go_simp
                              refine hK _ _ ?_
                              clear hK K
                              refine wpAnyIn_ready (rs := [9]) (by kernel_rfl) (by simp) ?_
                              refine AllReadyIn.cons rfl (fun K hK => ?_) AllReadyIn.nil
                              · go_simp
                                refine hK _ _ ?_
                                clear hK K
                                refine wpAnyIn_done (by kernel_rfl) ?_ _
                                gi_wp2
                                obtain ⟨q1, q2, q3, q4, q5, q6⟩ := HPO2.out (nq + 1)
                                exact ⟨q1, q2, q3, q4, q5, q6⟩
                      · go_simp
                        refine hK _ _ ?_
                        clear hK K
                        refine wpAnyIn_ready (rs := [5]) (by kernel_rfl) (by simp) ?_
                        refine AllReadyIn.cons rfl (fun K hK => ?_) AllReadyIn.nil
                        · go_simp
                          refine hK _ _ ?_
                          clear hK K
                          refine wpAnyIn_ready (rs := [6]) (by kernel_rfl) (by simp) ?_
                          refine AllReadyIn.cons rfl (fun K hK => ?_) AllReadyIn.nil
                          · go_simp
                            refine hK _ _ ?_
                            clear hK K
                            refine wpAnyIn_ready (rs := [8]) (by kernel_rfl) (by simp) ?_
                            refine AllReadyIn.cons rfl (fun K hK => ?_) AllReadyIn.nil
                            · go_simp
                              refine hK _ _ ?_
                              clear hK K
                              refine wpAnyIn_ready (rs := [9]) (by kernel_rfl) (by simp) ?_
                              refine AllReadyIn.cons rfl (fun K hK => ?_) AllReadyIn.nil
                              · go_simp
                                refine hK _ _ ?_
                                clear hK K
                                refine wpAnyIn_done (by kernel_rfl) ?_ _
                                gi_wp2
                                obtain ⟨q1, q2, q3, q4, q5, q6⟩ := HPO2.out (nq + 1)
                                exact ⟨q1, q2, q3, q4, q5, q6⟩
                    · go_simp
                      refine hK _ _ ?_
                      clear hK K
                      refine wpAnyIn_ready (rs := [1, 6]) (by kernel_rfl) (by simp) ?_
                      refine AllReadyIn.cons rfl (fun K hK => ?_) (AllReadyIn.cons rfl (fun K hK => ?_) AllReadyIn.nil)
                      · go_simp
                        refine hK _ _ ?_
                        clear hK K
                        refine wpAnyIn_ready (rs := [6, 7]) (by kernel_rfl) (by simp) ?_
                        refine AllReadyIn.cons rfl (fun K hK => ?_) (AllReadyIn.cons rfl (fun K hK => ?_) AllReadyIn.nil)
                        · go_simp
                          refine hK _ _ ?_
                          clear hK K
                          refine wpAnyIn_ready (rs := [7]) (by kernel_rfl) (by simp) ?_
                          refine AllReadyIn.cons rfl (fun K hK => ?_) AllReadyIn.nil
                          · go_simp
                            refine hK _ _ ?_
                            clear hK K
                            refine wpAnyIn_ready (rs := [8]) (by kernel_rfl) (by simp) ?_
                            refine AllReadyIn.cons rfl (fun K hK => ?_) AllReadyIn.nil
                            · go_simp
                              refine hK _ _ ?_
                              clear hK K
                              refine wpAnyIn_ready (rs := [9]) (by kernel_rfl) (by simp) ?_
                              refine AllReadyIn.cons rfl (fun K hK => ?_) AllReadyIn.nil
                              · go_simp
                                refine hK _ _ ?_
                                clear hK K
                                refine wpAnyIn_done (by kernel_rfl) ?_ _
                                gi_wp2
                                obtain ⟨q1, q2, q3, q4, q5, q6⟩ := HPO2.out (nq + 1)
                                exact ⟨q1, q2, q3, q4, q5, q6⟩
                        · go_simp
                          refine hK _ _ ?_
                          clear hK K
                          refine wpAnyIn_ready (rs := [6]) (by kernel_rfl) (by simp) ?_
                          refine AllReadyIn.cons rfl (fun K hK => ?_) AllReadyIn.nil
                          · go_simp
                            refine hK _ _ ?_
                            clear hK K
                            refine wpAnyIn_ready (rs := [8]) (by kernel_rfl) (by simp) ?_
                            refine AllReadyIn.cons rfl (fun K hK => ?_) AllReadyIn.nil
                            · go_simp
                              refine hK _ _ ?_
                              clear hK K
                              refine wpAnyIn_ready (rs := [9]) (by kernel_rfl) (by simp) ?_
                              refine AllReadyIn.cons rfl (fun K hK => ?_) AllReadyIn.nil
                              · go_simp
                                refine hK _ _ ?_
                                clear hK K
                                refine wpAnyIn_done (by kernel_rfl) ?_ _
                                gi_wp2
                                obtain ⟨q1, q2, q3, q4, q5, q6⟩ := HPO2.out (nq + 1)
                                exact ⟨q1, q2, q3, q4, q5, q6⟩
                      · go_simp
                        refine hK _ _ ?_
                        clear hK K
                        refine wpAnyIn_ready (rs := [1]) (by kernel_rfl) (by simp) ?_
                        refine AllReadyIn.cons rfl (fun K hK => ?_) AllReadyIn.nil
                        · go_simp
                          refine hK _ _ ?_
                          clear hK K
                          refine wpAnyIn_ready (rs := [7]) (by kernel_rfl) (by simp) ?_
                          refine AllReadyIn.cons rfl (fun K hK => ?_) AllReadyIn.nil
                          · go_simp
                            refine hK _ _ ?_
                            clear hK K
                            refine wpAnyIn_ready (rs := [8]) (by kernel_rfl) (by simp) ?_
                            refine AllReadyIn.cons rfl (fun K hK => ?_) AllReadyIn.nil
                            · go_simp
                              refine hK _ _ ?_
                              clear hK K
                              refine wpAnyIn_ready (rs := [9]) (by kernel_rfl) (by simp) ?_
                              refine AllReadyIn.cons rfl (fun K hK => ?_) AllReadyIn.nil
                              · go_simp
                                refine hK _ _ ?_
                                clear hK K
                                refine wpAnyIn_done (by kernel_rfl) ?_ _
                                gi_wp2
                                obtain ⟨q1, q2, q3, q4, q5, q6⟩ := HPO2.out (nq + 1)
                                exact ⟨q1, q2, q3, q4, q5, q6⟩
                  · go_simp
                    refine hK _ _ ?_
                    clear hK K
                    refine wpAnyIn_ready (rs := [1, 3]) (by kernel_rfl) (by simp) ?_
                    refine AllReadyIn.cons rfl (fun K hK => ?_) (AllReadyIn.cons rfl (fun K hK => ?_) AllReadyIn.nil)
                    · go_simp
                      refine hK _ _ ?_
                      clear hK K
                      refine wpAnyIn_ready (rs := [3, 7]) (by kernel_rfl) (by simp) ?_
                      refine AllReadyIn.cons rfl (fun K hK => ?_) (AllReadyIn.cons rfl (fun K hK => ?_) AllReadyIn.nil)
                      · go_simp
                        refine hK _ _ ?_
                        clear hK K
                        refine wpAnyIn_ready (rs := [6, 7]) (by kernel_rfl) (by simp) ?_
                        refine AllReadyIn.cons rfl (fun K hK => ?_) (AllReadyIn.cons rfl (fun K hK => ?_) AllReadyIn.nil)
                        · go_simp
                          refine hK _ _ ?_
                          clear hK K
                          refine wpAnyIn_ready (rs := [7]) (by kernel_rfl) (by simp) ?_
                          refine AllReadyIn.cons rfl (fun K hK => ?_) AllReadyIn.nil
                          · go_simp
                            refine hK _ _ ?_
                            clear hK K
                            refine wpAnyIn_ready (rs := [8]) (by kernel_rfl) (by simp) ?_
                            refine AllReadyIn.cons rfl (fun K hK => ?_) AllReadyIn.nil
                            · go_simp
                              refine hK _ _ ?_
                              clear hK K
                              refine wpAnyIn_ready (rs := [9]) (by kernel_rfl) (by simp) ?_
                              refine AllReadyIn.cons rfl (fun K hK => ?_) AllReadyIn.nil
                              · go_simp
                                refine hK _ _ ?_
                                clear hK K
                                refine wpAnyIn_done (by kernel_rfl) ?_ _
                                gi_wp2
                                obtain ⟨q1, q2, q3, q4, q5, q6⟩ := HPO2.out (nq + 1)
                                exact ⟨q1, q2, q3, q4, q5, q6⟩
                        · go_simp
                          refine hK _ _ ?_
                          clear hK K
                          refine wpAnyIn_ready (rs := [6]) (by kernel_rfl) (by simp) ?_
                          refine AllReadyIn.cons rfl (fun K hK => ?_) AllReadyIn.nil
                          · go_simp
                            refine hK _ _ ?_
                            clear hK K
                            refine wpAnyIn_ready (rs := [8]) (by kernel_rfl) (by simp) ?_
                            refine AllReadyIn.cons rfl (fun K hK => ?_) AllReadyIn.nil
                            · go_simp
                              refine hK _ _ ?_
                              clear hK K
                              refine wpAnyIn_ready (rs := [9]) (by kernel_rfl) (by simp) ?_
                              refine AllReadyIn.cons rfl (fun K hK => ?_) AllReadyIn.nil
                              · go_simp
                                refine hK _ _ ?_
                                clear hK K
                                refine wpAnyIn_done (by kernel_rfl) ?_ _
                                gi_wp2
                                obtain ⟨q1, q2, q3, q4, q5, q6⟩ := HPO2.out (nq + 1)
                                exact ⟨q1, q2, q3, q4, q5, q6⟩
                      · go_simp
                        refine hK _ _ ?_
                        clear hK K
                        refine wpAnyIn_ready (rs := [3]) (by kernel_rfl) (by simp) ?_
                        refine AllReadyIn.cons rfl (fun K hK => ?_) AllReadyIn.nil
                        · go_simp
                          refine hK _ _ ?_
                          clear hK K
                          refine wpAnyIn_ready (rs := [6]) (by kernel_rfl) (by simp) ?_
                          refine AllReadyIn.cons rfl (fun K hK => ?_) AllReadyIn.nil
                          · go_simp
                            refine hK _ _ ?_
                            clear hK K
                            refine wpAnyIn_ready (rs := [8]) (by kernel_rfl) (by simp) ?_
                            refine AllReadyIn.cons rfl (fun K hK => ?_) AllReadyIn.nil
                            · go_simp
                              refine hK _ _ ?_
                              clear hK K
                              refine wpAnyIn_ready (rs := [9]) (by kernel_rfl) (by simp) ?_
                              refine AllReadyIn.cons rfl (fun K hK => ?_) AllReadyIn.nil
                              · go_simp
                                refine hK _ _ ?_
                                clear hK K
                                refine wpAnyIn_done (by kernel_rfl) ?_ _
                                gi_wp2
                                obtain ⟨q1, q2, q3, q4, q5, q6⟩ := HPO2.out (nq + 1)
                                exact ⟨q1, q2, q3, q4, q5, q6⟩
                    · go_simp
                      refine hK _ _ ?_
                      clear hK K
                      refine wpAnyIn_ready (rs := [1, 6]) (by kernel_rfl) (by simp) ?_
                      refine AllReadyIn.cons rfl (fun K hK => ?_) (AllReadyIn.cons rfl (fun K hK => ?_) AllReadyIn.nil)
                      · go_simp
                        refine hK _ _ ?_
                        clear hK K
                        refine wpAnyIn_ready (rs := [6, 7]) (by kernel_rfl) (by simp) ?_
                        refine AllReadyIn.cons rfl (fun K hK => ?_) (AllReadyIn.cons rfl (fun K hK => ?_) AllReadyIn.nil)
                        · go_simp
                          refine hK _ _ ?_
                          clear hK K
                          refine wpAnyIn_ready (rs := [7]) (by kernel_rfl) (by simp) ?_
                          refine AllReadyIn.cons rfl (fun K hK => ?_) AllReadyIn.nil
                          · go_simp
                            refine hK _ _ ?_
                            clear hK K
                            refine wpAnyIn_ready (rs := [8]) (by kernel_rfl) (by simp) ?_
                            refine AllReadyIn.cons rfl (fun K hK => ?_) AllReadyIn.nil
                            · go_simp
                              refine hK _ _ ?_
                              clear hK K
                              refine wpAnyIn_ready (rs := [9]) (by kernel_rfl) (by simp) ?_
                              refine AllReadyIn.cons rfl (fun K hK => ?_) AllReadyIn.nil
                              · go_simp
                                refine hK _ _ ?_
                                clear hK K
                                refine wpAnyIn_done (by kernel_rfl) ?_ _
                                gi_wp2
                                obtain ⟨q1, q2, q3, q4, q5, q6⟩ := HPO2.out (nq + 1)
                                exact ⟨q1, q2, q3, q4, q5, q6⟩
                        · go_simp
                          refine hK _ _ ?_
                          clear hK K
                          refine wpAnyIn_ready (rs := [6]) (by kernel_rfl) (by simp) ?_
                          refine AllReadyIn.cons rfl (fun K hK => ?_) AllReadyIn.nil
                          · go_simp
                            refine hK _ _ ?_
                            clear hK K
                            refine wpAnyIn_ready (rs := [8]) (by kernel_rfl) (by simp) ?_
                            refine AllReadyIn.cons rfl (fun K hK => ?_) AllReadyIn.nil
                            · go_simp
                              refine hK _ _ ?_
                              clear hK K
                              refine wpAnyIn_ready (rs := [9]) (by kernel_rfl) (by simp) ?_
                              refine AllReadyIn.cons rfl (fun K hK => ?_) AllReadyIn.nil
                              · go_simp
                                refine hK _ _ ?_
                                clear hK K
                                refine wpAnyIn_done (by kernel_rfl) ?_ _
                                gi_wp2
                                obtain ⟨q1, q2, q3, q4, q5, q6⟩ := HPO2.out (nq + 1)
                                exact ⟨q1, q2, q3, q4, q5, q6⟩
                      · go_simp
                        refine hK _ _ ?_
                        clear hK K
                        refine wpAnyIn_ready (rs := [1]) (by kernel_rfl) (by simp) ?_
                        refine AllReadyIn.cons rfl (fun K hK => ?_) AllReadyIn.nil
                        · go_simp
                          refine hK _ _ ?_
                          clear hK K
                          refine wpAnyIn_ready (rs := [7]) (by kernel_rfl) (by simp) ?_
                          refine AllReadyIn.cons rfl (fun K hK => ?_) AllReadyIn.nil
                          · go_simp
                            refine hK _ _ ?_
                            clear hK K
                            refine wpAnyIn_ready (rs := [8]) (by kernel_rfl) (by simp) ?_
                            refine AllReadyIn.cons rfl (fun K hK => ?_) AllReadyIn.nil
                            · go_simp
                              refine hK _ _ ?_
                              clear hK K
                              refine wpAnyIn_ready (rs := [9]) (by kernel_rfl) (by simp) ?_
                              refine AllReadyIn.cons rfl (fun K hK => ?_) AllReadyIn.nil
                              · go_simp
                                refine hK _ _ ?_
                                clear hK K
                                refine wpAnyIn_done (by kernel_rfl) ?_ _
                                gi_wp2
                                obtain ⟨q1, q2, q3, q4, q5, q6⟩ := HPO2.out (nq + 1)
                                exact ⟨q1, q2, q3, q4, q5, q6⟩
                · have HH := Lib.hid (fun r => orgF_ne A (o := oo) (v := ⟨xi, xv, false⟩) (fun e => hne (HBB2.out.symm.trans e)) r)
                  have e5 : (((bb.toNat : Int)) != ((ob.toNat : Int))) = true := by
                    rw [bne_iff_ne]
                    intro e
                    exact hne (UInt8.toNat_inj.1 (by omega))
                  clear hne
                  gi_wp2_with fail
                  refine wpIn_region_quiet_round (F := Fence.wide) rfl (by kernel_rfl) (by kernel_rfl) (by kernel_rfl) ?_
                  repeat (gi_big_quiet_step (fail))
                  refine wpQuietIn_nil ?_
                  intro _ hw'
                  obtain ⟨nq, hw2⟩ := hw'
                  subst hw2
                  gi_wp2
                  exact ⟨⟨Nat.le_refl _, fun k o _ h _ => h⟩, rfl, ⟨some (oo, ob), fun r => by rw [List.append_assoc, List.singleton_append, HX1.out]; exact HH.out r, HX2.out.next (below_drewN (Below.refl _ _) nq)⟩, HX5.out.trans (below_drewN (Below.refl _ _) nq)⟩
            · have e1 : decide ((bs xv).size ≤ A) = true := decide_eq_true (by rw [bs_size]; omega)
              have HH := Lib.hid (fun r => orgF_no A st (v := ⟨xi, xv, false⟩) (show hasAt A ⟨xi, xv, false⟩ = false by unfold hasAt; simp; omega) r)
              gi_wp2_with fail
              refine wpIn_region_quiet_round (F := Fence.wide) rfl (by kernel_rfl) (by kernel_rfl) (by kernel_rfl) ?_
              repeat (gi_big_quiet_step (fail))
              refine wpQuietIn_nil ?_
              intro _ hw'
              obtain ⟨nq, hw2⟩ := hw'
              subst hw2
              gi_wp2
              exact ⟨⟨Nat.le_refl _, fun k o _ h _ => h⟩, rfl, ⟨st, fun r => by rw [List.append_assoc, List.singleton_append, HX1.out]; exact HH.out r, HX2.out.next (below_drewN (Below.refl _ _) nq)⟩, HX5.out.trans (below_drewN (Below.refl _ _) nq)⟩
        case done =>
          rintro D ys X hD rfl ⟨⟨st, h1, h2⟩, h3, h4, h5⟩ hK
          have hst : orgF A none (backL i vs) = st := by have := h1 []; rw [List.append_nil, orgF_nil] at this; exact this
          have HRS := Lib.hid HR
          have HST := Lib.hid hst
          have hbl := below_row h5 hBw (show B ≤ W7.heap.size by omega) (grownBy_putObj' X D (.deferred none)) (fun r e => by cases e; exact ⟨hD, _, hK, rfl⟩)
          have HBL := Lib.hid hbl
          have y1 := h2.c1.cell 0
          have y2 := h2.c2.cell 0
          simp only [List.getElem?_toArray, List.getElem?_cons_zero] at y1 y2
          have HK := Lib.hid hK
          clear hst hbl HR h1 h2 hK
          cases st with
          | none =>
            (try simp only [Option.isSome] at y2)
            gi_wp2
            refine ⟨by simp, .inl ⟨_, _, rfl, run_takeDeferred HK.out, ?_⟩⟩
            exact ⟨.tuple #[.int .i64 0, .int .i64 8], by simp [results, Tryz.results24, go_sem], by rw [HVS.out, HRS.out.out, HST.out], by rw [HBB.out]; exact HBL.out⟩
          | some ob =>
            obtain ⟨oo, bb⟩ := ob
            (try simp only [Option.isSome, stI] at y1 y2)
            gi_wp2
            refine ⟨by simp, .inl ⟨_, _, rfl, run_takeDeferred HK.out, ?_⟩⟩
            exact ⟨.tuple #[.int .i64 oo, .int .i64 0], by simp [results, Tryz.results24, go_sem], by rw [HVS.out, HRS.out.out, HST.out], by rw [HBB.out]; exact HBL.out⟩
        case stop =>
          rintro D c pre X hD ⟨rest, hrest⟩ ⟨rfl, ⟨st, h1, h2⟩, h5⟩ hK
          have hst : orgF A none (backL i vs) = st := by rw [← hrest]; exact h1 rest
          have HRS := Lib.hid HR
          have HST := Lib.hid hst
          have hbl := below_row h5 hBw (show B ≤ W7.heap.size by omega) (grownBy_putObj' X D (.deferred none)) (fun r e => by cases e; exact ⟨hD, _, hK, rfl⟩)
          have HBL := Lib.hid hbl
          have y1 := h2.c1.cell 0
          have y2 := h2.c2.cell 0
          simp only [List.getElem?_toArray, List.getElem?_cons_zero] at y1 y2
          have HK := Lib.hid hK
          clear hst hbl HR h1 h2 hK
          cases st with
          | none =>
            (try simp only [Option.isSome] at y2)
            gi_wp2
            refine ⟨by simp, .inl ⟨_, _, rfl, run_takeDeferred HK.out, ?_⟩⟩
            exact ⟨.tuple #[.int .i64 0, .int .i64 8], by simp [results, Tryz.results24, go_sem], by rw [HVS.out, HRS.out.out, HST.out], by rw [HBB.out]; exact HBL.out⟩
          | some ob =>
            obtain ⟨oo, bb⟩ := ob
            (try simp only [Option.isSome, stI] at y1 y2)
            gi_wp2
            refine ⟨by simp, .inl ⟨_, _, rfl, run_takeDeferred HK.out, ?_⟩⟩
            exact ⟨.tuple #[.int .i64 oo, .int .i64 0], by simp [results, Tryz.results24, go_sem], by rw [HVS.out, HRS.out.out, HST.out], by rw [HBB.out]; exact HBL.out⟩
end Go.Proofs.YtamjllakfgphnaaGreatDoor
