/- Walks of layer 54: the iterator over the versions of an object before an index. -/
import Derived.Sort.BigQuietIn
import Derived.Test.YtamjllakfgphnaaGreatDoorW86
namespace Go.Proofs.YtamjllakfgphnaaGreatDoor
open Go.RowKit Go.Shelf
set_option linter.unusedSimpArgs false
set_option linter.unusedVariables false
attribute [local go_sem] Oper.semAt_some
theorem own_blkV {w : World} {base : Nat} {v : Value} {vs : List Ver} (h : w.ownsRow base 68 3 v vs.length (vs.flatMap veC)) (hp : 0 < vs.length) :
    ∃ g c cur, v = .slice (some ⟨g, 0, none⟩) vs.length c ∧ base ≤ g ∧ Blk w g 68 cur ∧ ∀ k (hk : k < vs.length), cur[k * 3]? = some (.int .i64 vs[k].idx) ∧ cur[k * 3 + 1]? = some (.string (bs vs[k].value)) ∧ cur[k * 3 + 2]? = some (.bool vs[k].absent) := by
  obtain ⟨_, ⟨_, h0⟩ | ⟨g, cap, cur, hv, hg, hh, h1, h2, h3, h4⟩⟩ := h
  · omega
  · refine ⟨g, cap, cur, hv, hg, hh, fun k hk => ?_⟩
    have hi : ∀ j (hj : j < 3), cur[k * 3 + j]? = (veC vs[k])[j]? := fun j hj => by
      rw [← fm_get veC_len vs k hk j hj, ← h4, List.getElem?_take_of_lt (by omega), Array.getElem?_toList]
    exact ⟨hi 0 (by omega), hi 1 (by omega), hi 2 (by omega)⟩
theorem J_below {α : Type} {B : Nat} {J : List α → World → Prop} (hJ : OwnFrom B J) {pre : List α} {W : World} {o : Obj} {w2 : World} (ha : Below W.heap.size W (W.alloc o)) (hb : Below (W.alloc o).heap.size (W.alloc o) w2) (h : J pre W) : J pre w2 :=
  hJ pre _ _ none (hJ.alloc o h) ⟨hb.os, hb.tape, hb.output, hb.size, fun k hk _ => hb.block k hk⟩ (fun r e => by cases e)
set_option maxHeartbeats 1000000 in
theorem backwards_is (x : Option Addr) (n : Nm) (i : Int) (w : World) :
    Calls Tryz.prog 59 #[.pointer x, nmV n, .int .i64 i] w fun e w' => e = .returned (.func (.func 103) #[] #[.pointer (some ⟨w.heap.size, 0, none⟩), .pointer (some ⟨w.heap.size + 1, 0, none⟩), .pointer (some ⟨w.heap.size + 2, 0, none⟩)]) ∧
      w' = ((w.alloc (.cells #[.pointer x] 46)).alloc (.cells #[.int .i64 n.kind, .string (bs n.owner), .int .i64 n.num, .int .i64 n.idx, .string (bs n.text)] 26)).alloc (.cells #[.int .i64 i] 3) := by
  go_enter Tryz.func59, Tryz.ntmps59
  simp only [nmV, nmA]
  go_wp2
  go_ret
  exact ⟨rfl, rfl⟩
set_option maxRecDepth 100000 in
set_option maxHeartbeats 4000000 in
theorem backwards_but {w : World} {F0 : Nat → Prop} {g : Nat} {s0 : St} {l : List Ac} {n : Nm} (i : Int) (hv : VAt w F0 g s0 l) (hn : OwnE n) (ho : VOk l) (b1 b2 b3 : Nat) (k1 : Blk w b1 46 #[.pointer (some ⟨g, 0, none⟩)])
    (k2 : Blk w b2 26 #[.int .i64 n.kind, .string (bs n.owner), .int .i64 n.num, .int .i64 n.idx, .string (bs n.text)]) (k3 : Blk w b3 3 #[.int .i64 i]) (nb : Nat) (Wr : Nat → Prop) (hWr : ∀ k, Wr k → k < w.heap.size) (h3 : ¬ Wr b3) (m : Nat) (hm : 4 ≤ m) :
    SeqBut Fence.wide m Tryz.prog 103 #[.pointer (some ⟨b1, 0, none⟩), .pointer (some ⟨b2, 0, none⟩), .pointer (some ⟨b3, 0, none⟩)] (fun v : Ver => #[veV v]) nb Wr (fun ys => ys = backL i (verL s0 l n)) (fun pre => pre <+: backL i (verL s0 l n)) (verL s0 l n).length w := by
  intro J Jx W hW hsz hJ hJx hY h0
  have hvl : (verL s0 l n).length ≤ 1001 := by
    have := ho.vlen n
    unfold verL; simp; omega
  have hvp : 0 < (verL s0 l n).length := by unfold verL; simp
  obtain ⟨vs, hvs⟩ : ∃ vs, verL s0 l n = vs := ⟨_, rfl⟩
  have HVS := Lib.hid hvs
  rw [hvs] at hY hvl hvp ⊢
  clear hvs
  obtain ⟨r, hr⟩ : ∃ r, w.heap.size + 1 = r := ⟨_, rfl⟩
  rw [hr] at hY ⊢
  have ha := (Below.refl W.heap.size W).alloc (Nat.le_refl _) (.cells #[.func (.yield r) #[] #[]] 190)
  have z0 := Blk.new W 190 #[.func (.yield r) #[] #[]]
  have hVW := Lib.hid ((hv.next hW).next ha)
  have K1 := (k1.next hW k1.lt).alloc (.cells #[.func (.yield r) #[] #[]] 190)
  have K2 := (k2.next hW k2.lt).alloc (.cells #[.func (.yield r) #[] #[]] 190)
  have K3 := (k3.next hW k3.lt).alloc (.cells #[.func (.yield r) #[] #[]] 190)
  have x1 := K1.cell 0
  have n0 := K2.cell 0
  have n1 := K2.cell 1
  have n2 := K2.cell 2
  have n3 := K2.cell 3
  have n4 := K2.cell 4
  simp only [List.getElem?_toArray, List.getElem?_cons_zero, List.getElem?_cons_succ] at x1 n0 n1 n2 n3 n4
  have h0' := h0
  have hJ1 : J [] (W.alloc (.cells #[.func (.yield r) #[] #[]] 190)) := hJ.alloc _ h0
  have HZ0 := Lib.hid z0
  have HK3 := Lib.hid K3
  have HN := Lib.hid hn
  have HO := Lib.hid ho
  have hb3 := k3.lt
  clear hv hW k1 k2 k3 h0 z0 K1 K2 K3 hn ho
  refine callsIn_of_wp_marks Tryz.func103 rfl trivial ?_ rfl
  simp only [Tryz.ntmps103, List.size_toArray, List.length_cons, List.length_nil, Nat.reduceAdd, Nat.reduceSub, Array.replicate_succ, Array.replicate_zero, List.push_toArray, List.append_toArray, List.nil_append, List.cons_append]
  gi_wp2_with fail
  refine ⟨trivial, fun _ => by omega, ?_⟩
  gi_at_call 42
  (refine (callsIn_wide.2 (of_is (n := n) hVW.out HN.out HO.out)).mono ?_; rintro e w2 ⟨v2, rfl, hov, hb2⟩)
  rw [HVS.out] at hov
  obtain ⟨gv, cv, cur, rfl, hgv, HBV, hcur⟩ := own_blkV hov hvp
  have hz1 : W.heap.size < w2.heap.size := Nat.lt_of_lt_of_le (show W.heap.size < _ by simp) hb2.size
  have hgv2 := HBV.lt
  have HBV2 := Lib.hid HBV
  have HJ2 := Lib.hid (J_below hJ ((Below.refl W.heap.size W).alloc (Nat.le_refl _) _) hb2 h0')
  gi_wp2_with fail
  refine ⟨trivial, fun _ => by omega, ?_⟩
  gi_at_call 104
  (refine (backward_in Fence.wide _ trivial rfl _ _ _ _).mono ?_; rintro e w3 ⟨rfl, rfl⟩)
  gi_wp2_with fail
  have hW3b := (Below.refl w2.heap.size w2).alloc (Nat.le_refl _) (.cells #[.slice (some ⟨gv, 0, none⟩) vs.length cv] 110)
  have KB3 := Lib.hid (HBV2.out.next hW3b hgv2)
  have KS3 := Lib.hid (Blk.new w2 110 #[.slice (some ⟨gv, 0, none⟩) vs.length cv])
  have KI3 := Lib.hid ((HK3.out.next hb2 HK3.out.lt).next hW3b (Nat.lt_of_lt_of_le HK3.out.lt hb2.size))
  have KY3 := Lib.hid ((HZ0.out.next hb2 HZ0.out.lt).next hW3b (Nat.lt_of_lt_of_le HZ0.out.lt hb2.size))
  have J3 := Lib.hid (show J [] (w2.alloc (.cells #[.slice (some ⟨gv, 0, none⟩) vs.length cv] 110)) from hJ.alloc _ HJ2.out)
  have hs3 : (w2.alloc (.cells #[.slice (some ⟨gv, 0, none⟩) vs.length cv] 110)).heap.size = w2.heap.size + 1 := by simp
  have hgw : W.heap.size < gv := by
    have : (W.alloc (.cells #[.func (.yield r) #[] #[]] 190)).heap.size ≤ gv := hgv
    simp at this
    omega
  clear hW3b HBV HBV2 HZ0 HK3 HJ2 hov hb2 hJ1 h0' x1 n0 n1 n2 n3 n4 hVW HN HO ha hgv
  generalize w2.alloc (.cells #[.slice (some ⟨gv, 0, none⟩) vs.length cv] 110) = W3 at *
  obtain ⟨bsl, hbsl⟩ : ∃ x, w2.heap.size = x := ⟨_, rfl⟩
  rw [hbsl] at KS3 hs3 hz1 hgv2 ⊢
  clear hbsl
  have hWn : ∀ k, W.heap.size ≤ k → ¬ Wr k ∧ k ≠ r := fun k hk => ⟨fun h => by have := hWr k h; omega, by omega⟩
  have keep : ∀ {X Y : World} {b : Nat} {t : TypeId} {cs : Array Value}, (∀ (k : Nat) (o : Obj), ¬ Wr k → k ≠ r → k < W3.heap.size → X.heap[k]? = some o → Y.heap[k]? = some o) → W.heap.size ≤ b → b < W3.heap.size → Blk X b t cs → Blk Y b t cs :=
    fun h h1 h2 h4 => h _ _ (hWn _ h1).1 (hWn _ h1).2 h2 h4
  refine wpIn_rangeFunc_ownH rfl (by omega) (gf := 139) (lb := #[.pointer (some ⟨bsl, 0, none⟩)]) rfl trivial (enters_of Tryz.func139 (by kernel_rfl) rfl)
    (backward_stops Fence.wide (m - 1) trivial rfl (by omega) bsl gv cv cur vs (by omega) hcur (fun X Y => ∀ (k : Nat) (o : Obj), ¬ Wr k → k ≠ r → k < W3.heap.size → X.heap[k]? = some o → Y.heap[k]? = some o)
      (fun h k => keep h (by omega) (by omega) k) (fun h k => keep h (by omega) (by omega) k) W3 KB3.out KS3.out)
    (fun h1 h2 k o a b c d => h2 k o a b c (h1 k o a b c d)) (fun X q o o' h1 h2 h3 h4 k o2 a b c d => (World.putObj_heap_other (by omega)).trans d) (Below.refl _ _) (fun _ => rfl)
    (fun pre X => J (selV i pre) X ∧ W3.heap.size ≤ X.heap.size ∧ ∀ (k : Nat) (o : Obj), ¬ Wr k → k ≠ r → W3.heap[k]? = some o → X.heap[k]? = some o)
    (fun c pre X => c = .ret ∧ Jx (selV i pre) X)
    (fun s X Y row h hg hr => ⟨hJ _ X Y row h.1 hg (fun q e => ⟨by have := (hr q e).1; omega, (hr q e).2⟩), Nat.le_trans h.2.1 hg.size, fun k o a b c => row_keeps hg (h.2.2 k o a b c) (fun q e => by have := (hr q e).1; have := (Array.getElem?_eq_some_iff.1 c).1; omega)⟩)
    (fun c s X Y row h hg hr => ⟨h.1, hJx _ X Y row h.2 hg (fun q e => ⟨by have := (hr q e).1; omega, (hr q e).2⟩)⟩)
    ⟨J3.out, Nat.le_refl _, fun _ _ _ _ h => h⟩
    (fun x a' X => ∃ Bx, W3.heap.size ≤ Bx ∧ Blk X Bx 68 #[.int .i64 x.2.idx, .string (bs x.2.value), .bool x.2.absent] ∧ a' = { tmps := #[.func (.yield r) #[] #[], .pointer (some ⟨b1, 0, none⟩), .pointer (some ⟨b2, 0, none⟩), .pointer (some ⟨b3, 0, none⟩), .pointer (some ⟨W.heap.size, 0, none⟩), undef, .pointer (some ⟨Bx, 0, none⟩), .pointer (some ⟨g, 0, none⟩), .agg #[.int .i64 n.kind, .string (bs n.owner), .int .i64 n.num, .int .i64 n.idx, .string (bs n.text)], .slice (some ⟨gv, 0, none⟩) vs.length cv, .func (.func 139) #[] #[.pointer (some ⟨bsl, 0, none⟩)], .int .i64 (x.1 : Int), .agg #[.int .i64 x.2.idx, .string (bs x.2.value), .bool x.2.absent], undef, undef, undef, undef, undef, undef, undef, undef, undef, undef], defers := [] })
    (fun x a' _ X Y row h hg hr => by
      obtain ⟨Bx, h1, h2, h3⟩ := h
      exact ⟨Bx, h1, h2.grown hg (fun e => by obtain ⟨_, o, ho, hc⟩ := hr Bx e.symm; rw [show X.heap[Bx]? = _ from h2] at ho; cases ho; cases hc), h3⟩) ?assign ?body ?done ?stop
  case assign =>
    rintro l' pre x X K ⟨hj, hsz, hk⟩ hK
    simp only [veV]
    gi_wp2
    have hb := (Below.refl X.heap.size X).alloc (Nat.le_refl _) (.cells #[.int .i64 x.2.idx, .string (bs x.2.value), .bool x.2.absent] 68)
    exact hK _ _ ((KeepsOthers.alloc _ _).from _) (fun k o _ _ _ h => (hb.block k (Array.getElem?_eq_some_iff.1 h).1).trans h)
      ⟨hJ.alloc _ hj, Nat.le_trans hsz hb.size, fun k o a b c => (hb.block k (Array.getElem?_eq_some_iff.1 (hk k o a b c)).1).trans (hk k o a b c)⟩ ⟨X.heap.size, hsz, Blk.new X _ _, rfl⟩
  case body =>
    rintro l' pre x a' X hl ⟨rr, hrr⟩ ⟨hj, hsz, hk⟩ ⟨Bx, hBx, bX, rfl⟩ hlt
    have hlp : (selV i pre).length < vs.length := Nat.lt_of_le_of_lt (selV_len i pre) hlt
    have c0 := bX.cell 0
    have c1 := bX.cell 1
    have c2 := bX.cell 2
    have ci := (show Blk X b3 3 #[.int .i64 i] from hk _ _ h3 (by omega) KI3.out).cell 0
    have cy := (show Blk X W.heap.size 190 #[.func (.yield r) #[] #[]] from hk _ _ (hWn _ (Nat.le_refl _)).1 (hWn _ (Nat.le_refl _)).2 KY3.out).cell 0
    simp only [List.getElem?_toArray, List.getElem?_cons_zero, List.getElem?_cons_succ] at c0 c1 c2 ci cy
    obtain ⟨bl, hbl⟩ : ∃ q, decide (x.2.idx < i) = q := ⟨_, rfl⟩
    have HBL := Lib.hid hbl
    have HJX := Lib.hid hj
    have HK := Lib.hid hk
    obtain ⟨fn, tmps, assign, body, hy, hR⟩ := YieldAt.anyDepth rfl (m - 1 - 1 - 1) (hY (selV i pre) x.2 X hj hlp)
    clear hY
    simp only [veV] at hy
    clear hj hk bX
    cases bl with
    | true =>
      gi_wp2
      refine ⟨fun _ => by omega, hR.mono ?_⟩
      rintro e X2 (⟨rfl, hj2, hk2⟩ | ⟨rfl, hjx2, hk2⟩)
      · gi_wp2
        exact ⟨⟨hk2.low.size, fun k o a b _ => hk2.high k o (by omega) (hWn k (by omega)).1 b⟩, fun k o a b _ d => hk2.high k o b a d, by rw [selV_yes _ _ _ HBL.out]; exact hj2, Nat.le_trans hsz hk2.low.size, fun k o a b c => hk2.high k o b a (HK.out k o a b c)⟩
      · gi_wp2
        exact ⟨⟨hk2.size, fun k o a b c => hk2.high k o (by omega) (by omega) b c⟩, rfl, by rw [selV_yes _ _ _ HBL.out]; exact hjx2⟩
    | false =>
      gi_wp2
      refine ⟨fun _ h => (by cases h), ?_⟩
      gi_wp2
      exact ⟨KeepsFrom.refl _ _, fun k o _ _ _ d => d, by rw [selV_no _ _ _ HBL.out]; exact HJX.out, hsz, HK.out⟩
  case done =>
    rintro D ys X hD rfl ⟨hj, hsz, hk⟩ hK
    gi_wp2
    refine ⟨by simp, .inl ⟨_, _, rfl, run_takeDeferred hK, ?_⟩⟩
    rw [selV_all] at hj
    exact ⟨_, results_none rfl _ _ _, ⟨_, rfl⟩, .inl ⟨_, rfl, hJ.putObj _ hj (by omega) hK rfl⟩⟩
  case stop =>
    rintro D c pre X hD ⟨k, hk, rfl⟩ ⟨rfl, hjx⟩ hK
    gi_wp2
    refine ⟨by simp, .inl ⟨_, _, rfl, run_takeDeferred hK, ?_⟩⟩
    exact ⟨_, results_none rfl _ _ _, ⟨_, rfl⟩, .inr ⟨_, selV_prefix i vs k hk, hJx.putObj _ hjx (by omega) hK rfl⟩⟩
end Go.Proofs.YtamjllakfgphnaaGreatDoor
