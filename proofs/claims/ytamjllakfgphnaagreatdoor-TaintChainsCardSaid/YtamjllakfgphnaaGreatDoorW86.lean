/- Walks of layer 54: the versions of an object before an index, the last one first. -/
import Derived.Sort.BigQuietIn
import Derived.Test.YtamjllakfgphnaaGreatDoorN1
import Derived.Test.YtamjllakfgphnaaGreatDoorQA
import Derived.Test.YtamjllakfgphnaaGreatDoorQ2
import Derived.Test.YtamjllakfgphnaaGreatDoorW41
namespace Go.Proofs.YtamjllakfgphnaaGreatDoor
open Go.RowKit Go.Shelf
set_option linter.unusedSimpArgs false
set_option linter.unusedVariables false
attribute [local go_sem] Oper.semAt_some
def upTo {α : Type} (f : Nat → α) (k : Nat) : List α := (List.range k).map f
theorem upTo_succ {α : Type} (f : Nat → α) (k : Nat) : upTo f (k + 1) = upTo f k ++ [f k] := by simp [upTo, List.range_succ]
theorem upTo_length {α : Type} (f : Nat → α) (k : Nat) : (upTo f k).length = k := by simp [upTo]
def bkF (vs : List Ver) (j : Nat) : Nat × Ver := (vs.length - 1 - j, vs.getD (vs.length - 1 - j) ⟨0, [], true⟩)
theorem bk_snd (vs : List Ver) (k : Nat) (hk : k ≤ vs.length) : (upTo (bkF vs) k).map Prod.snd = vs.reverse.take k := by
  apply List.ext_getElem
  · simp [upTo]; omega
  · intro i h1 h2
    simp only [upTo, List.length_map, List.length_range] at h1
    simp only [upTo, bkF, List.getElem_map, List.getElem_range, List.getElem_take, List.getElem_reverse]
    rw [List.getD_eq_getElem?_getD, List.getElem?_eq_getElem (by omega)]
    rfl
def selV (i : Int) (l : List (Nat × Ver)) : List Ver := (l.map Prod.snd).filter fun v => decide (v.idx < i)
theorem selV_all (i : Int) (vs : List Ver) : selV i (upTo (bkF vs) vs.length) = backL i vs := by
  unfold selV backL
  rw [bk_snd vs _ (Nat.le_refl _), List.take_of_length_le (by simp)]
theorem selV_prefix (i : Int) (vs : List Ver) (k : Nat) (hk : k ≤ vs.length) : selV i (upTo (bkF vs) k) <+: backL i vs := by
  unfold selV backL
  rw [bk_snd vs k hk]
  exact (List.take_prefix k _).filter _
theorem selV_yes (i : Int) (l : List (Nat × Ver)) (x : Nat × Ver) (h : decide (x.2.idx < i) = true) : selV i (l ++ [x]) = selV i l ++ [x.2] := by
  unfold selV
  rw [List.map_append, List.filter_append]
  simp [of_decide_eq_true h]
theorem selV_no (i : Int) (l : List (Nat × Ver)) (x : Nat × Ver) (h : decide (x.2.idx < i) = false) : selV i (l ++ [x]) = selV i l := by
  unfold selV
  rw [List.map_append, List.filter_append]
  have := of_decide_eq_false h
  simp; omega
theorem selV_len (i : Int) (l : List (Nat × Ver)) : (selV i l).length ≤ l.length := by
  unfold selV
  refine Nat.le_trans (List.length_filter_le _ _) ?_
  simp
set_option maxRecDepth 100000 in
set_option maxHeartbeats 2000000 in
theorem backward1_in (F : Fence) (n : Nat) (h7 : F.fn 139) (hro : F.round = none) (hn : 1 ≤ n) (l Bs b c : Nat) (cur : Array Value) (vs : List Ver) (hlen : vs.length ≤ 100000)
    (hcur : ∀ k (hk : k < vs.length), cur[k * 3]? = some (.int .i64 vs[k].idx) ∧ cur[k * 3 + 1]? = some (.string (bs vs[k].value)) ∧ cur[k * 3 + 2]? = some (.bool vs[k].absent))
    (Kp : World → World → Prop) (hK1 : ∀ {X Y : World}, Kp X Y → Blk X b 68 cur → Blk Y b 68 cur) (hK2 : ∀ {X Y : World}, Kp X Y → Blk X Bs 110 #[.slice (some ⟨b, 0, none⟩) vs.length c] → Blk Y Bs 110 #[.slice (some ⟨b, 0, none⟩) vs.length c])
    (J Jx : List (Nat × Ver) → World → Prop)
    (hY : ∀ pre x W, J pre W → pre.length < vs.length → YieldAt F (n - 1) Tryz.prog l #[.int .i64 (x.1 : Int), veV x.2] W fun e W' =>
      (e = .returned (.bool true) ∧ J (pre ++ [x]) W' ∧ Kp W W') ∨ (e = .returned (.bool false) ∧ Jx (pre ++ [x]) W'))
    (W : World) (hb : Blk W b 68 cur) (hs : Blk W Bs 110 #[.slice (some ⟨b, 0, none⟩) vs.length c]) (h0 : J [] W) :
    CallsIn F n Tryz.prog 139 #[.func (.yield l) #[] #[], .pointer (some ⟨Bs, 0, none⟩)] W fun e W' => (∃ v, e = .returned v) ∧
      ((∃ ys, ys = upTo (bkF vs) vs.length ∧ J ys W') ∨ (∃ pre, (∃ k, k ≤ vs.length ∧ pre = upTo (bkF vs) k) ∧ Jx pre W')) := by
  have x0 := hs.cell 0
  simp only [List.getElem?_toArray, List.getElem?_cons_zero] at x0
  have HB := Lib.hid hb
  have HS := Lib.hid hs
  have HC := Lib.hid hcur
  have H0 : Hid (∃ k : Nat, k ≤ vs.length ∧ Value.int .i64 ((vs.length : Int) - 1) = .int .i64 (((vs.length - k : Nat) : Int) - 1) ∧ J (upTo (bkF vs) k) W ∧ Blk W b 68 cur ∧ Blk W Bs 110 #[.slice (some ⟨b, 0, none⟩) vs.length c]) := Lib.hid ⟨0, Nat.zero_le _, rfl, h0, hb, hs⟩
  clear hb hs hcur h0
  refine callsIn_of_wp Tryz.func139 rfl h7 ?_ hro
  simp only [Tryz.ntmps139, List.size_toArray, List.length_cons, List.length_nil, Nat.reduceAdd, Nat.reduceSub, Array.replicate_succ, Array.replicate_zero, List.push_toArray, List.append_toArray, List.nil_append, List.cons_append]
  gi_wp2
  clear x0
  gi_loopw [3] (fun i wr => ∃ k : Nat, k ≤ vs.length ∧ i = .int .i64 (((vs.length - k : Nat) : Int) - 1) ∧ J (upTo (bkF vs) k) wr ∧ Blk wr b 68 cur ∧ Blk wr Bs 110 #[.slice (some ⟨b, 0, none⟩) vs.length c])
    (fun i _ => (intOf i + 1).toNat)
  case atStart => exact H0.out
  case round =>
    clear H0
    obtain ⟨k, hk, rfl, hJs, hb, hs⟩ := hrel
    have x0 := hs.cell 0
    simp only [List.getElem?_toArray, List.getElem?_cons_zero] at x0
    have HB2 := Lib.hid hb
    have HS2 := Lib.hid hs
    clear hs
    rcases Nat.eq_zero_or_pos (vs.length - k) with hm | hm
    · obtain rfl : k = vs.length := by omega
      rw [hm]
      clear hm hb
      gi_wp2
      go_end0
      exact ⟨⟨_, rfl⟩, .inl ⟨_, rfl, hJs⟩⟩
    · obtain ⟨m, hm1⟩ : ∃ m, vs.length - k = m + 1 := ⟨vs.length - k - 1, by omega⟩
      have hml : m < vs.length := by omega
      have hxe : Hid (bkF vs k = (m, vs[m])) := Lib.hid (by
        unfold bkF
        have e : vs.length - 1 - k = m := by omega
        rw [e, List.getD_eq_getElem?_getD, List.getElem?_eq_getElem hml]
        rfl)
      have hm3 : Hid (vs.length - (k + 1) = m) := Lib.hid (by omega)
      rw [hm1]
      have j0 : ((m + 1 : Nat) : Int) - 1 = (m : Int) := by omega
      rw [j0]
      have j1 : (0 : Int) ≤ (m : Int) := by omega
      have j2 : (m : Int) < (vs.length : Int) := by omega
      have hk1 : k + 1 ≤ vs.length := by omega
      obtain ⟨y0, y1, y2⟩ := HC.out m hml
      rw [← hb.cell] at y0 y1 y2
      obtain ⟨fn, tmps, assign, body, hy, hR⟩ := hY _ (m, vs[m]) wr hJs (by rw [upTo_length]; omega)
      dsimp only at hy
      simp only [veV] at hy
      clear hb j0 hm hm1
      gi_wp2
      refine hR.mono ?_
      rintro e W3 (⟨rfl, hJ3, hk3⟩ | ⟨rfl, hJx3⟩)
      · gi_wp2
        go_roundw
        case rel => exact ⟨k + 1, hk1, by rw [hm3.out], by rw [upTo_succ, hxe.out]; exact hJ3, hK1 hk3 HB2.out, hK2 hk3 HS2.out⟩
        case measure => simp [intOf]
      · gi_wp2
        refine bodyPost_ret (results_none rfl _ _ _) rfl ?_
        exact ⟨⟨_, rfl⟩, .inr ⟨_, ⟨k + 1, hk1, by rw [upTo_succ, hxe.out]⟩, hJx3⟩⟩
set_option maxHeartbeats 1000000 in
theorem backward_in (F : Fence) (n : Nat) (h5 : F.fn 104) (hro : F.round = none) (a : Option Addr) (len cap : Nat) (w : World) :
    CallsIn F n Tryz.prog 104 #[.slice a len cap] w fun e w' => e = .returned (.func (.func 139) #[] #[.pointer (some ⟨w.heap.size, 0, none⟩)]) ∧ w' = w.alloc (.cells #[.slice a len cap] 110) := by
  refine callsIn_of_wp Tryz.func104 rfl h5 ?_ hro
  simp only [Tryz.ntmps104, List.size_toArray, List.length_cons, List.length_nil, Nat.reduceAdd, Nat.reduceSub, Array.replicate_succ, Array.replicate_zero, List.push_toArray, List.append_toArray, List.nil_append, List.cons_append]
  gi_wp2
  go_ret
  exact ⟨rfl, rfl⟩
theorem backward_stops (F : Fence) (n : Nat) (h7 : F.fn 139) (hro : F.round = none) (hn : 1 ≤ n) (Bs b c : Nat) (cur : Array Value) (vs : List Ver) (hlen : vs.length ≤ 100000)
    (hcur : ∀ k (hk : k < vs.length), cur[k * 3]? = some (.int .i64 vs[k].idx) ∧ cur[k * 3 + 1]? = some (.string (bs vs[k].value)) ∧ cur[k * 3 + 2]? = some (.bool vs[k].absent))
    (Kp : World → World → Prop) (hK1 : ∀ {X Y : World}, Kp X Y → Blk X b 68 cur → Blk Y b 68 cur) (hK2 : ∀ {X Y : World}, Kp X Y → Blk X Bs 110 #[.slice (some ⟨b, 0, none⟩) vs.length c] → Blk Y Bs 110 #[.slice (some ⟨b, 0, none⟩) vs.length c])
    (w : World) (hb : Blk w b 68 cur) (hs : Blk w Bs 110 #[.slice (some ⟨b, 0, none⟩) vs.length c]) :
    SeqStopsK F n Tryz.prog 139 #[.pointer (some ⟨Bs, 0, none⟩)] (fun x : Nat × Ver => #[Value.int .i64 (x.1 : Int), veV x.2]) Kp (fun ys => ys = upTo (bkF vs) vs.length)
      (fun pre => ∃ k, k ≤ vs.length ∧ pre = upTo (bkF vs) k) vs.length w := fun l J Jx W hW _ _ hY h0 =>
  backward1_in F n h7 hro hn l Bs b c cur vs hlen hcur Kp hK1 hK2 J Jx hY W (hb.next hW hb.lt) (hs.next hW hs.lt) h0
end Go.Proofs.YtamjllakfgphnaaGreatDoor
