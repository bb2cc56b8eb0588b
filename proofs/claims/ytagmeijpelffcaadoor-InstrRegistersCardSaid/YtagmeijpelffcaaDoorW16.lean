/- Walks of layer 16: increasing; registers of the reference. -/
import Derived.Test.YtagmeijpelffcaaDoorShelf
import Derived.Test.YtagmeijpelffcaaDoorW12
import Derived.Test.YtagmeijpelffcaaDoorW11
import Derived.Sort.OwnSortedInts
namespace Go.Proofs.YtagmeijpelffcaaDoor
open Go.RowKit Go.Sort
set_option linter.unusedSimpArgs false
set_option linter.unusedVariables false
def i64s (l : List Int) : List Value := l.map (Value.int .i64)
/-- The numbers of a slice: nil and none, or in memory. -/
def Reads (w : World) (base : Nat) (v : Value) (l : List Int) : Prop :=
  (v = .slice none 0 0 ∧ l = []) ∨ ∃ g cap, v = .slice (some ⟨g, 0, none⟩) l.length cap ∧ base ≤ g ∧ g < w.heap.size ∧ ∀ i, i < l.length → w.cell? ⟨g, i, none⟩ = some (.int .i64 (l.getD i 0))
theorem Reads.next {w w' : World} {base : Nat} {v : Value} {l : List Int} (h : Reads w base v l) (hb : Below w.heap.size w w') : Reads w' base v l := by
  rcases h with h | ⟨g, cap, rfl, hg, hlt, hc⟩
  · exact .inl h
  · exact .inr ⟨g, cap, rfl, hg, Nat.lt_of_lt_of_le hlt hb.size, fun i hi => by
      have e : w'.cell? ⟨g, i, none⟩ = w.cell? ⟨g, i, none⟩ := hb.cell (p := ⟨g, i, none⟩) hlt
      rw [e]; exact hc i hi⟩
theorem reads_of_own {w : World} {base : Nat} {v : Value} {n : Nat} {l : List Int} (h : w.ownsRow base 3 1 v n (i64s l)) : Reads w base v l := by
  have hl : (i64s l).length = l.length := by simp [i64s]
  have hn := h.1
  rcases id h.2 with ⟨rfl, h0⟩ | ⟨g, cap, cur, rfl, hg, hh, _⟩
  · exact .inl ⟨rfl, by have : l.length = 0 := by omega
                        exact List.length_eq_zero_iff.1 this⟩
  · obtain rfl : n = l.length := by omega
    refine .inr ⟨g, cap, rfl, hg, (Array.getElem?_eq_some_iff.1 hh).1, fun i hi => ?_⟩
    obtain ⟨_, _, hc, _⟩ := own_cell h i (by omega)
    rw [hc]
    simp [i64s, hi]
/-- What increasing makes of a list. -/
def incr (zs : List Int) : List Int := Lib.compact (zs.mergeSort fun x y => decide (x ≤ y))
theorem increasing_nil (w : World) : Calls Tryd.prog 57 #[.slice none 0 0] w fun e w' => e = .returned (.slice none 0 0) ∧ w = w' := by
  go_enter Tryd.func57, Tryd.ntmps57
  go_wp2_with fail
  refine (Tryd.slices_Sort_int_none _ _ _).mono ?_
  rintro e w1 ⟨rfl, rfl⟩
  go_wp2_with fail
  refine (Tryd.slices_Compact_int_empty _ _ _).mono ?_
  rintro e w2 ⟨rfl, rfl⟩
  go_wp2
  go_ret
  exact ⟨rfl, rfl⟩
theorem sort_own (g cap : Nat) (zs : List Int) (base : Nat) (w : World) (h : w.ownsRow base 3 1 (.slice (some ⟨g, 0, none⟩) zs.length cap) zs.length (i64s zs)) (h1 : zs.length ≤ 8) (hbw : base ≤ w.heap.size) :
    Calls Tryd.prog 72 #[.slice (some ⟨g, 0, none⟩) zs.length cap] w fun e w' => e = .returned (.tuple #[]) ∧ w'.ownsRow base 3 1 (.slice (some ⟨g, 0, none⟩) zs.length cap) zs.length (i64s (zs.mergeSort fun x y => decide (x ≤ y))) ∧ Below base w w' := by
  obtain ⟨hlen, ⟨hc, _⟩ | ⟨g', cap', cur, hv, hg, hh, hn, hm, hcs, hx⟩⟩ := h
  · cases hc
  cases hv
  have hglt : g < w.heap.size := (Array.getElem?_eq_some_iff.1 hh).1
  have hH : Holds (Value.int .i64) w g 0 zs.toArray := holds_of_blockI hh (by simpa [i64s] using hx)
  refine (Tryd.slices_Sort_int g 0 cap zs _ hH hglt (by omega)).mono fun e w1 ⟨he, n, os, hw1⟩ => ⟨he, ?_, ?_⟩
  · rw [hw1]; exact ownsRow_sortedI (List.length_mergeSort _) hg hh hn hm hcs
  · have hg1 : w.grownBy w1 (some g) := by rw [hw1]; exact grownBy_sortedI _
    exact (Below.refl base w).grown hg1 hbw (fun k hk => by cases hk; exact hg)
theorem compact_own (g cap n : Nat) (ss : List Int) (base : Nat) (w : World) (hn : ss.length = n) (h : w.ownsRow base 3 1 (.slice (some ⟨g, 0, none⟩) n cap) n (i64s ss)) (h1 : n ≤ 8) (hbw : base ≤ w.heap.size) :
    Calls Tryd.prog 73 #[.slice (some ⟨g, 0, none⟩) n cap] w fun e w' => (∃ u, e = .returned u ∧ Reads w' base u (Lib.compact ss)) ∧ Below base w w' := by
  subst hn
  obtain ⟨hlen, ⟨hc, _⟩ | ⟨g', cap', cur, hv, hg, hh, hn, hm, hcs, hx⟩⟩ := h
  · cases hc
  cases hv
  have hglt : g < w.heap.size := (Array.getElem?_eq_some_iff.1 hh).1
  have hH : Holds (Value.int .i64) w g 0 ss.toArray := holds_of_blockI hh (by simpa [i64s] using hx)
  have hle := Lib.compact_length_le ss
  refine (Tryd.slices_Compact_int g 0 cap ss _ hH (by omega) hn).mono fun e w1 ⟨he, q, hw1⟩ => ?_
  have hge : w1 = grow (putRow (Value.int .i64) (Sort.ahead w q) g 0 (Lib.compact ss ++ List.replicate (ss.length - (Lib.compact ss).length) 0).toArray) #[] := by rw [grow_empty]; exact hw1
  have hown1 : w1.ownsRow base 3 1 (.slice (some ⟨g, 0, none⟩) ss.length cap) ss.length ((Lib.compact ss ++ List.replicate (ss.length - (Lib.compact ss).length) 0).map (Value.int .i64)) := by
    rw [hge]; exact ownsRow_sortedI (by simp; omega) hg hh hn hm hcs
  have hg1 : w.grownBy w1 (some g) := by rw [hge]; exact grownBy_sortedI _
  refine ⟨⟨_, he, .inr ⟨g, cap, rfl, hg, ?_, fun i hi => ?_⟩⟩, (Below.refl base w).grown hg1 hbw (fun k hk => by cases hk; exact hg)⟩
  · exact Nat.lt_of_lt_of_le hglt hg1.size
  · obtain ⟨_, _, hc, _⟩ := own_cell hown1 i (by simp; omega)
    rw [hc]
    simp [List.getElem?_append_left (show i < ((Lib.compact ss).map (Value.int .i64)).length by simpa using hi), hi]
theorem increasing_any (v : Value) (zs : List Int) (base : Nat) (w : World) (h : w.ownsRow base 3 1 v zs.length (i64s zs)) (h0 : 0 < zs.length) (h1 : zs.length ≤ 8) (hbw : base ≤ w.heap.size) :
    Calls Tryd.prog 57 #[v] w fun e w' => (∃ u, e = .returned u ∧ Reads w' base u (incr zs)) ∧ Below base w w' := by
  obtain ⟨hlen, ⟨_, hc⟩ | ⟨g, cap, cur, rfl, hr⟩⟩ := id h
  · omega
  clear hr
  have hsl := Lib.hid (List.length_mergeSort (le := fun x y : Int => decide (x ≤ y)) zs)
  go_enter Tryd.func57, Tryd.ntmps57
  go_wp2_with fail
  refine (sort_own g cap zs base _ h h1 hbw).mono ?_
  rintro e w1 ⟨rfl, hown1, B1⟩
  go_wp2_with fail
  refine (compact_own g cap zs.length _ base _ hsl.out hown1 h1 (Nat.le_trans hbw B1.size)).mono ?_
  rintro e w2 ⟨⟨u, rfl, hu⟩, B2⟩
  go_wp2
  go_ret
  exact ⟨⟨u, rfl, hu⟩, B1.trans B2⟩
/-- The numbers whose bits are set. -/
def regs (bs : Nat → Bool) : Nat → List Int
  | 0 => []
  | n + 1 => regs bs n ++ (if bs n then [(n : Int)] else [])
theorem regs_len (bs : Nat → Bool) : ∀ n, (regs bs n).length ≤ n
  | 0 => Nat.le_refl _
  | n + 1 => by have := regs_len bs n; unfold regs; split <;> simp <;> omega
theorem info3 : (Tryd.prog.info? 3).map (fun i => (i.zero, i.size, i.bytes)) = some (some (.int .i64 0), 1, 8) := by kernel_rfl
theorem Reads.mono {w : World} {base base' : Nat} {v : Value} {l : List Int} (h : Reads w base v l) (hb : base' ≤ base) : Reads w base' v l := by
  rcases h with h | ⟨g, cap, rfl, hg, r⟩
  · exact .inl h
  · exact .inr ⟨g, cap, rfl, Nat.le_trans hb hg, r⟩
theorem box_cell (w : World) (cs : Array Value) (t : TypeId) (i : Nat) : (w.alloc (.cells cs t)).cell? ⟨w.heap.size, i, none⟩ = cs[i]? := by
  have e : (w.alloc (.cells cs t)).heap[w.heap.size]? = some (.cells cs t) := by
    show (w.heap.push _)[w.heap.size]? = _
    simp
  simp only [World.cell?, e]
  simp
theorem new1 (w : World) (v : Value) (t : TypeId) (j : Nat) (u : Value) (h : [v][j]? = some u) : (w.alloc (.cells #[v] t)).cell? ((⟨w.heap.size, 0, none⟩ : Addr).add j) = some u := by
  have hj : j = 0 := by
    rcases Nat.eq_zero_or_pos j with h0 | h0
    · exact h0
    · rw [List.getElem?_eq_none (by simp; omega)] at h; cases h
  subst hj
  have hv : v = u := by simpa using h
  subst hv
  simp [Addr.add]
set_option maxRecDepth 100000 in
theorem registers_any (cs : Array Value) (bs : Nat → Bool) (w : World) (hcs : cs.size = 8) (hbs : ∀ i, i < 8 → cs[i]? = some (.bool (bs i))) :
    Calls Tryd.prog 58 #[.agg cs] w fun e w' => (∃ u, e = .returned u ∧ Reads w' w.heap.size u (regs bs 8)) ∧ Below w.heap.size w w' := by
  obtain ⟨i0, hi, hz0, hz1, hz2⟩ := info_parts info3
  have HC := Lib.hid hbs
  have hB0 := (Below.refl w.heap.size w).alloc (Nat.le_refl _) (.cells cs 97)
  have hcell := Lib.hid (box_cell w cs 97)
  have hsz0 : (w.alloc (.cells cs 97)).heap.size = w.heap.size + 1 := by simp
  have HS := Lib.hid hsz0
  clear hbs hcs hsz0
  go_enter Tryd.func58, Tryd.ntmps58
  go_wp2
  generalize w.alloc (.cells cs 97) = W at *
  go_loopw [3, 4] (fun v i wr => ∃ k : Nat, k ≤ 8 ∧ i = .int .i64 k ∧ wr.ownsRow (w.heap.size + 1) 3 1 v (regs bs k).length (i64s (regs bs k)) ∧ Below (w.heap.size + 1) W wr) (fun _ i _ => 8 - (intOf i).toNat)
  case atStart => exact ⟨0, Nat.zero_le _, rfl, ⟨rfl, .inl ⟨rfl, rfl⟩⟩, Below.refl _ _⟩
  case round =>
    obtain ⟨k, hk, rfl, hown, hb⟩ := hrel
    by_cases hlt : k < 8
    · have hc : wr.cell? ⟨w.heap.size, k, none⟩ = some (.bool (bs k)) := by
        have e : wr.cell? ⟨w.heap.size, k, none⟩ = W.cell? ⟨w.heap.size, k, none⟩ := hb.cell (p := ⟨w.heap.size, k, none⟩) (by simp)
        rw [e, hcell.out k]; exact HC.out k hlt
      have hrl := regs_len bs k
      have hbsz : w.heap.size + 1 ≤ wr.heap.size := by have := hb.size; rw [HS.out] at this; exact this
      cases hq : bs k with
      | true =>
        rw [hq] at hc
        have HQ := Lib.hid hq
        clear hq
        go_wp2_with (at_builtin; refine wpList_append_own _ rfl _ _ 79 rfl (w.heap.size + 1) 3 i0 (.int .i64 0) 1 8 Tryd.underlying79 hi hz0 hz1 hz2 rfl (by decide) _ _ _ rfl (hown.alloc _) ⟨wr.heap.size, 0, none⟩ 1 1 [.int .i64 (k : Int)] rfl rfl ?c1 ?c2 ?c3 ?c4 ?c5 ?_)
        case c1 => exact fun j u h => new1 _ _ _ j u h
        case c2 => intro u hu; simp at hu; subst hu; rfl
        case c3 => unfold maxLen; omega
        case c4 => omega
        case c5 => simp; omega
        intro v' w2 hown2 hg2 _
        have hB2 : Below (w.heap.size + 1) W w2 := (hb.alloc hbsz _).grown hg2 (by simp; omega) (fun g hg => own_ge hown hg)
        have hown3 : w2.ownsRow (w.heap.size + 1) 3 1 v' (regs bs (k + 1)).length (i64s (regs bs (k + 1))) := by
          have e1 : regs bs (k + 1) = regs bs k ++ [(k : Int)] := by simp [regs, HQ.out]
          rw [e1]
          simpa [i64s] using hown2
        clear hown hown2 hg2
        go_wp2
        go_roundw
        case rel => exact ⟨k + 1, by omega, by go_num, hown3, hB2⟩
        case measure => simp [intOf]; omega
      | false =>
        rw [hq] at hc
        have HQ := Lib.hid hq
        clear hq
        go_wp2
        go_roundw
        case rel => exact ⟨k + 1, by omega, by go_num, by simpa [regs, HQ.out] using hown, hb⟩
        case measure => simp [intOf]; omega
    · have hk8 : k = 8 := by omega
      have HK := Lib.hid hk8
      clear hk8
      go_wp2
      go_ret
      refine ⟨⟨_, rfl, ?_⟩, hB0.trans (hb.mono (by omega))⟩
      have := (reads_of_own hown).mono (base' := w.heap.size) (by omega)
      rw [HK.out] at this
      exact this
end Go.Proofs.YtagmeijpelffcaaDoor
