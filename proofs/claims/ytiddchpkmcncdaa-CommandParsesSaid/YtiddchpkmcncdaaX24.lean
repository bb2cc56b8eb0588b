/- Walks of layer 41: quote. -/
import Derived.Test.YtiddchpkmcncdaaX23
namespace Go.Proofs.Ytiddchpkmcncdaa
open Go.RowKit
set_option linter.unusedSimpArgs false
set_option linter.unusedVariables false
/-- What the loop of quote keeps. -/
def QuRel (w : World) (s : ByteArray) (gk : Nat) (v i : Value) (wr : World) : Prop :=
  ∃ k, i = .int .i64 ((k : Nat) : Int) ∧ k ≤ s.size ∧ gk + k = s.size + 1 ∧ Below w.heap.size w wr ∧ wr.ownsRow w.heap.size 5 1 v ([34] ++ (s.data.toList.take k).flatMap escS).length (([34] ++ (s.data.toList.take k).flatMap escS).map byV)
theorem by_push {w1 : World} {base n : Nat} {v : Value} {acc : Bs} {b : UInt8} {x : Int} (h : w1.ownsRow base 5 1 v n (acc.map byV ++ [.int .u8 x])) (hn : n = acc.length + 1) (hx : x = n8 b) : w1.ownsRow base 5 1 v (acc ++ [b]).length ((acc ++ [b]).map byV) := by
  subst hx hn
  rw [List.map_append, List.length_append]; exact h
set_option maxRecDepth 100000 in
set_option maxHeartbeats 4000000 in
theorem quote_any (s : ByteArray) (w : World) (hs : s.size ≤ 100000) :
    Calls Try.prog 89 #[.string s] w fun e w' => e = .returned (.string (bs (quoteS s.data.toList))) ∧ Below w.heap.size w w' := by
  obtain ⟨i0, hi, hz0, hz1, hz2⟩ := info_parts info5
  have H0 := Lib.hid (own_new w w.heap.size 5 1 [.int .u8 34] rfl (Nat.le_refl _))
  go_enter Try.func89, Try.ntmps89
  go_wp2
  go_loopg [3, 8] (s.size + 1) (fun gk v i wr => QuRel w s gk v i wr)
  case atStart => exact ⟨0, rfl, Nat.zero_le _, by omega, (Below.refl _ _).alloc (Nat.le_refl _) _, H0.out⟩
  case round =>
    obtain ⟨k, rfl, hk, hgk, hb, hown⟩ := hrel
    have hacc : ([34] ++ (s.data.toList.take k).flatMap escS).length ≤ 300000 := by
      have := esc_len (s.data.toList.take k)
      simp at this ⊢; omega
    obtain ⟨acc, ha⟩ : ∃ acc : Bs, [34] ++ (s.data.toList.take k).flatMap escS = acc := ⟨_, rfl⟩
    rw [ha] at hown hacc
    have HA := Lib.hid ha
    have HO := Lib.hid hown
    obtain ⟨av, cv, rfl, _⟩ := own_len hown
    have hsz : w.heap.size ≤ wr.heap.size := hb.size
    clear ha hown H0
    by_cases hlt : k < s.size
    · have hbk := bt_of s k hlt
      by_cases q0 : bt s k = 34
      · have t0 : (bt s k == 34) = true := by simpa using q0
        have HE := Lib.hid (show escS (b8 s k) = [92, b8 s k] by unfold escS escB; rw [← bt_b8]; simp [q0])
        clear q0
        go_upto_region 7 with ((at_builtin; refine wpList_append_lies _ rfl _ _ _ rfl w.heap.size 5 i0 _ 1 1 Try.underlying84 hi hz0 hz1 hz2 rfl (by omega) (.slice av acc.length cv) acc.length (acc.map byV) rfl (HO.out.alloc _) ⟨wr.heap.size, 0, none⟩ 1 1 [.int .u8 92] rfl rfl (World.news_of_block (cs := #[.int .u8 92]) (t := 5) (fr := (0, 0)) (heap_alloc_new wr _)) (by simp [Value.oneCell']) (by omega) (by unfold maxLen; omega) (by omega) (by simp; omega) (wr.heap.size + 1) (by simp) ?_; intro gg1 cap1 w1 hown1 hgrow1 hat1 hlt1))
        have HB1 := Lib.hid (below_own (hb.alloc hb.size _) (HO.out.alloc _) hgrow1 (Nat.le_refl _) (by simp; omega))
        have HO1 := Lib.hid (by_push (b := 92) hown1 rfl rfl)
        have hb1 := HB1.out
        have hsz1 : w.heap.size ≤ w1.heap.size := hb1.size
        have hl1 : (acc ++ [92]).length ≤ 400000 := by simp; omega
        clear hown1 hgrow1 hat1 hlt1 HO hb HB1
        simp only [List.length_append, List.length_cons, List.length_nil, Nat.zero_add] at HO1
        go_wp2_with (at_builtin; refine wpList_append_lies _ rfl _ _ _ rfl w.heap.size 5 i0 _ 1 1 Try.underlying84 hi hz0 hz1 hz2 rfl (by omega) (.slice (some ⟨gg1, 0, none⟩) (acc.length + 1) cap1) (acc.length + 1) ((acc ++ [92]).map byV) rfl (HO1.out.alloc _) ⟨w1.heap.size, 0, none⟩ 1 1 [.int .u8 (bt s k)] rfl rfl (World.news_of_block (cs := #[.int .u8 (bt s k)]) (t := 5) (fr := (0, 0)) (heap_alloc_new w1 _)) (by simp [Value.oneCell']) (by omega) (by unfold maxLen; omega) (by omega) (by simp; omega) (w1.heap.size + 1) (by simp) ?_; intro gg2 cap2 w2 hown2 hgrow2 hat2 hlt2)
        have HB2 := Lib.hid (below_own (hb1.alloc hb1.size _) (show (w1.alloc _).ownsRow w.heap.size 5 1 _ (acc ++ [92]).length _ from by rw [List.length_append]; exact HO1.out.alloc _) hgrow2 (Nat.le_refl _) (by simp; omega))
        have HO2 := Lib.hid (by_push (acc := acc ++ [92]) (b := b8 s k) hown2 (by simp) (bt_b8 s k))
        clear hown2 hgrow2 hat2 hlt2
        go_roundg (gk - 1)
        case rel => exact ⟨k + 1, by go_num, by omega, by omega, HB2.out, by rw [esc_take s.data.toList k (by simpa using hlt), show s.data.toList.getD k 0 = b8 s k from rfl, HE.out, ← List.append_assoc, HA.out]; simpa using HO2.out⟩
        case measure => omega
      have t0 : (bt s k == 34) = false := by simpa using q0
      by_cases q1 : bt s k = 92
      · have t1 : (bt s k == 92) = true := by simpa using q1
        have HE := Lib.hid (show escS (b8 s k) = [92, b8 s k] by unfold escS escB; rw [← bt_b8]; simp [q1])
        clear q0 q1
        go_upto_region 7 with ((at_builtin; refine wpList_append_lies _ rfl _ _ _ rfl w.heap.size 5 i0 _ 1 1 Try.underlying84 hi hz0 hz1 hz2 rfl (by omega) (.slice av acc.length cv) acc.length (acc.map byV) rfl (HO.out.alloc _) ⟨wr.heap.size, 0, none⟩ 1 1 [.int .u8 92] rfl rfl (World.news_of_block (cs := #[.int .u8 92]) (t := 5) (fr := (0, 0)) (heap_alloc_new wr _)) (by simp [Value.oneCell']) (by omega) (by unfold maxLen; omega) (by omega) (by simp; omega) (wr.heap.size + 1) (by simp) ?_; intro gg1 cap1 w1 hown1 hgrow1 hat1 hlt1))
        have HB1 := Lib.hid (below_own (hb.alloc hb.size _) (HO.out.alloc _) hgrow1 (Nat.le_refl _) (by simp; omega))
        have HO1 := Lib.hid (by_push (b := 92) hown1 rfl rfl)
        have hb1 := HB1.out
        have hsz1 : w.heap.size ≤ w1.heap.size := hb1.size
        have hl1 : (acc ++ [92]).length ≤ 400000 := by simp; omega
        clear hown1 hgrow1 hat1 hlt1 HO hb HB1
        simp only [List.length_append, List.length_cons, List.length_nil, Nat.zero_add] at HO1
        go_wp2_with (at_builtin; refine wpList_append_lies _ rfl _ _ _ rfl w.heap.size 5 i0 _ 1 1 Try.underlying84 hi hz0 hz1 hz2 rfl (by omega) (.slice (some ⟨gg1, 0, none⟩) (acc.length + 1) cap1) (acc.length + 1) ((acc ++ [92]).map byV) rfl (HO1.out.alloc _) ⟨w1.heap.size, 0, none⟩ 1 1 [.int .u8 (bt s k)] rfl rfl (World.news_of_block (cs := #[.int .u8 (bt s k)]) (t := 5) (fr := (0, 0)) (heap_alloc_new w1 _)) (by simp [Value.oneCell']) (by omega) (by unfold maxLen; omega) (by omega) (by simp; omega) (w1.heap.size + 1) (by simp) ?_; intro gg2 cap2 w2 hown2 hgrow2 hat2 hlt2)
        have HB2 := Lib.hid (below_own (hb1.alloc hb1.size _) (show (w1.alloc _).ownsRow w.heap.size 5 1 _ (acc ++ [92]).length _ from by rw [List.length_append]; exact HO1.out.alloc _) hgrow2 (Nat.le_refl _) (by simp; omega))
        have HO2 := Lib.hid (by_push (acc := acc ++ [92]) (b := b8 s k) hown2 (by simp) (bt_b8 s k))
        clear hown2 hgrow2 hat2 hlt2
        go_roundg (gk - 1)
        case rel => exact ⟨k + 1, by go_num, by omega, by omega, HB2.out, by rw [esc_take s.data.toList k (by simpa using hlt), show s.data.toList.getD k 0 = b8 s k from rfl, HE.out, ← List.append_assoc, HA.out]; simpa using HO2.out⟩
        case measure => omega
      have t1 : (bt s k == 92) = false := by simpa using q1
      by_cases q2 : bt s k = 36
      · have t2 : (bt s k == 36) = true := by simpa using q2
        have HE := Lib.hid (show escS (b8 s k) = [92, b8 s k] by unfold escS escB; rw [← bt_b8]; simp [q2])
        clear q0 q1 q2
        go_upto_region 7 with ((at_builtin; refine wpList_append_lies _ rfl _ _ _ rfl w.heap.size 5 i0 _ 1 1 Try.underlying84 hi hz0 hz1 hz2 rfl (by omega) (.slice av acc.length cv) acc.length (acc.map byV) rfl (HO.out.alloc _) ⟨wr.heap.size, 0, none⟩ 1 1 [.int .u8 92] rfl rfl (World.news_of_block (cs := #[.int .u8 92]) (t := 5) (fr := (0, 0)) (heap_alloc_new wr _)) (by simp [Value.oneCell']) (by omega) (by unfold maxLen; omega) (by omega) (by simp; omega) (wr.heap.size + 1) (by simp) ?_; intro gg1 cap1 w1 hown1 hgrow1 hat1 hlt1))
        have HB1 := Lib.hid (below_own (hb.alloc hb.size _) (HO.out.alloc _) hgrow1 (Nat.le_refl _) (by simp; omega))
        have HO1 := Lib.hid (by_push (b := 92) hown1 rfl rfl)
        have hb1 := HB1.out
        have hsz1 : w.heap.size ≤ w1.heap.size := hb1.size
        have hl1 : (acc ++ [92]).length ≤ 400000 := by simp; omega
        clear hown1 hgrow1 hat1 hlt1 HO hb HB1
        simp only [List.length_append, List.length_cons, List.length_nil, Nat.zero_add] at HO1
        go_wp2_with (at_builtin; refine wpList_append_lies _ rfl _ _ _ rfl w.heap.size 5 i0 _ 1 1 Try.underlying84 hi hz0 hz1 hz2 rfl (by omega) (.slice (some ⟨gg1, 0, none⟩) (acc.length + 1) cap1) (acc.length + 1) ((acc ++ [92]).map byV) rfl (HO1.out.alloc _) ⟨w1.heap.size, 0, none⟩ 1 1 [.int .u8 (bt s k)] rfl rfl (World.news_of_block (cs := #[.int .u8 (bt s k)]) (t := 5) (fr := (0, 0)) (heap_alloc_new w1 _)) (by simp [Value.oneCell']) (by omega) (by unfold maxLen; omega) (by omega) (by simp; omega) (w1.heap.size + 1) (by simp) ?_; intro gg2 cap2 w2 hown2 hgrow2 hat2 hlt2)
        have HB2 := Lib.hid (below_own (hb1.alloc hb1.size _) (show (w1.alloc _).ownsRow w.heap.size 5 1 _ (acc ++ [92]).length _ from by rw [List.length_append]; exact HO1.out.alloc _) hgrow2 (Nat.le_refl _) (by simp; omega))
        have HO2 := Lib.hid (by_push (acc := acc ++ [92]) (b := b8 s k) hown2 (by simp) (bt_b8 s k))
        clear hown2 hgrow2 hat2 hlt2
        go_roundg (gk - 1)
        case rel => exact ⟨k + 1, by go_num, by omega, by omega, HB2.out, by rw [esc_take s.data.toList k (by simpa using hlt), show s.data.toList.getD k 0 = b8 s k from rfl, HE.out, ← List.append_assoc, HA.out]; simpa using HO2.out⟩
        case measure => omega
      have t2 : (bt s k == 36) = false := by simpa using q2
      have HE := Lib.hid (show escS (b8 s k) = [b8 s k] by unfold escS escB; rw [← bt_b8]; simp [q0, q1, q2])
      clear q0 q1 q2
      go_wp2_with (at_builtin; refine wpList_append_lies _ rfl _ _ _ rfl w.heap.size 5 i0 _ 1 1 Try.underlying84 hi hz0 hz1 hz2 rfl (by omega) (.slice av acc.length cv) acc.length (acc.map byV) rfl (HO.out.alloc _) ⟨wr.heap.size, 0, none⟩ 1 1 [.int .u8 (bt s k)] rfl rfl (World.news_of_block (cs := #[.int .u8 (bt s k)]) (t := 5) (fr := (0, 0)) (heap_alloc_new wr _)) (by simp [Value.oneCell']) (by omega) (by unfold maxLen; omega) (by omega) (by simp; omega) (wr.heap.size + 1) (by simp) ?_; intro gg1 cap1 w1 hown1 hgrow1 hat1 hlt1)
      have HB1 := Lib.hid (below_own (hb.alloc hb.size _) (HO.out.alloc _) hgrow1 (Nat.le_refl _) (by simp; omega))
      have HO1 := Lib.hid (by_push (b := b8 s k) hown1 rfl (bt_b8 s k))
      clear hown1 hgrow1 hat1 hlt1
      go_roundg (gk - 1)
      case rel => exact ⟨k + 1, by go_num, by omega, by omega, HB1.out, by rw [esc_take s.data.toList k (by simpa using hlt), show s.data.toList.getD k 0 = b8 s k from rfl, HE.out, ← List.append_assoc, HA.out]; simpa using HO1.out⟩
      case measure => omega
    · obtain rfl : k = s.size := by omega
      have HA2 := Lib.hid (show acc ++ [34] = quoteS s.data.toList by
        rw [← HA.out, List.take_of_length_le (by simp)]; rfl)
      go_wp2_with (at_builtin; refine wpList_append_lies _ rfl _ _ _ rfl w.heap.size 5 i0 _ 1 1 Try.underlying84 hi hz0 hz1 hz2 rfl (by omega) (.slice av acc.length cv) acc.length (acc.map byV) rfl (HO.out.alloc _) ⟨wr.heap.size, 0, none⟩ 1 1 [.int .u8 34] rfl rfl (World.news_of_block (cs := #[.int .u8 34]) (t := 5) (fr := (0, 0)) (heap_alloc_new wr _)) (by simp [Value.oneCell']) (by omega) (by unfold maxLen; omega) (by omega) (by simp; omega) (wr.heap.size + 1) (by simp) ?_; intro gg1 cap1 w1 hown1 hgrow1 hat1 hlt1; have htx := own_text (by_push (b := 34) hown1 rfl rfl))
      go_ret
      exact ⟨ret_str (by rw [HA2.out]), below_own (hb.alloc hb.size _) (HO.out.alloc _) hgrow1 (Nat.le_refl _) (by simp; omega)⟩
end Go.Proofs.Ytiddchpkmcncdaa
