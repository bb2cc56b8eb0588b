/- Walks of layer 16: list, EncodeAll of the program and of the reference. -/
import Derived.Test.YtagmeijpelffcaaDoorP4
namespace Go.Proofs.YtagmeijpelffcaaDoor
open Go.RowKit
set_option linter.unusedSimpArgs false
set_option linter.unusedVariables false
/-- What EncodeAll leaves. -/
def EncPost (zs : List Int) (len : Nat) (w : World) (e : Ending) (w' : World) : Prop :=
  Below w.heap.size w w' ∧
  ((firstBad (okI zs) len < len ∧ e = .returned (.tuple #[.slice none 0 0, .int .i64 (firstBad (okI zs) len : Int), .int .i64 (errI zs (firstBad (okI zs) len))])) ∨
   ((∀ k, k < len → okI zs k = true) ∧ ∃ v, w'.ownsRow w.heap.size 5 1 v (len * 4) (u8s (encBytes zs len)) ∧ e = .returned (.tuple #[v, .int .i64 0, .int .i64 0])))
theorem info5 : (Tryd.prog.info? 5).map (fun i => (i.zero, i.size, i.bytes)) = some (some (.int .u8 0), 1, 1) := by kernel_rfl
theorem list_zero (a : Option Addr) (cap : Nat) (w : World) :
    Calls Tryd.prog 39 #[.slice a 0 cap] w fun e w' => e = .returned (.slice none 0 0) ∧ w = w' := by
  go_enter Tryd.func39, Tryd.ntmps39
  go_wp2
  refine wp_loop_rounds 1 ?_; rw [rounds_succ]
  go_wp2
  go_ret
  exact ⟨rfl, rfl⟩
theorem encodeAll_zero (a : Option Addr) (cap : Nat) (w : World) :
    Calls Tryd.prog 38 #[.slice a 0 cap] w fun e w' => e = .returned (.tuple #[.slice none 0 0, .int .i64 0, .int .i64 0]) ∧ w = w' := by
  go_enter Tryd.func38, Tryd.ntmps38
  go_wp2
  refine wp_loop_rounds 1 ?_; rw [rounds_succ]
  go_wp2
  go_ret3
  exact ⟨rfl, rfl⟩
theorem refEncodeAll_zero (a : Option Addr) (cap : Nat) (w : World) :
    Calls Tryd.prog 40 #[.slice a 0 cap] w fun e w' => e = .returned (.tuple #[.slice none 0 0, .int .i64 0, .int .i64 0]) ∧ w = w' := by
  go_enter Tryd.func40, Tryd.ntmps40
  go_wp2
  refine wp_loop_rounds 1 ?_; rw [rounds_succ]
  go_wp2
  go_ret3
  exact ⟨rfl, rfl⟩
set_option maxRecDepth 100000 in
set_option maxHeartbeats 1000000 in
theorem list_any (b off len cap : Nat) (zs : List Int) (w : World) (hz : InsAt w b off zs len) (hlen : len ≤ 40) :
    Calls Tryd.prog 39 #[.slice (some ⟨b, off, none⟩) len cap] w fun e w' => (∃ v, e = .returned v ∧ w'.ownsRow w.heap.size 26 4 v len (inCells zs len)) ∧ Below w.heap.size w w' := by
  obtain ⟨i0, hi, hz0, hz1, hz2⟩ := info_parts info26
  go_enter Tryd.func39, Tryd.ntmps39
  go_wp2
  go_loopw [3, 4] (fun v i wr => ∃ k : Nat, k ≤ len ∧ i = .int .i64 k ∧ wr.ownsRow w.heap.size 26 4 v k (inCells zs k) ∧ Below w.heap.size w wr) (fun _ i _ => len - (intOf i).toNat)
  case atStart => exact ⟨0, Nat.zero_le _, rfl, ⟨rfl, .inl ⟨rfl, rfl⟩⟩, Below.refl _ _⟩
  case round =>
    obtain ⟨k, hk, rfl, hown, hb⟩ := hrel
    by_cases hlt : k < len
    · obtain ⟨c0, c1, c2, c3⟩ := (hz.next hb).cells k hlt
      go_wp2_with fail
      refine (to_any _ _ _ _ _).mono ?_
      rintro e w1 ⟨rfl, k1⟩
      have hown1 : w1.ownsRow w.heap.size 26 4 u3 k (inCells zs k) := own_next hown k1
      clear hown
      go_wp2_with (at_builtin; refine wpList_append_own _ rfl _ _ 53 rfl w.heap.size 26 i0 (.agg #[.int .i64 0, .int .i64 0, .int .i64 0, .int .i64 0]) 4 32 Tryd.underlying53 hi hz0 hz1 hz2 rfl (by decide) _ _ _ rfl (hown1.alloc _) ⟨w1.heap.size, 0, none⟩ 1 1 (inAt zs k) rfl rfl ?c1 ?c2 ?c3 ?c4 ?c5 ?_)
      case c1 => exact fun j u h => new4 _ _ _ _ _ _ j u h
      case c2 => intro u hu; simp [inAt] at hu; rcases hu with rfl | rfl | rfl | rfl <;> rfl
      case c3 => unfold maxLen; omega
      case c4 => omega
      case c5 => have := hb.size; have := k1.size; simp; omega
      intro v' w2 hown2 hg2 _
      have hB2 : Below w.heap.size w w2 := ((hb.trans (k1.mono hb.size)).alloc (Nat.le_trans hb.size k1.size) _).grown hg2 (by have := hb.size; have := k1.size; simp; omega) (fun g hg => own_ge hown1 hg)
      have hown3 : w2.ownsRow w.heap.size 26 4 v' (k + 1) (inCells zs (k + 1)) := hown2
      clear hown1 hown2 hg2 k1
      go_wp2
      go_roundw
      case rel => exact ⟨k + 1, by omega, by go_num, hown3, hB2⟩
      case measure => simp [intOf]; omega
    · have hkl : k = len := by omega
      have HK := Lib.hid hkl
      clear hkl
      go_wp2
      go_ret
      exact ⟨⟨_, rfl, by rw [← HK.out]; exact hown⟩, hb⟩
set_option maxRecDepth 100000 in
set_option maxHeartbeats 1000000 in
theorem encodeAll_any (b off len cap : Nat) (zs : List Int) (w : World) (ho : OpsAt w) (hz : InsAt w b off zs len) (hlen : len ≤ 40) :
    Calls Tryd.prog 38 #[.slice (some ⟨b, off, none⟩) len cap] w (EncPost zs len w) := by
  obtain ⟨i0, hi, hz0, hz1, hz2⟩ := info_parts info5
  go_enter Tryd.func38, Tryd.ntmps38
  go_wp2
  go_loopw [2, 11] (fun v i wr => ∃ k : Nat, k ≤ len ∧ i = .int .i64 k ∧ (∀ j, j < k → okI zs j = true) ∧ wr.ownsRow w.heap.size 5 1 v (k * 4) (u8s (encBytes zs k)) ∧ Below w.heap.size w wr) (fun _ i _ => len - (intOf i).toNat)
  case atStart => exact ⟨0, Nat.zero_le _, rfl, fun j h => by omega, ⟨rfl, .inl ⟨rfl, rfl⟩⟩, Below.refl _ _⟩
  case round =>
    obtain ⟨k, hk, rfl, hok, hown, hb⟩ := hrel
    have HO := Lib.hid hok
    clear hok
    have ho' := ho.next hb
    by_cases hlt : k < len
    · obtain ⟨c0, c1, c2, c3⟩ := (hz.next hb).cells k hlt
      cases hkk : okI zs k with
      | false =>
        have HK := Lib.hid (okI_false hkk)
        have HF := Lib.hid hkk
        have hne : (chk (byteAt zs (4 * k)) (byteAt zs (4 * k + 1)) (byteAt zs (4 * k + 2)) (byteAt zs (4 * k + 3)) != 0) = true := by simpa using okI_false hkk
        clear hkk
        go_wp2_with fail
        refine (encode_non _ _ _ _ _ (ho'.alloc _) HK.out).mono ?_
        rintro e w1 ⟨rfl, k1⟩
        go_wp2
        go_ret3
        have hf := firstBad_at (n := len) hlt HO.out HF.out
        exact ⟨(hb.trans ((below1 k1).mono hb.size)).alloc (Nat.le_trans hb.size (below1 k1).size) _, .inl ⟨by omega, ret_t3 (by rw [hf]) (by rw [hf]; rfl)⟩⟩
      | true =>
        have HK := Lib.hid (okI_true hkk)
        have HT := Lib.hid hkk
        clear hkk
        go_wp2_with fail
        refine (encode_yes _ _ _ _ _ (ho'.alloc _) HK.out).mono ?_
        rintro e w1 ⟨rfl, k1⟩
        have BB := below1 k1
        have hown1 : w1.ownsRow w.heap.size 5 1 u2 (k * 4) (u8s (encBytes zs k)) := own_next hown BB
        clear hown k1
        go_wp2_with (at_builtin; refine wpList_append_own _ rfl _ _ 52 rfl w.heap.size 5 i0 (.int .u8 0) 1 1 Tryd.underlying52 hi hz0 hz1 hz2 rfl (by decide) _ _ _ rfl (hown1.alloc _) ⟨w1.heap.size, 0, none⟩ 4 4 (u8s (encAt zs k)) rfl rfl ?c1 ?c2 ?c3 ?c4 ?c5 ?_)
        case c1 => exact fun j u h => new4 _ _ _ _ _ _ j u h
        case c2 => intro u hu; simp [u8s, encAt] at hu; rcases hu with rfl | rfl | rfl | rfl <;> rfl
        case c3 => unfold maxLen; omega
        case c4 => omega
        case c5 => have := hb.size; have := BB.size; simp; omega
        intro v' w2 hown2 hg2 _
        have hB2 : Below w.heap.size w w2 := ((hb.trans (BB.mono hb.size)).alloc (Nat.le_trans hb.size BB.size) _).grown hg2 (by have := hb.size; have := BB.size; simp; omega) (fun g hg => own_ge hown1 hg)
        have hown3 : w2.ownsRow w.heap.size 5 1 v' ((k + 1) * 4) (u8s (encBytes zs (k + 1))) := by
          have e1 : (k + 1) * 4 = k * 4 + 4 := by omega
          have e2 : u8s (encBytes zs (k + 1)) = u8s (encBytes zs k) ++ u8s (encAt zs k) := by simp [u8s, encBytes]
          rw [e1, e2]; exact hown2
        clear hown1 hown2 hg2 BB
        go_wp2
        go_roundw
        case rel => exact ⟨k + 1, by omega, by go_num, fun i hi => (by by_cases e : i = k; (subst e; exact HT.out); exact HO.out i (by omega)), hown3, hB2⟩
        case measure => simp [intOf]; omega
    · have hkl : k = len := by omega
      have HKL := Lib.hid hkl
      clear hkl
      go_wp2
      go_ret3
      refine ⟨hb, .inr ⟨by rw [← HKL.out]; exact HO.out, u2, ?_, rfl⟩⟩
      rw [← HKL.out]; exact hown
set_option maxRecDepth 100000 in
set_option maxHeartbeats 1000000 in
theorem refEncodeAll_any (b off len cap : Nat) (zs : List Int) (w : World) (hz : InsAt w b off zs len) (hlen : len ≤ 40) :
    Calls Tryd.prog 40 #[.slice (some ⟨b, off, none⟩) len cap] w (EncPost zs len w) := by
  obtain ⟨i0, hi, hz0, hz1, hz2⟩ := info_parts info5
  go_enter Tryd.func40, Tryd.ntmps40
  go_wp2
  go_loopw [5, 6] (fun v i wr => ∃ k : Nat, k ≤ len ∧ i = .int .i64 k ∧ (∀ j, j < k → okI zs j = true) ∧ wr.ownsRow w.heap.size 5 1 v (k * 4) (u8s (encBytes zs k)) ∧ Below w.heap.size w wr) (fun _ i _ => len - (intOf i).toNat)
  case atStart => exact ⟨0, Nat.zero_le _, rfl, fun j h => by omega, ⟨rfl, .inl ⟨rfl, rfl⟩⟩, Below.refl _ _⟩
  case round =>
    obtain ⟨k, hk, rfl, hok, hown, hb⟩ := hrel
    have HO := Lib.hid hok
    clear hok
    by_cases hlt : k < len
    · obtain ⟨c0, c1, c2, c3⟩ := (hz.next hb).cells k hlt
      cases hkk : okI zs k with
      | false =>
        have HK := Lib.hid (okI_false hkk)
        have HF := Lib.hid hkk
        have hne : (chk (byteAt zs (4 * k)) (byteAt zs (4 * k + 1)) (byteAt zs (4 * k + 2)) (byteAt zs (4 * k + 3)) != 0) = true := by simpa using okI_false hkk
        clear hkk
        go_wp2_with fail
        refine (refEncode_non _ _ _ _ _ HK.out).mono ?_
        rintro e w1 ⟨rfl, k1⟩
        go_wp2
        go_ret3
        have hf := firstBad_at (n := len) hlt HO.out HF.out
        exact ⟨(hb.trans (k1.mono hb.size)).alloc (Nat.le_trans hb.size k1.size) _, .inl ⟨by omega, ret_t3 (by rw [hf]) (by rw [hf]; rfl)⟩⟩
      | true =>
        have HK := Lib.hid (okI_true hkk)
        have HT := Lib.hid hkk
        clear hkk
        go_wp2_with fail
        refine (refEncode_yes _ _ _ _ _ HK.out).mono ?_
        rintro e w1 ⟨rfl, k1⟩
        have BB : Below wr.heap.size wr w1 := k1
        have hown1 : w1.ownsRow w.heap.size 5 1 u5 (k * 4) (u8s (encBytes zs k)) := own_next hown BB
        clear hown k1
        go_wp2_with (at_builtin; refine wpList_append_own _ rfl _ _ 52 rfl w.heap.size 5 i0 (.int .u8 0) 1 1 Tryd.underlying52 hi hz0 hz1 hz2 rfl (by decide) _ _ _ rfl ((hown1.alloc _).alloc _) ⟨w1.heap.size + 1, 0, none⟩ 4 4 (u8s (encAt zs k)) rfl rfl ?c1 ?c2 ?c3 ?c4 ?c5 ?_)
        case c1 => exact fun j u h => new4s _ _ (by simp) _ _ _ _ _ j u h
        case c2 => intro u hu; simp [u8s, encAt] at hu; rcases hu with rfl | rfl | rfl | rfl <;> rfl
        case c3 => unfold maxLen; omega
        case c4 => omega
        case c5 => have := hb.size; have := BB.size; simp; omega
        intro v' w2 hown2 hg2 _
        have hB2 : Below w.heap.size w w2 := (((hb.trans (BB.mono hb.size)).alloc (Nat.le_trans hb.size BB.size) _).alloc (by have := hb.size; have := BB.size; simp; omega) _).grown hg2 (by have := hb.size; have := BB.size; simp; omega) (fun g hg => own_ge hown1 hg)
        have hown3 : w2.ownsRow w.heap.size 5 1 v' ((k + 1) * 4) (u8s (encBytes zs (k + 1))) := by
          have e1 : (k + 1) * 4 = k * 4 + 4 := by omega
          have e2 : u8s (encBytes zs (k + 1)) = u8s (encBytes zs k) ++ u8s (encAt zs k) := by simp [u8s, encBytes]
          rw [e1, e2]; exact hown2
        clear hown1 hown2 hg2 BB
        go_wp2
        go_roundw
        case rel => exact ⟨k + 1, by omega, by go_num, fun i hi => (by by_cases e : i = k; (subst e; exact HT.out); exact HO.out i (by omega)), hown3, hB2⟩
        case measure => simp [intOf]; omega
    · have hkl : k = len := by omega
      have HKL := Lib.hid hkl
      clear hkl
      go_wp2
      go_ret3
      refine ⟨hb, .inr ⟨by rw [← HKL.out]; exact HO.out, u5, ?_, rfl⟩⟩
      rw [← HKL.out]; exact hown
end Go.Proofs.YtagmeijpelffcaaDoor
