/- Walks of layer 16: DecodeAll of the reference. -/
import Derived.Test.YtagmeijpelffcaaDoorW12
import Derived.Test.YtagmeijpelffcaaDoorW11
import Derived.Deep.RegionHeld3
import Derived.IntWalk
namespace Go.Proofs.YtagmeijpelffcaaDoor
open Go.RowKit
set_option linter.unusedSimpArgs false
set_option linter.unusedVariables false
theorem info23 : (Tryd.prog.info? 23).map (fun i => (i.zero, i.size, i.bytes)) = some (some (.agg #[.int .i64 0, .int .i64 0, .int .i64 0, .int .i64 0]), 4, 32) := by kernel_rfl
theorem decodeAll_nil (a : Option Addr) (cap : Nat) (w : World) :
    Calls Tryd.prog 28 #[.slice a 0 cap] w fun e w' => e = .returned (.tuple #[.slice none 0 0, .int .i64 0, .int .i64 0]) ∧ w = w' := by
  go_enter Tryd.func28, Tryd.ntmps28
  go_wp2
  refine wp_loop_rounds 1 ?_; rw [rounds_succ]
  go_wp2
  go_ret3
  exact ⟨rfl, rfl⟩
theorem refDecodeAll_nil (a : Option Addr) (cap : Nat) (w : World) :
    Calls Tryd.prog 29 #[.slice a 0 cap] w fun e w' => e = .returned (.tuple #[.slice none 0 0, .int .i64 0, .int .i64 0]) ∧ w = w' := by
  go_enter Tryd.func29, Tryd.ntmps29
  go_wp2
  refine wp_loop_rounds 1 ?_; rw [rounds_succ]
  go_wp2
  go_ret3
  exact ⟨rfl, rfl⟩
theorem BytesAt.cells {w : World} {b off : Nat} {zs : List Int} (h : BytesAt w b off zs) (k : Nat) (hk : 4 * k + 4 ≤ zs.length) : w.cell? ⟨b, off + 4 * k, none⟩ = some (.int .u8 (byteAt zs (4 * k))) ∧ w.cell? ⟨b, off + (4 * k + 1), none⟩ = some (.int .u8 (byteAt zs (4 * k + 1))) ∧ w.cell? ⟨b, off + (4 * k + 2), none⟩ = some (.int .u8 (byteAt zs (4 * k + 2))) ∧ w.cell? ⟨b, off + (4 * k + 3), none⟩ = some (.int .u8 (byteAt zs (4 * k + 3))) :=
  ⟨(h.2 (4 * k) (by omega)).1, (h.2 (4 * k + 1) (by omega)).1, (h.2 (4 * k + 2) (by omega)).1, (h.2 (4 * k + 3) (by omega)).1⟩
theorem BytesAt.alloc {w : World} {b off : Nat} {zs : List Int} (h : BytesAt w b off zs) (o : Obj) : BytesAt (w.alloc o) b off zs := h.next ((Below.refl _ _).alloc (Nat.le_refl _) _)
theorem BytesAt.drew {w : World} {b off : Nat} {zs : List Int} (h : BytesAt w b off zs) : BytesAt w.drew b off zs := h
theorem BytesAt.set {w : World} {b off g : Nat} {zs : List Int} (h : BytesAt w b off zs) (hne : b < g) (i : Nat) (v : Value) : BytesAt (w.setCell ⟨g, i, none⟩ v) b off zs := by
  refine ⟨by simpa [World.setCell] using h.1, fun j hj => ?_⟩
  have e : (w.setCell ⟨g, i, none⟩ v).cell? ⟨b, off + j, none⟩ = w.cell? ⟨b, off + j, none⟩ := World.cell?_of_block (w := w) (Below.heap_setCell w ⟨g, i, none⟩ v b (by simp; omega))
  rw [e]; exact h.2 j hj
theorem set4 {wr w1 : World} {v0 v1 v2 v3 x0 x1 x2 x3 : Value} {t : TypeId} (k1 : Below ((wr.alloc (.cells #[x0, x1, x2, x3] t)).drew).heap.size ((wr.alloc (.cells #[x0, x1, x2, x3] t)).drew) w1) :
    At4 ((((w1.setCell ⟨wr.heap.size, 0, none⟩ v0).setCell ⟨wr.heap.size, 1, none⟩ v1).setCell ⟨wr.heap.size, 2, none⟩ v2).setCell ⟨wr.heap.size, 3, none⟩ v3) wr.heap.size v0 v1 v2 v3 := by
  have hs := k1.size
  simp at hs
  have hblk : w1.heap[wr.heap.size]? = some (.cells #[x0, x1, x2, x3] t) := by
    rw [k1.block wr.heap.size (by simp)]
    show (wr.heap.push _)[wr.heap.size]? = _
    simp
  refine ⟨by simp [World.setCell]; omega, ?_, ?_, ?_, ?_⟩ <;> simp [World.cell?, World.setCell, Array.getElem?_modify, hblk]
set_option maxRecDepth 100000 in
set_option maxHeartbeats 4000000 in
theorem refDecodeAll_any (b off len cap : Nat) (zs : List Int) (w : World) (hz : BytesAt w b off zs) (hl : len ≤ zs.length) (hlc : len ≤ cap) (hlen : len ≤ 200) :
    Calls Tryd.prog 29 #[.slice (some ⟨b, off, none⟩) len cap] w (DecPost 23 zs len w) := by
  obtain ⟨i0, hi, hz0, hz1, hz2⟩ := info_parts info23
  go_enter Tryd.func29, Tryd.ntmps29
  go_wp2
  go_loopw [5, 6] (fun v at' wr => ∃ k : Nat, k ≤ len / 4 ∧ at' = .int .i64 (4 * (k : Int)) ∧ (∀ i, i < k → okAt zs i = true) ∧ wr.ownsRow w.heap.size 23 4 v k (insCells zs k) ∧ Below w.heap.size w wr) (fun _ a _ => len - (intOf a).toNat)
  case atStart => exact ⟨0, Nat.zero_le _, rfl, fun i h => by omega, ⟨rfl, .inl ⟨rfl, rfl⟩⟩, Below.refl _ _⟩
  case round =>
    obtain ⟨k, hk, rfl, hok, hown, hb⟩ := hrel
    have hz' := hz.next hb
    by_cases hlt : 4 * k + 4 ≤ len
    · obtain ⟨c0, b00, b01⟩ := hz'.2 (4 * k) (by omega)
      obtain ⟨c1, b10, b11⟩ := hz'.2 (4 * k + 1) (by omega)
      obtain ⟨c2, b20, b21⟩ := hz'.2 (4 * k + 2) (by omega)
      obtain ⟨c3, b30, b31⟩ := hz'.2 (4 * k + 3) (by omega)
      have HO := Lib.hid hok
      clear hok
      cases hkk : okAt zs k with
      | false =>
        have HK := Lib.hid (okAt_false hkk)
        have HF := Lib.hid hkk
        clear hkk
        go_wp2
        have L1 : IntKind.i64.wrap (4 * (k : Int) + 1) = 4 * (k : Int) + 1 := IntWalk.i64_in _ (by omega)
        have L2 : IntKind.i64.wrap (4 * (k : Int) + 2) = 4 * (k : Int) + 2 := IntWalk.i64_in _ (by omega)
        have L3 : IntKind.i64.wrap (4 * (k : Int) + 3) = 4 * (k : Int) + 3 := IntWalk.i64_in _ (by omega)
        have T0 : (4 * (k : Int)).toNat = 4 * k := by omega
        have T1 : (4 * (k : Int) + 1).toNat = 4 * k + 1 := by omega
        have T2 : (4 * (k : Int) + 2).toNat = 4 * k + 2 := by omega
        have T3 : (4 * (k : Int) + 3).toNat = 4 * k + 3 := by omega
        have P0 : (0 : Int) ≤ 4 * (k : Int) := by omega
        have P1 : (0 : Int) ≤ 4 * (k : Int) + 1 := by omega
        have P2 : (0 : Int) ≤ 4 * (k : Int) + 2 := by omega
        have P3 : (0 : Int) ≤ 4 * (k : Int) + 3 := by omega
        have Q0 : 4 * (k : Int) < (len : Int) := by omega
        have Q1 : 4 * (k : Int) + 1 < (len : Int) := by omega
        have Q2 : 4 * (k : Int) + 2 < (len : Int) := by omega
        have Q3 : 4 * (k : Int) + 3 < (len : Int) := by omega
        have hbw := hz'.1
        have hkz := Lib.hid (show 4 * k + 4 ≤ zs.length by omega)
        go_region_held3 (fun w' => BytesAt w' b off zs ∧ w'.cell? ⟨b, off + 4 * k, none⟩ = some (.int .u8 (byteAt zs (4 * k))) ∧ w'.cell? ⟨b, off + (4 * k + 1), none⟩ = some (.int .u8 (byteAt zs (4 * k + 1))) ∧ w'.cell? ⟨b, off + (4 * k + 2), none⟩ = some (.int .u8 (byteAt zs (4 * k + 2))) ∧ w'.cell? ⟨b, off + (4 * k + 3), none⟩ = some (.int .u8 (byteAt zs (4 * k + 3))))
          (first | (with_reducible exact ⟨hz', c0, c1, c2, c3⟩) | (with_reducible exact ⟨BytesAt.drew hz', BytesAt.cells (BytesAt.drew hz') k hkz.out⟩) | (with_reducible exact ⟨BytesAt.drew (BytesAt.alloc hz' _), BytesAt.cells (BytesAt.drew (BytesAt.alloc hz' _)) k hkz.out⟩) | (with_reducible exact ⟨hZ2, BytesAt.cells hZ2 k hkz.out⟩) | (with_reducible exact ⟨BytesAt.alloc hZ2 _, BytesAt.cells (BytesAt.alloc hZ2 _) k hkz.out⟩) | (with_reducible exact ⟨BytesAt.set (BytesAt.set (BytesAt.set (BytesAt.set hZ2 hbw _ _) hbw _ _) hbw _ _) hbw _ _, BytesAt.cells (BytesAt.set (BytesAt.set (BytesAt.set (BytesAt.set hZ2 hbw _ _) hbw _ _) hbw _ _) hbw _ _) k hkz.out⟩))
          (first | (go_at_call 27; refine (refDecode_no _ _ _ _ _ b00 b01 b10 b11 b20 b21 b30 b31 HK.out).mono ?_; rintro e w1 ⟨rfl, k1⟩; have hZ2 := BytesAt.next (b := b) (off := off) (zs := zs) (by first | (with_reducible exact BytesAt.drew hz') | (with_reducible exact BytesAt.drew (BytesAt.alloc hz' _))) k1; obtain ⟨hc, hf⟩ := bcell k1; have hs1 := k1.size; simp at hs1))
        all_goals
          clear hc hf L1 L2 L3 T0 T1 T2 T3
          go_wp2
          go_ret3
          have hfb := firstBad_at (n := len / 4) (by omega) HO.out HF.out
          refine ⟨?_, .inl ⟨by omega, ret_t3 (by rw [hfb]) rfl⟩⟩
          have hbs := hb.size
        · exact ((hb.drew).trans (k1.mono hbs)).alloc (Nat.le_trans hbs k1.size) _
        · repeat (refine Below.setCell ?_ (by simpa using hbs) _)
          exact ((hb.alloc hbs _).drew).trans (k1.mono (by simp; omega))
      | true =>
        have HK := Lib.hid (okAt_true hkk)
        have HT := Lib.hid hkk
        clear hkk
        go_wp2
        have L1 : IntKind.i64.wrap (4 * (k : Int) + 1) = 4 * (k : Int) + 1 := IntWalk.i64_in _ (by omega)
        have L2 : IntKind.i64.wrap (4 * (k : Int) + 2) = 4 * (k : Int) + 2 := IntWalk.i64_in _ (by omega)
        have L3 : IntKind.i64.wrap (4 * (k : Int) + 3) = 4 * (k : Int) + 3 := IntWalk.i64_in _ (by omega)
        have T0 : (4 * (k : Int)).toNat = 4 * k := by omega
        have T1 : (4 * (k : Int) + 1).toNat = 4 * k + 1 := by omega
        have T2 : (4 * (k : Int) + 2).toNat = 4 * k + 2 := by omega
        have T3 : (4 * (k : Int) + 3).toNat = 4 * k + 3 := by omega
        have P0 : (0 : Int) ≤ 4 * (k : Int) := by omega
        have P1 : (0 : Int) ≤ 4 * (k : Int) + 1 := by omega
        have P2 : (0 : Int) ≤ 4 * (k : Int) + 2 := by omega
        have P3 : (0 : Int) ≤ 4 * (k : Int) + 3 := by omega
        have Q0 : 4 * (k : Int) < (len : Int) := by omega
        have Q1 : 4 * (k : Int) + 1 < (len : Int) := by omega
        have Q2 : 4 * (k : Int) + 2 < (len : Int) := by omega
        have Q3 : 4 * (k : Int) + 3 < (len : Int) := by omega
        have hbw := hz'.1
        have hkz := Lib.hid (show 4 * k + 4 ≤ zs.length by omega)
        go_region_held3 (fun w' => BytesAt w' b off zs ∧ w'.cell? ⟨b, off + 4 * k, none⟩ = some (.int .u8 (byteAt zs (4 * k))) ∧ w'.cell? ⟨b, off + (4 * k + 1), none⟩ = some (.int .u8 (byteAt zs (4 * k + 1))) ∧ w'.cell? ⟨b, off + (4 * k + 2), none⟩ = some (.int .u8 (byteAt zs (4 * k + 2))) ∧ w'.cell? ⟨b, off + (4 * k + 3), none⟩ = some (.int .u8 (byteAt zs (4 * k + 3))))
          (first | (with_reducible exact ⟨hz', c0, c1, c2, c3⟩) | (with_reducible exact ⟨BytesAt.drew hz', BytesAt.cells (BytesAt.drew hz') k hkz.out⟩) | (with_reducible exact ⟨BytesAt.drew (BytesAt.alloc hz' _), BytesAt.cells (BytesAt.drew (BytesAt.alloc hz' _)) k hkz.out⟩) | (with_reducible exact ⟨hZ2, BytesAt.cells hZ2 k hkz.out⟩) | (with_reducible exact ⟨BytesAt.alloc hZ2 _, BytesAt.cells (BytesAt.alloc hZ2 _) k hkz.out⟩) | (with_reducible exact ⟨BytesAt.set (BytesAt.set (BytesAt.set (BytesAt.set hZ2 hbw _ _) hbw _ _) hbw _ _) hbw _ _, BytesAt.cells (BytesAt.set (BytesAt.set (BytesAt.set (BytesAt.set hZ2 hbw _ _) hbw _ _) hbw _ _) hbw _ _) k hkz.out⟩))
          (first | (go_at_call 27; refine (refDecode_ok _ _ _ _ _ b10 b11 b20 b21 b30 b31 HK.out).mono ?_; rintro e w1 ⟨rfl, k1⟩; have hZ2 := BytesAt.next (b := b) (off := off) (zs := zs) (by first | (with_reducible exact BytesAt.drew hz') | (with_reducible exact BytesAt.drew (BytesAt.alloc hz' _))) k1; obtain ⟨hc, hf⟩ := bcell k1; have hs1 := k1.size; simp at hs1))
        all_goals
          have hbs := hb.size
          have hs1 := k1.size
          clear hc hf L1 L2 L3 T0 T1 T2 T3 P0 P1 P2 P3 Q0 Q1 Q2 Q3 c0 c1 c2 c3
        · have BB : Below wr.heap.size wr (w1.alloc (.cells #[.int .i64 (byteAt zs (4 * k)), .int .i64 (byteAt zs (4 * k + 1) / 16), .int .i64 (byteAt zs (4 * k + 1) % 16), .int .i64 (decC (byteAt zs (4 * k)) (byteAt zs (4 * k + 2)) (byteAt zs (4 * k + 3)))] 23)) := (((Below.refl _ _).drew).trans k1).alloc k1.size _
          have HA := At4.new w1 (.int .i64 (byteAt zs (4 * k))) (.int .i64 (byteAt zs (4 * k + 1) / 16)) (.int .i64 (byteAt zs (4 * k + 1) % 16)) (.int .i64 (decC (byteAt zs (4 * k)) (byteAt zs (4 * k + 2)) (byteAt zs (4 * k + 3)))) 23
          generalize hblk : w1.heap.size = blk at *
          generalize hW : w1.alloc (.cells #[.int .i64 (byteAt zs (4 * k)), .int .i64 (byteAt zs (4 * k + 1) / 16), .int .i64 (byteAt zs (4 * k + 1) % 16), .int .i64 (decC (byteAt zs (4 * k)) (byteAt zs (4 * k + 2)) (byteAt zs (4 * k + 3)))] 23) = W at *
          clear hblk hW k1 hZ2
          obtain ⟨z1, q0, q1, q2, q3⟩ := id HA
          have hown1 : W.ownsRow w.heap.size 23 4 u5 k (insCells zs k) := own_next hown BB
          go_wp2_with (at_builtin; refine wpList_append_own _ rfl _ _ 56 rfl w.heap.size 23 i0 (.agg #[.int .i64 0, .int .i64 0, .int .i64 0, .int .i64 0]) 4 32 Tryd.underlying56 hi hz0 hz1 hz2 rfl (by decide) _ _ _ rfl (hown1.alloc _) ⟨W.heap.size, 0, none⟩ 1 1 (insAt zs k) rfl rfl ?c1 ?c2 ?c3 ?c4 ?c5 ?_)
          case c1 => exact fun j u h => new4 _ _ _ _ _ _ j u h
          case c2 => intro u hu; simp [insAt] at hu; rcases hu with rfl | rfl | rfl | rfl <;> rfl
          case c3 => unfold maxLen; omega
          case c4 => omega
          case c5 => have := BB.size; simp; omega
          intro v' w2 hown2 hg2 _
          have hB2 : Below w.heap.size w w2 := ((hb.trans (BB.mono hbs)).alloc (Nat.le_trans hbs BB.size) _).grown hg2 (by have := BB.size; simp; omega) (fun g hg => own_ge hown1 hg)
          have hown3 : w2.ownsRow w.heap.size 23 4 v' (k + 1) (insCells zs (k + 1)) := hown2
          clear hown1 hown2 hg2 q0 q1 q2 q3 HA BB
          go_wp2
          go_roundw
          case rel => exact ⟨k + 1, by omega, by go_num, fun i hi => (by by_cases e : i = k; (subst e; exact HT.out); exact HO.out i (by omega)), hown3, hB2⟩
          case measure => simp [intOf]; omega
        · have BB : Below wr.heap.size wr ((((w1.setCell ⟨wr.heap.size, 0, none⟩ (.int .i64 (byteAt zs (4 * k)))).setCell ⟨wr.heap.size, 1, none⟩ (.int .i64 (byteAt zs (4 * k + 1) / 16))).setCell ⟨wr.heap.size, 2, none⟩ (.int .i64 (byteAt zs (4 * k + 1) % 16))).setCell ⟨wr.heap.size, 3, none⟩ (.int .i64 (decC (byteAt zs (4 * k)) (byteAt zs (4 * k + 2)) (byteAt zs (4 * k + 3))))) := by
            repeat (refine Below.setCell ?_ (by simp) _)
            exact (((Below.refl _ _).alloc (Nat.le_refl _) _).drew).trans (k1.mono (by simp))
          have HA : At4 ((((w1.setCell ⟨wr.heap.size, 0, none⟩ (.int .i64 (byteAt zs (4 * k)))).setCell ⟨wr.heap.size, 1, none⟩ (.int .i64 (byteAt zs (4 * k + 1) / 16))).setCell ⟨wr.heap.size, 2, none⟩ (.int .i64 (byteAt zs (4 * k + 1) % 16))).setCell ⟨wr.heap.size, 3, none⟩ (.int .i64 (decC (byteAt zs (4 * k)) (byteAt zs (4 * k + 2)) (byteAt zs (4 * k + 3))))) wr.heap.size (.int .i64 (byteAt zs (4 * k))) (.int .i64 (byteAt zs (4 * k + 1) / 16)) (.int .i64 (byteAt zs (4 * k + 1) % 16)) (.int .i64 (decC (byteAt zs (4 * k)) (byteAt zs (4 * k + 2)) (byteAt zs (4 * k + 3)))) := set4 k1
          generalize hblk : wr.heap.size = blk at *
          generalize hW : ((((w1.setCell ⟨blk, 0, none⟩ (.int .i64 (byteAt zs (4 * k)))).setCell ⟨blk, 1, none⟩ (.int .i64 (byteAt zs (4 * k + 1) / 16))).setCell ⟨blk, 2, none⟩ (.int .i64 (byteAt zs (4 * k + 1) % 16))).setCell ⟨blk, 3, none⟩ (.int .i64 (decC (byteAt zs (4 * k)) (byteAt zs (4 * k + 2)) (byteAt zs (4 * k + 3))))) = W at *
          rw [← hblk] at BB hbs
          clear hblk hW k1 hZ2
          obtain ⟨z1, q0, q1, q2, q3⟩ := id HA
          have hown1 : W.ownsRow w.heap.size 23 4 u5 k (insCells zs k) := own_next hown BB
          go_wp2_with (at_builtin; refine wpList_append_own _ rfl _ _ 56 rfl w.heap.size 23 i0 (.agg #[.int .i64 0, .int .i64 0, .int .i64 0, .int .i64 0]) 4 32 Tryd.underlying56 hi hz0 hz1 hz2 rfl (by decide) _ _ _ rfl (hown1.alloc _) ⟨W.heap.size, 0, none⟩ 1 1 (insAt zs k) rfl rfl ?d1 ?d2 ?d3 ?d4 ?d5 ?_)
          case d1 => exact fun j u h => new4 _ _ _ _ _ _ j u h
          case d2 => intro u hu; simp [insAt] at hu; rcases hu with rfl | rfl | rfl | rfl <;> rfl
          case d3 => unfold maxLen; omega
          case d4 => omega
          case d5 => have := BB.size; simp; omega
          intro v' w2 hown2 hg2 _
          have hB2 : Below w.heap.size w w2 := ((hb.trans (BB.mono hbs)).alloc (Nat.le_trans hbs BB.size) _).grown hg2 (by have := BB.size; simp; omega) (fun g hg => own_ge hown1 hg)
          have hown3 : w2.ownsRow w.heap.size 23 4 v' (k + 1) (insCells zs (k + 1)) := hown2
          clear hown1 hown2 hg2 q0 q1 q2 q3 HA BB
          go_wp2
          go_roundw
          case rel => exact ⟨k + 1, by omega, by go_num, fun i hi => (by by_cases e : i = k; (subst e; exact HT.out); exact HO.out i (by omega)), hown3, hB2⟩
          case measure => simp [intOf]; omega
    · have hkm : k = len / 4 := by omega
      have HKM := Lib.hid hkm
      have HO := Lib.hid hok
      clear hkm hok
      by_cases hr : len = 4 * k
      · have hm0 : ((len : Int) % 4 != 0) = false := by simp; omega
        go_wp2
        go_ret3
        have hf := firstBad_all (n := len / 4) (by rw [← HKM.out]; exact HO.out)
        refine ⟨hb, .inr (.inr ⟨hf, by omega, u5, ?_, rfl⟩)⟩
        rw [← HKM.out]
        exact hown
      · have hm0 : ((len : Int) % 4 != 0) = true := by simp; omega
        go_wp2
        go_ret3
        have hf := firstBad_all (n := len / 4) (by rw [← HKM.out]; exact HO.out)
        exact ⟨hb, .inr (.inl ⟨hf, by omega, ret_t3 (by omega) rfl⟩)⟩
end Go.Proofs.YtagmeijpelffcaaDoor
