/- Walks of layer 16: DecodeAll of the program. -/
import Derived.Test.YtagmeijpelffcaaDoorP2
import Derived.OwnWalk
namespace Go.Proofs.YtagmeijpelffcaaDoor
open Go.RowKit
set_option linter.unusedSimpArgs false
set_option linter.unusedVariables false
/-- What DecodeAll leaves. -/
def DecPost (E : Nat) (zs : List Int) (len : Nat) (w : World) (e : Ending) (w' : World) : Prop :=
  Below w.heap.size w w' ∧
  ((firstBad (okAt zs) (len / 4) < len / 4 ∧ e = .returned (.tuple #[.slice none 0 0, .int .i64 (4 * (firstBad (okAt zs) (len / 4) : Int)), .int .i64 24])) ∨
   (firstBad (okAt zs) (len / 4) = len / 4 ∧ len % 4 ≠ 0 ∧ e = .returned (.tuple #[.slice none 0 0, .int .i64 (4 * ((len / 4 : Nat) : Int)), .int .i64 28])) ∨
   (firstBad (okAt zs) (len / 4) = len / 4 ∧ len % 4 = 0 ∧ ∃ v, w'.ownsRow w.heap.size E 4 v (len / 4) (insCells zs (len / 4)) ∧ e = .returned (.tuple #[v, .int .i64 0, .int .i64 0])))
theorem own_next {w w' : World} {base : Nat} {e : TypeId} {size : Nat} {v : Value} {n : Nat} {xs : List Value} (h : w.ownsRow base e size v n xs) (hb : Below w.heap.size w w') : w'.ownsRow base e size v n xs := by
  obtain ⟨h1, h2⟩ := h
  refine ⟨h1, ?_⟩
  rcases h2 with h2 | ⟨g, cap, cur, hv, hg, hh, r⟩
  · exact .inl h2
  · have hlt : g < w.heap.size := (Array.getElem?_eq_some_iff.1 hh).1
    exact .inr ⟨g, cap, cur, hv, hg, by rw [hb.block g hlt]; exact hh, r⟩
theorem own_ge {w : World} {base : Nat} {e : TypeId} {size : Nat} {v : Value} {n : Nat} {xs : List Value} (h : w.ownsRow base e size v n xs) {g : Nat} (hg : v.ownBlock = some g) : base ≤ g := by
  obtain ⟨_, ⟨rfl, _⟩ | ⟨g', cap', cur, rfl, hb, _⟩⟩ := h
  · simp [Value.ownBlock] at hg
  · simp [Value.ownBlock] at hg
    omega
theorem own_cell {w : World} {base : Nat} {e : TypeId} {size : Nat} {g off len cap : Nat} {n : Nat} {xs : List Value} (h : w.ownsRow base e size (.slice (some ⟨g, off, none⟩) len cap) n xs) (i : Nat) (hi : i < xs.length) : off = 0 ∧ len = n ∧ w.cell? ⟨g, i, none⟩ = xs[i]? ∧ g < w.heap.size := by
  obtain ⟨h1, h2⟩ := h
  rcases h2 with ⟨h2, _⟩ | ⟨g', cap', cur, hv, hg, hh, hn, hc, hcs, hx⟩
  · cases h2
  · cases hv
    refine ⟨rfl, rfl, ?_, (Array.getElem?_eq_some_iff.1 hh).1⟩
    have e : w.cell? ⟨g, i, none⟩ = cur[i]? := by simp [World.cell?, hh]
    rw [e, ← hx, List.getElem?_take, if_pos (by rw [← h1]; exact hi)]
    simp
theorem ret_t3 {v : Value} {k j : IntKind} {a b c d : Int} (h : a = b) (h' : c = d) : Ending.returned (.tuple #[v, .int k a, .int j c]) = .returned (.tuple #[v, .int k b, .int j d]) := by rw [h, h']
theorem new4 (w : World) (v0 v1 v2 v3 : Value) (t : TypeId) (j : Nat) (u : Value) (h : [v0, v1, v2, v3][j]? = some u) : (w.alloc (.cells #[v0, v1, v2, v3] t)).cell? ((⟨w.heap.size, 0, none⟩ : Addr).add j) = some u := by
  have e : (w.alloc (.cells #[v0, v1, v2, v3] t)).heap[w.heap.size]? = some (.cells #[v0, v1, v2, v3] t) := by
    show (w.heap.push _)[w.heap.size]? = _
    simp
  have e2 : ((⟨w.heap.size, 0, none⟩ : Addr).add j) = ⟨w.heap.size, j, none⟩ := by
    unfold Addr.add
    split
    · rename_i h; subst h; rfl
    · simp
  rw [e2]
  simp only [World.cell?, e]
  simpa using h
theorem new4s (w : World) (n : Nat) (hn : w.heap.size = n) (v0 v1 v2 v3 : Value) (t : TypeId) (j : Nat) (u : Value) (h : [v0, v1, v2, v3][j]? = some u) : (w.alloc (.cells #[v0, v1, v2, v3] t)).cell? ((⟨n, 0, none⟩ : Addr).add j) = some u := by
  subst hn; exact new4 w v0 v1 v2 v3 t j u h
theorem info26 : (Tryd.prog.info? 26).map (fun i => (i.zero, i.size, i.bytes)) = some (some (.agg #[.int .i64 0, .int .i64 0, .int .i64 0, .int .i64 0]), 4, 32) := by kernel_rfl
set_option maxRecDepth 100000 in
theorem decodeAll_any (b off len cap : Nat) (zs : List Int) (w : World) (ho : OpsAt w) (hz : BytesAt w b off zs) (hl : len ≤ zs.length) (hlc : len ≤ cap) (hlen : len ≤ 200) :
    Calls Tryd.prog 28 #[.slice (some ⟨b, off, none⟩) len cap] w (DecPost 26 zs len w) := by
  obtain ⟨i0, hi, hz0, hz1, hz2⟩ := info_parts info26
  go_enter Tryd.func28, Tryd.ntmps28
  go_wp2
  go_loopw [2, 3] (fun v at' wr => ∃ k : Nat, k ≤ len / 4 ∧ at' = .int .i64 (4 * (k : Int)) ∧ (∀ i, i < k → okAt zs i = true) ∧ wr.ownsRow w.heap.size 26 4 v k (insCells zs k) ∧ Below w.heap.size w wr) (fun _ a _ => len - (intOf a).toNat)
  case atStart => exact ⟨0, Nat.zero_le _, rfl, fun i h => by omega, ⟨rfl, .inl ⟨rfl, rfl⟩⟩, Below.refl _ _⟩
  case round =>
    obtain ⟨k, hk, rfl, hok, hown, hb⟩ := hrel
    have ho' := ho.next hb
    have hz' := hz.next hb
    by_cases hlt : 4 * k + 4 ≤ len
    · obtain ⟨c0, b00, b01⟩ := hz'.2 (4 * k) (by omega)
      obtain ⟨c1, b10, b11⟩ := hz'.2 (4 * k + 1) (by omega)
      obtain ⟨c2, b20, b21⟩ := hz'.2 (4 * k + 2) (by omega)
      obtain ⟨c3, b30, b31⟩ := hz'.2 (4 * k + 3) (by omega)
      rw [← Nat.add_assoc] at c1 c2 c3
      have HO := Lib.hid hok
      clear hok
      have hat := fun (w : World) (a : Option Addr) (c : Nat) => run_arrayAt (P := Tryd.prog) w 41 5 4 a 4 c Tryd.underlying41 (by decide)
      cases hkk : okAt zs k with
      | false =>
        have HK := Lib.hid (okAt_false hkk)
        have HF := Lib.hid hkk
        clear hkk
        go_wp2_with fail
        refine (decode_no _ _ _ _ _ ho' b00 b01 b10 b11 b20 b21 b30 b31 HK.out).mono ?_
        rintro e w1 ⟨rfl, k1⟩
        go_wp2
        go_ret3
        have hf := firstBad_at (n := len / 4) (by omega) HO.out HF.out
        exact ⟨(hb.trans (k1.mono hb.size)).alloc (Nat.le_trans hb.size k1.size) _, .inl ⟨by omega, ret_t3 (by rw [hf]) rfl⟩⟩
      | true =>
        have HK := Lib.hid (okAt_true hkk)
        have HT := Lib.hid hkk
        clear hkk
        go_wp2_with fail
        refine (decode_ok _ _ _ _ _ ho' b10 b11 b20 b21 b30 b31 HK.out).mono ?_
        rintro e w1 ⟨rfl, k1⟩
        have hown1 : w1.ownsRow w.heap.size 26 4 u2 k (insCells zs k) := own_next hown k1
        clear hown
        go_wp2_with (at_builtin; refine wpList_append_own _ rfl _ _ 53 rfl w.heap.size 26 i0 (.agg #[.int .i64 0, .int .i64 0, .int .i64 0, .int .i64 0]) 4 32 Tryd.underlying53 hi hz0 hz1 hz2 rfl (by decide) _ _ _ rfl ((hown1.alloc _).alloc _) ⟨w1.heap.size + 1, 0, none⟩ 1 1 (insAt zs k) rfl rfl ?c1 ?c2 ?c3 ?c4 ?c5 ?_)
        case c1 => exact fun j u h => new4s _ _ (by simp) _ _ _ _ _ j u h
        case c2 => intro u hu; simp [insAt] at hu; rcases hu with rfl | rfl | rfl | rfl <;> rfl
        case c3 => unfold maxLen; omega
        case c4 => omega
        case c5 => have := hb.size; have := k1.size; simp; omega
        intro v' w2 hown2 hg2 _
        have hB2 : Below w.heap.size w w2 := (((hb.trans (k1.mono hb.size)).alloc (Nat.le_trans hb.size k1.size) _).alloc (by have := hb.size; have := k1.size; simp; omega) _).grown hg2 (by have := hb.size; have := k1.size; simp; omega) (fun g hg => own_ge hown1 hg)
        have hown3 : w2.ownsRow w.heap.size 26 4 v' (k + 1) (insCells zs (k + 1)) := hown2
        clear hown1 hown2 hg2 k1
        go_wp2
        go_roundw
        case rel => exact ⟨k + 1, by omega, by go_num, fun i hi => (by by_cases e : i = k; (subst e; exact HT.out); exact HO.out i (by omega)), hown3, hB2⟩
        case measure => simp [intOf]; omega
    · have hkm : k = len / 4 := by omega
      have HKM := Lib.hid hkm
      have HO := Lib.hid hok
      clear hkm hok
      by_cases hr : len = 4 * k
      · go_wp2
        go_ret3
        have hf := firstBad_all (n := len / 4) (by rw [← HKM.out]; exact HO.out)
        refine ⟨hb, .inr (.inr ⟨hf, by omega, u2, ?_, rfl⟩)⟩
        rw [← HKM.out]
        exact hown
      · go_wp2
        go_ret3
        have hf := firstBad_all (n := len / 4) (by rw [← HKM.out]; exact HO.out)
        exact ⟨hb, .inr (.inl ⟨hf, by omega, ret_t3 (by rw [← HKM.out]) rfl⟩)⟩
end Go.Proofs.YtagmeijpelffcaaDoor
