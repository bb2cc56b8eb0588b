/- Walks of layer 21: quoted of the reference, a string. -/
import Derived.Test.YtdhfkokinnmfhaaDoorY5
namespace Go.Proofs.YtdhfkokinnmfhaaDoor
open Go.RowKit
set_option linter.unusedSimpArgs false
set_option linter.unusedVariables false
theorem below5 {B : Nat} {W w : World} (g : Nat) (hg : B ≤ g) (v0 v1 v2 v3 v4 : Value) (h : Below B W w) : Below B W (((((w.setCell ⟨g, 0, none⟩ v0).setCell ⟨g, 1, none⟩ v1).setCell ⟨g, 2, none⟩ v2).setCell ⟨g, 3, none⟩ v3).setCell ⟨g, 4, none⟩ v4) :=
  ((((h.setCell hg _).setCell hg _).setCell hg _).setCell hg _).setCell hg _
theorem conv1 (W : World) (b : Int) : (convert 42 9 (.slice (some ⟨W.heap.size, 0, none⟩) 1 1)).run Tryd.prog (W.alloc (.cells #[.int .u8 b] 5)) = .ok (.string (strOfNums [b])) (W.alloc (.cells #[.int .u8 b] 5)) :=
  run_convert_bytes_arg _ 42 5 Tryd.underlying42 Tryd.underlying5 W.heap.size 0 1 1 [b] rfl (fun i hi => by
    obtain rfl : i = 0 := by omega
    rw [Nat.zero_add, World.cell?_alloc_new]
    rfl) 9 Tryd.underlying9
set_option maxHeartbeats 2000000 in
set_option maxRecDepth 100000 in
theorem quoted_str (s : ByteArray) (p : Nat) (w : World) (h : p < s.size) (hs : s.size ≤ 100000) (h34 : bt s p = 34) :
    Calls Tryd.prog 50 #[.string s, .int .i64 p] w fun e w' => e = .returned (refF (quoS (s.extract p s.size)) p) ∧ Below w.heap.size w w' := by
  have hz := size_extract s p s.size (Nat.le_refl _)
  have hx := bt_of s p h
  have t39 : (bt s p == 39) = false := by rw [h34]; rfl
  have HR := Lib.hid (show quoS (s.extract p s.size) = some (quoL (s.extract p s.size) (s.extract p s.size).size 1 []) by unfold quoS; rw [if_neg (by rw [bt_rest' s p 0 (by omega), Nat.add_zero, h34]; simp)])
  have HZ := Lib.hid hz
  obtain ⟨fu, hfu⟩ : ∃ fu, (s.extract p s.size).size = fu + 1 := ⟨s.size - p - 1, by omega⟩
  have HFU := Lib.hid hfu
  have hcv := conv1
  clear hz h34 hfu
  go_enter Tryd.func50, Tryd.ntmps50
  go_wp2
  clear t39 hx
  go_loopw [12, 13] (fun o i wr => ∃ (k : Nat) (acc : List Int), 1 ≤ k ∧ p + k ≤ s.size ∧ acc.length ≤ k ∧ i = .int .i64 ((p + k : Nat) : Int) ∧ o = .string (strOfNums acc) ∧ Below (w.heap.size + 1) (w.alloc (.cells #[.int .i64 0, .string ⟨#[]⟩, .int .i64 0, .string ⟨#[]⟩, .int .i64 0] 37)) wr ∧ quoL (s.extract p s.size) (s.extract p s.size).size 1 [] = quoL (s.extract p s.size) (s.extract p s.size).size k acc) (fun _ i _ => s.size - (intOf i).toNat)
  case atStart => exact ⟨1, [], Nat.le_refl _, by omega, by simp, by go_num, rfl, Below.refl _ _, rfl⟩
  case round =>
    obtain ⟨k, acc, hk1, hk, hacc, rfl, rfl, hb, hQ⟩ := hrel
    have hQ2 := Lib.hid (hQ.trans ((congrArg (fun f => quoL (s.extract p s.size) f k acc) HFU.out).trans (quoL_step (s.extract p s.size) fu k acc)))
    clear hQ
    obtain ⟨hc, hf⟩ := bcell hb
    have hl := strOfNums_size acc
    have HL := Lib.hid hl
    by_cases hks : p + k = s.size
    · have hO : oneS (s.extract p s.size) k 34 = (0, 0, 4) := by unfold oneS; rw [if_pos (by rw [HZ.out]; omega)]
      have HF := Lib.hid (refF_err (p := p) (off := 0) (e := 4) (show quoS (s.extract p s.size) = some (attE 0 4) by rw [HR.out, hQ2.out, if_neg (by rw [HZ.out]; omega), hO, if_pos (by simp)]) (by decide))
      have hks' : s.size ≤ p + k := by omega
      clear hks hO hQ2 hl
      go_wp2
      exact bodyPost_ret (v := refE p 4 ((p : Int) + 0)) (by simp [results, Tryd.results50, go_sem, refE, refO, hc]) rfl ⟨by rw [HF.out], below5 _ (Nat.le_refl _) _ _ _ _ _ (((Below.refl _ _).alloc (Nat.le_refl _) _).trans (hb.mono (Nat.le_succ _)))⟩
    have hlt : p + k < s.size := by omega
    have hx := bt_of s (p + k) hlt
    by_cases hq : bt s (p + k) = 34
    · have HQ := Lib.hid (hQ2.out.trans (if_pos ⟨by rw [HZ.out]; omega, by rw [bt_rest' s p k (by omega)]; exact hq⟩))
      have tq : (bt s (p + k) == 34) = true := by simpa using hq
      clear hq hQ2 hks
      by_cases h2 : 200 < acc.length
      · have HF := Lib.hid (refF_err (p := p) (off := 0) (e := 5) (show quoS (s.extract p s.size) = some (attE 0 5) by rw [HR.out, HQ.out, if_pos h2]) (by decide))
        clear HQ
        go_wp2
        exact bodyPost_ret (v := refE p 5 ((p : Int) + 0)) (by simp [results, Tryd.results50, go_sem, refE, refO, hc]) rfl ⟨by rw [HF.out], below5 _ (Nat.le_refl _) _ _ _ _ _ (((Below.refl _ _).alloc (Nat.le_refl _) _).trans (hb.mono (Nat.le_succ _)))⟩
      · have HF := Lib.hid (refF_ok (p := p) (show quoS (s.extract p s.size) = some ⟨3, s.extract p (p + k + 1), 0, strOfNums acc, k + 1, 0, 0⟩ by rw [HR.out, HQ.out, if_neg h2, ext_rest s p (k + 1) (by omega), ← Nat.add_assoc]) rfl)
        have h2' : acc.length ≤ 200 := by omega
        clear HQ h2
        go_wp2
        exact bodyPost_ret (v := refO ⟨3, s.extract p (p + k + 1), 0, strOfNums acc, k + 1, 0, 0⟩ p) (by simp [results, Tryd.results50, go_sem, refE, refO, hc]; omega) rfl ⟨by rw [HF.out], below5 _ (Nat.le_refl _) _ _ _ _ _ (((Below.refl _ _).alloc (Nat.le_refl _) _).trans (hb.mono (Nat.le_succ _)))⟩
    · have HQ := Lib.hid (hQ2.out.trans (if_neg (by rw [bt_rest' s p k (by omega)]; exact fun h => hq h.2)))
      have tq : (bt s (p + k) == 34) = false := by simpa using hq
      have hC := chS_rest s p k 34 (by omega) (fun _ => hq)
      clear hQ2 hks
      rcases oneS_cases (s.extract p s.size) k 34 (by rw [HZ.out]; omega) with ⟨b, m, hO, m1, m2, b0, b1, _⟩ | hO | ⟨m, hO, m1, m2⟩
      · rw [hO] at hC
        have HC := Lib.hid (show chS s (p + k) = (b, ((p + m : Nat) : Int), 0, 0) by rw [hC]; simp [chR, shR]; omega)
        have HQ2 := Lib.hid (show quoL (s.extract p s.size) (s.extract p s.size).size 1 [] = quoL (s.extract p s.size) (s.extract p s.size).size m (acc ++ [b]) by
          rw [HQ.out, hO, if_neg (by simp)]
          exact quoL_fuel (s.extract p s.size) fu _ m (acc ++ [b]) m2 (by have := HFU.out; omega) (by omega))
        have hms : p + m ≤ s.size := by have := HZ.out; omega
        have HA := Lib.hid (strOfNums_snoc acc b)
        have hl2 : (strOfNums acc).size ≤ 100000 := by rw [hl]; omega
        have hl3 : (strOfNums [b]).size ≤ 1 := by rw [strOfNums_size]; simp
        clear hO hC HQ hq m2 hl
        go_wp2_with (go_at_call 60; refine (char_any s (p + k) _ (by omega) hs).mono ?_; rintro e w' ⟨rfl, rfl⟩; rw [HC.out, chV])
        go_roundw
        case rel => exact ⟨m, acc ++ [b], by omega, hms, by simp; omega, rfl, by rw [← HA.out], hb.alloc (by have := hb.size; simp at this; omega) _, HQ2.out⟩
        case measure => simp [intOf]; omega
      · rw [hO] at hC
        have HC := Lib.hid (show chS s (p + k) = (0, ((p + k : Nat) : Int), 4, ((p + k : Nat) : Int)) by rw [hC]; rfl)
        have HF := Lib.hid (refF_err (p := p) (off := 0) (e := 4) (show quoS (s.extract p s.size) = some (attE 0 4) by rw [HR.out, HQ.out, hO, if_pos (by simp)]) (by decide))
        clear hO hC HQ hq hl
        go_wp2_with (go_at_call 60; refine (char_any s (p + k) _ (by omega) hs).mono ?_; rintro e w' ⟨rfl, rfl⟩; rw [HC.out, chV])
        exact bodyPost_ret (v := refE p 4 ((p : Int) + 0)) (by simp [results, Tryd.results50, go_sem, refE, refO, hc]) rfl ⟨by rw [HF.out], below5 _ (Nat.le_refl _) _ _ _ _ _ (((Below.refl _ _).alloc (Nat.le_refl _) _).trans (hb.mono (Nat.le_succ _)))⟩
      · rw [hO] at hC
        have HC := Lib.hid (show chS s (p + k) = (0, ((p + k : Nat) : Int), 6, ((p + m : Nat) : Int)) by rw [hC]; simp [chR, shR]; omega)
        have HF := Lib.hid (refF_err (p := p) (off := m) (e := 6) (show quoS (s.extract p s.size) = some (attE m 6) by rw [HR.out, HQ.out, hO, if_pos (by simp)]) (by decide))
        clear hO hC HQ hq hl m2
        go_wp2_with (go_at_call 60; refine (char_any s (p + k) _ (by omega) hs).mono ?_; rintro e w' ⟨rfl, rfl⟩; rw [HC.out, chV])
        exact bodyPost_ret (v := refE p 6 ((p : Int) + m)) (by simp [results, Tryd.results50, go_sem, refE, refO, hc]) rfl ⟨by rw [HF.out], below5 _ (Nat.le_refl _) _ _ _ _ _ (((Below.refl _ _).alloc (Nat.le_refl _) _).trans (hb.mono (Nat.le_succ _)))⟩
end Go.Proofs.YtdhfkokinnmfhaaDoor
