/- Walks of layer 21: one of the reference. -/
import Derived.Test.YtdhfkokinnmfhaaDoorY7
import Derived.Deep.RegionWith
namespace Go.Proofs.YtdhfkokinnmfhaaDoor
open Go.RowKit
set_option linter.unusedSimpArgs false
set_option linter.unusedVariables false
theorem refF_form (o : Option Att) (p : Nat) : ∃ (kd : Int) (tx : ByteArray) (vl : Int) (by' : ByteArray) (at' nx er pl : Int), refF o p = .tuple #[.agg #[.int .i64 kd, .string tx, .int .i64 vl, .string by', .int .i64 at'], .int .i64 nx, .int .i64 er, .int .i64 pl] := by
  unfold refF
  cases o with
  | none => exact ⟨_, _, _, _, _, _, _, _, rfl⟩
  | some a =>
    show ∃ (kd : Int) (tx : ByteArray) (vl : Int) (by' : ByteArray) (at' nx er pl : Int), refA a p = _
    unfold refA
    split
    · exact ⟨_, _, _, _, _, _, _, _, rfl⟩
    · exact ⟨_, _, _, _, _, _, _, _, rfl⟩
set_option maxRecDepth 100000 in
set_option maxHeartbeats 2000000 in
theorem refOne_quo (s : ByteArray) (p : Nat) (w : World) (h : p < s.size) (hs : s.size ≤ 100000) (hlt : ltrI (bt s p) = false) (hdg : digI (bt s p) = false) (hq : bt s p = 39 ∨ bt s p = 34) :
    Calls Tryd.prog 30 #[.string s, .int .i64 p] w fun e w' => e = .returned (refF (findS (s.extract p s.size)) p) ∧ Below w.heap.size w w' := by
  have hx := bt_of s p h
  have hR0 : bt (s.extract p s.size) 0 = bt s p := by rw [bt_rest' s p 0 (by omega), Nat.add_zero]
  have hw := word_none (s.extract p s.size) (by rw [hR0]; exact hlt)
  have hn := num_none (s.extract p s.size) (by rw [hR0]; exact hdg)
  have HLT := Lib.hid hlt
  have HDG := Lib.hid hdg
  by_cases h39 : bt s p = 39
  · have HFF := Lib.hid (congrArg (fun o => refF o p) (find_char hw hn (by rw [hR0]; exact h39)))
    obtain ⟨kd, tx, vl, by', at', nx, er, pl, hF⟩ := refF_form (charS (s.extract p s.size)) p
    have HF := Lib.hid hF
    have t39 : (bt s p == 39) = true := by simpa using h39
    have HQ := Lib.hid h39
    clear hlt hdg hq hR0 hw hn h39 hF
    go_enter Tryd.func30, Tryd.ntmps30
    go_upto_region 17 with (first | (go_at_call 35; refine (letter_any _ _).mono ?_; rintro e w' ⟨rfl, rfl⟩; rw [HLT.out]) | (go_at_call 37; refine (digit_any _ _).mono ?_; rintro e w' ⟨rfl, rfl⟩; rw [HDG.out]))
    go_wp2_with fail
    refine (quoted_char s p _ h hs HQ.out).mono ?_
    rintro e w1 ⟨rfl, k1⟩
    rw [HF.out]
    obtain ⟨hc, hf⟩ := bcell k1
    go_wp2
    exact bodyPost_ret (v := .tuple #[.agg #[.int .i64 kd, .string tx, .int .i64 vl, .string by', .int .i64 at'], .int .i64 nx, .int .i64 er, .int .i64 pl]) (by simp [results, Tryd.results30, go_sem, hc]) rfl ⟨by rw [HFF.out, HF.out], below5 _ (Nat.le_refl _) _ _ _ _ _ (((Below.refl _ _).alloc (Nat.le_refl _) _).trans (k1.mono (by simp)))⟩
  · have h34 : bt s p = 34 := by omega
    have HFF := Lib.hid (congrArg (fun o => refF o p) (find_quo hw hn (by rw [hR0]; exact h34)))
    obtain ⟨kd, tx, vl, by', at', nx, er, pl, hF⟩ := refF_form (quoS (s.extract p s.size)) p
    have HF := Lib.hid hF
    have t39 : (bt s p == 39) = false := by simpa using h39
    have t34 : (bt s p == 34) = true := by simpa using h34
    have HQ := Lib.hid h34
    clear hlt hdg hq hR0 hw hn h39 h34 hF
    go_enter Tryd.func30, Tryd.ntmps30
    go_upto_region 17 with (first | (go_at_call 35; refine (letter_any _ _).mono ?_; rintro e w' ⟨rfl, rfl⟩; rw [HLT.out]) | (go_at_call 37; refine (digit_any _ _).mono ?_; rintro e w' ⟨rfl, rfl⟩; rw [HDG.out]))
    go_wp2_with fail
    refine (quoted_str s p _ h hs HQ.out).mono ?_
    rintro e w1 ⟨rfl, k1⟩
    rw [HF.out]
    obtain ⟨hc, hf⟩ := bcell k1
    go_wp2
    exact bodyPost_ret (v := .tuple #[.agg #[.int .i64 kd, .string tx, .int .i64 vl, .string by', .int .i64 at'], .int .i64 nx, .int .i64 er, .int .i64 pl]) (by simp [results, Tryd.results30, go_sem, hc]) rfl ⟨by rw [HFF.out, HF.out], below5 _ (Nat.le_refl _) _ _ _ _ _ (((Below.refl _ _).alloc (Nat.le_refl _) _).trans (k1.mono (by simp)))⟩
def symCells : Array Value := (syms.map Value.string).toArray
set_option maxRecDepth 100000 in
theorem marks_new (w : World) :
    Calls Tryd.prog 20 #[] w fun e w' => e = .returned (.slice (some ⟨w.heap.size, 0, none⟩) 29 29) ∧ w' = w.alloc (.cells symCells 9) := by
  go_enter Tryd.func20, Tryd.ntmps20
  go_wp2
  go_ret
  exact ⟨rfl, rfl⟩
theorem sym_new (w : World) (n : Nat) (hn : n = w.heap.size) : StrsAt (w.alloc (.cells symCells 9)).drew n syms := StrsAt.alloc_at (zs := syms) hn
/-- Does a symbol of n bytes stand at an offset? -/
def markB (s : ByteArray) (p n : Nat) : Prop := p + n ≤ s.size ∧ s.extract p (p + n) ∈ syms
set_option maxRecDepth 100000 in
set_option maxHeartbeats 1600000 in
theorem refOne_sym (s : ByteArray) (p : Nat) (w : World) (h : p < s.size) (hs : s.size ≤ 100000) (hlt : ltrI (bt s p) = false) (hdg : digI (bt s p) = false) (h39 : bt s p ≠ 39) (h34 : bt s p ≠ 34) :
    Calls Tryd.prog 30 #[.string s, .int .i64 p] w fun e w' => e = .returned (refF (findS (s.extract p s.size)) p) ∧ Below w.heap.size w w' := by
  have hx := bt_of s p h
  have hz := size_extract s p s.size (Nat.le_refl _)
  have hR0 : bt (s.extract p s.size) 0 = bt s p := by rw [bt_rest' s p 0 (by omega), Nat.add_zero]
  have hw := word_none (s.extract p s.size) (by rw [hR0]; exact hlt)
  have hn := num_none (s.extract p s.size) (by rw [hR0]; exact hdg)
  have HFF := Lib.hid (congrArg (fun o => refF o p) (find_sym hw hn (by rw [hR0]; exact h39) (by rw [hR0]; exact h34)))
  have HLT := Lib.hid hlt
  have HDG := Lib.hid hdg
  have HZ := Lib.hid hz
  have t39 : (bt s p == 39) = false := by simpa using h39
  have t34 : (bt s p == 34) = false := by simpa using h34
  clear hlt hdg hR0 hw hn h39 h34 hz
  go_enter Tryd.func30, Tryd.ntmps30
  go_wp2_with (first | (go_at_call 35; refine (letter_any _ _).mono ?_; rintro e w' ⟨rfl, rfl⟩; rw [HLT.out]) | (go_at_call 37; refine (digit_any _ _).mono ?_; rintro e w' ⟨rfl, rfl⟩; rw [HDG.out]))
  clear t39 t34
  go_loopw [14] (fun i wr => ∃ n : Nat, n ≤ 2 ∧ i = .int .i64 n ∧ (n ≤ 1 → ¬ markB s p 2) ∧ (n = 0 → ¬ markB s p 1) ∧ Below (w.heap.size + 1) (w.alloc (.cells #[.int .i64 0, .string ⟨#[]⟩, .int .i64 0, .string ⟨#[]⟩, .int .i64 0] 37)) wr) (fun i _ => (intOf i).toNat)
  case atStart => exact ⟨2, by omega, rfl, fun h => by omega, fun h => by omega, Below.refl _ _⟩
  case round =>
    obtain ⟨n, hn, rfl, hm2, hm1, hb⟩ := hrel
    obtain ⟨hc, hf⟩ := bcell hb
    have hbs : w.heap.size + 1 ≤ wr.heap.size := by have := hb.size; simp at this; omega
    have hM2 := Lib.hid hm2
    have hM1 := Lib.hid hm1
    clear hm2 hm1
    have hz2 : w.heap.size < wr.heap.size := by omega
    obtain rfl | rfl | rfl : n = 2 ∨ n = 1 ∨ n = 0 := by omega
    · by_cases hl : p + 2 ≤ s.size
      · cases hk : Lib.containsS syms (s.extract p (p + 2)) with
        | true =>
          have HK := Lib.hid hk
          have HT := Lib.hid (show symT (s.extract p s.size) = s.extract p (p + 2) from (symT_two (s.extract p s.size) (by rw [HZ.out]; omega) (by rw [ext_rest s p 2 hl]; exact (Lib.containsS_iff _ _).1 hk)).trans (ext_rest s p 2 hl))
          have HF := Lib.hid (show refF (symS (s.extract p s.size)) p = refO ⟨5, s.extract p (p + 2), 0, ⟨#[]⟩, 2, 0, 0⟩ p from refF_ok (by
            unfold symS
            have e : (s.extract p (p + 2)).size = 2 := by rw [size_extract _ _ _ hl]; omega
            rw [HT.out, e, if_neg (by omega)]) rfl)
          clear hk
          go_wp2
          have L1 : IntKind.i64.wrap ((p : Int) + 2) = (p : Int) + 2 := IntWalk.i64_in _ (by omega)
          have L2 : (0 : Int) ≤ (p : Int) + 2 := by omega
          have L3 : ((p : Int) + 2).toNat = p + 2 := by omega
          have L5 : (p : Int) ≤ (p : Int) + 2 := by omega
          have L4 : (p : Int) + 2 ≤ (s.size : Int) := by omega
          go_region_held3 (fun w' => 0 ≤ w'.heap.size) (exact Nat.zero_le _) (first | (go_at_call 20; (with_reducible refine (marks_new _).mono ?_); rintro e w' ⟨rfl, rfl⟩) | (go_at_call 36; (with_reducible refine (contains_any _ 29 syms _ _ rfl (by omega) (sym_new _ _ (by simp))).mono ?_); rintro e w' ⟨rfl, rfl⟩; rw [HK.out]))
          clear L1 L2 L3 L4 L5
          go_wp2
          exact bodyPost_ret (v := refO ⟨5, s.extract p (p + 2), 0, ⟨#[]⟩, 2, 0, 0⟩ p) (by simp [results, Tryd.results30, go_sem, refO, hc, hz2]) rfl ⟨by rw [HFF.out, HF.out], (Below.alloc (below5 _ (Nat.le_refl _) _ _ _ _ _ (((Below.refl _ _).alloc (Nat.le_refl _) _).trans (hb.mono (Nat.le_succ _)))) (by simp; omega) _).drew⟩
        | false =>
          have HK := Lib.hid hk
          have HN := Lib.hid (show ¬ markB s p 2 from fun hh => by have := (Lib.containsS_iff _ _).2 hh.2; rw [hk] at this; cases this)
          clear hk
          go_wp2
          have L1 : IntKind.i64.wrap ((p : Int) + 2) = (p : Int) + 2 := IntWalk.i64_in _ (by omega)
          have L2 : (0 : Int) ≤ (p : Int) + 2 := by omega
          have L3 : ((p : Int) + 2).toNat = p + 2 := by omega
          have L5 : (p : Int) ≤ (p : Int) + 2 := by omega
          have L4 : (p : Int) + 2 ≤ (s.size : Int) := by omega
          go_region_held3 (fun w' => 0 ≤ w'.heap.size) (exact Nat.zero_le _) (first | (go_at_call 20; (with_reducible refine (marks_new _).mono ?_); rintro e w' ⟨rfl, rfl⟩) | (go_at_call 36; (with_reducible refine (contains_any _ 29 syms _ _ rfl (by omega) (sym_new _ _ (by simp))).mono ?_); rintro e w' ⟨rfl, rfl⟩; rw [HK.out]))
          clear L1 L2 L3 L4 L5
          go_wp2
          go_roundw
          case rel => exact ⟨1, by omega, rfl, fun _ => HN.out, fun h => by omega, (hb.alloc hbs _).drew⟩
          case measure => simp [intOf]
      · have HN := Lib.hid (show ¬ markB s p 2 from fun hh => hl hh.1)
        have hd : decide ((p : Int) + 2 ≤ (s.size : Int)) = false := by simp; omega
        go_wp2
        have L1 : IntKind.i64.wrap ((p : Int) + 2) = (p : Int) + 2 := IntWalk.i64_in _ (by omega)
        go_quiet (fail)
        clear L1
        go_wp2
        go_roundw
        case rel => exact ⟨1, by omega, rfl, fun _ => HN.out, fun h => by omega, below_drewN hb _⟩
        case measure => simp [intOf]
    · have hl : p + 1 ≤ s.size := h
      cases hk : Lib.containsS syms (s.extract p (p + 1)) with
      | true =>
        have HK := Lib.hid hk
        have HT := Lib.hid (show symT (s.extract p s.size) = s.extract p (p + 1) from (symT_one (s.extract p s.size) (by rw [HZ.out]; omega) (fun hh => hM2.out (by omega) ⟨by have := hh.1; rw [HZ.out] at this; omega, by have := hh.2; rwa [ext_rest s p 2 (by have := hh.1; rw [HZ.out] at this; omega)] at this⟩) (by rw [ext_rest s p 1 hl]; exact (Lib.containsS_iff _ _).1 hk)).trans (ext_rest s p 1 hl))
        have HF := Lib.hid (show refF (symS (s.extract p s.size)) p = refO ⟨5, s.extract p (p + 1), 0, ⟨#[]⟩, 1, 0, 0⟩ p from refF_ok (by
          unfold symS
          have e : (s.extract p (p + 1)).size = 1 := by rw [size_extract _ _ _ hl]; omega
          rw [HT.out, e, if_neg (by omega)]) rfl)
        clear hk
        go_wp2
        have L1 : IntKind.i64.wrap ((p : Int) + 1) = (p : Int) + 1 := IntWalk.i64_in _ (by omega)
        have L2 : (0 : Int) ≤ (p : Int) + 1 := by omega
        have L3 : ((p : Int) + 1).toNat = p + 1 := by omega
        have L5 : (p : Int) ≤ (p : Int) + 1 := by omega
        have L4 : (p : Int) + 1 ≤ (s.size : Int) := by omega
        go_region_held3 (fun w' => 0 ≤ w'.heap.size) (exact Nat.zero_le _) (first | (go_at_call 20; (with_reducible refine (marks_new _).mono ?_); rintro e w' ⟨rfl, rfl⟩) | (go_at_call 36; (with_reducible refine (contains_any _ 29 syms _ _ rfl (by omega) (sym_new _ _ (by simp))).mono ?_); rintro e w' ⟨rfl, rfl⟩; rw [HK.out]))
        clear L1 L2 L3 L4 L5
        go_wp2
        exact bodyPost_ret (v := refO ⟨5, s.extract p (p + 1), 0, ⟨#[]⟩, 1, 0, 0⟩ p) (by simp [results, Tryd.results30, go_sem, refO, hc, hz2]) rfl ⟨by rw [HFF.out, HF.out], (Below.alloc (below5 _ (Nat.le_refl _) _ _ _ _ _ (((Below.refl _ _).alloc (Nat.le_refl _) _).trans (hb.mono (Nat.le_succ _)))) (by simp; omega) _).drew⟩
      | false =>
        have HK := Lib.hid hk
        have HN := Lib.hid (show ¬ markB s p 1 from fun hh => by have := (Lib.containsS_iff _ _).2 hh.2; rw [hk] at this; cases this)
        clear hk
        go_wp2
        have L1 : IntKind.i64.wrap ((p : Int) + 1) = (p : Int) + 1 := IntWalk.i64_in _ (by omega)
        have L2 : (0 : Int) ≤ (p : Int) + 1 := by omega
        have L3 : ((p : Int) + 1).toNat = p + 1 := by omega
        have L5 : (p : Int) ≤ (p : Int) + 1 := by omega
        have L4 : (p : Int) + 1 ≤ (s.size : Int) := by omega
        go_region_held3 (fun w' => 0 ≤ w'.heap.size) (exact Nat.zero_le _) (first | (go_at_call 20; (with_reducible refine (marks_new _).mono ?_); rintro e w' ⟨rfl, rfl⟩) | (go_at_call 36; (with_reducible refine (contains_any _ 29 syms _ _ rfl (by omega) (sym_new _ _ (by simp))).mono ?_); rintro e w' ⟨rfl, rfl⟩; rw [HK.out]))
        clear L1 L2 L3 L4 L5
        go_wp2
        go_roundw
        case rel => exact ⟨0, by omega, rfl, fun _ => hM2.out (by omega), fun _ => HN.out, (hb.alloc hbs _).drew⟩
        case measure => simp [intOf]
    · have HT := Lib.hid (show symT (s.extract p s.size) = ⟨#[]⟩ from symT_zero (s.extract p s.size) (by rw [HZ.out]; omega) (fun hh => hM2.out (by omega) ⟨by have := hh.1; rw [HZ.out] at this; omega, by have := hh.2; rwa [ext_rest s p 2 (by have := hh.1; rw [HZ.out] at this; omega)] at this⟩) (fun hh => hM1.out rfl ⟨h, by rwa [ext_rest s p 1 h] at hh⟩))
      have HF := Lib.hid (show refF (symS (s.extract p s.size)) p = refE p 6 p by
        have : symS (s.extract p s.size) = none := by unfold symS; rw [HT.out]; rfl
        rw [this]; rfl)
      go_wp2
      exact bodyPost_ret (v := refE p 6 p) (by simp [results, Tryd.results30, go_sem, refE, hc]) rfl ⟨by rw [HFF.out, HF.out], below5 _ (Nat.le_refl _) _ _ _ _ _ (((Below.refl _ _).alloc (Nat.le_refl _) _).trans (hb.mono (Nat.le_succ _)))⟩
theorem refOne_any (s : ByteArray) (p : Nat) (w : World) (h : p < s.size) (hs : s.size ≤ 100000) :
    Calls Tryd.prog 30 #[.string s, .int .i64 p] w fun e w' => e = .returned (refF (findS (s.extract p s.size)) p) ∧ Below w.heap.size w w' := by
  cases hlt : ltrI (bt s p) with
  | true => exact refOne_word s p w h hs hlt
  | false =>
    cases hdg : digI (bt s p) with
    | true => exact refOne_num s p w h hs hlt hdg
    | false =>
      by_cases hq : bt s p = 39 ∨ bt s p = 34
      · exact refOne_quo s p w h hs hlt hdg hq
      · exact refOne_sym s p w h hs hlt hdg (fun e => hq (.inl e)) (fun e => hq (.inr e))
end Go.Proofs.YtdhfkokinnmfhaaDoor
