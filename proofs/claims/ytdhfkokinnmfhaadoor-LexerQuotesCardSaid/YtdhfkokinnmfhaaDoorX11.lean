/- Walks of layer 21: find. -/
import Derived.Test.YtdhfkokinnmfhaaDoorX10
namespace Go.Proofs.YtdhfkokinnmfhaaDoor
open Go.RowKit
set_option linter.unusedSimpArgs false
set_option linter.unusedVariables false
/-- The kinds of tokens, in their order. -/
def kindS (s : ByteArray) (j : Nat) : Option Att := match j with
  | 0 => wordS s
  | 1 => numS s
  | 2 => charS s
  | 3 => quoS s
  | _ => symS s
theorem find0 {s : ByteArray} {k : Nat} (h : ∀ j, j < k → kindS s j = none) (hk : 0 < k) : wordS s = none := h 0 hk
theorem find1 {s : ByteArray} {k : Nat} (h : ∀ j, j < k → kindS s j = none) (hk : 1 < k) : numS s = none := h 1 hk
theorem find2 {s : ByteArray} {k : Nat} (h : ∀ j, j < k → kindS s j = none) (hk : 2 < k) : charS s = none := h 2 hk
theorem find3 {s : ByteArray} {k : Nat} (h : ∀ j, j < k → kindS s j = none) (hk : 3 < k) : quoS s = none := h 3 hk
theorem find4 {s : ByteArray} {k : Nat} (h : ∀ j, j < k → kindS s j = none) (hk : 4 < k) : symS s = none := h 4 hk
set_option maxRecDepth 100000 in
set_option maxHeartbeats 4000000 in
theorem find_any (s : ByteArray) (w : World) (ho : EscAt w) (h : 0 < s.size) (hs : s.size ≤ 100000) :
    Calls Tryd.prog 28 #[.string s] w fun e w' => e = .returned (attR (findS s)) ∧ Below w.heap.size w w' := by
  go_enter Tryd.func28, Tryd.ntmps28
  go_wp2
  go_loopw [10] (fun i wr => ∃ k : Nat, k ≤ 5 ∧ i = .int .i64 k ∧ (∀ j, j < k → kindS s j = none) ∧ Below (w.heap.size + 2) ((w.alloc (.cells #[.int .i64 0, .string ⟨#[]⟩, .int .i64 0, .string ⟨#[]⟩, .int .i64 0, .int .i64 0, .int .i64 0, .int .i64 0, .int .i64 0] 55)).alloc (.cells #[.func (.func 43) #[] #[], .func (.func 44) #[] #[], .func (.func 45) #[] #[], .func (.func 46) #[] #[], .func (.func 47) #[] #[]] 57)) wr) (fun i _ => 5 - (intOf i).toNat)
  case atStart => exact ⟨0, by omega, rfl, fun j h => by omega, Below.refl _ _⟩
  case round =>
    obtain ⟨k, hk, rfl, hn0, hb⟩ := hrel
    have hn := Lib.hid hn0
    clear hn0
    have ho' : EscAt wr := ((ho.next ((Below.refl _ _).alloc (Nat.le_refl _) _)).next ((Below.refl _ _).alloc (Nat.le_refl _) _)).next (hb.mono (by simp))
    have hbs : w.heap.size + 2 ≤ wr.heap.size := by have := hb.size; simp at this; omega
    obtain ⟨hc, hf⟩ := bcell hb
    obtain rfl | rfl | rfl | rfl | rfl | rfl : k = 0 ∨ k = 1 ∨ k = 2 ∨ k = 3 ∨ k = 4 ∨ k = 5 := by omega
    · cases hr : wordS s with
      | none =>
        have HR := Lib.hid (show attR (wordS s) = attR none by rw [hr])
        have HN := Lib.hid hr
        clear hr
        go_wp2_with fail
        refine (word_any s _ h hs).mono ?_
        rintro e w1 ⟨rfl, k1⟩
        rw [HR.out]
        simp only [attR, attV, Option.getD_none, Option.isSome_none, attE]
        have hb1 := hb.trans (k1.mono hbs)
        have hs1 := k1.size
        clear k1 hc hf
        go_wp2
        go_roundw
        case rel => exact ⟨1, by omega, rfl, fun j hj => (by rcases (show j < 0 ∨ j = 0 by omega) with h | h; exact hn.out j h; subst h; exact HN.out), hb1.alloc (by omega) _⟩
        case measure => simp [intOf]
      | some a =>
        obtain ⟨kind, text, value, bytes, size, off, e0⟩ := a
        have HR := Lib.hid (show attR (wordS s) = attR (some ⟨kind, text, value, bytes, size, off, e0⟩) by rw [hr])
        have HN := Lib.hid (show findS s = some ⟨kind, text, value, bytes, size, off, e0⟩ by unfold findS; rw [hr])
        clear hr
        go_wp2_with fail
        refine (word_any s _ h hs).mono ?_
        rintro e w1 ⟨rfl, k1⟩
        rw [HR.out]
        simp only [attR, attV, Option.getD_some, Option.isSome_some]
        have hb1 := hb.trans (k1.mono hbs)
        have hs1 := k1.size
        have hz1 : w.heap.size + 2 ≤ w1.heap.size := by omega
        have hz2 : w.heap.size < w1.heap.size := by omega
        have hz3 : ¬ w.heap.size = w1.heap.size := by omega
        have hz4 : ¬ w1.heap.size = w.heap.size := by omega
        clear k1 hc hf
        obtain ⟨hc, hf⟩ := bcell hb1
        go_wp2
        refine bodyPost_ret (v := attR (some ⟨kind, text, value, bytes, size, off, e0⟩)) (by simp [results, Tryd.results28, go_sem, attR, attV, hc, hz2]) rfl ⟨by rw [HN.out], ?_⟩
        exact Below.alloc (below9 _ (Nat.le_refl _) _ _ _ _ _ _ _ _ _ ((((Below.refl _ _).alloc (Nat.le_refl _) _).alloc (by simp) _).trans (hb1.mono (by omega)))) (by simp; omega) _
    · cases hr : numS s with
      | none =>
        have HR := Lib.hid (show attR (numS s) = attR none by rw [hr])
        have HN := Lib.hid hr
        clear hr
        go_wp2_with fail
        refine (number_any s _ h hs).mono ?_
        rintro e w1 ⟨rfl, k1⟩
        rw [HR.out]
        simp only [attR, attV, Option.getD_none, Option.isSome_none, attE]
        have hb1 := hb.trans (k1.mono hbs)
        have hs1 := k1.size
        clear k1 hc hf
        go_wp2
        go_roundw
        case rel => exact ⟨2, by omega, rfl, fun j hj => (by rcases (show j < 1 ∨ j = 1 by omega) with h | h; exact hn.out j h; subst h; exact HN.out), hb1.alloc (by omega) _⟩
        case measure => simp [intOf]
      | some a =>
        obtain ⟨kind, text, value, bytes, size, off, e0⟩ := a
        have HR := Lib.hid (show attR (numS s) = attR (some ⟨kind, text, value, bytes, size, off, e0⟩) by rw [hr])
        have HN := Lib.hid (show findS s = some ⟨kind, text, value, bytes, size, off, e0⟩ by unfold findS; rw [find0 hn.out (by omega), hr])
        clear hr
        go_wp2_with fail
        refine (number_any s _ h hs).mono ?_
        rintro e w1 ⟨rfl, k1⟩
        rw [HR.out]
        simp only [attR, attV, Option.getD_some, Option.isSome_some]
        have hb1 := hb.trans (k1.mono hbs)
        have hs1 := k1.size
        have hz1 : w.heap.size + 2 ≤ w1.heap.size := by omega
        have hz2 : w.heap.size < w1.heap.size := by omega
        have hz3 : ¬ w.heap.size = w1.heap.size := by omega
        have hz4 : ¬ w1.heap.size = w.heap.size := by omega
        clear k1 hc hf
        obtain ⟨hc, hf⟩ := bcell hb1
        go_wp2
        refine bodyPost_ret (v := attR (some ⟨kind, text, value, bytes, size, off, e0⟩)) (by simp [results, Tryd.results28, go_sem, attR, attV, hc, hz2]) rfl ⟨by rw [HN.out], ?_⟩
        exact Below.alloc (below9 _ (Nat.le_refl _) _ _ _ _ _ _ _ _ _ ((((Below.refl _ _).alloc (Nat.le_refl _) _).alloc (by simp) _).trans (hb1.mono (by omega)))) (by simp; omega) _
    · cases hr : charS s with
      | none =>
        have HR := Lib.hid (show attR (charS s) = attR none by rw [hr])
        have HN := Lib.hid hr
        clear hr
        go_wp2_with fail
        refine (character_any s _ ho' h hs).mono ?_
        rintro e w1 ⟨rfl, k1⟩
        rw [HR.out]
        simp only [attR, attV, Option.getD_none, Option.isSome_none, attE]
        have hb1 := hb.trans (k1.mono hbs)
        have hs1 := k1.size
        clear k1 hc hf
        go_wp2
        go_roundw
        case rel => exact ⟨3, by omega, rfl, fun j hj => (by rcases (show j < 2 ∨ j = 2 by omega) with h | h; exact hn.out j h; subst h; exact HN.out), hb1.alloc (by omega) _⟩
        case measure => simp [intOf]
      | some a =>
        obtain ⟨kind, text, value, bytes, size, off, e0⟩ := a
        have HR := Lib.hid (show attR (charS s) = attR (some ⟨kind, text, value, bytes, size, off, e0⟩) by rw [hr])
        have HN := Lib.hid (show findS s = some ⟨kind, text, value, bytes, size, off, e0⟩ by unfold findS; rw [find0 hn.out (by omega), find1 hn.out (by omega), hr])
        clear hr
        go_wp2_with fail
        refine (character_any s _ ho' h hs).mono ?_
        rintro e w1 ⟨rfl, k1⟩
        rw [HR.out]
        simp only [attR, attV, Option.getD_some, Option.isSome_some]
        have hb1 := hb.trans (k1.mono hbs)
        have hs1 := k1.size
        have hz1 : w.heap.size + 2 ≤ w1.heap.size := by omega
        have hz2 : w.heap.size < w1.heap.size := by omega
        have hz3 : ¬ w.heap.size = w1.heap.size := by omega
        have hz4 : ¬ w1.heap.size = w.heap.size := by omega
        clear k1 hc hf
        obtain ⟨hc, hf⟩ := bcell hb1
        go_wp2
        refine bodyPost_ret (v := attR (some ⟨kind, text, value, bytes, size, off, e0⟩)) (by simp [results, Tryd.results28, go_sem, attR, attV, hc, hz2]) rfl ⟨by rw [HN.out], ?_⟩
        exact Below.alloc (below9 _ (Nat.le_refl _) _ _ _ _ _ _ _ _ _ ((((Below.refl _ _).alloc (Nat.le_refl _) _).alloc (by simp) _).trans (hb1.mono (by omega)))) (by simp; omega) _
    · cases hr : quoS s with
      | none =>
        have HR := Lib.hid (show attR (quoS s) = attR none by rw [hr])
        have HN := Lib.hid hr
        clear hr
        go_wp2_with fail
        refine (quoted_any s _ ho' h hs).mono ?_
        rintro e w1 ⟨rfl, k1⟩
        rw [HR.out]
        simp only [attR, attV, Option.getD_none, Option.isSome_none, attE]
        have hb1 := hb.trans (k1.mono hbs)
        have hs1 := k1.size
        clear k1 hc hf
        go_wp2
        go_roundw
        case rel => exact ⟨4, by omega, rfl, fun j hj => (by rcases (show j < 3 ∨ j = 3 by omega) with h | h; exact hn.out j h; subst h; exact HN.out), hb1.alloc (by omega) _⟩
        case measure => simp [intOf]
      | some a =>
        obtain ⟨kind, text, value, bytes, size, off, e0⟩ := a
        have HR := Lib.hid (show attR (quoS s) = attR (some ⟨kind, text, value, bytes, size, off, e0⟩) by rw [hr])
        have HN := Lib.hid (show findS s = some ⟨kind, text, value, bytes, size, off, e0⟩ by unfold findS; rw [find0 hn.out (by omega), find1 hn.out (by omega), find2 hn.out (by omega), hr])
        clear hr
        go_wp2_with fail
        refine (quoted_any s _ ho' h hs).mono ?_
        rintro e w1 ⟨rfl, k1⟩
        rw [HR.out]
        simp only [attR, attV, Option.getD_some, Option.isSome_some]
        have hb1 := hb.trans (k1.mono hbs)
        have hs1 := k1.size
        have hz1 : w.heap.size + 2 ≤ w1.heap.size := by omega
        have hz2 : w.heap.size < w1.heap.size := by omega
        have hz3 : ¬ w.heap.size = w1.heap.size := by omega
        have hz4 : ¬ w1.heap.size = w.heap.size := by omega
        clear k1 hc hf
        obtain ⟨hc, hf⟩ := bcell hb1
        go_wp2
        refine bodyPost_ret (v := attR (some ⟨kind, text, value, bytes, size, off, e0⟩)) (by simp [results, Tryd.results28, go_sem, attR, attV, hc, hz2]) rfl ⟨by rw [HN.out], ?_⟩
        exact Below.alloc (below9 _ (Nat.le_refl _) _ _ _ _ _ _ _ _ _ ((((Below.refl _ _).alloc (Nat.le_refl _) _).alloc (by simp) _).trans (hb1.mono (by omega)))) (by simp; omega) _
    · cases hr : symS s with
      | none =>
        have HR := Lib.hid (show symR s = .tuple #[attV ⟨5, ⟨#[]⟩, 0, ⟨#[]⟩, 0, 0, 0⟩, .bool false] by unfold symR; rw [hr])
        have HN := Lib.hid hr
        clear hr
        go_wp2_with fail
        refine (symbol_any s _).mono ?_
        rintro e w1 ⟨rfl, k1⟩
        rw [HR.out]
        simp only [attR, attV, Option.getD_none, Option.isSome_none, attE]
        have hb1 := hb.trans (k1.mono hbs)
        have hs1 := k1.size
        clear k1 hc hf
        go_wp2
        go_roundw
        case rel => exact ⟨5, by omega, rfl, fun j hj => (by rcases (show j < 4 ∨ j = 4 by omega) with h | h; exact hn.out j h; subst h; exact HN.out), hb1.alloc (by omega) _⟩
        case measure => simp [intOf]
      | some a =>
        obtain ⟨kind, text, value, bytes, size, off, e0⟩ := a
        have HR := Lib.hid (show symR s = .tuple #[attV ⟨kind, text, value, bytes, size, off, e0⟩, .bool true] by unfold symR; rw [hr])
        have HN := Lib.hid (show findS s = some ⟨kind, text, value, bytes, size, off, e0⟩ by unfold findS; rw [find0 hn.out (by omega), find1 hn.out (by omega), find2 hn.out (by omega), find3 hn.out (by omega), hr])
        clear hr
        go_wp2_with fail
        refine (symbol_any s _).mono ?_
        rintro e w1 ⟨rfl, k1⟩
        rw [HR.out]
        simp only [attR, attV, Option.getD_some, Option.isSome_some]
        have hb1 := hb.trans (k1.mono hbs)
        have hs1 := k1.size
        have hz1 : w.heap.size + 2 ≤ w1.heap.size := by omega
        have hz2 : w.heap.size < w1.heap.size := by omega
        have hz3 : ¬ w.heap.size = w1.heap.size := by omega
        have hz4 : ¬ w1.heap.size = w.heap.size := by omega
        clear k1 hc hf
        obtain ⟨hc, hf⟩ := bcell hb1
        go_wp2
        refine bodyPost_ret (v := attR (some ⟨kind, text, value, bytes, size, off, e0⟩)) (by simp [results, Tryd.results28, go_sem, attR, attV, hc, hz2]) rfl ⟨by rw [HN.out], ?_⟩
        exact Below.alloc (below9 _ (Nat.le_refl _) _ _ _ _ _ _ _ _ _ ((((Below.refl _ _).alloc (Nat.le_refl _) _).alloc (by simp) _).trans (hb1.mono (by omega)))) (by simp; omega) _
    · have HN := Lib.hid (show findS s = none by unfold findS; rw [find0 hn.out (by omega), find1 hn.out (by omega), find2 hn.out (by omega), find3 hn.out (by omega), find4 hn.out (by omega)])
      go_wp2
      refine bodyPost_ret (v := attR none) (by simp [results, Tryd.results28, go_sem, attR, attV, attE, hc]) rfl ⟨by rw [HN.out], ?_⟩
      exact below9 _ (Nat.le_refl _) _ _ _ _ _ _ _ _ _ (((((Below.refl _ _).alloc (Nat.le_refl _) _).alloc (by simp) _).trans (hb.mono (by omega))))
end Go.Proofs.YtdhfkokinnmfhaaDoor
