/- Walks of layer 16: Form, Limits, Word, Find of the program and of the reference. -/
import Derived.Test.YtagmeijpelffcaaDoorP3
import Derived.Test.YtagmeijpelffcaaDoorW2
import Derived.Deep.QuietTactic
import Derived.BigQuiet
namespace Go.Proofs.YtagmeijpelffcaaDoor
open Go.RowKit
set_option linter.unusedSimpArgs false
set_option linter.unusedVariables false
theorem form_out (op : Int) (w : World) (h : op < 0 ∨ 27 ≤ op) :
    Calls Tryd.prog 30 #[.int .i64 op] w fun e w' => e = .returned (.tuple #[.int .i64 0, .int .i64 11]) ∧ w = w' := by
  rcases h with h | h
  · go_enter Tryd.func30, Tryd.ntmps30
    go_wp2
    go_ret2
    exact ⟨rfl, rfl⟩
  · have h' : decide (op < 27) = false := by simp; omega
    have h0 : 0 ≤ op := by omega
    go_enter Tryd.func30, Tryd.ntmps30
    go_wp2
    go_ret2
    exact ⟨rfl, rfl⟩
theorem form_any (op : Int) (w : World) (ho : OpsAt w) (h0 : 0 ≤ op) (h1 : op < 27) :
    Calls Tryd.prog 30 #[.int .i64 op] w fun e w' => e = .returned (.tuple #[.int .i64 (formI op.toNat), .int .i64 0]) ∧ w = w' := by
  obtain ⟨c0, c1, c2, c3, c4, c5⟩ := ho.2 op.toNat (by omega)
  go_enter Tryd.func30, Tryd.ntmps30
  go_wp2
  go_ret2
  exact ⟨rfl, rfl⟩
theorem word_out (op : Int) (w : World) (h : op < 0 ∨ 27 ≤ op) :
    Calls Tryd.prog 36 #[.int .i64 op] w fun e w' => e = .returned (.string ⟨#[]⟩) ∧ w = w' := by
  rcases h with h | h
  · go_enter Tryd.func36, Tryd.ntmps36
    go_wp2
    go_ret
    exact ⟨rfl, rfl⟩
  · have h' : decide (op < 27) = false := by simp; omega
    have h0 : 0 ≤ op := by omega
    go_enter Tryd.func36, Tryd.ntmps36
    go_wp2
    go_ret
    exact ⟨rfl, rfl⟩
theorem word_any (op : Int) (w : World) (ho : OpsAt w) (h0 : 0 ≤ op) (h1 : op < 27) :
    Calls Tryd.prog 36 #[.int .i64 op] w fun e w' => e = .returned (.string (wordB op.toNat)) ∧ w = w' := by
  obtain ⟨c0, c1, c2, c3, c4, c5⟩ := ho.2 op.toNat (by omega)
  go_enter Tryd.func36, Tryd.ntmps36
  go_wp2
  go_ret
  exact ⟨rfl, rfl⟩
theorem limits_out (op : Int) (w : World) (h : op < 0 ∨ 27 ≤ op) :
    Calls Tryd.prog 32 #[.int .i64 op] w fun e w' => e = .returned (.tuple #[.int .i64 0, .int .i64 0, .int .i64 11]) ∧ w = w' := by
  rcases h with h | h
  · go_enter Tryd.func32, Tryd.ntmps32
    go_wp2
    go_ret3
    exact ⟨rfl, rfl⟩
  · have h' : decide (op < 27) = false := by simp; omega
    have h0 : 0 ≤ op := by omega
    go_enter Tryd.func32, Tryd.ntmps32
    go_wp2
    go_ret3
    exact ⟨rfl, rfl⟩
theorem limits_none (op : Int) (w : World) (ho : OpsAt w) (h0 : 0 ≤ op) (h1 : op < 27) (hf : formI op.toNat < 4) :
    Calls Tryd.prog 32 #[.int .i64 op] w fun e w' => e = .returned (.tuple #[.int .i64 0, .int .i64 0, .int .i64 1]) ∧ w = w' := by
  obtain ⟨c0, c1, c2, c3, c4, c5⟩ := ho.2 op.toNat (by omega)
  have n4 : (formI op.toNat == 4) = false := by simp; omega
  have n5 : (formI op.toNat == 5) = false := by simp; omega
  have n6 : (formI op.toNat == 6) = false := by simp; omega
  go_enter Tryd.func32, Tryd.ntmps32
  go_wp2
  go_ret3
  exact ⟨rfl, rfl⟩
theorem limits_f (op f : Int) (w : World) (ho : OpsAt w) (h0 : 0 ≤ op) (h1 : op < 27) (hf : formI op.toNat = f) (h456 : f = 4 ∨ f = 5 ∨ f = 6) :
    Calls Tryd.prog 32 #[.int .i64 op] w fun e w' => e = .returned (.tuple #[.int .i64 (lowI op.toNat), .int .i64 (highI op.toNat), .int .i64 0]) ∧ ∃ n, w' = w.drewN n := by
  obtain ⟨c0, c1, c2, c3, c4, c5⟩ := ho.2 op.toNat (by omega)
  rw [hf] at c1
  clear hf
  have P1 : op < (27 : Int) := h1
  rcases h456 with rfl | rfl | rfl
  all_goals
    go_enter Tryd.func32, Tryd.ntmps32
    go_wp2
    go_quiet (fail)
    go_wp2
    go_ret3
    exact ⟨rfl, _, rfl⟩
/-- What Find returns. -/
def findR (s : ByteArray) : Ending := .returned (.tuple #[.int .i64 (if findK s < 27 then (findK s : Int) else 0), .bool (decide (findK s < 27))])
theorem findR_at {s : ByteArray} {k : Nat} (hk : k < 27) (h1 : ∀ j, j < k → other s j = true) (h2 : ((wordB k).toList == s.toList) = true) : findR s = .returned (.tuple #[.int .i64 k, .bool true]) := by
  have e : findK s = k := firstBad_at hk h1 (by unfold other; rw [h2]; rfl)
  unfold findR
  rw [e]
  simp [hk]
theorem findR_none {s : ByteArray} (h1 : ∀ j, j < 27 → other s j = true) : findR s = .returned (.tuple #[.int .i64 0, .bool false]) := by
  have e : findK s = 27 := firstBad_all h1
  unfold findR
  rw [e]
  simp
theorem find_any (s : ByteArray) (w : World) (ho : TabAt w) :
    Calls Tryd.prog 34 #[.string s] w fun e w' => e = findR s ∧ Below w.heap.size w w' := by
  obtain ⟨t, fr, hg⟩ := ho
  go_enter Tryd.func34, Tryd.ntmps34
  go_wp2_with (refine wpList_load_row rfl 85 _ rfl 0 rfl t _ fr _ hg Tryd.underlying85 rfl (by kernel_rfl) ?_)
  go_loopw [7] (fun i wr => ∃ k : Nat, k ≤ 27 ∧ i = .int .i64 k ∧ (∀ j, j < k → other s j = true) ∧ Below w.heap.size w wr) (fun i _ => 27 - (intOf i).toNat)
  case atStart => exact ⟨0, Nat.zero_le _, rfl, fun j h => by omega, Below.refl _ _⟩
  case round =>
    obtain ⟨k, hk, rfl, hj, hb⟩ := hrel
    have HJ := Lib.hid hj
    clear hj
    by_cases hlt : k < 27
    · have hx := idx k hlt
      cases hq : ((wordB k).toList == s.toList) with
      | true =>
        have HQ := Lib.hid hq
        go_wp2
        go_ret2
        exact ⟨(findR_at hlt HJ.out HQ.out).symm, hb.alloc hb.size _⟩
      | false =>
        have HQ := Lib.hid hq
        go_wp2
        go_roundw
        case rel => exact ⟨k + 1, by omega, by go_num, fun j hj => (by by_cases e : j = k; (subst e; unfold other; rw [HQ.out]; rfl); exact HJ.out j (by omega)), hb.alloc hb.size _⟩
        case measure => simp [intOf]; omega
    · have hk27 : k = 27 := by omega
      have HK := Lib.hid hk27
      clear hk27
      go_wp2
      go_ret2
      exact ⟨(findR_none (by rw [← HK.out]; exact HJ.out)).symm, hb⟩
theorem words_any (w : World) : Calls Tryd.prog 56 #[] w fun e w' => e = .returned (.slice (some ⟨w.heap.size, 0, none⟩) 27 27) ∧ w.alloc (.cells wordsA 9) = w' := by
  go_enter Tryd.func56, Tryd.ntmps56
  go_wp2
  go_ret
  exact ⟨rfl, rfl⟩
theorem words_cell (w : World) (k : Nat) (hk : k < 27) : (w.alloc (.cells wordsA 9)).cell? ⟨w.heap.size, k, none⟩ = some (.string (wordB k)) := by
  have e : (w.alloc (.cells wordsA 9)).heap[w.heap.size]? = some (.cells wordsA 9) := by
    show (w.heap.push _)[w.heap.size]? = _
    simp
  simp only [World.cell?, e]
  simpa using words_at k hk
theorem refWord_out (op : Int) (w : World) (h : op < 0 ∨ 27 ≤ op) :
    Calls Tryd.prog 37 #[.int .i64 op] w fun e w' => e = .returned (.string ⟨#[]⟩) ∧ Below w.heap.size w w' := by
  rcases h with h | h
  · go_enter Tryd.func37, Tryd.ntmps37
    go_wp2
    go_ret
    exact ⟨rfl, Below.refl _ _⟩
  · have h' : 26 < op := by omega
    have h0 : 0 ≤ op := by omega
    go_enter Tryd.func37, Tryd.ntmps37
    go_wp2
    go_ret
    exact ⟨rfl, Below.refl _ _⟩
theorem refWord_any (op : Int) (w : World) (h0 : 0 ≤ op) (h1 : op < 27) :
    Calls Tryd.prog 37 #[.int .i64 op] w fun e w' => e = .returned (.string (wordB op.toNat)) ∧ Below w.heap.size w w' := by
  obtain ⟨k, rfl⟩ := Int.eq_ofNat_of_zero_le h0
  have hc := words_cell w k (by omega)
  have hB := (Below.refl w.heap.size w).alloc (Nat.le_refl _) (.cells wordsA 9)
  go_enter Tryd.func37, Tryd.ntmps37
  go_wp2_with fail
  refine (words_any _).mono ?_
  rintro e w1 ⟨rfl, rfl⟩
  generalize w.alloc (.cells wordsA 9) = W at *
  go_wp2
  go_ret
  exact ⟨rfl, hB⟩
theorem refFind_any (s : ByteArray) (w : World) :
    Calls Tryd.prog 35 #[.string s] w fun e w' => e = findR s ∧ Below w.heap.size w w' := by
  have hcs := Lib.hid (words_cell w)
  have hB := (Below.refl w.heap.size w).alloc (Nat.le_refl _) (.cells wordsA 9)
  go_enter Tryd.func35, Tryd.ntmps35
  go_wp2_with fail
  refine (words_any _).mono ?_
  rintro e w1 ⟨rfl, rfl⟩
  generalize w.alloc (.cells wordsA 9) = W at *
  go_wp2
  go_loop [5] (fun i => ∃ k : Nat, k ≤ 27 ∧ i = .int .i64 k ∧ (∀ j, j < k → other s j = true)) (fun i => 27 - (intOf i).toNat)
  case atStart => exact ⟨0, Nat.zero_le _, rfl, fun j h => by omega⟩
  case round =>
    obtain ⟨k, hk, rfl, hj⟩ := hrel
    have HJ := Lib.hid hj
    clear hj
    by_cases hlt : k < 27
    · have hx := hcs.out k hlt
      cases hq : ((wordB k).toList == s.toList) with
      | true =>
        have HQ := Lib.hid hq
        go_wp2
        go_ret2
        exact ⟨(findR_at hlt HJ.out HQ.out).symm, hB⟩
      | false =>
        have HQ := Lib.hid hq
        go_wp2
        go_round
        case rel => exact ⟨k + 1, by omega, by go_num, fun j hj => (by by_cases e : j = k; (subst e; unfold other; rw [HQ.out]; rfl); exact HJ.out j (by omega))⟩
        case measure => simp [intOf]; omega
    · have hk27 : k = 27 := by omega
      have HK := Lib.hid hk27
      clear hk27
      go_wp2
      go_ret2
      exact ⟨(findR_none (by rw [← HK.out]; exact HJ.out)).symm, hB⟩
theorem word_beq (k : Nat) (s : ByteArray) : ((wordB k).toList == s.toList) = (wordL.getD k [] == s.data.toList) := by
  rw [ByteArray.toList_eq, ByteArray.toList_eq]; rfl
theorem find_empty : findR ⟨#[]⟩ = .returned (.tuple #[.int .i64 0, .bool false]) := by
  apply findR_none
  intro j hj
  unfold other
  rw [word_beq]
  have : ∀ j : Fin 27, (!(wordL.getD j.val [] == ([] : List UInt8))) = true := by decide
  exact this ⟨j, hj⟩
theorem find_word (k : Nat) (hk : k < 27) : findR (wordB k) = .returned (.tuple #[.int .i64 k, .bool true]) := by
  apply findR_at hk
  · intro j hj
    unfold other
    rw [word_beq]
    have : ∀ k j : Fin 27, j.val < k.val → (!(wordL.getD j.val [] == wordL.getD k.val [])) = true := by decide
    exact this ⟨k, hk⟩ ⟨j, by omega⟩ hj
  · simp
end Go.Proofs.YtagmeijpelffcaaDoor
