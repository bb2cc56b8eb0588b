/- Walks of layer 21: symbol. -/
import Derived.Lib.Bytes
import Derived.Test.YtdhfkokinnmfhaaDoorX9
import Derived.Test.YtdhfkokinnmfhaaDoorX6
import Derived.Test.YtdhfkokinnmfhaaDoorX8
namespace Go.Proofs.YtdhfkokinnmfhaaDoor
open Go.RowKit
set_option linter.unusedSimpArgs false
set_option linter.unusedVariables false
def symK (s : ByteArray) (k : Nat) : ByteArray := (syms.take k).foldl (symF s) ⟨#[]⟩
theorem symK_zero (s : ByteArray) : symK s 0 = ⟨#[]⟩ := rfl
theorem symK_all (s : ByteArray) : symK s 29 = symT s := rfl
theorem symK_succ (s : ByteArray) (k : Nat) (h : k < 29) : symK s (k + 1) = symF s (symK s k) (syms.getD k ByteArray.empty) := by
  unfold symK
  have hl : k < syms.length := h
  rw [List.take_succ_eq_append_getElem hl, List.foldl_append, List.getD_eq_getElem?_getD, List.getElem?_eq_getElem hl]
  rfl
theorem sym_le (k : Nat) (h : k < 29) : (syms.getD k ByteArray.empty).size ≤ 2 := by
  have : ∀ k, k < 29 → (syms.getD k ByteArray.empty).size ≤ 2 := by decide
  exact this k h
theorem symF_le (s t x : ByteArray) (h : t.size ≤ 2) (hx : x.size ≤ 2) : (symF s t x).size ≤ 2 := by unfold symF; split <;> assumption
theorem symK_le (s : ByteArray) : ∀ k, k ≤ 29 → (symK s k).size ≤ 2
  | 0, _ => by rw [symK_zero]; decide
  | k + 1, h => by rw [symK_succ s k (by omega)]; exact symF_le _ _ _ (symK_le s k (by omega)) (sym_le k (by omega))
def symR (s : ByteArray) : Value := match symS s with
  | none => .tuple #[attV ⟨5, ⟨#[]⟩, 0, ⟨#[]⟩, 0, 0, 0⟩, .bool false]
  | some a => .tuple #[attV a, .bool true]
theorem isEmpty_of (t : ByteArray) (h : t.size ≠ 0) : t.toList.isEmpty = false := by
  rw [Lib.toList_data]
  cases hh : t.data.toList with
  | nil => exact absurd (show t.size = 0 by have : t.size = t.data.toList.length := by simp
                                            rw [this, hh]; rfl) h
  | cons a l => rfl
theorem nil_of_size (t : ByteArray) (h : t.size = 0) : t = ⟨#[]⟩ := by
  apply ByteArray.ext
  exact Array.eq_empty_of_size_eq_zero h
set_option maxRecDepth 100000 in
set_option maxHeartbeats 2000000 in
theorem symbol_any (s : ByteArray) (w : World) :
    Calls Tryd.prog 47 #[.string s] w fun e w' => e = .returned (symR s) ∧ Below w.heap.size w w' := by
  go_enter Tryd.func47, Tryd.ntmps47
  go_wp2_with fail
  refine (symbols_any _).mono ?_
  rintro e w1 ⟨b, rfl, hS, hge, hb⟩
  go_wp2
  go_loop [4, 9] (fun t i => ∃ k : Nat, k ≤ 29 ∧ i = .int .i64 k ∧ t = .string (symK s k)) (fun _ i => 29 - (intOf i).toNat)
  case atStart => exact ⟨0, by omega, rfl, rfl⟩
  case round =>
    obtain ⟨k, hk, rfl, rfl⟩ := hrel
    by_cases hlt : k < 29
    · have hcell := hS.2 k hlt
      have HK := Lib.hid (symK_succ s k hlt)
      have l1 := sym_le k hlt
      have l2 := symK_le s k hk
      generalize hX : syms.getD k ByteArray.empty = x at *
      generalize hT : symK s k = t at *
      clear hX hT
      by_cases h1 : t.size < x.size
      · cases hp : Lib.hasPrefix s.data.toList x.data.toList with
        | true =>
          have HE := Lib.hid (HK.out.trans (if_pos ⟨h1, hp⟩))
          have HP := Lib.hid hp
          clear HK hp
          go_wp2_with (go_at_call 41; refine (Tryd.strings_HasPrefix _ _ _).mono ?_; rintro e w' ⟨rfl, rfl⟩; rw [HP.out])
          go_round
          case rel => exact ⟨k + 1, by omega, by go_num, by rw [HE.out]⟩
          case measure => simp [intOf]; omega
        | false =>
          have HE := Lib.hid (HK.out.trans (if_neg (by rintro ⟨_, h⟩; rw [preB, hp] at h; cases h)))
          have HP := Lib.hid hp
          clear HK hp
          go_wp2_with (go_at_call 41; refine (Tryd.strings_HasPrefix _ _ _).mono ?_; rintro e w' ⟨rfl, rfl⟩; rw [HP.out])
          go_round
          case rel => exact ⟨k + 1, by omega, by go_num, by rw [HE.out]⟩
          case measure => simp [intOf]; omega
      · have HE := Lib.hid (HK.out.trans (if_neg (fun h => h1 h.1)))
        have h1' : x.size ≤ t.size := by omega
        clear HK h1
        go_wp2
        go_round
        case rel => exact ⟨k + 1, by omega, by go_num, by rw [HE.out]⟩
        case measure => simp [intOf]; omega
    · obtain rfl : k = 29 := by omega
      have HT := Lib.hid (symK_all s)
      have l2 := symK_le s 29 (by omega)
      by_cases h0 : (symT s).size = 0
      · have e0 := nil_of_size _ h0
        have HS := Lib.hid (show symR s = .tuple #[attV ⟨5, ⟨#[]⟩, 0, ⟨#[]⟩, 0, 0, 0⟩, .bool false] by unfold symR symS; rw [if_pos h0])
        rw [HT.out, e0]
        clear h0 e0 HT
        obtain ⟨hc, hf⟩ := bcell hb
        go_wp2
        refine bodyPost_ret (v := .tuple #[attV ⟨5, ⟨#[]⟩, 0, ⟨#[]⟩, 0, 0, 0⟩, .bool false]) (by simp [results, Tryd.results47, go_sem, attV, hc]) rfl ⟨by rw [HS.out], ?_⟩
        exact below9 _ (Nat.le_refl _) _ _ _ _ _ _ _ _ _ (((Below.refl _ _).alloc (Nat.le_refl _) _).trans (hb.mono (by simp)))
      · have HS := Lib.hid (show symR s = .tuple #[attV ⟨5, symT s, 0, ⟨#[]⟩, (symT s).size, 0, 0⟩, .bool true] by unfold symR symS; rw [if_neg h0])
        have hE := isEmpty_of _ h0
        rw [HT.out]
        rw [HT.out] at l2
        clear h0 HT
        generalize symT s = t at *
        obtain ⟨hc, hf⟩ := bcell hb
        go_wp2
        refine bodyPost_ret (v := .tuple #[attV ⟨5, t, 0, ⟨#[]⟩, t.size, 0, 0⟩, .bool true]) (by simp [results, Tryd.results47, go_sem, attV, hc]) rfl ⟨by rw [HS.out], ?_⟩
        exact below9 _ (Nat.le_refl _) _ _ _ _ _ _ _ _ _ (((Below.refl _ _).alloc (Nat.le_refl _) _).trans (hb.mono (by simp)))
end Go.Proofs.YtdhfkokinnmfhaaDoor
