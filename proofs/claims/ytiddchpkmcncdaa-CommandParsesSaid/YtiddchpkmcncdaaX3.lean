/- Walks of layer 41: operatorAt, assigned. -/
import Derived.Test.YtiddchpkmcncdaaX2
import Derived.Test.YtiddchpkmcncdaaShelf
import Derived.Lib.IndexBytes
import Derived.Deep.QuietTactic
import Derived.BigQuiet
import Derived.IntWalk
namespace Go.Proofs.Ytiddchpkmcncdaa
open Go.RowKit
set_option linter.unusedSimpArgs false
set_option linter.unusedVariables false
def bs (l : Bs) : ByteArray := ⟨l.toArray⟩
theorem bs_list (l : Bs) : (bs l).data.toList = l := by simp [bs]
theorem bs_of (s : ByteArray) : bs s.data.toList = s := by cases s; simp [bs]
theorem bs_size (l : Bs) : (bs l).size = l.length := by simp [bs, ByteArray.size]
theorem ext_bs (s : ByteArray) (a b : Nat) : s.extract a b = bs ((dr s a).take (b - a)) := by
  rw [← bs_of (s.extract a b), Lib.extract_data]; rfl
theorem ext_end (s : ByteArray) (a : Nat) : s.extract a s.size = bs (dr s a) := by
  rw [← bs_of (s.extract a s.size), Lib.extract_to_end]; rfl
theorem bs_inj {a b : Bs} (h : bs a = bs b) : a = b := by have := congrArg (fun x => x.data.toList) h; simpa [bs_list] using this
theorem size_extract (s : ByteArray) (a b : Nat) (hb : b ≤ s.size) : (s.extract a b).size = b - a := by
  simp [ByteArray.size_extract]; omega
def opN (k : Nat) : Bs := opsL.getD k []
def opsV : Array Value := #[.string ⟨#[124, 124]⟩, .string ⟨#[38, 38]⟩, .string ⟨#[62, 62]⟩, .string ⟨#[124]⟩, .string ⟨#[38]⟩, .string ⟨#[59]⟩, .string ⟨#[60]⟩, .string ⟨#[62]⟩]
theorem ops_index (k : Nat) (h : k < 8) (w : World) : (Instr.index 148 (.agg #[.string ⟨#[124, 124]⟩, .string ⟨#[38, 38]⟩, .string ⟨#[62, 62]⟩, .string ⟨#[124]⟩, .string ⟨#[38]⟩, .string ⟨#[59]⟩, .string ⟨#[60]⟩, .string ⟨#[62]⟩]) (.int .i64 (k : Int))).run Try.prog w = .ok (.string (bs (opN k))) w := by
  match k, h with
  | 0, _ => (show _ = _; kernel_rfl)
  | 1, _ => (show _ = _; kernel_rfl)
  | 2, _ => (show _ = _; kernel_rfl)
  | 3, _ => (show _ = _; kernel_rfl)
  | 4, _ => (show _ = _; kernel_rfl)
  | 5, _ => (show _ = _; kernel_rfl)
  | 6, _ => (show _ = _; kernel_rfl)
  | 7, _ => (show _ = _; kernel_rfl)
theorem opAt_found (l : Bs) (k : Nat) (hk : k < 8) (h1 : ∀ j, j < k → (opN j).isPrefixOf l = false) (h2 : (opN k).isPrefixOf l = true) : opAt l = opN k := by
  have hl : k < opsL.length := hk
  unfold opN at h1 h2 ⊢
  unfold opAt
  have : opsL.find? (fun o => o.isPrefixOf l) = some (opN k) := by
    rw [List.find?_eq_some_iff_getElem]
    refine ⟨h2, k, hl, ?_, ?_⟩
    · unfold opN; rw [List.getD_eq_getElem?_getD, List.getElem?_eq_getElem hl]; rfl
    · intro j hj
      have := h1 j hj
      rw [List.getD_eq_getElem?_getD, List.getElem?_eq_getElem (Nat.lt_trans hj hl)] at this
      simp only [Option.getD_some] at this
      rw [this]; rfl
  rw [this]; rfl
theorem opAt_none (l : Bs) (h1 : ∀ j, j < 8 → (opN j).isPrefixOf l = false) : opAt l = [] := by
  unfold opAt
  have : opsL.find? (fun o => o.isPrefixOf l) = none := by
    rw [List.find?_eq_none]
    intro x hx
    obtain ⟨k, hk, rfl⟩ := List.getElem_of_mem hx
    have := h1 k hk
    unfold opN at this
    rw [List.getD_eq_getElem?_getD, List.getElem?_eq_getElem hk] at this
    simp only [Option.getD_some] at this
    rw [this]; simp
  rw [this]; rfl
set_option maxRecDepth 100000 in
theorem operatorAt_any (s : ByteArray) (p : Nat) (w : World) (hp : p ≤ s.size) (hs : s.size ≤ 100000) :
    Calls Try.prog 71 #[.string s, .int .i64 p] w fun e w' => e = .returned (.string (bs (opAt (dr s p)))) ∧ w = w' := by
  go_enter Try.func71, Try.ntmps71
  go_wp2
  go_loop [8] (fun i => ∃ k : Nat, k ≤ 8 ∧ i = .int .i64 k ∧ (∀ j, j < k → (opN j).isPrefixOf (dr s p) = false)) (fun i => 8 - (intOf i).toNat)
  case atStart => exact ⟨0, Nat.zero_le _, rfl, fun j h => by omega⟩
  case round =>
    obtain ⟨k, hk, rfl, hj⟩ := hrel
    have HJ := Lib.hid hj
    clear hj
    by_cases hlt : k < 8
    · have hix := ops_index k hlt
      have hpre : Hid (Lib.hasPrefix (s.extract p s.size).data.toList (bs (opN k)).data.toList = (opN k).isPrefixOf (dr s p)) := by
        rw [ext_end, bs_list, bs_list]; rfl
      cases hq : (opN k).isPrefixOf (dr s p) with
      | false =>
        have HQ := Lib.hid hq
        clear hq
        go_wp2_with (go_at_call 94; refine (Try.strings_HasPrefix _ _ _).mono ?_; rintro e w' ⟨rfl, rfl⟩; rw [hpre.out, HQ.out])
        go_round
        case rel => exact ⟨k + 1, by omega, by go_num, fun j hj => (by by_cases e : j = k; (subst e; exact HQ.out); exact HJ.out j (by omega))⟩
        case measure => simp [intOf]; omega
      | true =>
        have HQ := Lib.hid hq
        have HV := Lib.hid (opAt_found (dr s p) k hlt HJ.out hq)
        clear hq
        go_wp2_with (go_at_call 94; refine (Try.strings_HasPrefix _ _ _).mono ?_; rintro e w' ⟨rfl, rfl⟩; rw [hpre.out, HQ.out])
        go_ret
        exact ⟨ret_str (by rw [HV.out]), rfl⟩
    · have HV := Lib.hid (opAt_none (dr s p) (fun j hj => HJ.out j (by omega)))
      go_wp2
      go_ret
      exact ⟨ret_str (by rw [HV.out]; rfl), rfl⟩
theorem idx_no (c : UInt8) (p : UInt8 → Bool) (hp : ∀ b, p b = !(b == c)) : ∀ l : Bs, (l.takeWhile p).length = l.length → Lib.indexByte l c = -1
  | [], _ => rfl
  | b :: l, h => by
    rw [List.takeWhile_cons] at h
    by_cases hb : p b = true
    · rw [if_pos hb] at h
      have h2 := idx_no c p hp l (by simpa using h)
      have h3 : (b == c) = false := by rw [hp] at hb; simpa using hb
      unfold Lib.indexByte
      rw [h3, h2]; rfl
    · rw [if_neg hb] at h; simp at h
theorem idx_yes (c : UInt8) (p : UInt8 → Bool) (hp : ∀ b, p b = !(b == c)) : ∀ l : Bs, (l.takeWhile p).length < l.length → Lib.indexByte l c = ((l.takeWhile p).length : Int)
  | [], h => by simp at h
  | b :: l, h => by
    rw [List.takeWhile_cons] at h ⊢
    by_cases hb : p b = true
    · rw [if_pos hb] at h ⊢
      have h2 := idx_yes c p hp l (by simpa using h)
      have h3 : (b == c) = false := by rw [hp] at hb; simpa using hb
      have h4 : (((l.takeWhile p).length : Int) == -1) = false := beq_false_of_ne (by omega)
      unfold Lib.indexByte
      rw [h3, h2, h4]; simp
    · rw [if_neg hb]
      have h3 : (b == c) = true := by
        have : p b = false := by simpa using hb
        rw [hp] at this; simpa using this
      unfold Lib.indexByte
      rw [h3]; rfl
theorem n8_eq (b : UInt8) (k : Nat) (hk : k < 256) : n8 b = (k : Int) ↔ b = k.toUInt8 := by
  unfold n8
  constructor
  · intro h
    have h2 : b.toNat = k := by omega
    apply UInt8.toNat_inj.1
    rw [h2]; simp [Nat.mod_eq_of_lt hk]
  · rintro rfl
    simp; omega
theorem neq8_is (b : UInt8) : neq8 b = !(b == (61 : UInt8)) := by
  unfold neq8
  have := n8_eq b 61 (by omega)
  by_cases h : b = 61
  · subst h; rfl
  · have h2 : ¬ n8 b = 61 := fun h2 => h (this.1 h2)
    have h3 : (b == (61 : UInt8)) = false := by simpa using h
    rw [h3, decide_eq_false h2]
theorem nap8_is (b : UInt8) : nap8 b = !(b == (39 : UInt8)) := by
  unfold nap8
  have := n8_eq b 39 (by omega)
  by_cases h : b = 39
  · subst h; rfl
  · have h2 : ¬ n8 b = 39 := fun h2 => h (this.1 h2)
    have h3 : (b == (39 : UInt8)) = false := by simpa using h
    rw [h3, decide_eq_false h2]
theorem ret3 {a b c a' b' c' : Value} (h : a = a') (h2 : b = b') (h3 : c = c') : Ending.returned (.tuple #[a, b, c]) = .returned (.tuple #[a', b', c']) := by rw [h, h2, h3]
theorem cut_yes (s : ByteArray) (w : World) (n : Nat) (hn : n < s.size) (hi : Lib.indexByte s.data.toList 61 = (n : Int)) (hs : s.size ≤ 100000) :
    Calls Try.prog 110 #[.string s, .string ⟨#[61]⟩] w fun e w' => (e = .returned (.tuple #[.string (s.extract 0 n), .string (s.extract (n + 1) s.size), .bool true])) ∧ ∃ m, w' = w.drewN m := by
  have HI := Lib.hid hi
  clear hi
  go_enter Try.func110, Try.ntmps110
  go_wp2_with (go_at_call 121; refine (Try.stringslite_Index_one _ _ _).mono ?_; rintro e w' ⟨rfl, rfl⟩; rw [HI.out])
  have L1 : IntKind.i64.wrap ((n : Int) + 1) = (n : Int) + 1 := IntWalk.i64_in _ (by omega)
  have L2 : ((n : Int) + 1).toNat = n + 1 := by omega
  go_quiet (fail)
  go_wp2
  go_ret3
  exact ⟨rfl, _, rfl⟩
theorem cut_no (s : ByteArray) (w : World) (hi : Lib.indexByte s.data.toList 61 = -1) (hs : s.size ≤ 100000) :
    Calls Try.prog 110 #[.string s, .string ⟨#[61]⟩] w fun e w' => (e = .returned (.tuple #[.string s, .string ⟨#[]⟩, .bool false])) ∧ ∃ m, w' = w.drewN m := by
  have HI := Lib.hid hi
  clear hi
  go_enter Try.func110, Try.ntmps110
  go_wp2_with (go_at_call 121; refine (Try.stringslite_Index_one _ _ _).mono ?_; rintro e w' ⟨rfl, rfl⟩; rw [HI.out])
  go_ret3
  exact ⟨rfl, 0, rfl⟩
set_option maxRecDepth 100000 in
theorem assigned_any (s : ByteArray) (w : World) (hs : s.size ≤ 100000) :
    Calls Try.prog 73 #[.string s] w fun e w' => e = .returned (.string (bs (asgS s.data.toList))) ∧ ∃ m, w' = w.drewN m := by
  have hle : (s.data.toList.takeWhile neq8).length ≤ s.data.toList.length := by
    have := List.takeWhile_prefix neq8 (l := s.data.toList)
    exact this.length_le
  by_cases hn : (s.data.toList.takeWhile neq8).length < s.data.toList.length
  · have hi := idx_yes 61 neq8 neq8_is s.data.toList hn
    have hx : s.extract 0 (s.data.toList.takeWhile neq8).length = bs (s.data.toList.takeWhile neq8) := by
      rw [ext_bs]
      congr 1
      unfold dr
      rw [List.drop_zero, Nat.sub_zero]
      exact (List.prefix_iff_eq_take.1 (List.takeWhile_prefix neq8)).symm
    have hv : isVarB (bs (s.data.toList.takeWhile neq8)) = isVarS (s.data.toList.takeWhile neq8) := by unfold isVarB; rw [bs_list]
    have hz : (bs (s.data.toList.takeWhile neq8)).size ≤ 100000 := by
      rw [bs_size]; have : s.data.toList.length = s.size := by simp
      omega
    have hA : asgS s.data.toList = if isVarS (s.data.toList.takeWhile neq8) = true then s.data.toList.takeWhile neq8 else [] := by
      unfold asgS
      by_cases hv2 : isVarS (s.data.toList.takeWhile neq8) = true
      · rw [if_pos ⟨hn, hv2⟩, if_pos hv2]
      · rw [if_neg (fun h => hv2 h.2), if_neg hv2]
    have hns : (s.data.toList.takeWhile neq8).length < s.size := by simpa using hn
    generalize s.data.toList.takeWhile neq8 = nm at *
    have HX := Lib.hid hx
    have HV := Lib.hid hv
    have HA := Lib.hid hA
    have HI := Lib.hid hi
    clear hx hv hA hi hle hn
    cases hq : isVarS nm with
    | true =>
      have HQ := Lib.hid hq
      clear hq
      go_enter Try.func73, Try.ntmps73
      go_wp2_with fail
      refine Calls.mono (?_ : Calls Try.prog 100 _ _ (fun e w' => e = .returned (.tuple #[.string (bs nm), .string (s.extract (nm.length + 1) s.size), .bool true]) ∧ ∃ m, w' = w.drewN m)) ?_
      · go_enter Try.func100, Try.ntmps100
        go_wp2_with fail
        refine (cut_yes s _ nm.length hns HI.out hs).mono ?_
        rintro e w1 ⟨rfl, m, rfl⟩
        go_wp2
        go_ret3
        exact ⟨by rw [HX.out]; rfl, m, rfl⟩
      rintro e w1 ⟨rfl, m, rfl⟩
      go_wp2_with (go_at_call 18; refine (IsVariable_any _ _ hz).mono ?_; rintro e w' ⟨rfl, rfl⟩; rw [HV.out, HQ.out])
      go_ret
      exact ⟨ret_str (by rw [HA.out, HQ.out, if_pos rfl]), m, rfl⟩
    | false =>
      have HQ := Lib.hid hq
      clear hq
      go_enter Try.func73, Try.ntmps73
      go_wp2_with fail
      refine Calls.mono (?_ : Calls Try.prog 100 _ _ (fun e w' => e = .returned (.tuple #[.string (bs nm), .string (s.extract (nm.length + 1) s.size), .bool true]) ∧ ∃ m, w' = w.drewN m)) ?_
      · go_enter Try.func100, Try.ntmps100
        go_wp2_with fail
        refine (cut_yes s _ nm.length hns HI.out hs).mono ?_
        rintro e w1 ⟨rfl, m, rfl⟩
        go_wp2
        go_ret3
        exact ⟨by rw [HX.out]; rfl, m, rfl⟩
      rintro e w1 ⟨rfl, m, rfl⟩
      go_wp2_with (go_at_call 18; refine (IsVariable_any _ _ hz).mono ?_; rintro e w' ⟨rfl, rfl⟩; rw [HV.out, HQ.out])
      go_ret
      exact ⟨ret_str (by rw [HA.out, HQ.out, if_neg (by simp)]; rfl), m, rfl⟩
  · have hi := idx_no 61 neq8 neq8_is s.data.toList (by omega)
    have HA := Lib.hid (show asgS s.data.toList = [] by unfold asgS; rw [if_neg (fun h => hn h.1)])
    have HI := Lib.hid hi
    clear hi hle hn
    go_enter Try.func73, Try.ntmps73
    go_wp2_with fail
    refine Calls.mono (?_ : Calls Try.prog 100 _ _ (fun e w' => e = .returned (.tuple #[.string s, .string ⟨#[]⟩, .bool false]) ∧ ∃ m, w' = w.drewN m)) ?_
    · go_enter Try.func100, Try.ntmps100
      go_wp2_with fail
      refine (cut_no s _ HI.out hs).mono ?_
      rintro e w1 ⟨rfl, m, rfl⟩
      go_wp2
      go_ret3
      exact ⟨rfl, m, rfl⟩
    rintro e w1 ⟨rfl, m, rfl⟩
    go_wp2
    go_ret
    exact ⟨ret_str (by rw [HA.out]; rfl), m, rfl⟩
end Go.Proofs.Ytiddchpkmcncdaa
