/- Walks of layer 41: scanVariable. -/
import Derived.Test.YtiddchpkmcncdaaX5
namespace Go.Proofs.Ytiddchpkmcncdaa
open Go.RowKit
set_option linter.unusedSimpArgs false
set_option linter.unusedVariables false
theorem flS_len (ps : Wd) (tx : Bs) : (flS ps tx).length ≤ ps.length + tx.length := by
  unfold flS
  cases tx with
  | nil => simp
  | cons a l => simp
theorem dr_getD (s : ByteArray) (a i : Nat) : (dr s a).getD i 0 = s.data.toList.getD (a + i) 0 := by
  unfold dr
  rw [List.getD_eq_getElem?_getD, List.getD_eq_getElem?_getD, List.getElem?_drop]
/-- The name behind an offset. -/
def nmS (s : ByteArray) (a : Nat) : Bs := (dr s a).takeWhile aln8
theorem nm_take (s : ByteArray) (a : Nat) : nmS s a = (dr s a).take (nmS s a).length :=
  List.prefix_iff_eq_take.1 (List.takeWhile_prefix aln8)
theorem nm_le (s : ByteArray) (a : Nat) : (nmS s a).length ≤ s.size - a := by
  have := (List.takeWhile_prefix aln8 (l := dr s a)).length_le
  rw [dr_len] at this
  exact this
theorem nm_at (s : ByteArray) (a k : Nat) (h1 : a ≤ k) (h2 : k ≤ s.size) (h3 : ∀ j, a ≤ j → j < k → alnI (bt s j) = true) (h4 : k = s.size ∨ alnI (bt s k) = false) : (nmS s a).length = k - a := by
  refine tw_at aln8 (dr s a) (k - a) (by rw [dr_len]; omega) (fun i hi => ?_) ?_
  · rw [dr_getD]; exact h3 (a + i) (by omega) (by omega)
  · rcases h4 with h4 | h4
    · exact .inl (by rw [dr_len]; omega)
    · refine .inr ?_
      rw [dr_getD, show a + (k - a) = k by omega]; exact h4
theorem nm_ext (s : ByteArray) (a k : Nat) (h : (nmS s a).length = k - a) : s.extract a k = bs (nmS s a) := by
  rw [ext_bs, ← h, ← nm_take]
set_option maxRecDepth 100000 in
set_option maxHeartbeats 2000000 in
theorem scanVariable_yes (w0 : World) (g : Nat) (s : ByteArray) (vt : Value) (p : Nat) (ps : Wd) (tx : Bs) (q : Bool) (w : World) (h : WSt w0 g s vt p ps tx 0 0 w) (hs : s.size ≤ 100000) (hp : p < s.size) (hv : isVarS (nmS s (p + 1)) = true) :
    Calls Try.prog 98 #[ptr g, .bool q] w fun r w' => r = .returned (.tuple #[]) ∧ WSt w0 g s vt (p + 1 + (nmS s (p + 1)).length) (flS ps tx ++ [⟨nmS s (p + 1), true, q⟩]) [] 0 0 w' := by
  have H := Lib.hid h
  have HV := Lib.hid hv
  obtain ⟨vw, vx, h1, h2, h3, h4, h5, h6, h7⟩ := h
  have c0 : w.cell? ⟨g, 0, none⟩ = some (.string s) := h1.cell 0
  have c1 : w.cell? ⟨g, 1, none⟩ = some (.int .i64 p) := h1.cell 1
  obtain ⟨i0, hi, hz0, hz1, hz2⟩ := info_parts info61
  clear h1 h2 h3 h4 hv
  go_enter Try.func98, Try.ntmps98
  go_wp2
  go_loop [4] (fun i => ∃ k : Nat, p + 1 ≤ k ∧ k ≤ s.size ∧ i = .int .i64 k ∧ (∀ j, p + 1 ≤ j → j < k → alnI (bt s j) = true)) (fun i => s.size - (intOf i).toNat)
  case atStart => exact ⟨p + 1, Nat.le_refl _, hp, by go_num, fun j h1 h2 => by omega⟩
  case round =>
    obtain ⟨k, hk0, hk, rfl, hj⟩ := hrel
    have HJ := Lib.hid hj
    clear hj
    by_cases hgo : k < s.size ∧ alnI (bt s k) = true
    · obtain ⟨hlt, hq⟩ := hgo
      have HQ := Lib.hid hq
      have hb := bt_of s k hlt
      clear hq
      go_wp2_with (go_at_call 51; refine (isAlphanumeric_any _ _).mono ?_; rintro e w' ⟨rfl, rfl⟩; rw [HQ.out])
      go_round
      case rel => exact ⟨k + 1, by omega, by omega, by go_num, fun j h1 h2 => (by by_cases e : j = k; (subst e; exact HQ.out); exact HJ.out j h1 (by omega))⟩
      case measure => simp [intOf]; omega
    · have hend : k = s.size ∨ alnI (bt s k) = false := by
        by_cases e : k = s.size
        · exact .inl e
        · refine .inr ?_
          have : ¬ alnI (bt s k) = true := fun h => hgo ⟨by omega, h⟩
          simpa using this
      have HN := Lib.hid (nm_at s (p + 1) k hk0 hk HJ.out hend)
      have HX := Lib.hid (nm_ext s (p + 1) k HN.out)
      have hz : (bs (nmS s (p + 1))).size ≤ 100000 := by rw [bs_size]; have := nm_le s (p + 1); omega
      have L1 : IntKind.i64.wrap ((p : Int) + 1) = (p : Int) + 1 := IntWalk.i64_in _ (by omega)
      have e1 : (0 : Int) ≤ (p : Int) + 1 := by omega
      have e2 : (p : Int) + 1 ≤ (k : Int) := by omega
      have e3 : (k : Int) ≤ (s.size : Int) := by omega
      have e4 : ((p : Int) + 1).toNat = p + 1 := by omega
      have hkk : k = p + 1 + (nmS s (p + 1)).length := by have := HN.out; omega
      have HK := Lib.hid hkk
      clear hkk hgo HJ
      by_cases hlt : k < s.size
      focus
        have hq : alnI (bt s k) = false := hend.resolve_left (by omega)
        have HQ := Lib.hid hq
        have hb := bt_of s k hlt
        clear hq hend
        go_wp2_with (go_at_call 51; refine (isAlphanumeric_any _ _).mono ?_; rintro e w' ⟨rfl, rfl⟩; rw [HQ.out])
      rotate_left
      focus
        go_wp2
      all_goals
        go_quiet (fail)
        clear L1
        go_wp2_with fail
        rw [HX.out]
        refine (IsVariable_any _ _ hz).mono ?_
        rintro e w1 ⟨rfl, rfl⟩
        rw [show isVarB (bs (nmS s (p + 1))) = true by unfold isVarB; rw [bs_list]; exact HV.out]
        go_wp2_with fail
        refine (flush_any w0 g s vt p ps tx 0 0 _ (H.out.drewN _) hs).mono ?_
        rintro e w2 ⟨rfl, k2⟩
        obtain ⟨vw2, vx2, h1, h2, h3, h4, h5, h6', h7⟩ := k2
        have H1 := Lib.hid h1
        have d1 : w2.cell? ⟨g, 1, none⟩ = some (.int .i64 p) := h1.cell 1
        have d3 : w2.cell? ⟨g, 3, none⟩ = some vw2 := h1.cell 3
        have hfl := flS_len ps tx
        have hsz := h4.size
        have h6b : (flS ps tx).length ≤ p := by simpa using h6'
        clear h6'
        obtain ⟨av, cv, rfl, _⟩ := own_len h2
        clear h1 c0 c1
        generalize hfs : flS ps tx = fs at *
        go_wp2_with (at_builtin; refine wpList_append_lies _ rfl _ _ _ rfl w0.heap.size 61 i0 _ 3 24 Try.underlying42 hi hz0 hz1 hz2 rfl (by omega) (.slice av fs.length cv) fs.length (pcC fs) rfl (h2.alloc _) ⟨w2.heap.size, 0, none⟩ 1 1 [.string (bs (nmS s (p + 1))), .bool true, .bool q] rfl rfl (World.news_of_block (cs := #[.string (bs (nmS s (p + 1))), .bool true, .bool q]) (t := 61) (fr := (0, 0)) (heap_alloc_new w2 _)) (by simp [Value.oneCell']) (by omega) (by unfold maxLen; omega) (by omega) (by simp; omega) (w2.heap.size + 1) (by simp) ?_)
        intro gg cap w3 hown3 hgrow hat hlt3
        have HW := Lib.hid (WSt.word (pc := ⟨nmS s (p + 1), true, q⟩) H1.out h2 h3 h4 h5 h7 ((Below.refl _ _).alloc (Nat.le_refl _) _) hgrow (by rw [pcC_snoc, List.length_append]; exact hown3))
        have d3' : w3.cell? ⟨g, 3, none⟩ = some (.slice av fs.length cv) := HW.out.2.cell 3
        have d1' : w3.cell? ⟨g, 1, none⟩ = some (.int .i64 p) := HW.out.2.cell 1
        have f3 := HW.out.2.frozen 3
        have f1 := HW.out.2.frozen 1
        clear hown3 hgrow h2 h3 h4 d1 d3
        go_wp2
        go_end0
        subst hfs
        exact ⟨rfl, WSt.go HW.out.1 (by rw [HK.out]) (by simp; omega) (by have := HK.out; omega)⟩
set_option maxRecDepth 100000 in
set_option maxHeartbeats 2000000 in
theorem scanVariable_no (w0 : World) (g : Nat) (s : ByteArray) (vt : Value) (p : Nat) (ps : Wd) (tx : Bs) (q : Bool) (w : World) (h : WSt w0 g s vt p ps tx 0 0 w) (hs : s.size ≤ 100000) (hp : p < s.size) (hv : isVarS (nmS s (p + 1)) = false) :
    Calls Try.prog 98 #[ptr g, .bool q] w fun r w' => r = .returned (.tuple #[]) ∧ WSt w0 g s vt s.size ps tx p 3 w' := by
  have H := Lib.hid h
  have HV := Lib.hid hv
  obtain ⟨vw, vx, h1, h2, h3, h4, h5, h6, h7⟩ := h
  have c0 : w.cell? ⟨g, 0, none⟩ = some (.string s) := h1.cell 0
  have c1 : w.cell? ⟨g, 1, none⟩ = some (.int .i64 p) := h1.cell 1
  clear h1 h2 h3 h4 hv
  go_enter Try.func98, Try.ntmps98
  go_wp2
  go_loop [4] (fun i => ∃ k : Nat, p + 1 ≤ k ∧ k ≤ s.size ∧ i = .int .i64 k ∧ (∀ j, p + 1 ≤ j → j < k → alnI (bt s j) = true)) (fun i => s.size - (intOf i).toNat)
  case atStart => exact ⟨p + 1, Nat.le_refl _, hp, by go_num, fun j h1 h2 => by omega⟩
  case round =>
    obtain ⟨k, hk0, hk, rfl, hj⟩ := hrel
    have HJ := Lib.hid hj
    clear hj
    by_cases hgo : k < s.size ∧ alnI (bt s k) = true
    · obtain ⟨hlt, hq⟩ := hgo
      have HQ := Lib.hid hq
      have hb := bt_of s k hlt
      clear hq
      go_wp2_with (go_at_call 51; refine (isAlphanumeric_any _ _).mono ?_; rintro e w' ⟨rfl, rfl⟩; rw [HQ.out])
      go_round
      case rel => exact ⟨k + 1, by omega, by omega, by go_num, fun j h1 h2 => (by by_cases e : j = k; (subst e; exact HQ.out); exact HJ.out j h1 (by omega))⟩
      case measure => simp [intOf]; omega
    · have hend : k = s.size ∨ alnI (bt s k) = false := by
        by_cases e : k = s.size
        · exact .inl e
        · refine .inr ?_
          have : ¬ alnI (bt s k) = true := fun h => hgo ⟨by omega, h⟩
          simpa using this
      have HN := Lib.hid (nm_at s (p + 1) k hk0 hk HJ.out hend)
      have HX := Lib.hid (nm_ext s (p + 1) k HN.out)
      have hz : (bs (nmS s (p + 1))).size ≤ 100000 := by rw [bs_size]; have := nm_le s (p + 1); omega
      have L1 : IntKind.i64.wrap ((p : Int) + 1) = (p : Int) + 1 := IntWalk.i64_in _ (by omega)
      have e1 : (0 : Int) ≤ (p : Int) + 1 := by omega
      have e2 : (p : Int) + 1 ≤ (k : Int) := by omega
      have e3 : (k : Int) ≤ (s.size : Int) := by omega
      have e4 : ((p : Int) + 1).toNat = p + 1 := by omega
      clear hgo HJ
      by_cases hlt : k < s.size
      focus
        have hq : alnI (bt s k) = false := hend.resolve_left (by omega)
        have HQ := Lib.hid hq
        have hb := bt_of s k hlt
        clear hq hend
        go_wp2_with (go_at_call 51; refine (isAlphanumeric_any _ _).mono ?_; rintro e w' ⟨rfl, rfl⟩; rw [HQ.out])
      rotate_left
      focus
        go_wp2
      all_goals
        go_quiet (fail)
        clear L1
        go_wp2_with fail
        rw [HX.out]
        refine (IsVariable_any _ _ hz).mono ?_
        rintro e w1 ⟨rfl, rfl⟩
        rw [show isVarB (bs (nmS s (p + 1))) = false by unfold isVarB; rw [bs_list]; exact HV.out]
        go_wp2_with fail
        refine (fail_any w0 g s vt p ps tx p 3 _ (H.out.drewN _) hs).mono ?_
        rintro e w2 ⟨rfl, k2⟩
        go_wp2
        refine bodyPost_ret (results_none rfl _ _ _) rfl ?_
        exact ⟨rfl, k2⟩
end Go.Proofs.Ytiddchpkmcncdaa
