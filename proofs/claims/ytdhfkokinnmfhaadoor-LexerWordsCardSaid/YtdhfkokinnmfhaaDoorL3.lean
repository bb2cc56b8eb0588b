/- The law LexerWords, walked. -/
import Derived.Test.YtdhfkokinnmfhaaDoorL1
import Derived.Test.YtdhfkokinnmfhaaDoorQ10
namespace Go.Proofs.YtdhfkokinnmfhaaDoor
open Go.RowKit
set_option linter.unusedSimpArgs false
set_option linter.unusedVariables false
theorem same_any (b c n : Nat) (zs : List ByteArray) (w : World) (hn : n = zs.length) (hn2 : n ≤ 1000) (hb : StrsAt w b zs) (hc : StrsAt w c zs) :
    Calls Tryd.prog 16 #[.slice (some ⟨b, 0, none⟩) n n, .slice (some ⟨c, 0, none⟩) n n] w fun e w' => e = .returned (.bool true) ∧ Below w.heap.size w w' := by
  have HN := Lib.hid hn
  clear hn
  go_enter Tryd.func16, Tryd.ntmps16
  go_wp2
  go_loopw [5] (fun i wr => ∃ k : Nat, k ≤ n ∧ i = .int .i64 k ∧ Below w.heap.size w wr) (fun i _ => n - (intOf i).toNat)
  case atStart => exact ⟨0, Nat.zero_le _, rfl, Below.refl _ _⟩
  case round =>
    obtain ⟨k, hk, rfl, hbw⟩ := hrel
    by_cases hlt : k < n
    · have h1 := (hb.next hbw).2 k (by have := HN.out; omega)
      have h2 := (hc.next hbw).2 k (by have := HN.out; omega)
      have P0 : (0 : Int) ≤ (k : Int) := by omega
      have P1 : (k : Int) < (n : Int) := by omega
      generalize zs.getD k ByteArray.empty = z at *
      go_wp2
      go_quiet (fail)
      go_wp2
      go_roundw
      case rel => exact ⟨k + 1, by omega, by go_num, below_drewN hbw _⟩
      case measure => simp [intOf]; omega
    · go_wp2
      go_ret
      exact ⟨rfl, hbw⟩
set_option maxRecDepth 100000 in
set_option maxHeartbeats 1000000 in
theorem isIdent_any (s : ByteArray) (w : World) (hs : s.size ≤ 100) : Calls Tryd.prog 21 #[.string s] w fun e w' => e = .returned (.bool (idB s)) ∧ Below w.heap.size w w' := by
  by_cases h0 : s.size = 0
  · have HI := Lib.hid (show idB s = false by unfold idB; exact decide_eq_false (fun h => by have := h.1; omega))
    have e0 := nil_of_size s h0
    subst e0
    clear h0 hs
    go_enter Tryd.func21, Tryd.ntmps21
    go_wp2
    go_ret
    exact ⟨by rw [HI.out]; rfl, Below.refl _ _⟩
  have hE := isEmpty_of s h0
  have h0' : 0 < s.size := by omega
  have hx := bt_of s 0 h0'
  by_cases h1 : 32 < s.size
  · have HI := Lib.hid (show idB s = false by unfold idB; exact decide_eq_false (fun h => by have := h.2.1; omega))
    clear h0
    go_enter Tryd.func21, Tryd.ntmps21
    go_wp2
    go_ret
    exact ⟨by rw [HI.out]; rfl, Below.refl _ _⟩
  have h1' : s.size ≤ 32 := by omega
  cases h2 : ltrI (bt s 0) with
  | false =>
    have HI := Lib.hid (show idB s = false by unfold idB; exact decide_eq_false (fun h => by have := h.2.2.1; rw [h2] at this; cases this))
    have H2 := Lib.hid h2
    clear h0 h1 h2
    go_enter Tryd.func21, Tryd.ntmps21
    go_wp2_with (go_at_call 31; refine (isLetter_any _ _).mono ?_; rintro e w' ⟨rfl, rfl⟩; rw [H2.out])
    go_ret
    exact ⟨by rw [HI.out]; rfl, Below.refl _ _⟩
  | true =>
    have H2 := Lib.hid h2
    have hle := leadB_le alnI s
    by_cases h3 : leadB alnI s < s.size
    · have HI := Lib.hid (show idB s = false by unfold idB; exact decide_eq_false (fun h => by have := h.2.2.2.1; omega))
      generalize hL : leadB alnI s = L at *
      have HL := Lib.hid hL
      clear h0 h1 h2 hL
      go_enter Tryd.func21, Tryd.ntmps21
      go_wp2_with (first | (go_at_call 31; refine (isLetter_any _ _).mono ?_; rintro e w' ⟨rfl, rfl⟩; rw [H2.out]) | (go_at_call 32; refine (leading_aln _ _ (by omega)).mono ?_; rintro e w' ⟨rfl, rfl⟩; rw [HL.out]))
      go_ret
      exact ⟨by rw [HI.out]; rfl, Below.refl _ _⟩
    · have HL := Lib.hid (show leadB alnI s = s.size by omega)
      cases hk : Lib.containsS kws s with
      | true =>
        have HI := Lib.hid (show idB s = false by unfold idB; exact decide_eq_false (fun h => by have := h.2.2.2.2; rw [hk] at this; cases this))
        have HK := Lib.hid hk
        clear h0 h1 h2 h3 hle hk
        go_enter Tryd.func21, Tryd.ntmps21
        go_wp2_with (first | (go_at_call 31; refine (isLetter_any _ _).mono ?_; rintro e w' ⟨rfl, rfl⟩; rw [H2.out]) | (go_at_call 32; refine (leading_aln _ _ (by omega)).mono ?_; rintro e w' ⟨rfl, rfl⟩; rw [HL.out]) | (go_at_call 17; refine (keywords_new _).mono ?_; rintro e w' ⟨rfl, rfl⟩) | (go_at_call 34; refine (containsKw _ _ _ (kw_new0 _ _ (by simp))).mono ?_; rintro e w' ⟨rfl, rfl⟩; rw [HK.out]))
        go_ret
        exact ⟨by rw [HI.out]; rfl, (Below.refl _ _).alloc (Nat.le_refl _) _⟩
      | false =>
        have HI := Lib.hid (show idB s = true by unfold idB; exact decide_eq_true ⟨h0', h1', h2, HL.out, hk⟩)
        have HK := Lib.hid hk
        clear h0 h1 h2 h3 hle hk
        go_enter Tryd.func21, Tryd.ntmps21
        go_wp2_with (first | (go_at_call 31; refine (isLetter_any _ _).mono ?_; rintro e w' ⟨rfl, rfl⟩; rw [H2.out]) | (go_at_call 32; refine (leading_aln _ _ (by omega)).mono ?_; rintro e w' ⟨rfl, rfl⟩; rw [HL.out]) | (go_at_call 17; refine (keywords_new _).mono ?_; rintro e w' ⟨rfl, rfl⟩) | (go_at_call 34; refine (containsKw _ _ _ (kw_new0 _ _ (by simp))).mono ?_; rintro e w' ⟨rfl, rfl⟩; rw [HK.out]))
        go_ret
        exact ⟨by rw [HI.out]; rfl, (Below.refl _ _).alloc (Nat.le_refl _) _⟩
set_option maxRecDepth 100000 in
set_option maxHeartbeats 2000000 in
theorem refIsIdent_any (s : ByteArray) (w : World) (hs : s.size ≤ 100) : Calls Tryd.prog 22 #[.string s] w fun e w' => e = .returned (.bool (idB s)) ∧ Below w.heap.size w w' := by
  by_cases h0 : s.size = 0
  · have HI := Lib.hid (show idB s = false by unfold idB; exact decide_eq_false (fun h => by have := h.1; omega))
    have e0 := nil_of_size s h0
    subst e0
    clear h0 hs
    go_enter Tryd.func22, Tryd.ntmps22
    go_wp2
    go_ret
    exact ⟨by rw [HI.out]; rfl, Below.refl _ _⟩
  have hE := isEmpty_of s h0
  have h0' : 0 < s.size := by omega
  have hx := bt_of s 0 h0'
  by_cases h1 : 32 < s.size
  · have HI := Lib.hid (show idB s = false by unfold idB; exact decide_eq_false (fun h => by have := h.2.1; omega))
    clear h0
    go_enter Tryd.func22, Tryd.ntmps22
    go_wp2
    go_ret
    exact ⟨by rw [HI.out]; rfl, Below.refl _ _⟩
  have h1' : s.size ≤ 32 := by omega
  cases h2 : ltrI (bt s 0) with
  | false =>
    have HI := Lib.hid (show idB s = false by unfold idB; exact decide_eq_false (fun h => by have := h.2.2.1; rw [h2] at this; cases this))
    have H2 := Lib.hid h2
    clear h0 h1 h2
    go_enter Tryd.func22, Tryd.ntmps22
    go_wp2_with (go_at_call 35; refine (letter_any _ _).mono ?_; rintro e w' ⟨rfl, rfl⟩; rw [H2.out])
    go_ret
    exact ⟨by rw [HI.out]; rfl, Below.refl _ _⟩
  | true =>
    have H2 := Lib.hid h2
    cases hk : Lib.containsS kws s with
    | true =>
      have HI := Lib.hid (show idB s = false by unfold idB; exact decide_eq_false (fun h => by have := h.2.2.2.2; rw [hk] at this; cases this))
      have HK := Lib.hid hk
      clear h0 h1 h2 hk
      go_enter Tryd.func22, Tryd.ntmps22
      go_wp2_with (first | (go_at_call 35; refine (letter_any _ _).mono ?_; rintro e w' ⟨rfl, rfl⟩; rw [H2.out]) | (go_at_call 18; refine (words_new _).mono ?_; rintro e w' ⟨rfl, rfl⟩) | (go_at_call 36; refine (contains_any _ 8 kws _ _ rfl (by omega) (kw_new0 _ _ (by simp))).mono ?_; rintro e w' ⟨rfl, rfl⟩; rw [HK.out]))
      go_ret
      exact ⟨by rw [HI.out]; rfl, (Below.refl _ _).alloc (Nat.le_refl _) _⟩
    | false =>
      have HK := Lib.hid hk
      have HY : Hid (leadB alnI s = s.size → idB s = true) := fun hl => by unfold idB; exact decide_eq_true ⟨h0', h1', h2, hl, hk⟩
      clear h0 h1 h2 hk
      go_enter Tryd.func22, Tryd.ntmps22
      go_wp2_with (first | (go_at_call 35; refine (letter_any _ _).mono ?_; rintro e w' ⟨rfl, rfl⟩; rw [H2.out]) | (go_at_call 18; refine (words_new _).mono ?_; rintro e w' ⟨rfl, rfl⟩) | (go_at_call 36; refine (contains_any _ 8 kws _ _ rfl (by omega) (kw_new0 _ _ (by simp))).mono ?_; rintro e w' ⟨rfl, rfl⟩; rw [HK.out]))
      clear hx
      go_loop [3] (fun i => ∃ k : Nat, k ≤ s.size ∧ i = .int .i64 k ∧ (∀ j, j < k → alnI (bt s j) = true)) (fun i => s.size - (intOf i).toNat)
      case atStart => exact ⟨0, Nat.zero_le _, rfl, fun j h => by omega⟩
      case round =>
        obtain ⟨k, hk, rfl, hj⟩ := hrel
        have HJ := Lib.hid hj
        clear hj
        by_cases hlt : k < s.size
        · have hb := bt_of s k hlt
          cases hq : ltrI (bt s k) with
          | true =>
            have HQ := Lib.hid hq
            go_wp2_with (go_at_call 35; refine (letter_any _ _).mono ?_; rintro e w' ⟨rfl, rfl⟩; rw [HQ.out])
            go_round
            case rel => exact ⟨k + 1, by omega, by go_num, fun j hj => (by by_cases e : j = k; (subst e; unfold alnI; rw [HQ.out]; rfl); exact HJ.out j (by omega))⟩
            case measure => simp [intOf]; omega
          | false =>
            have HQ := Lib.hid hq
            cases hd : digI (bt s k) with
            | true =>
              have HD := Lib.hid hd
              go_wp2_with (first | (go_at_call 35; refine (letter_any _ _).mono ?_; rintro e w' ⟨rfl, rfl⟩; rw [HQ.out]) | (go_at_call 37; refine (digit_any _ _).mono ?_; rintro e w' ⟨rfl, rfl⟩; rw [HD.out]))
              go_round
              case rel => exact ⟨k + 1, by omega, by go_num, fun j hj => (by by_cases e : j = k; (subst e; unfold alnI; rw [HD.out]; simp); exact HJ.out j (by omega))⟩
              case measure => simp [intOf]; omega
            | false =>
              have HD := Lib.hid hd
              have HI := Lib.hid (show idB s = false by
                have hl := leadB_at alnI s k hk HJ.out (.inr (by unfold alnI; rw [HQ.out, HD.out]; rfl))
                unfold idB
                exact decide_eq_false (fun h => by have := h.2.2.2.1; omega))
              go_wp2_with (first | (go_at_call 35; refine (letter_any _ _).mono ?_; rintro e w' ⟨rfl, rfl⟩; rw [HQ.out]) | (go_at_call 37; refine (digit_any _ _).mono ?_; rintro e w' ⟨rfl, rfl⟩; rw [HD.out]))
              go_ret
              exact ⟨by rw [HI.out]; rfl, (Below.refl _ _).alloc (Nat.le_refl _) _⟩
        · have HI := Lib.hid (HY.out (leadB_at alnI s s.size (Nat.le_refl _) (fun i hi => HJ.out i (by omega)) (.inl rfl)))
          go_wp2
          go_ret
          exact ⟨by rw [HI.out]; rfl, (Below.refl _ _).alloc (Nat.le_refl _) _⟩
set_option maxRecDepth 100000 in
set_option maxHeartbeats 1000000 in
theorem words_small_err (s : ByteArray) (w : World) (ho : EscAt w) (hs : s.size ≤ maxLen) (hb100 : s.size ≤ 100) (p : Nat) (off er : Int) (hS : scanS s = .err p off er) :
    Calls Tryd.prog 5 #[.string s] w fun e w' => e = .returned (.bool true) ∧ Below w.heap.size w w' := by
  unfold maxLen at hs
  have hz : s.size ≤ 100 := hb100
  have hm : min (s.size : Int) 100 = (s.size : Int) := by omega
  have he : (er == 0) = false := by rw [beq_eq_false_iff_ne]; exact (scanS_err _ _ _ _ hS).1
  have HI := Lib.hid (show idB s = false by
    unfold idB
    refine decide_eq_false (fun h => ?_)
    rw [id_scan _ h] at hS
    cases hS)
  have HS := Lib.hid hS
  clear hS
  · go_enter Tryd.func5, Tryd.ntmps5
    go_wp2_with fail
    refine (scan_no s _ p off er ho (by omega) HS.out).mono ?_
    rintro e w1 ⟨rfl, k1⟩
    go_wp2_with fail
    refine (known_any _ (ho.next k1)).mono ?_
    rintro e w2 ⟨rfl, k2⟩
    go_wp2_with fail
    refine (keywords_any _).mono ?_
    rintro e w3 ⟨b3, rfl, hS3, _, k3⟩
    go_wp2_with fail
    refine (refWords_any _).mono ?_
    rintro e w4 ⟨b4, rfl, hS4, _, k4⟩
    go_wp2_with fail
    refine (same_any b3 b4 8 kws _ rfl (by omega) (hS3.next k4) hS4).mono ?_
    rintro e w5 ⟨rfl, k5⟩
    go_wp2_with fail
    refine (symbols_any _).mono ?_
    rintro e w6 ⟨b6, rfl, hS6, _, k6⟩
    go_wp2_with fail
    refine (refMarks_any _).mono ?_
    rintro e w7 ⟨b7, rfl, hS7, _, k7⟩
    go_wp2_with fail
    refine (same_any b6 b7 29 syms _ rfl (by omega) (hS6.next k7) hS7).mono ?_
    rintro e w8 ⟨rfl, k8⟩
    clear hS3 hS4 hS6 hS7
    have B8 := bnext (bnext (bnext (bnext (bnext (bnext (bnext k1 k2) k3) k4) k5) k6) k7) k8
    clear k1 k2 k3 k4 k5 k6 k7 k8
    go_wp2_with fail
    refine (isIdent_any _ _ hz).mono ?_
    rintro e w9 ⟨rfl, k9⟩
    rw [HI.out]
    go_wp2_with fail
    refine (refIsIdent_any _ _ hz).mono ?_
    rintro e w10 ⟨rfl, k10⟩
    rw [HI.out]
    go_wp2_with fail
    refine (isIdent_any _ _ hz).mono ?_
    rintro e w11 ⟨rfl, k11⟩
    rw [HI.out]
    have B11 := bnext (bnext (bnext B8 k9) k10) k11
    clear B8 k9 k10 k11
    go_wp2
    go_ret
    exact ⟨rfl, B11⟩
set_option maxRecDepth 100000 in
set_option maxHeartbeats 1000000 in
theorem words_small_many (s : ByteArray) (w : World) (ho : EscAt w) (hs : s.size ≤ maxLen) (hb100 : s.size ≤ 100) (l : List (Att × Nat)) (hl : l.length ≠ 1) (hS : scanS s = .ok l) :
    Calls Tryd.prog 5 #[.string s] w fun e w' => e = .returned (.bool true) ∧ Below w.heap.size w w' := by
  unfold maxLen at hs
  have hz : s.size ≤ 100 := hb100
  have hm : min (s.size : Int) 100 = (s.size : Int) := by omega
  have HI := Lib.hid (show idB s = false by
    unfold idB
    refine decide_eq_false (fun h => ?_)
    rw [id_scan _ h] at hS
    injection hS with hS
    subst hS
    exact hl rfl)
  have hll := scan_len _ _ hS
  obtain ⟨n, hn⟩ : ∃ n, n = l.length + 1 := ⟨_, rfl⟩
  have hne : ((n : Int) == 2) = false := by rw [beq_eq_false_iff_ne]; omega
  have hn2 : n ≤ 101 := by omega
  have HNN := Lib.hid hn
  clear hn
  have HS := Lib.hid hS
  clear hS hl hll
  · go_enter Tryd.func5, Tryd.ntmps5
    go_wp2_with fail
    refine (scan_ok s _ l ho (by omega) HS.out).mono ?_
    rintro e w1 ⟨g, cap, rfl, hT, hg, hcap, k1⟩
    rw [← HNN.out] at hcap
    rw [← HNN.out]
    clear hT
    go_wp2_with fail
    refine (known_any _ (ho.next k1)).mono ?_
    rintro e w2 ⟨rfl, k2⟩
    go_wp2_with fail
    refine (keywords_any _).mono ?_
    rintro e w3 ⟨b3, rfl, hS3, _, k3⟩
    go_wp2_with fail
    refine (refWords_any _).mono ?_
    rintro e w4 ⟨b4, rfl, hS4, _, k4⟩
    go_wp2_with fail
    refine (same_any b3 b4 8 kws _ rfl (by omega) (hS3.next k4) hS4).mono ?_
    rintro e w5 ⟨rfl, k5⟩
    go_wp2_with fail
    refine (symbols_any _).mono ?_
    rintro e w6 ⟨b6, rfl, hS6, _, k6⟩
    go_wp2_with fail
    refine (refMarks_any _).mono ?_
    rintro e w7 ⟨b7, rfl, hS7, _, k7⟩
    go_wp2_with fail
    refine (same_any b6 b7 29 syms _ rfl (by omega) (hS6.next k7) hS7).mono ?_
    rintro e w8 ⟨rfl, k8⟩
    clear hS3 hS4 hS6 hS7
    have B8 := bnext (bnext (bnext (bnext (bnext (bnext (bnext k1 k2) k3) k4) k5) k6) k7) k8
    clear k1 k2 k3 k4 k5 k6 k7 k8
    go_wp2_with fail
    refine (isIdent_any _ _ hz).mono ?_
    rintro e w9 ⟨rfl, k9⟩
    rw [HI.out]
    go_wp2_with fail
    refine (refIsIdent_any _ _ hz).mono ?_
    rintro e w10 ⟨rfl, k10⟩
    rw [HI.out]
    go_wp2_with fail
    refine (isIdent_any _ _ hz).mono ?_
    rintro e w11 ⟨rfl, k11⟩
    rw [HI.out]
    have B11 := bnext (bnext (bnext B8 k9) k10) k11
    clear B8 k9 k10 k11
    go_wp2
    go_ret
    exact ⟨rfl, B11⟩
set_option maxRecDepth 100000 in
set_option maxHeartbeats 1000000 in
theorem words_small_kind (s : ByteArray) (w : World) (ho : EscAt w) (hs : s.size ≤ maxLen) (hb100 : s.size ≤ 100) (a : Att) (p : Nat) (hk : a.kind ≠ 1) (hS : scanS s = .ok [(a, p)]) :
    Calls Tryd.prog 5 #[.string s] w fun e w' => e = .returned (.bool true) ∧ Below w.heap.size w w' := by
  unfold maxLen at hs
  have hz : s.size ≤ 100 := hb100
  have hm : min (s.size : Int) 100 = (s.size : Int) := by omega
  have HI := Lib.hid (show idB s = false by
    unfold idB
    refine decide_eq_false (fun h => ?_)
    rw [id_scan _ h] at hS
    injection hS with hS
    injection hS with hS
    injection hS with hS
    subst hS
    exact hk rfl)
  have hne : (a.kind == 1) = false := by simpa using hk
  have HS := Lib.hid hS
  clear hS hk
  obtain ⟨l, hl⟩ : ∃ l, l = [(a, p)] := ⟨_, rfl⟩
  rw [← hl] at HS
  have HL2 := Lib.hid hl
  clear hl
  · go_enter Tryd.func5, Tryd.ntmps5
    go_wp2_with fail
    refine (scan_ok s _ l ho (by omega) HS.out).mono ?_
    rintro e w1 ⟨g, cap, rfl, hT, hg, hcap, k1⟩
    have hlen : l.length + 1 = 2 := by rw [HL2.out]; rfl
    rw [hlen] at hcap
    simp only [hlen]
    clear hlen
    have c0 : w1.cell? ⟨g, 0, none⟩ = some (.int .i64 a.kind) := (hT.2 0 (a, p) (by rw [HL2.out]; rfl)).1
    clear hT
    generalize a.kind = kd at *
    go_wp2_with fail
    refine (known_any _ (ho.next k1)).mono ?_
    rintro e w2 ⟨rfl, k2⟩
    go_wp2_with fail
    refine (keywords_any _).mono ?_
    rintro e w3 ⟨b3, rfl, hS3, _, k3⟩
    go_wp2_with fail
    refine (refWords_any _).mono ?_
    rintro e w4 ⟨b4, rfl, hS4, _, k4⟩
    go_wp2_with fail
    refine (same_any b3 b4 8 kws _ rfl (by omega) (hS3.next k4) hS4).mono ?_
    rintro e w5 ⟨rfl, k5⟩
    go_wp2_with fail
    refine (symbols_any _).mono ?_
    rintro e w6 ⟨b6, rfl, hS6, _, k6⟩
    go_wp2_with fail
    refine (refMarks_any _).mono ?_
    rintro e w7 ⟨b7, rfl, hS7, _, k7⟩
    go_wp2_with fail
    refine (same_any b6 b7 29 syms _ rfl (by omega) (hS6.next k7) hS7).mono ?_
    rintro e w8 ⟨rfl, k8⟩
    clear hS3 hS4 hS6 hS7
    have B8 := bnext (bnext (bnext (bnext (bnext (bnext (bnext k1 k2) k3) k4) k5) k6) k7) k8
    clear k1 k2 k3 k4 k5 k6 k7 k8
    go_wp2_with fail
    refine (isIdent_any _ _ hz).mono ?_
    rintro e w9 ⟨rfl, k9⟩
    rw [HI.out]
    go_wp2_with fail
    refine (refIsIdent_any _ _ hz).mono ?_
    rintro e w10 ⟨rfl, k10⟩
    rw [HI.out]
    go_wp2_with fail
    refine (isIdent_any _ _ hz).mono ?_
    rintro e w11 ⟨rfl, k11⟩
    rw [HI.out]
    have B11 := bnext (bnext (bnext B8 k9) k10) k11
    clear B8 k9 k10 k11
    go_wp2
    go_ret
    exact ⟨rfl, B11⟩
set_option maxRecDepth 100000 in
set_option maxHeartbeats 1000000 in
theorem words_small_text (s : ByteArray) (w : World) (ho : EscAt w) (hs : s.size ≤ maxLen) (hb100 : s.size ≤ 100) (a : Att) (p : Nat) (hk : a.kind = 1) (ht : a.text ≠ s) (hS : scanS s = .ok [(a, p)]) :
    Calls Tryd.prog 5 #[.string s] w fun e w' => e = .returned (.bool true) ∧ Below w.heap.size w w' := by
  unfold maxLen at hs
  have hz : s.size ≤ 100 := hb100
  have hm : min (s.size : Int) 100 = (s.size : Int) := by omega
  have HI := Lib.hid (show idB s = false by
    unfold idB
    refine decide_eq_false (fun h => ?_)
    rw [id_scan _ h] at hS
    injection hS with hS
    injection hS with hS
    injection hS with hS
    subst hS
    exact ht rfl)
  have hne : (a.text.toList == (s).toList) = false := by rw [str_beq]; exact decide_eq_false ht
  have HS := Lib.hid hS
  have HK := Lib.hid hk
  clear hS hk ht
  obtain ⟨l, hl⟩ : ∃ l, l = [(a, p)] := ⟨_, rfl⟩
  rw [← hl] at HS
  have HL2 := Lib.hid hl
  clear hl
  · go_enter Tryd.func5, Tryd.ntmps5
    go_wp2_with fail
    refine (scan_ok s _ l ho (by omega) HS.out).mono ?_
    rintro e w1 ⟨g, cap, rfl, hT, hg, hcap, k1⟩
    have hlen : l.length + 1 = 2 := by rw [HL2.out]; rfl
    rw [hlen] at hcap
    simp only [hlen]
    clear hlen
    have c0 : w1.cell? ⟨g, 0, none⟩ = some (.int .i64 1) := (hT.2 0 (a, p) (by rw [HL2.out]; rfl)).1.trans (by rw [HK.out])
    have c1 : w1.cell? ⟨g, 1, none⟩ = some (.string a.text) := (hT.2 0 (a, p) (by rw [HL2.out]; rfl)).2.1
    clear hT
    generalize a.text = tx at *
    go_wp2_with fail
    refine (known_any _ (ho.next k1)).mono ?_
    rintro e w2 ⟨rfl, k2⟩
    go_wp2_with fail
    refine (keywords_any _).mono ?_
    rintro e w3 ⟨b3, rfl, hS3, _, k3⟩
    go_wp2_with fail
    refine (refWords_any _).mono ?_
    rintro e w4 ⟨b4, rfl, hS4, _, k4⟩
    go_wp2_with fail
    refine (same_any b3 b4 8 kws _ rfl (by omega) (hS3.next k4) hS4).mono ?_
    rintro e w5 ⟨rfl, k5⟩
    go_wp2_with fail
    refine (symbols_any _).mono ?_
    rintro e w6 ⟨b6, rfl, hS6, _, k6⟩
    go_wp2_with fail
    refine (refMarks_any _).mono ?_
    rintro e w7 ⟨b7, rfl, hS7, _, k7⟩
    go_wp2_with fail
    refine (same_any b6 b7 29 syms _ rfl (by omega) (hS6.next k7) hS7).mono ?_
    rintro e w8 ⟨rfl, k8⟩
    clear hS3 hS4 hS6 hS7
    have B8 := bnext (bnext (bnext (bnext (bnext (bnext (bnext k1 k2) k3) k4) k5) k6) k7) k8
    clear k1 k2 k3 k4 k5 k6 k7 k8
    go_wp2_with fail
    refine (isIdent_any _ _ hz).mono ?_
    rintro e w9 ⟨rfl, k9⟩
    rw [HI.out]
    go_wp2_with fail
    refine (refIsIdent_any _ _ hz).mono ?_
    rintro e w10 ⟨rfl, k10⟩
    rw [HI.out]
    go_wp2_with fail
    refine (isIdent_any _ _ hz).mono ?_
    rintro e w11 ⟨rfl, k11⟩
    rw [HI.out]
    have B11 := bnext (bnext (bnext B8 k9) k10) k11
    clear B8 k9 k10 k11
    go_wp2
    go_ret
    exact ⟨rfl, B11⟩
set_option maxRecDepth 100000 in
set_option maxHeartbeats 1000000 in
theorem words_small_yes (s : ByteArray) (w : World) (ho : EscAt w) (hs : s.size ≤ maxLen) (hb100 : s.size ≤ 100) (a : Att) (p : Nat) (hk : a.kind = 1) (ht : a.text = s) (hS : scanS s = .ok [(a, p)]) :
    Calls Tryd.prog 5 #[.string s] w fun e w' => e = .returned (.bool true) ∧ Below w.heap.size w w' := by
  unfold maxLen at hs
  have hz : s.size ≤ 100 := hb100
  have hm : min (s.size : Int) 100 = (s.size : Int) := by omega
  have HI := Lib.hid (show idB s = true by
    unfold idB
    exact decide_eq_true (scan_id _ a p hS hk ht))
  have HS := Lib.hid hS
  have HK := Lib.hid hk
  have HTX := Lib.hid ht
  clear hS hk ht
  obtain ⟨l, hl⟩ : ∃ l, l = [(a, p)] := ⟨_, rfl⟩
  rw [← hl] at HS
  have HL2 := Lib.hid hl
  clear hl
  · go_enter Tryd.func5, Tryd.ntmps5
    go_wp2_with fail
    refine (scan_ok s _ l ho (by omega) HS.out).mono ?_
    rintro e w1 ⟨g, cap, rfl, hT, hg, hcap, k1⟩
    have hlen : l.length + 1 = 2 := by rw [HL2.out]; rfl
    rw [hlen] at hcap
    simp only [hlen]
    clear hlen
    have c0 : w1.cell? ⟨g, 0, none⟩ = some (.int .i64 1) := (hT.2 0 (a, p) (by rw [HL2.out]; rfl)).1.trans (by rw [HK.out])
    have c1 : w1.cell? ⟨g, 1, none⟩ = some (.string (s)) := (hT.2 0 (a, p) (by rw [HL2.out]; rfl)).2.1.trans (by rw [HTX.out])
    clear hT
    go_wp2_with fail
    refine (known_any _ (ho.next k1)).mono ?_
    rintro e w2 ⟨rfl, k2⟩
    go_wp2_with fail
    refine (keywords_any _).mono ?_
    rintro e w3 ⟨b3, rfl, hS3, _, k3⟩
    go_wp2_with fail
    refine (refWords_any _).mono ?_
    rintro e w4 ⟨b4, rfl, hS4, _, k4⟩
    go_wp2_with fail
    refine (same_any b3 b4 8 kws _ rfl (by omega) (hS3.next k4) hS4).mono ?_
    rintro e w5 ⟨rfl, k5⟩
    go_wp2_with fail
    refine (symbols_any _).mono ?_
    rintro e w6 ⟨b6, rfl, hS6, _, k6⟩
    go_wp2_with fail
    refine (refMarks_any _).mono ?_
    rintro e w7 ⟨b7, rfl, hS7, _, k7⟩
    go_wp2_with fail
    refine (same_any b6 b7 29 syms _ rfl (by omega) (hS6.next k7) hS7).mono ?_
    rintro e w8 ⟨rfl, k8⟩
    clear hS3 hS4 hS6 hS7
    have B8 := bnext (bnext (bnext (bnext (bnext (bnext (bnext k1 k2) k3) k4) k5) k6) k7) k8
    clear k1 k2 k3 k4 k5 k6 k7 k8
    go_wp2_with fail
    refine (isIdent_any _ _ hz).mono ?_
    rintro e w9 ⟨rfl, k9⟩
    rw [HI.out]
    go_wp2_with fail
    refine (refIsIdent_any _ _ hz).mono ?_
    rintro e w10 ⟨rfl, k10⟩
    rw [HI.out]
    go_wp2_with fail
    refine (isIdent_any _ _ hz).mono ?_
    rintro e w11 ⟨rfl, k11⟩
    rw [HI.out]
    have B11 := bnext (bnext (bnext B8 k9) k10) k11
    clear B8 k9 k10 k11
    go_wp2
    go_ret
    exact ⟨rfl, B11⟩
theorem words_small (s : ByteArray) (w : World) (ho : EscAt w) (hs : s.size ≤ maxLen) (hb100 : s.size ≤ 100) :
    Calls Tryd.prog 5 #[.string s] w fun e w' => e = .returned (.bool true) ∧ Below w.heap.size w w' := by
  cases hS : scanS s with
  | err p off er => exact words_small_err s w ho hs hb100 p off er hS
  | ok l =>
    by_cases hl : l.length = 1
    · match l, hl, hS with
      | [(a, p)], _, hS =>
        by_cases hk : a.kind = 1
        · by_cases ht : a.text = s
          · exact words_small_yes s w ho hs hb100 a p hk ht hS
          · exact words_small_text s w ho hs hb100 a p hk ht hS
        · exact words_small_kind s w ho hs hb100 a p hk hS
    · exact words_small_many s w ho hs hb100 l hl hS
set_option maxRecDepth 100000 in
set_option maxHeartbeats 1000000 in
theorem words_large_err (s : ByteArray) (w : World) (ho : EscAt w) (hs : s.size ≤ maxLen) (hb100 : 100 < s.size) (p : Nat) (off er : Int) (hS : scanS (s.extract 0 100) = .err p off er) :
    Calls Tryd.prog 5 #[.string s] w fun e w' => e = .returned (.bool true) ∧ Below w.heap.size w w' := by
  unfold maxLen at hs
  have hz : (s.extract 0 100).size ≤ 100 := by rw [size_extract _ _ _ (by omega)]; omega
  have hm : min (s.size : Int) 100 = 100 := by omega
  have he : (er == 0) = false := by rw [beq_eq_false_iff_ne]; exact (scanS_err _ _ _ _ hS).1
  have HI := Lib.hid (show idB (s.extract 0 100) = false by
    unfold idB
    refine decide_eq_false (fun h => ?_)
    rw [id_scan _ h] at hS
    cases hS)
  have HS := Lib.hid hS
  clear hS
  · go_enter Tryd.func5, Tryd.ntmps5
    go_wp2_with fail
    refine (scan_no (s.extract 0 100) _ p off er ho (by omega) HS.out).mono ?_
    rintro e w1 ⟨rfl, k1⟩
    go_wp2_with fail
    refine (known_any _ (ho.next k1)).mono ?_
    rintro e w2 ⟨rfl, k2⟩
    go_wp2_with fail
    refine (keywords_any _).mono ?_
    rintro e w3 ⟨b3, rfl, hS3, _, k3⟩
    go_wp2_with fail
    refine (refWords_any _).mono ?_
    rintro e w4 ⟨b4, rfl, hS4, _, k4⟩
    go_wp2_with fail
    refine (same_any b3 b4 8 kws _ rfl (by omega) (hS3.next k4) hS4).mono ?_
    rintro e w5 ⟨rfl, k5⟩
    go_wp2_with fail
    refine (symbols_any _).mono ?_
    rintro e w6 ⟨b6, rfl, hS6, _, k6⟩
    go_wp2_with fail
    refine (refMarks_any _).mono ?_
    rintro e w7 ⟨b7, rfl, hS7, _, k7⟩
    go_wp2_with fail
    refine (same_any b6 b7 29 syms _ rfl (by omega) (hS6.next k7) hS7).mono ?_
    rintro e w8 ⟨rfl, k8⟩
    clear hS3 hS4 hS6 hS7
    have B8 := bnext (bnext (bnext (bnext (bnext (bnext (bnext k1 k2) k3) k4) k5) k6) k7) k8
    clear k1 k2 k3 k4 k5 k6 k7 k8
    go_wp2_with fail
    refine (isIdent_any _ _ hz).mono ?_
    rintro e w9 ⟨rfl, k9⟩
    rw [HI.out]
    go_wp2_with fail
    refine (refIsIdent_any _ _ hz).mono ?_
    rintro e w10 ⟨rfl, k10⟩
    rw [HI.out]
    go_wp2_with fail
    refine (isIdent_any _ _ hz).mono ?_
    rintro e w11 ⟨rfl, k11⟩
    rw [HI.out]
    have B11 := bnext (bnext (bnext B8 k9) k10) k11
    clear B8 k9 k10 k11
    go_wp2
    go_ret
    exact ⟨rfl, B11⟩
set_option maxRecDepth 100000 in
set_option maxHeartbeats 1000000 in
theorem words_large_many (s : ByteArray) (w : World) (ho : EscAt w) (hs : s.size ≤ maxLen) (hb100 : 100 < s.size) (l : List (Att × Nat)) (hl : l.length ≠ 1) (hS : scanS (s.extract 0 100) = .ok l) :
    Calls Tryd.prog 5 #[.string s] w fun e w' => e = .returned (.bool true) ∧ Below w.heap.size w w' := by
  unfold maxLen at hs
  have hz : (s.extract 0 100).size ≤ 100 := by rw [size_extract _ _ _ (by omega)]; omega
  have hm : min (s.size : Int) 100 = 100 := by omega
  have HI := Lib.hid (show idB (s.extract 0 100) = false by
    unfold idB
    refine decide_eq_false (fun h => ?_)
    rw [id_scan _ h] at hS
    injection hS with hS
    subst hS
    exact hl rfl)
  have hll := scan_len _ _ hS
  obtain ⟨n, hn⟩ : ∃ n, n = l.length + 1 := ⟨_, rfl⟩
  have hne : ((n : Int) == 2) = false := by rw [beq_eq_false_iff_ne]; omega
  have hn2 : n ≤ 101 := by omega
  have HNN := Lib.hid hn
  clear hn
  have HS := Lib.hid hS
  clear hS hl hll
  · go_enter Tryd.func5, Tryd.ntmps5
    go_wp2_with fail
    refine (scan_ok (s.extract 0 100) _ l ho (by omega) HS.out).mono ?_
    rintro e w1 ⟨g, cap, rfl, hT, hg, hcap, k1⟩
    rw [← HNN.out] at hcap
    rw [← HNN.out]
    clear hT
    go_wp2_with fail
    refine (known_any _ (ho.next k1)).mono ?_
    rintro e w2 ⟨rfl, k2⟩
    go_wp2_with fail
    refine (keywords_any _).mono ?_
    rintro e w3 ⟨b3, rfl, hS3, _, k3⟩
    go_wp2_with fail
    refine (refWords_any _).mono ?_
    rintro e w4 ⟨b4, rfl, hS4, _, k4⟩
    go_wp2_with fail
    refine (same_any b3 b4 8 kws _ rfl (by omega) (hS3.next k4) hS4).mono ?_
    rintro e w5 ⟨rfl, k5⟩
    go_wp2_with fail
    refine (symbols_any _).mono ?_
    rintro e w6 ⟨b6, rfl, hS6, _, k6⟩
    go_wp2_with fail
    refine (refMarks_any _).mono ?_
    rintro e w7 ⟨b7, rfl, hS7, _, k7⟩
    go_wp2_with fail
    refine (same_any b6 b7 29 syms _ rfl (by omega) (hS6.next k7) hS7).mono ?_
    rintro e w8 ⟨rfl, k8⟩
    clear hS3 hS4 hS6 hS7
    have B8 := bnext (bnext (bnext (bnext (bnext (bnext (bnext k1 k2) k3) k4) k5) k6) k7) k8
    clear k1 k2 k3 k4 k5 k6 k7 k8
    go_wp2_with fail
    refine (isIdent_any _ _ hz).mono ?_
    rintro e w9 ⟨rfl, k9⟩
    rw [HI.out]
    go_wp2_with fail
    refine (refIsIdent_any _ _ hz).mono ?_
    rintro e w10 ⟨rfl, k10⟩
    rw [HI.out]
    go_wp2_with fail
    refine (isIdent_any _ _ hz).mono ?_
    rintro e w11 ⟨rfl, k11⟩
    rw [HI.out]
    have B11 := bnext (bnext (bnext B8 k9) k10) k11
    clear B8 k9 k10 k11
    go_wp2
    go_ret
    exact ⟨rfl, B11⟩
set_option maxRecDepth 100000 in
set_option maxHeartbeats 1000000 in
theorem words_large_kind (s : ByteArray) (w : World) (ho : EscAt w) (hs : s.size ≤ maxLen) (hb100 : 100 < s.size) (a : Att) (p : Nat) (hk : a.kind ≠ 1) (hS : scanS (s.extract 0 100) = .ok [(a, p)]) :
    Calls Tryd.prog 5 #[.string s] w fun e w' => e = .returned (.bool true) ∧ Below w.heap.size w w' := by
  unfold maxLen at hs
  have hz : (s.extract 0 100).size ≤ 100 := by rw [size_extract _ _ _ (by omega)]; omega
  have hm : min (s.size : Int) 100 = 100 := by omega
  have HI := Lib.hid (show idB (s.extract 0 100) = false by
    unfold idB
    refine decide_eq_false (fun h => ?_)
    rw [id_scan _ h] at hS
    injection hS with hS
    injection hS with hS
    injection hS with hS
    subst hS
    exact hk rfl)
  have hne : (a.kind == 1) = false := by simpa using hk
  have HS := Lib.hid hS
  clear hS hk
  obtain ⟨l, hl⟩ : ∃ l, l = [(a, p)] := ⟨_, rfl⟩
  rw [← hl] at HS
  have HL2 := Lib.hid hl
  clear hl
  · go_enter Tryd.func5, Tryd.ntmps5
    go_wp2_with fail
    refine (scan_ok (s.extract 0 100) _ l ho (by omega) HS.out).mono ?_
    rintro e w1 ⟨g, cap, rfl, hT, hg, hcap, k1⟩
    have hlen : l.length + 1 = 2 := by rw [HL2.out]; rfl
    rw [hlen] at hcap
    simp only [hlen]
    clear hlen
    have c0 : w1.cell? ⟨g, 0, none⟩ = some (.int .i64 a.kind) := (hT.2 0 (a, p) (by rw [HL2.out]; rfl)).1
    clear hT
    generalize a.kind = kd at *
    go_wp2_with fail
    refine (known_any _ (ho.next k1)).mono ?_
    rintro e w2 ⟨rfl, k2⟩
    go_wp2_with fail
    refine (keywords_any _).mono ?_
    rintro e w3 ⟨b3, rfl, hS3, _, k3⟩
    go_wp2_with fail
    refine (refWords_any _).mono ?_
    rintro e w4 ⟨b4, rfl, hS4, _, k4⟩
    go_wp2_with fail
    refine (same_any b3 b4 8 kws _ rfl (by omega) (hS3.next k4) hS4).mono ?_
    rintro e w5 ⟨rfl, k5⟩
    go_wp2_with fail
    refine (symbols_any _).mono ?_
    rintro e w6 ⟨b6, rfl, hS6, _, k6⟩
    go_wp2_with fail
    refine (refMarks_any _).mono ?_
    rintro e w7 ⟨b7, rfl, hS7, _, k7⟩
    go_wp2_with fail
    refine (same_any b6 b7 29 syms _ rfl (by omega) (hS6.next k7) hS7).mono ?_
    rintro e w8 ⟨rfl, k8⟩
    clear hS3 hS4 hS6 hS7
    have B8 := bnext (bnext (bnext (bnext (bnext (bnext (bnext k1 k2) k3) k4) k5) k6) k7) k8
    clear k1 k2 k3 k4 k5 k6 k7 k8
    go_wp2_with fail
    refine (isIdent_any _ _ hz).mono ?_
    rintro e w9 ⟨rfl, k9⟩
    rw [HI.out]
    go_wp2_with fail
    refine (refIsIdent_any _ _ hz).mono ?_
    rintro e w10 ⟨rfl, k10⟩
    rw [HI.out]
    go_wp2_with fail
    refine (isIdent_any _ _ hz).mono ?_
    rintro e w11 ⟨rfl, k11⟩
    rw [HI.out]
    have B11 := bnext (bnext (bnext B8 k9) k10) k11
    clear B8 k9 k10 k11
    go_wp2
    go_ret
    exact ⟨rfl, B11⟩
set_option maxRecDepth 100000 in
set_option maxHeartbeats 1000000 in
theorem words_large_text (s : ByteArray) (w : World) (ho : EscAt w) (hs : s.size ≤ maxLen) (hb100 : 100 < s.size) (a : Att) (p : Nat) (hk : a.kind = 1) (ht : a.text ≠ (s.extract 0 100)) (hS : scanS (s.extract 0 100) = .ok [(a, p)]) :
    Calls Tryd.prog 5 #[.string s] w fun e w' => e = .returned (.bool true) ∧ Below w.heap.size w w' := by
  unfold maxLen at hs
  have hz : (s.extract 0 100).size ≤ 100 := by rw [size_extract _ _ _ (by omega)]; omega
  have hm : min (s.size : Int) 100 = 100 := by omega
  have HI := Lib.hid (show idB (s.extract 0 100) = false by
    unfold idB
    refine decide_eq_false (fun h => ?_)
    rw [id_scan _ h] at hS
    injection hS with hS
    injection hS with hS
    injection hS with hS
    subst hS
    exact ht rfl)
  have hne : (a.text.toList == ((s.extract 0 100)).toList) = false := by rw [str_beq]; exact decide_eq_false ht
  have HS := Lib.hid hS
  have HK := Lib.hid hk
  clear hS hk ht
  obtain ⟨l, hl⟩ : ∃ l, l = [(a, p)] := ⟨_, rfl⟩
  rw [← hl] at HS
  have HL2 := Lib.hid hl
  clear hl
  · go_enter Tryd.func5, Tryd.ntmps5
    go_wp2_with fail
    refine (scan_ok (s.extract 0 100) _ l ho (by omega) HS.out).mono ?_
    rintro e w1 ⟨g, cap, rfl, hT, hg, hcap, k1⟩
    have hlen : l.length + 1 = 2 := by rw [HL2.out]; rfl
    rw [hlen] at hcap
    simp only [hlen]
    clear hlen
    have c0 : w1.cell? ⟨g, 0, none⟩ = some (.int .i64 1) := (hT.2 0 (a, p) (by rw [HL2.out]; rfl)).1.trans (by rw [HK.out])
    have c1 : w1.cell? ⟨g, 1, none⟩ = some (.string a.text) := (hT.2 0 (a, p) (by rw [HL2.out]; rfl)).2.1
    clear hT
    generalize a.text = tx at *
    go_wp2_with fail
    refine (known_any _ (ho.next k1)).mono ?_
    rintro e w2 ⟨rfl, k2⟩
    go_wp2_with fail
    refine (keywords_any _).mono ?_
    rintro e w3 ⟨b3, rfl, hS3, _, k3⟩
    go_wp2_with fail
    refine (refWords_any _).mono ?_
    rintro e w4 ⟨b4, rfl, hS4, _, k4⟩
    go_wp2_with fail
    refine (same_any b3 b4 8 kws _ rfl (by omega) (hS3.next k4) hS4).mono ?_
    rintro e w5 ⟨rfl, k5⟩
    go_wp2_with fail
    refine (symbols_any _).mono ?_
    rintro e w6 ⟨b6, rfl, hS6, _, k6⟩
    go_wp2_with fail
    refine (refMarks_any _).mono ?_
    rintro e w7 ⟨b7, rfl, hS7, _, k7⟩
    go_wp2_with fail
    refine (same_any b6 b7 29 syms _ rfl (by omega) (hS6.next k7) hS7).mono ?_
    rintro e w8 ⟨rfl, k8⟩
    clear hS3 hS4 hS6 hS7
    have B8 := bnext (bnext (bnext (bnext (bnext (bnext (bnext k1 k2) k3) k4) k5) k6) k7) k8
    clear k1 k2 k3 k4 k5 k6 k7 k8
    go_wp2_with fail
    refine (isIdent_any _ _ hz).mono ?_
    rintro e w9 ⟨rfl, k9⟩
    rw [HI.out]
    go_wp2_with fail
    refine (refIsIdent_any _ _ hz).mono ?_
    rintro e w10 ⟨rfl, k10⟩
    rw [HI.out]
    go_wp2_with fail
    refine (isIdent_any _ _ hz).mono ?_
    rintro e w11 ⟨rfl, k11⟩
    rw [HI.out]
    have B11 := bnext (bnext (bnext B8 k9) k10) k11
    clear B8 k9 k10 k11
    go_wp2
    go_ret
    exact ⟨rfl, B11⟩
set_option maxRecDepth 100000 in
set_option maxHeartbeats 1000000 in
theorem words_large_yes (s : ByteArray) (w : World) (ho : EscAt w) (hs : s.size ≤ maxLen) (hb100 : 100 < s.size) (a : Att) (p : Nat) (hk : a.kind = 1) (ht : a.text = (s.extract 0 100)) (hS : scanS (s.extract 0 100) = .ok [(a, p)]) :
    Calls Tryd.prog 5 #[.string s] w fun e w' => e = .returned (.bool true) ∧ Below w.heap.size w w' := by
  unfold maxLen at hs
  have hz : (s.extract 0 100).size ≤ 100 := by rw [size_extract _ _ _ (by omega)]; omega
  have hm : min (s.size : Int) 100 = 100 := by omega
  have HI := Lib.hid (show idB (s.extract 0 100) = true by
    unfold idB
    exact decide_eq_true (scan_id _ a p hS hk ht))
  have HS := Lib.hid hS
  have HK := Lib.hid hk
  have HTX := Lib.hid ht
  clear hS hk ht
  obtain ⟨l, hl⟩ : ∃ l, l = [(a, p)] := ⟨_, rfl⟩
  rw [← hl] at HS
  have HL2 := Lib.hid hl
  clear hl
  · go_enter Tryd.func5, Tryd.ntmps5
    go_wp2_with fail
    refine (scan_ok (s.extract 0 100) _ l ho (by omega) HS.out).mono ?_
    rintro e w1 ⟨g, cap, rfl, hT, hg, hcap, k1⟩
    have hlen : l.length + 1 = 2 := by rw [HL2.out]; rfl
    rw [hlen] at hcap
    simp only [hlen]
    clear hlen
    have c0 : w1.cell? ⟨g, 0, none⟩ = some (.int .i64 1) := (hT.2 0 (a, p) (by rw [HL2.out]; rfl)).1.trans (by rw [HK.out])
    have c1 : w1.cell? ⟨g, 1, none⟩ = some (.string ((s.extract 0 100))) := (hT.2 0 (a, p) (by rw [HL2.out]; rfl)).2.1.trans (by rw [HTX.out])
    clear hT
    go_wp2_with fail
    refine (known_any _ (ho.next k1)).mono ?_
    rintro e w2 ⟨rfl, k2⟩
    go_wp2_with fail
    refine (keywords_any _).mono ?_
    rintro e w3 ⟨b3, rfl, hS3, _, k3⟩
    go_wp2_with fail
    refine (refWords_any _).mono ?_
    rintro e w4 ⟨b4, rfl, hS4, _, k4⟩
    go_wp2_with fail
    refine (same_any b3 b4 8 kws _ rfl (by omega) (hS3.next k4) hS4).mono ?_
    rintro e w5 ⟨rfl, k5⟩
    go_wp2_with fail
    refine (symbols_any _).mono ?_
    rintro e w6 ⟨b6, rfl, hS6, _, k6⟩
    go_wp2_with fail
    refine (refMarks_any _).mono ?_
    rintro e w7 ⟨b7, rfl, hS7, _, k7⟩
    go_wp2_with fail
    refine (same_any b6 b7 29 syms _ rfl (by omega) (hS6.next k7) hS7).mono ?_
    rintro e w8 ⟨rfl, k8⟩
    clear hS3 hS4 hS6 hS7
    have B8 := bnext (bnext (bnext (bnext (bnext (bnext (bnext k1 k2) k3) k4) k5) k6) k7) k8
    clear k1 k2 k3 k4 k5 k6 k7 k8
    go_wp2_with fail
    refine (isIdent_any _ _ hz).mono ?_
    rintro e w9 ⟨rfl, k9⟩
    rw [HI.out]
    go_wp2_with fail
    refine (refIsIdent_any _ _ hz).mono ?_
    rintro e w10 ⟨rfl, k10⟩
    rw [HI.out]
    go_wp2_with fail
    refine (isIdent_any _ _ hz).mono ?_
    rintro e w11 ⟨rfl, k11⟩
    rw [HI.out]
    have B11 := bnext (bnext (bnext B8 k9) k10) k11
    clear B8 k9 k10 k11
    go_wp2
    go_ret
    exact ⟨rfl, B11⟩
theorem words_large (s : ByteArray) (w : World) (ho : EscAt w) (hs : s.size ≤ maxLen) (hb100 : 100 < s.size) :
    Calls Tryd.prog 5 #[.string s] w fun e w' => e = .returned (.bool true) ∧ Below w.heap.size w w' := by
  cases hS : scanS (s.extract 0 100) with
  | err p off er => exact words_large_err s w ho hs hb100 p off er hS
  | ok l =>
    by_cases hl : l.length = 1
    · match l, hl, hS with
      | [(a, p)], _, hS =>
        by_cases hk : a.kind = 1
        · by_cases ht : a.text = (s.extract 0 100)
          · exact words_large_yes s w ho hs hb100 a p hk ht hS
          · exact words_large_text s w ho hs hb100 a p hk ht hS
        · exact words_large_kind s w ho hs hb100 a p hk hS
    · exact words_large_many s w ho hs hb100 l hl hS
theorem words_walk (s : ByteArray) (w : World) (ho : EscAt w) (hs : s.size ≤ maxLen) :
    Calls Tryd.prog 5 #[.string s] w fun e w' => e = .returned (.bool true) ∧ Below w.heap.size w w' := by
  by_cases h : s.size ≤ 100
  · exact words_small s w ho hs h
  · exact words_large s w ho hs (by omega)
end Go.Proofs.YtdhfkokinnmfhaaDoor
