/- The law CommandQuotes, walked. -/
import Derived.Test.YtiddchpkmcncdaaX31
import Derived.Test.YtiddchpkmcncdaaK9
import Derived.Test.YtiddchpkmcncdaaL1
namespace Go.Proofs.Ytiddchpkmcncdaa
open Go.RowKit
set_option linter.unusedSimpArgs false
set_option linter.unusedVariables false
theorem per_cases (n : Int) (h : perI n = true) : (32 ≤ n ∧ n ≤ 126) ∨ n = 9 := by unfold perI at h; simp at h; omega
theorem per_not (n : Int) (h : perI n = false) : (n < 32 ∧ n ≠ 9) ∨ 126 < n := by
  have : ¬ ((32 ≤ n ∧ n ≤ 126) ∨ n = 9) := by
    intro h2
    have : perI n = true := by unfold perI; simp; omega
    rw [this] at h; cases h
  omega
theorem bad_lt (l : Bs) (k : Nat) (hk : k < badS l) : perI (n8 (l.getD k 0)) = true := by
  unfold badS at hk
  induction l generalizing k with
  | nil => simp at hk
  | cons b l ih =>
    by_cases hb : perI (n8 b) = true
    · rw [List.takeWhile_cons_of_pos (p := fun b => perI (n8 b)) hb] at hk
      cases k with
      | zero => exact hb
      | succ k => exact ih k (by simpa using hk)
    · rw [List.takeWhile_cons_of_neg (p := fun b => perI (n8 b)) hb] at hk
      simp at hk
theorem bad_eq (l : Bs) (h : badS l < l.length) : perI (n8 (l.getD (badS l) 0)) = false := by
  unfold badS at h ⊢
  induction l with
  | nil => simp at h
  | cons b l ih =>
    by_cases hb : perI (n8 b) = true
    · rw [List.takeWhile_cons_of_pos (p := fun b => perI (n8 b)) hb] at h ⊢
      exact ih (by simpa using h)
    · rw [List.takeWhile_cons_of_neg (p := fun b => perI (n8 b)) hb]
      simpa using hb
theorem bad_all (l : Bs) (h : ¬ badS l < l.length) : l.all (fun b => perI (n8 b)) = true := by
  rw [List.all_eq_true]
  intro x hx
  obtain ⟨k, hk, rfl⟩ := List.getElem_of_mem hx
  have := bad_lt l k (by omega)
  rw [List.getD_eq_getElem?_getD, List.getElem?_eq_getElem hk] at this
  exact this
theorem one_word {w : World} {v : Value} {p : Wd} (h : RowRd 42 wdV NW w v [p]) : ∃ b o c A n c2, v = .slice (some ⟨b, o, none⟩) 1 c ∧ 1 ≤ c ∧ b < w.heap.size ∧ w.cell? ⟨b, o, none⟩ = some (.slice A n c2) ∧ RdW w (.slice A n c2) p := by
  obtain ⟨b, o, c, u, hv, hc, hb, hn, hx⟩ := h.at_ wdV_len (i := 0) (x := p) rfl
  obtain ⟨A, c2, hu, _⟩ := Rd.form (show RdW w u p from hn)
  subst hu
  exact ⟨b, o, c, A, _, c2, hv, hc, hb, hx 0 _ rfl, hn⟩
theorem Quote_bad (w : World) (l : Bs) (hl : l.length ≤ 100000) (h : badS l < l.length) : Calls Try.prog 28 #[.string (bs l)] w fun e w' => e = .returned (.tuple #[.string ⟨#[]⟩, .int .i64 6]) ∧ Below w.heap.size w w' := by
  refine (Quote_any w l hl).mono ?_
  rintro e w' ⟨h1, h2⟩
  rw [if_pos h] at h1
  exact ⟨h1, h2⟩
theorem Quote_good (w : World) (l T : Bs) (hl : l.length ≤ 100000) (h : ¬ badS l < l.length) (hT : txtS false [lit l] = T) : Calls Try.prog 28 #[.string (bs l)] w fun e w' => e = .returned (.tuple #[.string (bs T), .int .i64 0]) ∧ Below w.heap.size w w' := by
  refine (Quote_any w l hl).mono ?_
  rintro e w' ⟨h1, h2⟩
  rw [if_neg h, hT] at h1
  exact ⟨h1, h2⟩
theorem Literal_is (w : World) (l T : Bs) (hl : (bs l).size ≤ 100000) (hT : txtS false [lit l] = T) : Calls Try.prog 29 #[.string (bs l), .bool false] w fun e w' => e = .returned (.string (bs T)) ∧ w = w' := by
  refine (Literal_any (bs l) w hl).mono ?_
  rintro e w' ⟨h1, h2⟩
  rw [bs_list, ← txt_lit, hT] at h1
  exact ⟨h1, h2⟩
set_option maxRecDepth 100000 in
set_option maxHeartbeats 4000000 in
theorem quotes_small (s : ByteArray) (w : World) (hs : s.size ≤ maxLen) (h60 : s.size ≤ 200) :
    Calls Try.prog 7 #[.string s] w fun e w' => e = .returned (.bool true) ∧ Below w.heap.size w w' := by
  unfold maxLen at hs
  have hm : min (s.size : Int) 200 = s.size := by omega
  have HCZ := Lib.hid h60
  go_enter Try.func7, Try.ntmps7
  go_upto_region 2 with (fail)
  clear hm h60
  generalize s = c at *
  obtain ⟨l, rfl⟩ : ∃ l, c = bs l := ⟨c.data.toList, (bs_of c).symm⟩
  have hc : (bs l).size ≤ 200 := HCZ.out
  have hlz : (bs l).size ≤ 100000 := by omega
  have hll : l.length ≤ 200 := by rw [← bs_size]; exact hc
  clear HCZ
  by_cases hbad : badS l < l.length
  · have HBD := Lib.hid hbad
    go_wp2_with fail
    refine (Quote_bad _ l (by omega) HBD.out).mono ?_
    rintro e w1 ⟨rfl, hb1⟩
    go_wp2_with fail
    refine (known_any _).mono ?_
    rintro e w2 ⟨rfl, hb2⟩
    have HB1 := Lib.hid (hb1.trans (hb2.mono hb1.size))
    have hbz : badS l < (bs l).size := by rw [bs_size]; exact hbad
    have HBE := Lib.hid (bad_eq l hbad)
    have HBL := Lib.hid (bad_lt l)
    obtain ⟨q, hq⟩ : ∃ q, badS l = q := ⟨_, rfl⟩
    rw [hq] at hbz HBE HBL
    clear hb1 hb2 hbad hq HBD
    go_wp2
    go_loopg [5] (q + 1) (fun gk i wr => ∃ k : Nat, i = .int .i64 k ∧ k ≤ q ∧ gk + k = q + 1 ∧ w2 = wr)
    case atStart => exact ⟨0, rfl, Nat.zero_le _, by omega, rfl⟩
    case round =>
      obtain ⟨k, rfl, hk, hgk, rfl⟩ := hrel
      have hlt : k < (bs l).size := by omega
      have hbk := bt_of (bs l) k hlt
      by_cases hkq : k < q
      · have HQ := Lib.hid (show perI (bt (bs l) k) = true by rw [bt_getD]; exact HBL.out k hkq)
        rcases per_cases _ HQ.out with hx | hx
        · have f0 : decide (bt (bs l) k < 32) = false := by simp; omega
          have f1 : decide (126 < bt (bs l) k) = false := by simp; omega
          clear hx
          go_wp2
          go_roundg (gk - 1)
          case rel => exact ⟨k + 1, by go_num, by omega, by omega, rfl⟩
          case measure => omega
        · have f0 : decide (bt (bs l) k < 32) = true := by simp; omega
          have f1 : (bt (bs l) k == 9) = true := by simpa using hx
          have f2 : (bt (bs l) k != 9) = false := by simp [hx]
          clear hx
          go_wp2
          go_roundg (gk - 1)
          case rel => exact ⟨k + 1, by go_num, by omega, by omega, rfl⟩
          case measure => omega
      · obtain rfl : k = q := by omega
        have HQ := Lib.hid (show perI (bt (bs l) k) = false by rw [bt_getD]; exact HBE.out)
        rcases per_not _ HQ.out with hx | hx
        · have f0 : decide (bt (bs l) k < 32) = true := by simp; omega
          have f1 : (bt (bs l) k == 9) = false := beq_false_of_ne hx.2
          have f2 : (bt (bs l) k != 9) = true := by simpa using hx.2
          clear hx
          go_wp2
          go_ret
          exact ⟨rfl, HB1.out⟩
        · have f0 : decide (bt (bs l) k < 32) = false := by simp; omega
          have f3 : decide (126 < bt (bs l) k) = true := by simpa using hx
          have f1 : (bt (bs l) k == 9) = false := beq_false_of_ne (by omega)
          have f2 : (bt (bs l) k != 9) = true := by simp; omega
          clear hx
          go_wp2
          go_ret
          exact ⟨rfl, HB1.out⟩
  · have HBD := Lib.hid hbad
    obtain ⟨T, hT⟩ : ∃ T, txtS false [lit l] = T := ⟨_, rfl⟩
    have HT := Lib.hid hT
    have hTz : (bs T).size ≤ 100000 := by rw [bs_size, ← hT]; have := txt_lit_len l; omega
    have HPAR := Lib.hid (par_lit l hll (bad_all l hbad))
    have HALL := Lib.hid (bad_lt l)
    have HBL := Lib.hid (show badS l = l.length by have := tw_le (fun b => perI (n8 b)) l; have h2 : badS l = (l.takeWhile fun b => perI (n8 b)).length := rfl; omega)
    clear hT hbad
    go_wp2_with fail
    refine (Quote_good _ l T (by omega) HBD.out HT.out).mono ?_
    rintro e w1 ⟨rfl, hb1⟩
    go_wp2_with fail
    refine (known_any _).mono ?_
    rintro e w2 ⟨rfl, hb2⟩
    have HB1 := Lib.hid (hb1.trans (hb2.mono hb1.size))
    clear hb1 hb2
    go_wp2
    go_loopg [5] ((bs l).size + 1) (fun gk i wr => ∃ k : Nat, i = .int .i64 k ∧ k ≤ (bs l).size ∧ gk + k = (bs l).size + 1 ∧ w2 = wr)
    case atStart => exact ⟨0, rfl, Nat.zero_le _, by omega, rfl⟩
    case round =>
      obtain ⟨k, rfl, hk, hgk, rfl⟩ := hrel
      by_cases hlt : k < (bs l).size
      · have hbk := bt_of (bs l) k hlt
        have HQ := Lib.hid (show perI (bt (bs l) k) = true by rw [bt_getD]; exact HALL.out k (by rw [HBL.out, ← bs_size]; exact hlt))
        rcases per_cases _ HQ.out with hx | hx
        · have f0 : decide (bt (bs l) k < 32) = false := by simp; omega
          have f1 : decide (126 < bt (bs l) k) = false := by simp; omega
          clear hx
          go_wp2
          go_roundg (gk - 1)
          case rel => exact ⟨k + 1, by go_num, by omega, by omega, rfl⟩
          case measure => omega
        · have f0 : decide (bt (bs l) k < 32) = true := by simp; omega
          have f1 : (bt (bs l) k == 9) = true := by simpa using hx
          have f2 : (bt (bs l) k != 9) = false := by simp [hx]
          clear hx
          go_wp2
          go_roundg (gk - 1)
          case rel => exact ⟨k + 1, by go_num, by omega, by omega, rfl⟩
          case measure => omega
      · obtain rfl : k = (bs l).size := by omega
        go_wp2_with fail
        refine (Parse_ok _ _ (litL l) (by rw [bs_list, ← HT.out]; exact HPAR.out) hTz).mono ?_
        rintro e w3 ⟨v3, rfl, hrd, hb3⟩
        have hbg : (litL l).bg = false := rfl
        rw [hbg]
        clear hbg
        have HRD := Lib.hid (show RowRd 49 plV NP w3 v3 [⟨0, [⟨[], [[lit l]], [], [], false⟩]⟩] from hrd)
        obtain ⟨A1, c1, rfl, _⟩ := hrd.form
        have hp1 : (litL l).parts.length = 1 := rfl
        rw [hp1] at HRD ⊢
        clear hp1
        have HR2 := Lib.hid (HRD.out.pl_next ((Below.refl _ _).alloc (Nat.le_refl _) (.cells #[.slice A1 1 c1, .bool false] 24)))
        have HL2 := Lib.hid (Blk.new w3 24 #[.slice A1 1 c1, .bool false])
        have HB2 := Lib.hid (HB1.out.trans ((hb3.alloc hb3.size (.cells #[.slice A1 1 c1, .bool false] 24)).mono HB1.out.size))
        clear hrd hb3 HRD HB1
        go_upto_region 11 with (fail)
        generalize (w3.alloc (.cells #[.slice A1 1 c1, .bool false] 24)) = w4 at *
        generalize w3.heap.size = lb at *
        obtain ⟨b1, o1, d1, b2, o2, d2, v5, hv5, hd1, hb1l, x1, hd2, hb2l, hns, _, x3⟩ := one_cmd HR2.out
        obtain ⟨b3, o3, d3, A6, n6, d6, hv6, hd3, hb3l, x4, hrw⟩ := one_word (show RowRd 42 wdV NW w4 v5.b [[lit l]] from hns.2.1)
        rw [hv6] at x3
        injection hv5 with hv5a _ hv5c
        subst hv5a hv5c
        have l0 : w4.cell? ⟨lb, 0, none⟩ = some (.slice (some ⟨b1, o1, none⟩) 1 c1) := HL2.out.cell 0
        have hlb : lb < w4.heap.size := HL2.out.lt
        have HRW := Lib.hid hrw
        clear HR2 HL2 hns hrw hv6
        go_wp2_with fail
        refine (Literal_is _ l T hlz HT.out).mono ?_
        rintro e w' ⟨rfl, rfl⟩
        have hTT : ((bs T).toList != (bs T).toList) = false := by simp
        go_wp2_with fail
        refine (Expand_pos _ _ Value.nilFunc (fun _ => []) [lit l] HRW.out (by simp) (by simp) (fun p hp => by simp at hp; subst hp; exact ⟨by show l.length ≤ 100000; omega, by simp⟩) (fun p hp hv => by simp at hp; subst hp; cases hv)).mono ?_
        rintro e w5 ⟨v6, rfl, hrd6, hb6⟩
        rw [exp_lit] at hrd6
        obtain ⟨A7, c7, rfl, _⟩ := Rd.form hrd6
        have HN6 := Lib.hid (show Rd 9 (w5.alloc (.cells #[.string (bs l)] 9)) (.slice (some ⟨w5.heap.size, 0, none⟩) 1 1) 1 (stC [l]) from Rd.of_own (own_new w5 w5.heap.size 9 1 [.string (bs l)] rfl (Nat.le_refl _)))
        have HOV7 := Lib.hid (Rd.next hrd6 ((Below.refl _ _).alloc (Nat.le_refl _) (.cells #[.string (bs l)] 9)))
        have HB7 := Lib.hid (HB2.out.trans ((hb6.alloc hb6.size (.cells #[.string (bs l)] 9)).mono HB2.out.size))
        clear hrd6 hb6 l0 x1 x3 x4 HB2 hTT
        go_wp2_with fail
        refine (sameS_any _ _ _ [l] [l] HOV7.out HN6.out (by simp) (by simp)).mono ?_
        rintro e w8 ⟨rfl, hb8⟩
        have hsw : decide ([l] = [l]) = true := decide_eq_true rfl
        rw [hsw]
        clear hsw
        go_wp2
        go_ret
        exact ⟨rfl, HB7.out.trans (hb8.mono HB7.out.size)⟩
set_option maxRecDepth 100000 in
set_option maxHeartbeats 4000000 in
theorem quotes_large (s : ByteArray) (w : World) (hs : s.size ≤ maxLen) (h60 : ¬ s.size ≤ 200) :
    Calls Try.prog 7 #[.string s] w fun e w' => e = .returned (.bool true) ∧ Below w.heap.size w w' := by
  unfold maxLen at hs
  have hm : min (s.size : Int) 200 = 200 := by omega
  have HCZ := Lib.hid (show (s.extract 0 200).size ≤ 200 by rw [size_extract _ _ _ (by omega)]; omega)
  go_enter Try.func7, Try.ntmps7
  go_upto_region 2 with (fail)
  generalize s.extract 0 200 = c at *
  clear hm h60
  obtain ⟨l, rfl⟩ : ∃ l, c = bs l := ⟨c.data.toList, (bs_of c).symm⟩
  have hc : (bs l).size ≤ 200 := HCZ.out
  have hlz : (bs l).size ≤ 100000 := by omega
  have hll : l.length ≤ 200 := by rw [← bs_size]; exact hc
  clear HCZ
  by_cases hbad : badS l < l.length
  · have HBD := Lib.hid hbad
    go_wp2_with fail
    refine (Quote_bad _ l (by omega) HBD.out).mono ?_
    rintro e w1 ⟨rfl, hb1⟩
    go_wp2_with fail
    refine (known_any _).mono ?_
    rintro e w2 ⟨rfl, hb2⟩
    have HB1 := Lib.hid (hb1.trans (hb2.mono hb1.size))
    have hbz : badS l < (bs l).size := by rw [bs_size]; exact hbad
    have HBE := Lib.hid (bad_eq l hbad)
    have HBL := Lib.hid (bad_lt l)
    obtain ⟨q, hq⟩ : ∃ q, badS l = q := ⟨_, rfl⟩
    rw [hq] at hbz HBE HBL
    clear hb1 hb2 hbad hq HBD
    go_wp2
    go_loopg [5] (q + 1) (fun gk i wr => ∃ k : Nat, i = .int .i64 k ∧ k ≤ q ∧ gk + k = q + 1 ∧ w2 = wr)
    case atStart => exact ⟨0, rfl, Nat.zero_le _, by omega, rfl⟩
    case round =>
      obtain ⟨k, rfl, hk, hgk, rfl⟩ := hrel
      have hlt : k < (bs l).size := by omega
      have hbk := bt_of (bs l) k hlt
      by_cases hkq : k < q
      · have HQ := Lib.hid (show perI (bt (bs l) k) = true by rw [bt_getD]; exact HBL.out k hkq)
        rcases per_cases _ HQ.out with hx | hx
        · have f0 : decide (bt (bs l) k < 32) = false := by simp; omega
          have f1 : decide (126 < bt (bs l) k) = false := by simp; omega
          clear hx
          go_wp2
          go_roundg (gk - 1)
          case rel => exact ⟨k + 1, by go_num, by omega, by omega, rfl⟩
          case measure => omega
        · have f0 : decide (bt (bs l) k < 32) = true := by simp; omega
          have f1 : (bt (bs l) k == 9) = true := by simpa using hx
          have f2 : (bt (bs l) k != 9) = false := by simp [hx]
          clear hx
          go_wp2
          go_roundg (gk - 1)
          case rel => exact ⟨k + 1, by go_num, by omega, by omega, rfl⟩
          case measure => omega
      · obtain rfl : k = q := by omega
        have HQ := Lib.hid (show perI (bt (bs l) k) = false by rw [bt_getD]; exact HBE.out)
        rcases per_not _ HQ.out with hx | hx
        · have f0 : decide (bt (bs l) k < 32) = true := by simp; omega
          have f1 : (bt (bs l) k == 9) = false := beq_false_of_ne hx.2
          have f2 : (bt (bs l) k != 9) = true := by simpa using hx.2
          clear hx
          go_wp2
          go_ret
          exact ⟨rfl, HB1.out⟩
        · have f0 : decide (bt (bs l) k < 32) = false := by simp; omega
          have f3 : decide (126 < bt (bs l) k) = true := by simpa using hx
          have f1 : (bt (bs l) k == 9) = false := beq_false_of_ne (by omega)
          have f2 : (bt (bs l) k != 9) = true := by simp; omega
          clear hx
          go_wp2
          go_ret
          exact ⟨rfl, HB1.out⟩
  · have HBD := Lib.hid hbad
    obtain ⟨T, hT⟩ : ∃ T, txtS false [lit l] = T := ⟨_, rfl⟩
    have HT := Lib.hid hT
    have hTz : (bs T).size ≤ 100000 := by rw [bs_size, ← hT]; have := txt_lit_len l; omega
    have HPAR := Lib.hid (par_lit l hll (bad_all l hbad))
    have HALL := Lib.hid (bad_lt l)
    have HBL := Lib.hid (show badS l = l.length by have := tw_le (fun b => perI (n8 b)) l; have h2 : badS l = (l.takeWhile fun b => perI (n8 b)).length := rfl; omega)
    clear hT hbad
    go_wp2_with fail
    refine (Quote_good _ l T (by omega) HBD.out HT.out).mono ?_
    rintro e w1 ⟨rfl, hb1⟩
    go_wp2_with fail
    refine (known_any _).mono ?_
    rintro e w2 ⟨rfl, hb2⟩
    have HB1 := Lib.hid (hb1.trans (hb2.mono hb1.size))
    clear hb1 hb2
    go_wp2
    go_loopg [5] ((bs l).size + 1) (fun gk i wr => ∃ k : Nat, i = .int .i64 k ∧ k ≤ (bs l).size ∧ gk + k = (bs l).size + 1 ∧ w2 = wr)
    case atStart => exact ⟨0, rfl, Nat.zero_le _, by omega, rfl⟩
    case round =>
      obtain ⟨k, rfl, hk, hgk, rfl⟩ := hrel
      by_cases hlt : k < (bs l).size
      · have hbk := bt_of (bs l) k hlt
        have HQ := Lib.hid (show perI (bt (bs l) k) = true by rw [bt_getD]; exact HALL.out k (by rw [HBL.out, ← bs_size]; exact hlt))
        rcases per_cases _ HQ.out with hx | hx
        · have f0 : decide (bt (bs l) k < 32) = false := by simp; omega
          have f1 : decide (126 < bt (bs l) k) = false := by simp; omega
          clear hx
          go_wp2
          go_roundg (gk - 1)
          case rel => exact ⟨k + 1, by go_num, by omega, by omega, rfl⟩
          case measure => omega
        · have f0 : decide (bt (bs l) k < 32) = true := by simp; omega
          have f1 : (bt (bs l) k == 9) = true := by simpa using hx
          have f2 : (bt (bs l) k != 9) = false := by simp [hx]
          clear hx
          go_wp2
          go_roundg (gk - 1)
          case rel => exact ⟨k + 1, by go_num, by omega, by omega, rfl⟩
          case measure => omega
      · obtain rfl : k = (bs l).size := by omega
        go_wp2_with fail
        refine (Parse_ok _ _ (litL l) (by rw [bs_list, ← HT.out]; exact HPAR.out) hTz).mono ?_
        rintro e w3 ⟨v3, rfl, hrd, hb3⟩
        have hbg : (litL l).bg = false := rfl
        rw [hbg]
        clear hbg
        have HRD := Lib.hid (show RowRd 49 plV NP w3 v3 [⟨0, [⟨[], [[lit l]], [], [], false⟩]⟩] from hrd)
        obtain ⟨A1, c1, rfl, _⟩ := hrd.form
        have hp1 : (litL l).parts.length = 1 := rfl
        rw [hp1] at HRD ⊢
        clear hp1
        have HR2 := Lib.hid (HRD.out.pl_next ((Below.refl _ _).alloc (Nat.le_refl _) (.cells #[.slice A1 1 c1, .bool false] 24)))
        have HL2 := Lib.hid (Blk.new w3 24 #[.slice A1 1 c1, .bool false])
        have HB2 := Lib.hid (HB1.out.trans ((hb3.alloc hb3.size (.cells #[.slice A1 1 c1, .bool false] 24)).mono HB1.out.size))
        clear hrd hb3 HRD HB1
        go_upto_region 11 with (fail)
        generalize (w3.alloc (.cells #[.slice A1 1 c1, .bool false] 24)) = w4 at *
        generalize w3.heap.size = lb at *
        obtain ⟨b1, o1, d1, b2, o2, d2, v5, hv5, hd1, hb1l, x1, hd2, hb2l, hns, _, x3⟩ := one_cmd HR2.out
        obtain ⟨b3, o3, d3, A6, n6, d6, hv6, hd3, hb3l, x4, hrw⟩ := one_word (show RowRd 42 wdV NW w4 v5.b [[lit l]] from hns.2.1)
        rw [hv6] at x3
        injection hv5 with hv5a _ hv5c
        subst hv5a hv5c
        have l0 : w4.cell? ⟨lb, 0, none⟩ = some (.slice (some ⟨b1, o1, none⟩) 1 c1) := HL2.out.cell 0
        have hlb : lb < w4.heap.size := HL2.out.lt
        have HRW := Lib.hid hrw
        clear HR2 HL2 hns hrw hv6
        go_wp2_with fail
        refine (Literal_is _ l T hlz HT.out).mono ?_
        rintro e w' ⟨rfl, rfl⟩
        have hTT : ((bs T).toList != (bs T).toList) = false := by simp
        go_wp2_with fail
        refine (Expand_pos _ _ Value.nilFunc (fun _ => []) [lit l] HRW.out (by simp) (by simp) (fun p hp => by simp at hp; subst hp; exact ⟨by show l.length ≤ 100000; omega, by simp⟩) (fun p hp hv => by simp at hp; subst hp; cases hv)).mono ?_
        rintro e w5 ⟨v6, rfl, hrd6, hb6⟩
        rw [exp_lit] at hrd6
        obtain ⟨A7, c7, rfl, _⟩ := Rd.form hrd6
        have HN6 := Lib.hid (show Rd 9 (w5.alloc (.cells #[.string (bs l)] 9)) (.slice (some ⟨w5.heap.size, 0, none⟩) 1 1) 1 (stC [l]) from Rd.of_own (own_new w5 w5.heap.size 9 1 [.string (bs l)] rfl (Nat.le_refl _)))
        have HOV7 := Lib.hid (Rd.next hrd6 ((Below.refl _ _).alloc (Nat.le_refl _) (.cells #[.string (bs l)] 9)))
        have HB7 := Lib.hid (HB2.out.trans ((hb6.alloc hb6.size (.cells #[.string (bs l)] 9)).mono HB2.out.size))
        clear hrd6 hb6 l0 x1 x3 x4 HB2 hTT
        go_wp2_with fail
        refine (sameS_any _ _ _ [l] [l] HOV7.out HN6.out (by simp) (by simp)).mono ?_
        rintro e w8 ⟨rfl, hb8⟩
        have hsw : decide ([l] = [l]) = true := decide_eq_true rfl
        rw [hsw]
        clear hsw
        go_wp2
        go_ret
        exact ⟨rfl, HB7.out.trans (hb8.mono HB7.out.size)⟩
theorem quotes_walk (s : ByteArray) (w : World) (hs : s.size ≤ maxLen) :
    Calls Try.prog 7 #[.string s] w fun e w' => e = .returned (.bool true) ∧ Below w.heap.size w w' := by
  by_cases h : s.size ≤ 200
  · exact quotes_small s w hs h
  · exact quotes_large s w hs h
end Go.Proofs.Ytiddchpkmcncdaa
