/- The law CommandVariables, walked. -/
import Derived.Test.YtiddchpkmcncdaaX28
import Derived.Test.YtiddchpkmcncdaaK7
namespace Go.Proofs.Ytiddchpkmcncdaa
open Go.RowKit
set_option linter.unusedSimpArgs false
set_option linter.unusedVariables false
theorem IsVariable_is (s : ByteArray) (w : World) (b : Bool) (h : isVarB s = b) (hs : s.size ≤ 100000) : Calls Try.prog 18 #[.string s] w fun e w' => e = .returned (.bool b) ∧ w = w' := by
  subst h; exact IsVariable_any s w hs
theorem refIsVariable_is (s : ByteArray) (w : World) (b : Bool) (h : isVarB s = b) (hs : s.size ≤ 100000) : Calls Try.prog 19 #[.string s] w fun e w' => e = .returned (.bool b) ∧ w = w' := by
  subst h; exact ref_IsVariable_any s w hs
theorem aln_num (n : Int) (h : alnI n = true) : (65 ≤ n ∧ n ≤ 90) ∨ (97 ≤ n ∧ n ≤ 122) ∨ n = 95 ∨ (48 ≤ n ∧ n ≤ 57) := by
  unfold alnI ltrI digI at h
  simp at h; omega
theorem aln_not (n : Int) (h : alnI n = false) : ¬ ((65 ≤ n ∧ n ≤ 90) ∨ (97 ≤ n ∧ n ≤ 122) ∨ n = 95 ∨ (48 ≤ n ∧ n ≤ 57)) := by
  intro h2
  have : alnI n = true := by unfold alnI ltrI digI; simp; omega
  rw [this] at h; cases h
theorem aln_cases (n : Int) (h : alnI n = true) : (97 ≤ n ∧ n ≤ 122) ∨ (65 ≤ n ∧ n ≤ 90) ∨ (48 ≤ n ∧ n ≤ 57) ∨ n = 95 := by have := aln_num n h; omega
theorem bad_cases (n : Int) (h : alnI n = false) : n < 48 ∨ (57 < n ∧ n < 65) ∨ (90 < n ∧ n < 97 ∧ n ≠ 95) ∨ 122 < n := by have := aln_not n h; omega
theorem all_aln (c : ByteArray) (h : ∀ j, j < c.size → alnI (bt c j) = true) : c.data.toList.all aln8 = true := by
  rw [List.all_eq_true]
  intro x hx
  obtain ⟨k, hk, rfl⟩ := List.getElem_of_mem hx
  have := h k (by simpa using hk)
  unfold bt at this
  rw [List.getD_eq_getElem?_getD, List.getElem?_eq_getElem hk] at this
  exact this
/-- The cells of a line of one command. -/
theorem one_cmd {w : World} {v : Value} {wh : Int} {sm : Sm} (h : RowRd 49 plV NP w v [⟨wh, [sm]⟩]) : ∃ b o c b2 o2 c2 v4, v = .slice (some ⟨b, o, none⟩) 1 c ∧ 1 ≤ c ∧ b < w.heap.size ∧ w.cell? ⟨b, o + 1, none⟩ = some (.slice (some ⟨b2, o2, none⟩) 1 c2) ∧ 1 ≤ c2 ∧ b2 < w.heap.size ∧ NS w v4 sm ∧
    w.cell? ⟨b2, o2, none⟩ = some v4.a ∧ w.cell? ⟨b2, o2 + 1, none⟩ = some v4.b := by
  obtain ⟨b, o, c, u, hv, hc, hb, hn, hx⟩ := h.at_ plV_len (i := 0) (x := ⟨wh, [sm]⟩) rfl
  obtain ⟨b2, o2, c2, v4, hu, hc2, hb2, hn2, hx2⟩ := RowRd.at_ (show RowRd 46 smV NS w u [sm] from hn) smV_len (i := 0) (x := sm) rfl
  subst hu
  exact ⟨b, o, c, b2, o2, c2, v4, hv, hc, hb, hx 1 _ rfl, hc2, hb2, hn2, hx2 0 _ rfl, hx2 1 _ rfl⟩
theorem two_words {w : World} {v : Value} {p q : Wd} (h : RowRd 42 wdV NW w v [p, q]) : ∃ b o c A n c2, v = .slice (some ⟨b, o, none⟩) 2 c ∧ 2 ≤ c ∧ b < w.heap.size ∧ w.cell? ⟨b, o + 1, none⟩ = some (.slice A n c2) ∧ RdW w (.slice A n c2) q := by
  obtain ⟨b, o, c, u, hv, hc, hb, hn, hx⟩ := h.at_ wdV_len (i := 1) (x := q) rfl
  obtain ⟨A, c2, hu, _⟩ := Rd.form (show RdW w u q from hn)
  subst hu
  exact ⟨b, o, c, A, _, c2, hv, hc, hb, hx 0 _ rfl, hn⟩
theorem bs_cat (a b : Bs) : bs a ++ bs b = bs (a ++ b) := (bs_app a b).symm
set_option maxRecDepth 100000 in
set_option maxHeartbeats 4000000 in
theorem var_small (s : ByteArray) (w : World) (hs : s.size ≤ maxLen) (h60 : s.size ≤ 60) :
    Calls Try.prog 4 #[.string s] w fun e w' => e = .returned (.bool true) ∧ Below w.heap.size w w' := by
  unfold maxLen at hs
  have hm : min (s.size : Int) 60 = s.size := by omega
  have HCZ := Lib.hid h60
  go_enter Try.func4, Try.ntmps4
  go_upto_region 2 with (fail)
  clear hm h60
  generalize s = c at *
  have hc : c.size ≤ 60 := HCZ.out
  clear HCZ
  go_wp2_with fail
  refine (known_any _).mono ?_
  rintro e w1 ⟨rfl, hb1⟩
  cases hB : isVarB c with
  | true =>
    have HB := Lib.hid hB
    clear hB
    go_wp2_with (first | (go_at_call 18; refine (IsVariable_is c _ true HB.out (by omega)).mono ?_; rintro e w' ⟨rfl, rfl⟩) | (go_at_call 19; refine (refIsVariable_is c _ true HB.out (by omega)).mono ?_; rintro e w' ⟨rfl, rfl⟩))
    go_loopg [3] (c.size + 1) (fun gk i wr => ∃ k : Nat, i = .int .i64 k ∧ k ≤ c.size ∧ gk + k = c.size + 1 ∧ (∀ j, j < k → alnI (bt c j) = true) ∧ w1 = wr)
    case atStart => exact ⟨0, rfl, Nat.zero_le _, by omega, fun j h => by omega, rfl⟩
    case round =>
      obtain ⟨k, rfl, hk, hgk, hj, rfl⟩ := hrel
      have HJ := Lib.hid hj
      clear hj
      by_cases hlt : k < c.size
      · have hbk := bt_of c k hlt
        cases hq : alnI (bt c k) with
        | true =>
          have HQ := Lib.hid (aln_cases _ hq)
          have HQ2 := Lib.hid hq
          clear hq
          rcases HQ.out with hx | hx | hx | hx
          · have f0 : decide (bt c k < 97) = false := by simp; omega
            have f1 : decide (122 < bt c k) = false := by simp; omega
            clear hx
            go_wp2
            go_roundg (gk - 1)
            case rel => exact ⟨k + 1, by go_num, by omega, by omega, fun j hj => (by by_cases e : j = k; (subst e; exact HQ2.out); exact HJ.out j (by omega)), rfl⟩
            case measure => omega
          · have f0 : decide (bt c k < 97) = true := by simp; omega
            have f1 : decide (bt c k < 65) = false := by simp; omega
            have f2 : decide (90 < bt c k) = false := by simp; omega
            clear hx
            go_wp2
            go_roundg (gk - 1)
            case rel => exact ⟨k + 1, by go_num, by omega, by omega, fun j hj => (by by_cases e : j = k; (subst e; exact HQ2.out); exact HJ.out j (by omega)), rfl⟩
            case measure => omega
          · have f0 : decide (bt c k < 97) = true := by simp; omega
            have f1 : decide (bt c k < 65) = true := by simp; omega
            have f2 : decide (bt c k < 48) = false := by simp; omega
            have f3 : decide (57 < bt c k) = false := by simp; omega
            clear hx
            go_wp2
            go_roundg (gk - 1)
            case rel => exact ⟨k + 1, by go_num, by omega, by omega, fun j hj => (by by_cases e : j = k; (subst e; exact HQ2.out); exact HJ.out j (by omega)), rfl⟩
            case measure => omega
          · have f0 : decide (bt c k < 97) = true := by simp; omega
            have f1 : decide (bt c k < 65) = false := by simp; omega
            have f2 : decide (90 < bt c k) = true := by simp; omega
            have f3 : decide (bt c k < 48) = false := by simp; omega
            have f4 : decide (57 < bt c k) = true := by simp; omega
            have f5 : (bt c k == 95) = true := by simpa using hx
            have g5 : (bt c k != 95) = false := by simp [hx]
            clear hx
            go_wp2
            go_roundg (gk - 1)
            case rel => exact ⟨k + 1, by go_num, by omega, by omega, fun j hj => (by by_cases e : j = k; (subst e; exact HQ2.out); exact HJ.out j (by omega)), rfl⟩
            case measure => omega
        | false =>
          have HV := Lib.hid (isVar_bad c k hlt hq)
          have HQ := Lib.hid (bad_cases _ hq)
          clear hq
          rw [HB.out] at HV
          exact absurd HV.out (by decide)
      · obtain rfl : k = c.size := by omega
        have HALL := Lib.hid (all_aln c HJ.out)
        clear HJ
        have HPE := Lib.hid (show parS (ecS c.data.toList) = .ok (ecL c.data.toList) by
          rw [par_echo _ HALL.out (by simpa using hc), if_pos (by rw [show isVarS c.data.toList = isVarB c from rfl, HB.out])])
        have HPQ := Lib.hid (par_eq _ HALL.out (by simpa using hc) (by rw [show isVarS c.data.toList = isVarB c from rfl, HB.out]))
        have hz : (bs (ecS c.data.toList)).size ≤ 100000 := by rw [bs_size]; unfold ecS; simp; omega
        have hz2 : (bs (eqS c.data.toList)).size ≤ 100000 := by rw [bs_size]; unfold eqS; simp; omega
        have HE := Lib.hid (show (⟨#[101, 99, 104, 111, 32, 36]⟩ : ByteArray) ++ c = bs (ecS c.data.toList) by
          unfold ecS; rw [bs_app, bs_of]; rfl)
        have HE2 := Lib.hid (show c ++ (⟨#[61, 49]⟩ : ByteArray) = bs (eqS c.data.toList) by
          unfold eqS; rw [bs_app, bs_of]; rfl)
        have HBC := Lib.hid (show c = bs c.data.toList from (bs_of c).symm)
        go_wp2_with fail
        rw [HE.out]
        refine (Parse_ok _ _ (ecL c.data.toList) (by rw [bs_list]; exact HPE.out) hz).mono ?_
        rintro e w2 ⟨v, rfl, hrd, hb2⟩
        have hbg : (ecL c.data.toList).bg = false := rfl
        rw [hbg]
        clear hbg
        have HRD := Lib.hid (show RowRd 49 plV NP w2 v [⟨0, [⟨[], [[lit [101, 99, 104, 111]], [⟨c.data.toList, true, false⟩]], [], [], false⟩]⟩] from hrd)
        obtain ⟨A1, c1, rfl, _⟩ := hrd.form
        have hp1 : (ecL c.data.toList).parts.length = 1 := rfl
        rw [hp1] at HRD ⊢
        clear hp1
        have HR2 := Lib.hid (HRD.out.pl_next ((Below.refl _ _).alloc (Nat.le_refl _) (.cells #[.slice A1 1 c1, .bool false] 24)))
        have HL2 := Lib.hid (Blk.new w2 24 #[.slice A1 1 c1, .bool false])
        have HB2 := Lib.hid (hb1.trans ((hb2.alloc hb2.size (.cells #[.slice A1 1 c1, .bool false] 24)).mono hb1.size))
        clear hrd hb2 HRD
        go_upto_region 10 with (fail)
        generalize (w2.alloc (.cells #[.slice A1 1 c1, .bool false] 24)) = w3 at *
        generalize w2.heap.size = lb at *
        go_wp2_with fail
        refine (IsVariable_is c _ true HB.out (by omega)).mono ?_
        rintro e w' ⟨rfl, rfl⟩
        go_wp2_with fail
        rw [HE2.out]
        refine (Parse_ok _ _ (eqL c.data.toList) (by rw [bs_list]; exact HPQ.out) hz2).mono ?_
        rintro e w4 ⟨v4, rfl, hrd4, hb4⟩
        have hbg : (eqL c.data.toList).bg = false := rfl
        rw [hbg]
        clear hbg
        have HRD4 := Lib.hid (show RowRd 49 plV NP w4 v4 [⟨0, [⟨[⟨c.data.toList, [lit [49]]⟩], [], [], [], false⟩]⟩] from hrd4)
        obtain ⟨A4, c4, rfl, _⟩ := hrd4.form
        have hp1 : (eqL c.data.toList).parts.length = 1 := rfl
        rw [hp1] at HRD4 ⊢
        clear hp1
        have HR4 := Lib.hid (HRD4.out.pl_next ((Below.refl _ _).alloc (Nat.le_refl _) (.cells #[.slice A4 1 c4, .bool false] 24)))
        have HQ4 := Lib.hid (HR2.out.pl_next (hb4.alloc hb4.size (.cells #[.slice A4 1 c4, .bool false] 24)))
        have HL3 := Lib.hid (HL2.out.next (hb4.alloc hb4.size (.cells #[.slice A4 1 c4, .bool false] 24)) HL2.out.lt)
        have HM3 := Lib.hid (Blk.new w4 24 #[.slice A4 1 c4, .bool false])
        have HB4 := Lib.hid (HB2.out.trans ((hb4.alloc hb4.size (.cells #[.slice A4 1 c4, .bool false] 24)).mono HB2.out.size))
        clear hrd4 hb4 HRD4 HR2 HL2 HB2
        go_upto_region 13 with (fail)
        generalize (w4.alloc (.cells #[.slice A4 1 c4, .bool false] 24)) = w5 at *
        generalize w4.heap.size = mb at *
        obtain ⟨b1, o1, d1, b2, o2, d2, v5, hv5, hd1, hb1l, x1, hd2, hb2l, hns, _, x3⟩ := one_cmd HQ4.out
        obtain ⟨b3, o3, d3, A6, n6, d6, hv6, hd3, hb3l, x4, hrw⟩ := two_words (show RowRd 42 wdV NW w5 v5.b [[lit [101, 99, 104, 111]], [⟨c.data.toList, true, false⟩]] from hns.2.1)
        rw [hv6] at x3
        injection hv5 with hv5a _ hv5c
        subst hv5a hv5c
        have l0 : w5.cell? ⟨lb, 0, none⟩ = some (.slice (some ⟨b1, o1, none⟩) 1 c1) := HL3.out.cell 0
        have hlb : lb < w5.heap.size := HL3.out.lt
        have HM5 := Lib.hid HM3.out
        have HR5 := Lib.hid HR4.out
        have HRW := Lib.hid hrw
        clear HQ4 HL3 HM3 HR4 hns hrw hv6
        go_wp2_with fail
        refine (ofWord_any _ _ [⟨c.data.toList, true, false⟩] HRW.out (by simp)).mono ?_
        rintro e w6 ⟨v6, rfl, hown6, hb6⟩
        have HOV := Lib.hid (Rd.of_own hown6)
        obtain ⟨A7, c7, rfl, _⟩ := Rd.form HOV.out
        have HN6 := Lib.hid (show RdV (w6.alloc (.cells #[.string c, .bool true, .bool false] 51)) (.slice (some ⟨w6.heap.size, 0, none⟩) 1 1) [⟨c.data.toList, true, false⟩] from Rd.of_own (by
          have := own_new w6 w6.heap.size 51 3 [.string c, .bool true, .bool false] rfl (Nat.le_refl _)
          rw [show pcC [⟨c.data.toList, true, false⟩] = [.string c, .bool true, .bool false] by simp [pcC, pcV, bs_of]]
          exact this))
        have HOV7 := Lib.hid (Rd.next HOV.out ((Below.refl _ _).alloc (Nat.le_refl _) (.cells #[.string c, .bool true, .bool false] 51)))
        have HB6 := Lib.hid (hb6.alloc hb6.size (.cells #[.string c, .bool true, .bool false] 51))
        have HM6 := Lib.hid (HM5.out.next HB6.out HM5.out.lt)
        have HR6 := Lib.hid (HR5.out.pl_next HB6.out)
        have HB7 := Lib.hid (HB4.out.trans (HB6.out.mono HB4.out.size))
        clear hown6 hb6 HOV l0 x1 x3 x4
        go_wp2_with fail
        refine (SameWord_any _ _ _ [⟨c.data.toList, true, false⟩] [⟨c.data.toList, true, false⟩] HOV7.out HN6.out (by simp) (by simp)).mono ?_
        rintro e w8 ⟨rfl, hb8⟩
        have hsw : sameW [⟨c.data.toList, true, false⟩] [⟨c.data.toList, true, false⟩] = true := (sameW_iff _ _).2 rfl
        rw [hsw]
        clear hsw
        have HM8 := Lib.hid (HM6.out.next hb8 HM6.out.lt)
        have HR8 := Lib.hid (HR6.out.pl_next hb8)
        have HB8 := Lib.hid (HB7.out.trans (hb8.mono HB7.out.size))
        clear hb8 HM6 HR6 HB7 HOV7 HN6
        obtain ⟨b4, o4, d4, b5, o5, d5, v9, hv9, hd4, hb4l, z1, hd5, hb5l, hns9, z2, _⟩ := one_cmd HR8.out
        obtain ⟨A9, c9, hv9a, _⟩ := RowRd.form hns9.1
        rw [hv9a] at z2
        injection hv9 with hv9b _ hv9c
        subst hv9b hv9c
        have m0 : w8.cell? ⟨mb, 0, none⟩ = some (.slice (some ⟨b4, o4, none⟩) 1 c4) := HM8.out.cell 0
        have z3 : w8.cell? ⟨b5, o5, none⟩ = some (.slice A9 1 c9) := z2
        have hmb : mb < w8.heap.size := HM8.out.lt
        clear z2 hns9 hv9a HM8 HR8
        go_wp2
        go_ret
        exact ⟨rfl, HB8.out⟩
  | false =>
    have HB := Lib.hid hB
    clear hB
    go_wp2_with (first | (go_at_call 18; refine (IsVariable_is c _ false HB.out (by omega)).mono ?_; rintro e w' ⟨rfl, rfl⟩) | (go_at_call 19; refine (refIsVariable_is c _ false HB.out (by omega)).mono ?_; rintro e w' ⟨rfl, rfl⟩))
    go_loopg [3] (c.size + 1) (fun gk i wr => ∃ k : Nat, i = .int .i64 k ∧ k ≤ c.size ∧ gk + k = c.size + 1 ∧ (∀ j, j < k → alnI (bt c j) = true) ∧ w1 = wr)
    case atStart => exact ⟨0, rfl, Nat.zero_le _, by omega, fun j h => by omega, rfl⟩
    case round =>
      obtain ⟨k, rfl, hk, hgk, hj, rfl⟩ := hrel
      have HJ := Lib.hid hj
      clear hj
      by_cases hlt : k < c.size
      · have hbk := bt_of c k hlt
        cases hq : alnI (bt c k) with
        | true =>
          have HQ := Lib.hid (aln_cases _ hq)
          have HQ2 := Lib.hid hq
          clear hq
          rcases HQ.out with hx | hx | hx | hx
          · have f0 : decide (bt c k < 97) = false := by simp; omega
            have f1 : decide (122 < bt c k) = false := by simp; omega
            clear hx
            go_wp2
            go_roundg (gk - 1)
            case rel => exact ⟨k + 1, by go_num, by omega, by omega, fun j hj => (by by_cases e : j = k; (subst e; exact HQ2.out); exact HJ.out j (by omega)), rfl⟩
            case measure => omega
          · have f0 : decide (bt c k < 97) = true := by simp; omega
            have f1 : decide (bt c k < 65) = false := by simp; omega
            have f2 : decide (90 < bt c k) = false := by simp; omega
            clear hx
            go_wp2
            go_roundg (gk - 1)
            case rel => exact ⟨k + 1, by go_num, by omega, by omega, fun j hj => (by by_cases e : j = k; (subst e; exact HQ2.out); exact HJ.out j (by omega)), rfl⟩
            case measure => omega
          · have f0 : decide (bt c k < 97) = true := by simp; omega
            have f1 : decide (bt c k < 65) = true := by simp; omega
            have f2 : decide (bt c k < 48) = false := by simp; omega
            have f3 : decide (57 < bt c k) = false := by simp; omega
            clear hx
            go_wp2
            go_roundg (gk - 1)
            case rel => exact ⟨k + 1, by go_num, by omega, by omega, fun j hj => (by by_cases e : j = k; (subst e; exact HQ2.out); exact HJ.out j (by omega)), rfl⟩
            case measure => omega
          · have f0 : decide (bt c k < 97) = true := by simp; omega
            have f1 : decide (bt c k < 65) = false := by simp; omega
            have f2 : decide (90 < bt c k) = true := by simp; omega
            have f3 : decide (bt c k < 48) = false := by simp; omega
            have f4 : decide (57 < bt c k) = true := by simp; omega
            have f5 : (bt c k == 95) = true := by simpa using hx
            have g5 : (bt c k != 95) = false := by simp [hx]
            clear hx
            go_wp2
            go_roundg (gk - 1)
            case rel => exact ⟨k + 1, by go_num, by omega, by omega, fun j hj => (by by_cases e : j = k; (subst e; exact HQ2.out); exact HJ.out j (by omega)), rfl⟩
            case measure => omega
        | false =>
          have HV := Lib.hid (isVar_bad c k hlt hq)
          have HQ := Lib.hid (bad_cases _ hq)
          clear hq
          rcases HQ.out with hx | hx | hx | hx
          · have f0 : decide (bt c k < 97) = true := by simp; omega
            have f1 : decide (bt c k < 65) = true := by simp; omega
            have f2 : decide (bt c k < 48) = true := by simp; omega
            have f3 : (bt c k == 95) = false := by exact beq_false_of_ne (by omega)
            have g3 : (bt c k != 95) = true := by simp; omega
            clear hx
            go_wp2_with (go_at_call 18; refine (IsVariable_is c _ false HB.out (by omega)).mono ?_; rintro e w' ⟨rfl, rfl⟩)
            go_ret
            exact ⟨rfl, hb1⟩
          · have f0 : decide (bt c k < 97) = true := by simp; omega
            have f1 : decide (bt c k < 65) = true := by simp; omega
            have f2 : decide (bt c k < 48) = false := by simp; omega
            have f3 : decide (57 < bt c k) = true := by simp; omega
            have f4 : (bt c k == 95) = false := by exact beq_false_of_ne (by omega)
            have g4 : (bt c k != 95) = true := by simp; omega
            clear hx
            go_wp2_with (go_at_call 18; refine (IsVariable_is c _ false HB.out (by omega)).mono ?_; rintro e w' ⟨rfl, rfl⟩)
            go_ret
            exact ⟨rfl, hb1⟩
          · have f0 : decide (bt c k < 97) = true := by simp; omega
            have f1 : decide (bt c k < 65) = false := by simp; omega
            have f2 : decide (90 < bt c k) = true := by simp; omega
            have f3 : decide (bt c k < 48) = false := by simp; omega
            have f4 : decide (57 < bt c k) = true := by simp; omega
            have f5 : (bt c k == 95) = false := by exact beq_false_of_ne (by omega)
            have g5 : (bt c k != 95) = true := by simp; omega
            clear hx
            go_wp2_with (go_at_call 18; refine (IsVariable_is c _ false HB.out (by omega)).mono ?_; rintro e w' ⟨rfl, rfl⟩)
            go_ret
            exact ⟨rfl, hb1⟩
          · have f0 : decide (bt c k < 97) = false := by simp; omega
            have f1 : decide (122 < bt c k) = true := by simp; omega
            have f2 : decide (bt c k < 65) = false := by simp; omega
            have f3 : decide (90 < bt c k) = true := by simp; omega
            have f4 : decide (bt c k < 48) = false := by simp; omega
            have f5 : decide (57 < bt c k) = true := by simp; omega
            have f6 : (bt c k == 95) = false := by exact beq_false_of_ne (by omega)
            have g6 : (bt c k != 95) = true := by simp; omega
            clear hx
            go_wp2_with (go_at_call 18; refine (IsVariable_is c _ false HB.out (by omega)).mono ?_; rintro e w' ⟨rfl, rfl⟩)
            go_ret
            exact ⟨rfl, hb1⟩
      · obtain rfl : k = c.size := by omega
        have HALL := Lib.hid (all_aln c HJ.out)
        clear HJ
        have HPE := Lib.hid (show parS (ecS c.data.toList) = .err 5 3 by
          rw [par_echo _ HALL.out (by simpa using hc), if_neg (by rw [show isVarS c.data.toList = isVarB c from rfl, HB.out]; decide)])
        have hz : (bs (ecS c.data.toList)).size ≤ 100000 := by rw [bs_size]; unfold ecS; simp; omega
        have HE := Lib.hid (show (⟨#[101, 99, 104, 111, 32, 36]⟩ : ByteArray) ++ c = bs (ecS c.data.toList) by
          unfold ecS; rw [bs_app, bs_of]; rfl)
        go_wp2_with (first | (go_at_call 13; rw [HE.out]; refine (Parse_no _ _ 5 3 (by rw [bs_list]; exact HPE.out) hz).mono ?_; rintro e w2 ⟨rfl, hb2⟩) | (go_at_call 18; refine (IsVariable_is c _ false HB.out (by omega)).mono ?_; rintro e w' ⟨rfl, rfl⟩))
        go_ret
        exact ⟨rfl, hb1.trans ((hb2.alloc hb2.size _).mono hb1.size)⟩
set_option maxRecDepth 100000 in
set_option maxHeartbeats 4000000 in
theorem var_large (s : ByteArray) (w : World) (hs : s.size ≤ maxLen) (h60 : ¬ s.size ≤ 60) :
    Calls Try.prog 4 #[.string s] w fun e w' => e = .returned (.bool true) ∧ Below w.heap.size w w' := by
  unfold maxLen at hs
  have hm : min (s.size : Int) 60 = 60 := by omega
  have HCZ := Lib.hid (show (s.extract 0 60).size ≤ 60 by rw [size_extract _ _ _ (by omega)]; omega)
  go_enter Try.func4, Try.ntmps4
  go_upto_region 2 with (fail)
  generalize s.extract 0 60 = c at *
  clear hm h60
  have hc : c.size ≤ 60 := HCZ.out
  clear HCZ
  go_wp2_with fail
  refine (known_any _).mono ?_
  rintro e w1 ⟨rfl, hb1⟩
  cases hB : isVarB c with
  | true =>
    have HB := Lib.hid hB
    clear hB
    go_wp2_with (first | (go_at_call 18; refine (IsVariable_is c _ true HB.out (by omega)).mono ?_; rintro e w' ⟨rfl, rfl⟩) | (go_at_call 19; refine (refIsVariable_is c _ true HB.out (by omega)).mono ?_; rintro e w' ⟨rfl, rfl⟩))
    go_loopg [3] (c.size + 1) (fun gk i wr => ∃ k : Nat, i = .int .i64 k ∧ k ≤ c.size ∧ gk + k = c.size + 1 ∧ (∀ j, j < k → alnI (bt c j) = true) ∧ w1 = wr)
    case atStart => exact ⟨0, rfl, Nat.zero_le _, by omega, fun j h => by omega, rfl⟩
    case round =>
      obtain ⟨k, rfl, hk, hgk, hj, rfl⟩ := hrel
      have HJ := Lib.hid hj
      clear hj
      by_cases hlt : k < c.size
      · have hbk := bt_of c k hlt
        cases hq : alnI (bt c k) with
        | true =>
          have HQ := Lib.hid (aln_cases _ hq)
          have HQ2 := Lib.hid hq
          clear hq
          rcases HQ.out with hx | hx | hx | hx
          · have f0 : decide (bt c k < 97) = false := by simp; omega
            have f1 : decide (122 < bt c k) = false := by simp; omega
            clear hx
            go_wp2
            go_roundg (gk - 1)
            case rel => exact ⟨k + 1, by go_num, by omega, by omega, fun j hj => (by by_cases e : j = k; (subst e; exact HQ2.out); exact HJ.out j (by omega)), rfl⟩
            case measure => omega
          · have f0 : decide (bt c k < 97) = true := by simp; omega
            have f1 : decide (bt c k < 65) = false := by simp; omega
            have f2 : decide (90 < bt c k) = false := by simp; omega
            clear hx
            go_wp2
            go_roundg (gk - 1)
            case rel => exact ⟨k + 1, by go_num, by omega, by omega, fun j hj => (by by_cases e : j = k; (subst e; exact HQ2.out); exact HJ.out j (by omega)), rfl⟩
            case measure => omega
          · have f0 : decide (bt c k < 97) = true := by simp; omega
            have f1 : decide (bt c k < 65) = true := by simp; omega
            have f2 : decide (bt c k < 48) = false := by simp; omega
            have f3 : decide (57 < bt c k) = false := by simp; omega
            clear hx
            go_wp2
            go_roundg (gk - 1)
            case rel => exact ⟨k + 1, by go_num, by omega, by omega, fun j hj => (by by_cases e : j = k; (subst e; exact HQ2.out); exact HJ.out j (by omega)), rfl⟩
            case measure => omega
          · have f0 : decide (bt c k < 97) = true := by simp; omega
            have f1 : decide (bt c k < 65) = false := by simp; omega
            have f2 : decide (90 < bt c k) = true := by simp; omega
            have f3 : decide (bt c k < 48) = false := by simp; omega
            have f4 : decide (57 < bt c k) = true := by simp; omega
            have f5 : (bt c k == 95) = true := by simpa using hx
            have g5 : (bt c k != 95) = false := by simp [hx]
            clear hx
            go_wp2
            go_roundg (gk - 1)
            case rel => exact ⟨k + 1, by go_num, by omega, by omega, fun j hj => (by by_cases e : j = k; (subst e; exact HQ2.out); exact HJ.out j (by omega)), rfl⟩
            case measure => omega
        | false =>
          have HV := Lib.hid (isVar_bad c k hlt hq)
          have HQ := Lib.hid (bad_cases _ hq)
          clear hq
          rw [HB.out] at HV
          exact absurd HV.out (by decide)
      · obtain rfl : k = c.size := by omega
        have HALL := Lib.hid (all_aln c HJ.out)
        clear HJ
        have HPE := Lib.hid (show parS (ecS c.data.toList) = .ok (ecL c.data.toList) by
          rw [par_echo _ HALL.out (by simpa using hc), if_pos (by rw [show isVarS c.data.toList = isVarB c from rfl, HB.out])])
        have HPQ := Lib.hid (par_eq _ HALL.out (by simpa using hc) (by rw [show isVarS c.data.toList = isVarB c from rfl, HB.out]))
        have hz : (bs (ecS c.data.toList)).size ≤ 100000 := by rw [bs_size]; unfold ecS; simp; omega
        have hz2 : (bs (eqS c.data.toList)).size ≤ 100000 := by rw [bs_size]; unfold eqS; simp; omega
        have HE := Lib.hid (show (⟨#[101, 99, 104, 111, 32, 36]⟩ : ByteArray) ++ c = bs (ecS c.data.toList) by
          unfold ecS; rw [bs_app, bs_of]; rfl)
        have HE2 := Lib.hid (show c ++ (⟨#[61, 49]⟩ : ByteArray) = bs (eqS c.data.toList) by
          unfold eqS; rw [bs_app, bs_of]; rfl)
        have HBC := Lib.hid (show c = bs c.data.toList from (bs_of c).symm)
        go_wp2_with fail
        rw [HE.out]
        refine (Parse_ok _ _ (ecL c.data.toList) (by rw [bs_list]; exact HPE.out) hz).mono ?_
        rintro e w2 ⟨v, rfl, hrd, hb2⟩
        have hbg : (ecL c.data.toList).bg = false := rfl
        rw [hbg]
        clear hbg
        have HRD := Lib.hid (show RowRd 49 plV NP w2 v [⟨0, [⟨[], [[lit [101, 99, 104, 111]], [⟨c.data.toList, true, false⟩]], [], [], false⟩]⟩] from hrd)
        obtain ⟨A1, c1, rfl, _⟩ := hrd.form
        have hp1 : (ecL c.data.toList).parts.length = 1 := rfl
        rw [hp1] at HRD ⊢
        clear hp1
        have HR2 := Lib.hid (HRD.out.pl_next ((Below.refl _ _).alloc (Nat.le_refl _) (.cells #[.slice A1 1 c1, .bool false] 24)))
        have HL2 := Lib.hid (Blk.new w2 24 #[.slice A1 1 c1, .bool false])
        have HB2 := Lib.hid (hb1.trans ((hb2.alloc hb2.size (.cells #[.slice A1 1 c1, .bool false] 24)).mono hb1.size))
        clear hrd hb2 HRD
        go_upto_region 10 with (fail)
        generalize (w2.alloc (.cells #[.slice A1 1 c1, .bool false] 24)) = w3 at *
        generalize w2.heap.size = lb at *
        go_wp2_with fail
        refine (IsVariable_is c _ true HB.out (by omega)).mono ?_
        rintro e w' ⟨rfl, rfl⟩
        go_wp2_with fail
        rw [HE2.out]
        refine (Parse_ok _ _ (eqL c.data.toList) (by rw [bs_list]; exact HPQ.out) hz2).mono ?_
        rintro e w4 ⟨v4, rfl, hrd4, hb4⟩
        have hbg : (eqL c.data.toList).bg = false := rfl
        rw [hbg]
        clear hbg
        have HRD4 := Lib.hid (show RowRd 49 plV NP w4 v4 [⟨0, [⟨[⟨c.data.toList, [lit [49]]⟩], [], [], [], false⟩]⟩] from hrd4)
        obtain ⟨A4, c4, rfl, _⟩ := hrd4.form
        have hp1 : (eqL c.data.toList).parts.length = 1 := rfl
        rw [hp1] at HRD4 ⊢
        clear hp1
        have HR4 := Lib.hid (HRD4.out.pl_next ((Below.refl _ _).alloc (Nat.le_refl _) (.cells #[.slice A4 1 c4, .bool false] 24)))
        have HQ4 := Lib.hid (HR2.out.pl_next (hb4.alloc hb4.size (.cells #[.slice A4 1 c4, .bool false] 24)))
        have HL3 := Lib.hid (HL2.out.next (hb4.alloc hb4.size (.cells #[.slice A4 1 c4, .bool false] 24)) HL2.out.lt)
        have HM3 := Lib.hid (Blk.new w4 24 #[.slice A4 1 c4, .bool false])
        have HB4 := Lib.hid (HB2.out.trans ((hb4.alloc hb4.size (.cells #[.slice A4 1 c4, .bool false] 24)).mono HB2.out.size))
        clear hrd4 hb4 HRD4 HR2 HL2 HB2
        go_upto_region 13 with (fail)
        generalize (w4.alloc (.cells #[.slice A4 1 c4, .bool false] 24)) = w5 at *
        generalize w4.heap.size = mb at *
        obtain ⟨b1, o1, d1, b2, o2, d2, v5, hv5, hd1, hb1l, x1, hd2, hb2l, hns, _, x3⟩ := one_cmd HQ4.out
        obtain ⟨b3, o3, d3, A6, n6, d6, hv6, hd3, hb3l, x4, hrw⟩ := two_words (show RowRd 42 wdV NW w5 v5.b [[lit [101, 99, 104, 111]], [⟨c.data.toList, true, false⟩]] from hns.2.1)
        rw [hv6] at x3
        injection hv5 with hv5a _ hv5c
        subst hv5a hv5c
        have l0 : w5.cell? ⟨lb, 0, none⟩ = some (.slice (some ⟨b1, o1, none⟩) 1 c1) := HL3.out.cell 0
        have hlb : lb < w5.heap.size := HL3.out.lt
        have HM5 := Lib.hid HM3.out
        have HR5 := Lib.hid HR4.out
        have HRW := Lib.hid hrw
        clear HQ4 HL3 HM3 HR4 hns hrw hv6
        go_wp2_with fail
        refine (ofWord_any _ _ [⟨c.data.toList, true, false⟩] HRW.out (by simp)).mono ?_
        rintro e w6 ⟨v6, rfl, hown6, hb6⟩
        have HOV := Lib.hid (Rd.of_own hown6)
        obtain ⟨A7, c7, rfl, _⟩ := Rd.form HOV.out
        have HN6 := Lib.hid (show RdV (w6.alloc (.cells #[.string c, .bool true, .bool false] 51)) (.slice (some ⟨w6.heap.size, 0, none⟩) 1 1) [⟨c.data.toList, true, false⟩] from Rd.of_own (by
          have := own_new w6 w6.heap.size 51 3 [.string c, .bool true, .bool false] rfl (Nat.le_refl _)
          rw [show pcC [⟨c.data.toList, true, false⟩] = [.string c, .bool true, .bool false] by simp [pcC, pcV, bs_of]]
          exact this))
        have HOV7 := Lib.hid (Rd.next HOV.out ((Below.refl _ _).alloc (Nat.le_refl _) (.cells #[.string c, .bool true, .bool false] 51)))
        have HB6 := Lib.hid (hb6.alloc hb6.size (.cells #[.string c, .bool true, .bool false] 51))
        have HM6 := Lib.hid (HM5.out.next HB6.out HM5.out.lt)
        have HR6 := Lib.hid (HR5.out.pl_next HB6.out)
        have HB7 := Lib.hid (HB4.out.trans (HB6.out.mono HB4.out.size))
        clear hown6 hb6 HOV l0 x1 x3 x4
        go_wp2_with fail
        refine (SameWord_any _ _ _ [⟨c.data.toList, true, false⟩] [⟨c.data.toList, true, false⟩] HOV7.out HN6.out (by simp) (by simp)).mono ?_
        rintro e w8 ⟨rfl, hb8⟩
        have hsw : sameW [⟨c.data.toList, true, false⟩] [⟨c.data.toList, true, false⟩] = true := (sameW_iff _ _).2 rfl
        rw [hsw]
        clear hsw
        have HM8 := Lib.hid (HM6.out.next hb8 HM6.out.lt)
        have HR8 := Lib.hid (HR6.out.pl_next hb8)
        have HB8 := Lib.hid (HB7.out.trans (hb8.mono HB7.out.size))
        clear hb8 HM6 HR6 HB7 HOV7 HN6
        obtain ⟨b4, o4, d4, b5, o5, d5, v9, hv9, hd4, hb4l, z1, hd5, hb5l, hns9, z2, _⟩ := one_cmd HR8.out
        obtain ⟨A9, c9, hv9a, _⟩ := RowRd.form hns9.1
        rw [hv9a] at z2
        injection hv9 with hv9b _ hv9c
        subst hv9b hv9c
        have m0 : w8.cell? ⟨mb, 0, none⟩ = some (.slice (some ⟨b4, o4, none⟩) 1 c4) := HM8.out.cell 0
        have z3 : w8.cell? ⟨b5, o5, none⟩ = some (.slice A9 1 c9) := z2
        have hmb : mb < w8.heap.size := HM8.out.lt
        clear z2 hns9 hv9a HM8 HR8
        go_wp2
        go_ret
        exact ⟨rfl, HB8.out⟩
  | false =>
    have HB := Lib.hid hB
    clear hB
    go_wp2_with (first | (go_at_call 18; refine (IsVariable_is c _ false HB.out (by omega)).mono ?_; rintro e w' ⟨rfl, rfl⟩) | (go_at_call 19; refine (refIsVariable_is c _ false HB.out (by omega)).mono ?_; rintro e w' ⟨rfl, rfl⟩))
    go_loopg [3] (c.size + 1) (fun gk i wr => ∃ k : Nat, i = .int .i64 k ∧ k ≤ c.size ∧ gk + k = c.size + 1 ∧ (∀ j, j < k → alnI (bt c j) = true) ∧ w1 = wr)
    case atStart => exact ⟨0, rfl, Nat.zero_le _, by omega, fun j h => by omega, rfl⟩
    case round =>
      obtain ⟨k, rfl, hk, hgk, hj, rfl⟩ := hrel
      have HJ := Lib.hid hj
      clear hj
      by_cases hlt : k < c.size
      · have hbk := bt_of c k hlt
        cases hq : alnI (bt c k) with
        | true =>
          have HQ := Lib.hid (aln_cases _ hq)
          have HQ2 := Lib.hid hq
          clear hq
          rcases HQ.out with hx | hx | hx | hx
          · have f0 : decide (bt c k < 97) = false := by simp; omega
            have f1 : decide (122 < bt c k) = false := by simp; omega
            clear hx
            go_wp2
            go_roundg (gk - 1)
            case rel => exact ⟨k + 1, by go_num, by omega, by omega, fun j hj => (by by_cases e : j = k; (subst e; exact HQ2.out); exact HJ.out j (by omega)), rfl⟩
            case measure => omega
          · have f0 : decide (bt c k < 97) = true := by simp; omega
            have f1 : decide (bt c k < 65) = false := by simp; omega
            have f2 : decide (90 < bt c k) = false := by simp; omega
            clear hx
            go_wp2
            go_roundg (gk - 1)
            case rel => exact ⟨k + 1, by go_num, by omega, by omega, fun j hj => (by by_cases e : j = k; (subst e; exact HQ2.out); exact HJ.out j (by omega)), rfl⟩
            case measure => omega
          · have f0 : decide (bt c k < 97) = true := by simp; omega
            have f1 : decide (bt c k < 65) = true := by simp; omega
            have f2 : decide (bt c k < 48) = false := by simp; omega
            have f3 : decide (57 < bt c k) = false := by simp; omega
            clear hx
            go_wp2
            go_roundg (gk - 1)
            case rel => exact ⟨k + 1, by go_num, by omega, by omega, fun j hj => (by by_cases e : j = k; (subst e; exact HQ2.out); exact HJ.out j (by omega)), rfl⟩
            case measure => omega
          · have f0 : decide (bt c k < 97) = true := by simp; omega
            have f1 : decide (bt c k < 65) = false := by simp; omega
            have f2 : decide (90 < bt c k) = true := by simp; omega
            have f3 : decide (bt c k < 48) = false := by simp; omega
            have f4 : decide (57 < bt c k) = true := by simp; omega
            have f5 : (bt c k == 95) = true := by simpa using hx
            have g5 : (bt c k != 95) = false := by simp [hx]
            clear hx
            go_wp2
            go_roundg (gk - 1)
            case rel => exact ⟨k + 1, by go_num, by omega, by omega, fun j hj => (by by_cases e : j = k; (subst e; exact HQ2.out); exact HJ.out j (by omega)), rfl⟩
            case measure => omega
        | false =>
          have HV := Lib.hid (isVar_bad c k hlt hq)
          have HQ := Lib.hid (bad_cases _ hq)
          clear hq
          rcases HQ.out with hx | hx | hx | hx
          · have f0 : decide (bt c k < 97) = true := by simp; omega
            have f1 : decide (bt c k < 65) = true := by simp; omega
            have f2 : decide (bt c k < 48) = true := by simp; omega
            have f3 : (bt c k == 95) = false := by exact beq_false_of_ne (by omega)
            have g3 : (bt c k != 95) = true := by simp; omega
            clear hx
            go_wp2_with (go_at_call 18; refine (IsVariable_is c _ false HB.out (by omega)).mono ?_; rintro e w' ⟨rfl, rfl⟩)
            go_ret
            exact ⟨rfl, hb1⟩
          · have f0 : decide (bt c k < 97) = true := by simp; omega
            have f1 : decide (bt c k < 65) = true := by simp; omega
            have f2 : decide (bt c k < 48) = false := by simp; omega
            have f3 : decide (57 < bt c k) = true := by simp; omega
            have f4 : (bt c k == 95) = false := by exact beq_false_of_ne (by omega)
            have g4 : (bt c k != 95) = true := by simp; omega
            clear hx
            go_wp2_with (go_at_call 18; refine (IsVariable_is c _ false HB.out (by omega)).mono ?_; rintro e w' ⟨rfl, rfl⟩)
            go_ret
            exact ⟨rfl, hb1⟩
          · have f0 : decide (bt c k < 97) = true := by simp; omega
            have f1 : decide (bt c k < 65) = false := by simp; omega
            have f2 : decide (90 < bt c k) = true := by simp; omega
            have f3 : decide (bt c k < 48) = false := by simp; omega
            have f4 : decide (57 < bt c k) = true := by simp; omega
            have f5 : (bt c k == 95) = false := by exact beq_false_of_ne (by omega)
            have g5 : (bt c k != 95) = true := by simp; omega
            clear hx
            go_wp2_with (go_at_call 18; refine (IsVariable_is c _ false HB.out (by omega)).mono ?_; rintro e w' ⟨rfl, rfl⟩)
            go_ret
            exact ⟨rfl, hb1⟩
          · have f0 : decide (bt c k < 97) = false := by simp; omega
            have f1 : decide (122 < bt c k) = true := by simp; omega
            have f2 : decide (bt c k < 65) = false := by simp; omega
            have f3 : decide (90 < bt c k) = true := by simp; omega
            have f4 : decide (bt c k < 48) = false := by simp; omega
            have f5 : decide (57 < bt c k) = true := by simp; omega
            have f6 : (bt c k == 95) = false := by exact beq_false_of_ne (by omega)
            have g6 : (bt c k != 95) = true := by simp; omega
            clear hx
            go_wp2_with (go_at_call 18; refine (IsVariable_is c _ false HB.out (by omega)).mono ?_; rintro e w' ⟨rfl, rfl⟩)
            go_ret
            exact ⟨rfl, hb1⟩
      · obtain rfl : k = c.size := by omega
        have HALL := Lib.hid (all_aln c HJ.out)
        clear HJ
        have HPE := Lib.hid (show parS (ecS c.data.toList) = .err 5 3 by
          rw [par_echo _ HALL.out (by simpa using hc), if_neg (by rw [show isVarS c.data.toList = isVarB c from rfl, HB.out]; decide)])
        have hz : (bs (ecS c.data.toList)).size ≤ 100000 := by rw [bs_size]; unfold ecS; simp; omega
        have HE := Lib.hid (show (⟨#[101, 99, 104, 111, 32, 36]⟩ : ByteArray) ++ c = bs (ecS c.data.toList) by
          unfold ecS; rw [bs_app, bs_of]; rfl)
        go_wp2_with (first | (go_at_call 13; rw [HE.out]; refine (Parse_no _ _ 5 3 (by rw [bs_list]; exact HPE.out) hz).mono ?_; rintro e w2 ⟨rfl, hb2⟩) | (go_at_call 18; refine (IsVariable_is c _ false HB.out (by omega)).mono ?_; rintro e w' ⟨rfl, rfl⟩))
        go_ret
        exact ⟨rfl, hb1.trans ((hb2.alloc hb2.size _).mono hb1.size)⟩
theorem var_walk (s : ByteArray) (w : World) (hs : s.size ≤ maxLen) :
    Calls Try.prog 4 #[.string s] w fun e w' => e = .returned (.bool true) ∧ Below w.heap.size w w' := by
  by_cases h : s.size ≤ 60
  · exact var_small s w hs h
  · exact var_large s w hs h
end Go.Proofs.Ytiddchpkmcncdaa
