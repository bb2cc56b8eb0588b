/- The law CommandBlanks, walked. -/
import Derived.Test.YtiddchpkmcncdaaD2
import Derived.Test.YtiddchpkmcncdaaK18
namespace Go.Proofs.Ytiddchpkmcncdaa
open Go.RowKit
set_option linter.unusedSimpArgs false
set_option linter.unusedVariables false
def BlQ (s : ByteArray) (BL : List Bool) (i n : Nat) (q : Bool) (tl : Bs) : Prop := 32 :: blkS s.data.toList false false BL = tl ++ blkS (dr s i) false q (BL.drop n)
def BlRel (s : ByteArray) (BL : List Bool) (w : World) (gk : Nat) (vt vn vq vi : Value) (wr : World) : Prop :=
  ∃ (i n : Nat) (q : Bool) (tl : Bs), vi = .int .i64 ((i : Nat) : Int) ∧ vn = .int .i64 ((n : Nat) : Int) ∧ vq = .bool q ∧ vt = .string (bs tl) ∧ i ≤ s.size ∧ n ≤ BL.length ∧ gk + i = s.size + 1 ∧ w = wr ∧ BlQ s BL i n q tl ∧ tl.length ≤ 1 + 3 * i
theorem n8_is (b : UInt8) (k : Nat) (hk : k < 256) : n8 b = (k : Int) → b = k.toUInt8 := (n8_eq b k hk).1
section
variable {s : ByteArray} {BL : List Bool} {i n : Nat} {q : Bool} {tl : Bs}
theorem bq_a (h : BlQ s BL i n q tl) (hi : i + 1 < s.size) (hb : bt s i = 92) : BlQ s BL (i + 1 + 1) n q (tl ++ [b8 s i] ++ [b8 s (i + 1)]) := by
  unfold BlQ at h ⊢
  have e : s.data.toList.getD i 0 = 92 := by simpa using n8_is _ 92 (by omega) hb
  rw [dr_cons s i (by omega), dr_cons s (i + 1) hi, e, blkS_92] at h
  unfold b8
  rw [h, e]; simp
theorem bq_b (h : BlQ s BL i n q tl) (hi : i + 1 = s.size) (hb : bt s i = 92) : BlQ s BL (i + 1) n q (tl ++ [b8 s i]) := by
  unfold BlQ at h ⊢
  have e : s.data.toList.getD i 0 = 92 := by simpa using n8_is _ 92 (by omega) hb
  rw [dr_cons s i (by omega), dr_nil s (i + 1) (by omega), e, blkS_92e] at h
  rw [dr_nil s (i + 1) (by omega)]
  unfold b8
  rw [h, e]; simp [blkS]
theorem bq_c (h : BlQ s BL i n q tl) (hi : i < s.size) (hb : bt s i = 34) : BlQ s BL (i + 1) n (!q) (tl ++ [b8 s i]) := by
  unfold BlQ at h ⊢
  have e : s.data.toList.getD i 0 = 34 := by simpa using n8_is _ 34 (by omega) hb
  rw [dr_cons s i hi, e, blkS_34] at h
  unfold b8
  rw [h, e]; simp
theorem bq_d (h : BlQ s BL i n false tl) (hi : i < s.size) (hb : bt s i = 32) (hn : n < BL.length) : BlQ s BL (i + 1) (n + 1) false (tl ++ [b8 s i] ++ (if BL[n] then [9, 32] else [])) := by
  unfold BlQ at h ⊢
  have e : s.data.toList.getD i 0 = 32 := by simpa using n8_is _ 32 (by omega) hb
  rw [dr_cons s i hi, e, List.drop_eq_getElem_cons hn, blkS_32] at h
  unfold b8
  rw [h, e]; simp
theorem bq_e (h : BlQ s BL i n false tl) (hi : i < s.size) (hb : bt s i = 32) (hn : ¬ n < BL.length) : BlQ s BL (i + 1) n false (tl ++ [b8 s i]) := by
  unfold BlQ at h ⊢
  have e : s.data.toList.getD i 0 = 32 := by simpa using n8_is _ 32 (by omega) hb
  rw [dr_cons s i hi, e, List.drop_eq_nil_of_le (by omega), blkS_32n] at h
  rw [List.drop_eq_nil_of_le (by omega)]
  unfold b8
  rw [h, e]; simp
theorem bq_f (h : BlQ s BL i n true tl) (hi : i < s.size) (hb : bt s i = 32) : BlQ s BL (i + 1) n true (tl ++ [b8 s i]) := by
  unfold BlQ at h ⊢
  have e : s.data.toList.getD i 0 = 32 := by simpa using n8_is _ 32 (by omega) hb
  rw [dr_cons s i hi, e, blkS_32q] at h
  unfold b8
  rw [h, e]; simp
theorem bq_g (h : BlQ s BL i n q tl) (hi : i < s.size) (h1 : bt s i ≠ 92) (h2 : bt s i ≠ 34) (h3 : bt s i ≠ 32) : BlQ s BL (i + 1) n q (tl ++ [b8 s i]) := by
  unfold BlQ at h ⊢
  have hx : bt s i = n8 (s.data.toList.getD i 0) := rfl
  rw [hx] at h1 h2 h3
  rw [dr_cons s i hi, blkS_any _ _ _ _ (fun e => h1 (by rw [e]; rfl)) (fun e => h2 (by rw [e]; rfl)) (fun e => h3 (by rw [e]; rfl))] at h
  unfold b8
  rw [h]; simp
end
theorem ext1 (s : ByteArray) (k : Nat) (h : k < s.size) : s.extract k (k + 1) = bs [b8 s k] := by
  have h1 : (s.extract k (k + 1)) = bs (s.extract k (k + 1)).data.toList := (bs_of _).symm
  have hl : k < s.data.toList.length := by simpa using h
  rw [h1, Lib.extract_data]
  congr 1
  rw [Nat.add_sub_cancel_left, List.drop_eq_getElem_cons hl]
  unfold b8
  rw [List.getD_eq_getElem?_getD, List.getElem?_eq_getElem hl]; rfl
set_option maxRecDepth 100000 in
set_option maxHeartbeats 16000000 in
theorem blanks_walk (w : World) (va : Value) (l : Ln) (vb : Value) (BL : List Bool) (ha : RowRa plV (AP w.heap.size) w.heap.size w va l.parts) (hbl : RowRa boV NoN w.heap.size w vb BL) :
    Calls Try.prog 11 #[.agg #[va, .bool l.bg], vb] w fun e w' => e = .returned (.bool true) ∧ Below w.heap.size w w' := by
  obtain ⟨Ab, cb, rfl, hcb, hcm⟩ := hbl.form
  unfold maxLen at hcm
  have HBL := Lib.hid hbl
  clear hbl
  obtain ⟨A, ca, rfl, _, _⟩ := ha.form
  have HLA := Lib.hid ha
  clear ha
  have HBA := Lib.hid ((Below.refl w.heap.size w).alloc (Nat.le_refl _) (.cells #[.slice A l.parts.length ca, .bool l.bg] 30))
  have HXA := Lib.hid (Blk.new w 30 #[.slice A l.parts.length ca, .bool l.bg])
  obtain ⟨L, hL⟩ : ∃ L, cutL l = L := ⟨_, rfl⟩
  have HL := Lib.hid hL
  have HIN := Lib.hid (show LnIn L by rw [← hL]; exact cutL_in l)
  have HLL := Lib.hid HIN.out.lim'
  clear hL
  go_enter Try.func11, Try.ntmps11
  go_wp2_with fail
  generalize (w.alloc (.cells #[.slice A l.parts.length ca, .bool l.bg] 30)) = wa at *
  (with_reducible refine (short_is w.heap.size wa _ l L HL.out (RA.below HLA.out HBA.out) HBA.out.size).mono ?_); rintro e w1 ⟨v1, rfl, hr1, hb1⟩
  obtain ⟨A1, c1, rfl, _⟩ := RowRd.form hr1
  have HB1 := Lib.hid (HBA.out.trans (hb1.mono HBA.out.size))
  have HX1 := Lib.hid (HXA.out.next hb1 HXA.out.lt)
  have HF := Lib.hid (box_fin (Nat.le_refl _) HX1.out hr1 HB1.out)
  have x0 : w1.cell? ⟨w.heap.size, 0, none⟩ = some (.slice A l.parts.length ca) := HX1.out.cell 0
  have x1 : w1.cell? ⟨w.heap.size, 1, none⟩ = some (.bool l.bg) := HX1.out.cell 1
  have xf0 := HX1.out.frozen 0
  have xf1 := HX1.out.frozen 1
  have xl := HX1.out.lt
  clear hr1 hb1 HBA HXA HLA
  go_wp2_with fail
  generalize ((w1.setCell ⟨w.heap.size, 0, none⟩ (.slice A1 L.parts.length c1)).setCell ⟨w.heap.size, 1, none⟩ (.bool L.bg)) = w2 at *
  obtain ⟨hX2, hR2, hB2⟩ := HF.out
  have HX2 := Lib.hid hX2
  have HR2 := Lib.hid hR2
  have HB2 := Lib.hid hB2
  clear hX2 hR2 hB2 HF x0 x1 xf0 xf1 xl HX1 HB1
  (with_reducible refine (To_any w2 _ L HR2.out HLL.out).mono ?_); rintro e w3 ⟨v3, rfl, hr3, hb3⟩
  obtain ⟨A3, c3, rfl, _⟩ := RowRd.form hr3
  have HR3 := Lib.hid hr3
  have HX3 := Lib.hid (HX2.out.next hb3 HX2.out.lt)
  have HQ3 := Lib.hid (RL.next HR2.out hb3)
  have HB3 := Lib.hid (HB2.out.trans (hb3.mono HB2.out.size))
  clear hr3 hb3 HX2 HR2 HB2
  go_wp2_with fail
  rcases prtS_cases L with ⟨ev, hp, hne⟩ | ⟨hp, hpp, hlen, hck⟩
  · have HP := Lib.hid hp
    have n1 : (ev == 0) = false := beq_false_of_ne hne
    have n2 : (ev != 0) = true := by simpa using hne
    clear hp hne
    (with_reducible refine (Print_is0 w3 _ L L.bg ev HR3.out HIN.out rfl HP.out).mono ?_); rintro e w4 ⟨rfl, hb4⟩
    have HB4 := Lib.hid (HB3.out.trans (hb4.mono HB3.out.size)); clear hb4
    go_wp2_with fail
    (with_reducible refine (known_any w4).mono ?_); rintro e w5 ⟨rfl, hb5⟩
    have HB5 := Lib.hid (HB4.out.trans (hb5.mono HB4.out.size)); clear hb5
    go_wp2_with fail
    (with_reducible refine (known_any w5).mono ?_); rintro e w6 ⟨rfl, hb6⟩
    have HB6 := Lib.hid (HB5.out.trans (hb6.mono HB5.out.size)); clear hb6
    go_wp2
    go_ret
    exact ⟨rfl, HB6.out⟩
  · have HP := Lib.hid hp
    have HCK := Lib.hid hck
    obtain ⟨T, hT⟩ : ∃ T, lnT L = T := ⟨_, rfl⟩
    rw [hT] at HP hlen
    have HT := Lib.hid hT
    clear hp hpp hT hck
    (with_reducible refine (Print_is w3 _ L L.bg T 0 HR3.out HIN.out rfl HP.out).mono ?_); rintro e w4 ⟨rfl, hb4⟩
    have HX4 := Lib.hid (HX3.out.next hb4 HX3.out.lt); have HQ4 := Lib.hid (RL.next HQ3.out hb4); have HB4 := Lib.hid (HB3.out.trans (hb4.mono HB3.out.size)); clear hb4
    go_wp2_with fail
    (with_reducible refine (known_any w4).mono ?_); rintro e w5 ⟨rfl, hb5⟩
    have HX5 := Lib.hid (HX4.out.next hb5 HX4.out.lt); have HQ5 := Lib.hid (RL.next HQ4.out hb5); have HB5 := Lib.hid (HB4.out.trans (hb5.mono HB4.out.size)); clear hb5
    obtain ⟨s, hs⟩ : ∃ s, bs T = s := ⟨_, rfl⟩
    have HS := Lib.hid (show s.data.toList = T by rw [← hs, bs_list])
    have hss : s.size ≤ 1024 := by rw [← hs, bs_size]; exact hlen
    rw [hs]
    clear hs hlen HX4 HQ4 HB4 HX3 HQ3 HB3 HR3
    have HCL := Lib.hid (show ∀ n (hn : n < BL.length), ∃ b o, Ab = some ⟨b, o, none⟩ ∧ w5.cell? ⟨b, o + n, none⟩ = some (.bool BL[n]) from fun n hn => by
      obtain ⟨b, o, c, hv, _, _, hb, hx⟩ := HBL.out.at_ boV_len (by omega)
      injection hv with hv
      obtain ⟨u, _, hu⟩ := hx n hn
      have h0 := hu 0 _ rfl
      rw [Nat.mul_one, Nat.add_zero] at h0
      exact ⟨b, o, hv, ((bcell HB5.out).1 b _ hb).trans h0⟩)
    go_wp2
    go_loopg [7, 8, 9, 10] (s.size + 1) (fun gk vt vn vq vi wr => BlRel s BL w5 gk vt vn vq vi wr)
    case atStart => exact ⟨0, 0, false, [32], rfl, rfl, rfl, rfl, Nat.zero_le _, Nat.zero_le _, by omega, rfl, by (unfold BlQ dr; simp), by simp⟩
    case round =>
      obtain ⟨i, n, q, tl, rfl, rfl, rfl, rfl, hi, hn, hgk, rfl, hq, htl⟩ := hrel
      have HQ := Lib.hid hq
      clear hq
      obtain ⟨acc, ha⟩ : ∃ acc, bs tl = acc := ⟨_, rfl⟩
      have HA := Lib.hid ha
      have hacc : acc.size ≤ 4000 := by rw [← ha, bs_size]; omega
      rw [ha]
      clear ha
      by_cases hlt : i < s.size
      · have hbk := bt_of s i hlt
        have HXT := Lib.hid (ext1 s i hlt)
        have z1 : (s.extract i (i + 1)).size ≤ 1 := by rw [HXT.out, bs_size]; simp
        have HE1 := Lib.hid (show acc ++ s.extract i (i + 1) = bs (tl ++ [b8 s i]) by rw [bs_app, HA.out, HXT.out])
        by_cases q0 : bt s i = 92
        · have t0 : (bt s i == 92) = true := by simpa using q0
          by_cases h1 : i + 1 < s.size
          · have HN := Lib.hid (bq_a HQ.out h1 q0)
            have HXT2 := Lib.hid (ext1 s (i + 1) h1)
            have z2 : (s.extract (i + 1) (i + 1 + 1)).size ≤ 1 := by rw [HXT2.out, bs_size]; simp
            have HE2 := Lib.hid (show acc ++ s.extract i (i + 1) ++ s.extract (i + 1) (i + 1 + 1) = bs (tl ++ [b8 s i] ++ [b8 s (i + 1)]) by rw [HE1.out, HXT2.out, ← bs_app])
            have za : (acc ++ s.extract i (i + 1)).size ≤ 4001 := by rw [ByteArray.size_append]; omega
            have d1 : decide (((i : Int) + 1) < (s.size : Int)) = true := decide_eq_true (by omega)
            clear q0
            go_wp2
            go_roundg (gk - 2)
            case rel => exact ⟨i + 1 + 1, n, q, _, by go_num, rfl, rfl, str_eq HE2.out, by omega, hn, by omega, rfl, HN.out, by simp; omega⟩
            case measure => omega
          · have HN := Lib.hid (bq_b HQ.out (by omega) q0)
            have d1 : decide (((i : Int) + 1) < (s.size : Int)) = false := decide_eq_false (by omega)
            have t1 : (bt s i == 34) = false := by rw [q0]; rfl
            have t2 : (bt s i == 32) = false := by rw [q0]; rfl
            clear q0
            go_wp2
            go_roundg (gk - 1)
            case rel => exact ⟨i + 1, n, q, _, by go_num, rfl, rfl, str_eq HE1.out, by omega, hn, by omega, rfl, HN.out, by simp; omega⟩
            case measure => omega
        have t0 : (bt s i == 92) = false := by simpa using q0
        by_cases q1 : bt s i = 34
        · have t1 : (bt s i == 34) = true := by simpa using q1
          have HN := Lib.hid (bq_c HQ.out hlt q1)
          clear q0 q1
          cases q
          all_goals
            go_wp2
            go_roundg (gk - 1)
            case rel => exact ⟨i + 1, n, _, _, by go_num, rfl, rfl, str_eq HE1.out, by omega, hn, by omega, rfl, HN.out, by simp; omega⟩
            case measure => omega
        have t1 : (bt s i == 34) = false := by simpa using q1
        by_cases q2 : bt s i = 32
        · have t2 : (bt s i == 32) = true := by simpa using q2
          cases q with
          | true =>
            have HN := Lib.hid (bq_f HQ.out hlt q2)
            clear q0 q1 q2
            go_wp2
            go_roundg (gk - 1)
            case rel => exact ⟨i + 1, n, true, _, by go_num, rfl, rfl, str_eq HE1.out, by omega, hn, by omega, rfl, HN.out, by simp; omega⟩
            case measure => omega
          | false =>
            by_cases h1 : n < BL.length
            · have HN := Lib.hid (bq_d HQ.out hlt q2 h1)
              obtain ⟨b, o, rfl, hcell⟩ := HCL.out n h1
              have d1 : decide ((n : Int) < (BL.length : Int)) = true := decide_eq_true (by omega)
              have i1 : (0 : Int) ≤ (n : Int) := by omega
              have i2 : (n : Int) < (BL.length : Int) := by omega
              have HN1 := Lib.hid (show n + 1 ≤ BL.length by omega)
              clear q0 q1 q2
              obtain ⟨x, hx⟩ : ∃ x, x = BL[n]'h1 := ⟨_, rfl⟩
              rw [← hx] at hcell HN
              clear hx
              cases x with
              | true =>
                have za : (acc ++ s.extract i (i + 1)).size ≤ 4001 := by rw [ByteArray.size_append]; omega
                have HE2 := Lib.hid (show acc ++ s.extract i (i + 1) ++ (⟨#[9, 32]⟩ : ByteArray) = bs (tl ++ [b8 s i] ++ (if true = true then [9, 32] else [])) by rw [HE1.out, if_pos rfl, bs_app (tl ++ [b8 s i])]; rfl)
                have z9 : ((⟨#[9, 32]⟩ : ByteArray)).size = 2 := rfl
                go_wp2
                go_roundg (gk - 1)
                case rel => exact ⟨i + 1, n + 1, false, _, by go_num, by go_num, rfl, str_eq HE2.out, by omega, HN1.out, by omega, rfl, HN.out, by simp; omega⟩
                case measure => omega
              | false =>
                have HE2 := Lib.hid (show acc ++ s.extract i (i + 1) = bs (tl ++ [b8 s i] ++ (if false = true then [9, 32] else [])) by rw [HE1.out]; simp)
                go_wp2
                go_roundg (gk - 1)
                case rel => exact ⟨i + 1, n + 1, false, _, by go_num, by go_num, rfl, str_eq HE2.out, by omega, HN1.out, by omega, rfl, HN.out, by simp; omega⟩
                case measure => omega
            · have HN := Lib.hid (bq_e HQ.out hlt q2 h1)
              have d1 : decide ((n : Int) < (BL.length : Int)) = false := decide_eq_false (by omega)
              clear q0 q1 q2
              go_wp2
              go_roundg (gk - 1)
              case rel => exact ⟨i + 1, n, false, _, by go_num, rfl, rfl, str_eq HE1.out, by omega, hn, by omega, rfl, HN.out, by simp; omega⟩
              case measure => omega
        · have t2 : (bt s i == 32) = false := by simpa using q2
          have HN := Lib.hid (bq_g HQ.out hlt q0 q1 q2)
          clear q0 q1 q2
          go_wp2
          go_roundg (gk - 1)
          case rel => exact ⟨i + 1, n, q, _, by go_num, rfl, rfl, str_eq HE1.out, by omega, hn, by omega, rfl, HN.out, by simp; omega⟩
          case measure => omega
      · obtain rfl : i = s.size := by omega
        have HZ := Lib.hid (show tl = 32 :: blkS (lnT L) false false BL by
          have h := HQ.out
          unfold BlQ at h
          rw [dr_nil s s.size (Nat.le_refl _), HS.out, ← HT.out] at h
          rw [h]; simp [blkS])
        rw [← HA.out]
        clear hacc
        by_cases hl : tl.length ≤ 1024
        · have HPP := Lib.hid (show parS tl = .ok L by rw [HZ.out]; rw [HZ.out] at hl; exact par_blanks L BL HCK.out hl)
          have d1 : decide ((1024 : Int) < ((bs tl).size : Int)) = false := decide_eq_false (by rw [bs_size]; omega)
          have d2 : decide (((bs tl).size : Int) ≤ 1024) = true := decide_eq_true (by rw [bs_size]; omega)
          have d3 : ¬ 1024 < (bs tl).size := by rw [bs_size]; omega
          have d4 : (bs tl).size ≤ 1024 := by rw [bs_size]; omega
          go_wp2_with fail
          (with_reducible refine (Parse_is tl w5 L L.bg HPP.out rfl (by omega)).mono ?_); rintro e w6 ⟨v6, rfl, hr6, hb6⟩
          obtain ⟨A6, c6, rfl, _⟩ := RowRd.form hr6
          have HM6 := Lib.hid hr6
          have HX6 := Lib.hid (HX5.out.next hb6 HX5.out.lt); have HQ6 := Lib.hid (RL.next HQ5.out hb6); have HB6 := Lib.hid (HB5.out.trans (hb6.mono HB5.out.size)); clear hb6
          have HX7 := Lib.hid (HX6.out.alloc (.cells #[.slice A6 L.parts.length c6, .bool L.bg] 24))
          have HY7 := Lib.hid (Blk.new w6 24 #[.slice A6 L.parts.length c6, .bool L.bg])
          have HN := Lib.hid ((Below.refl w6.heap.size w6).alloc (Nat.le_refl _) (.cells #[.slice A6 L.parts.length c6, .bool L.bg] 24))
          have HQ7 := Lib.hid (RL.next HQ6.out HN.out)
          have HM7 := Lib.hid (CL.next HM6.out HN.out)
          have HB7 := Lib.hid (HB6.out.trans (HN.out.mono HB6.out.size))
          clear hr6
          go_upto_region 22 with (fail)
          generalize (w6.alloc (.cells #[.slice A6 L.parts.length c6, .bool L.bg] 24)) = w7 at *
          generalize w6.heap.size = g at *
          have x00 : w7.cell? ⟨w.heap.size, 0, none⟩ = some (.slice A1 L.parts.length c1) := HX7.out.cell 0
          have x01 : w7.cell? ⟨w.heap.size, 1, none⟩ = some (.bool L.bg) := HX7.out.cell 1
          have y00 : w7.cell? ⟨g, 0, none⟩ = some (.slice A6 L.parts.length c6) := HY7.out.cell 0
          have y01 : w7.cell? ⟨g, 1, none⟩ = some (.bool L.bg) := HY7.out.cell 1
          have HEL := Lib.hid ((eqLn_iff L L).2 rfl)
          clear HX6 HQ6 HM6 HB6 HX5 HQ5 HB5 HN HCL HBL hcb hcm
          refine wp_region_noPanic ?_
          refine wp_region_held_drew (S := (fun w' => w'.cell? ⟨w.heap.size, 0, none⟩ = some (.slice A1 L.parts.length c1) ∧ w'.cell? ⟨w.heap.size, 1, none⟩ = some (.bool L.bg) ∧ w'.cell? ⟨g, 0, none⟩ = some (.slice A6 L.parts.length c6) ∧ w'.cell? ⟨g, 1, none⟩ = some (.bool L.bg))) (by kernel_rfl) ?_ (fun hHeld => ?_)
          · exact ⟨x00, x01, y00, y01⟩
          refine wpAnyH_take (i := 0) (v := ?_) rfl (by kernel_rfl) (by kernel_rfl) (by kernel_rfl) (fun _ _ _ h => h) (Or.inl ⟨by kernel_rfl, ?_⟩) hHeld ?_
          rotate_left
          · (intro w hSw; (try dsimp only at hSw); go_simp; try with_reducible rfl)
          try simp only [Act.put, List.setIfInBounds_toArray, List.set_cons_zero, List.set_cons_succ]
          refine wpAnyH_take (i := 1) (v := ?_) rfl (by kernel_rfl) (by kernel_rfl) (by kernel_rfl) (fun _ _ _ h => h) (Or.inl ⟨by kernel_rfl, ?_⟩) hHeld ?_
          rotate_left
          · (intro w hSw; (try dsimp only at hSw); go_simp; try with_reducible rfl)
          try simp only [Act.put, List.setIfInBounds_toArray, List.set_cons_zero, List.set_cons_succ]
          refine wpAnyH_take (i := 2) (v := ?_) rfl (by kernel_rfl) (by kernel_rfl) (by kernel_rfl) (fun _ _ _ h => h) (Or.inl ⟨by kernel_rfl, ?_⟩) hHeld ?_
          rotate_left
          · (intro w hSw; (try dsimp only at hSw); go_simp; try with_reducible rfl)
          try simp only [Act.put, List.setIfInBounds_toArray, List.set_cons_zero, List.set_cons_succ]
          refine wpAnyH_take (i := 3) (v := ?_) rfl (by kernel_rfl) (by kernel_rfl) (by kernel_rfl) (fun _ _ _ h => h) (Or.inl ⟨by kernel_rfl, ?_⟩) hHeld ?_
          rotate_left
          · (intro w hSw; (try dsimp only at hSw); go_simp; try with_reducible rfl)
          try simp only [Act.put, List.setIfInBounds_toArray, List.set_cons_zero, List.set_cons_succ]
          refine wpAnyH_take (i := 4) (v := undef) rfl (by kernel_rfl) (by kernel_rfl) (by kernel_rfl) (fun _ _ _ h => h) (Or.inr ⟨by kernel_rfl, rfl⟩) hHeld ?_
          try simp only [Act.put, List.setIfInBounds_toArray, List.set_cons_zero, List.set_cons_succ]
          refine wpAnyH_take (i := 5) (v := undef) rfl (by kernel_rfl) (by kernel_rfl) (by kernel_rfl) (fun _ _ _ h => h) (Or.inr ⟨by kernel_rfl, rfl⟩) hHeld ?_
          try simp only [Act.put, List.setIfInBounds_toArray, List.set_cons_zero, List.set_cons_succ]
          refine wpAnyH_take (i := 6) (v := .bool false) rfl (by kernel_rfl) (by kernel_rfl) (by kernel_rfl) (fun _ _ _ h => h) (Or.inl ⟨by kernel_rfl, ?_⟩) hHeld ?_
          · (intro w hSw; (try dsimp only at hSw); go_simp; try with_reducible rfl)
          try simp only [Act.put, List.setIfInBounds_toArray, List.set_cons_zero, List.set_cons_succ]
          refine wpAnyH_take (i := 7) (v := .bool false) rfl (by kernel_rfl) (by kernel_rfl) (by kernel_rfl) (fun _ _ _ h => h) (Or.inl ⟨by kernel_rfl, ?_⟩) hHeld ?_
          · (intro w hSw; (try dsimp only at hSw); go_simp; try with_reducible rfl)
          try simp only [Act.put, List.setIfInBounds_toArray, List.set_cons_zero, List.set_cons_succ]
          refine wpAnyH_take (i := 8) (v := ?_) rfl (by kernel_rfl) (by kernel_rfl) (by kernel_rfl) (fun _ _ _ h => h) (Or.inl ⟨by kernel_rfl, ?_⟩) hHeld ?_
          rotate_left
          · (intro w hSw; (try dsimp only at hSw); go_simp; try with_reducible rfl)
          try simp only [Act.put, List.setIfInBounds_toArray, List.set_cons_zero, List.set_cons_succ]
          refine wpAnyH_take (i := 9) (v := ?_) rfl (by kernel_rfl) (by kernel_rfl) (by kernel_rfl) (fun _ _ _ h => h) (Or.inl ⟨by kernel_rfl, ?_⟩) hHeld ?_
          rotate_left
          · (intro w hSw; (try dsimp only at hSw); go_simp; try with_reducible rfl)
          try simp only [Act.put, List.setIfInBounds_toArray, List.set_cons_zero, List.set_cons_succ]
          refine wpAnyH_take (i := 10) (v := ?_) rfl (by kernel_rfl) (by kernel_rfl) (by kernel_rfl) (fun _ _ _ h => h) (Or.inl ⟨by kernel_rfl, ?_⟩) hHeld ?_
          rotate_left
          · (intro w hSw; (try dsimp only at hSw); go_simp; try with_reducible rfl)
          try simp only [Act.put, List.setIfInBounds_toArray, List.set_cons_zero, List.set_cons_succ]
          refine wpAnyH_take (i := 11) (v := ?_) rfl (by kernel_rfl) (by kernel_rfl) (by kernel_rfl) (fun _ _ _ h => h) (Or.inl ⟨by kernel_rfl, ?_⟩) hHeld ?_
          rotate_left
          · (intro w hSw; (try dsimp only at hSw); go_simp; try with_reducible rfl)
          try simp only [Act.put, List.setIfInBounds_toArray, List.set_cons_zero, List.set_cons_succ]
          refine wpAnyH_take (i := 12) (v := ?_) rfl (by kernel_rfl) (by kernel_rfl) (by kernel_rfl) (fun _ _ _ h => h) (Or.inl ⟨by kernel_rfl, ?_⟩) hHeld ?_
          rotate_left
          · (intro w hSw; (try dsimp only at hSw); go_simp; try with_reducible rfl)
          try simp only [Act.put, List.setIfInBounds_toArray, List.set_cons_zero, List.set_cons_succ]
          refine wpAnyH_take (i := 13) (v := ?_) rfl (by kernel_rfl) (by kernel_rfl) (by kernel_rfl) (fun _ _ _ h => h) (Or.inl ⟨by kernel_rfl, ?_⟩) hHeld ?_
          rotate_left
          · (intro w hSw; (try dsimp only at hSw); go_simp; try with_reducible rfl)
          try simp only [Act.put, List.setIfInBounds_toArray, List.set_cons_zero, List.set_cons_succ]
          refine wpAnyH_take (i := 14) (v := ?_) rfl (by kernel_rfl) (by kernel_rfl) (by kernel_rfl) (fun _ _ _ h => h) (Or.inl ⟨by kernel_rfl, ?_⟩) hHeld ?_
          rotate_left
          · (intro w hSw; (try dsimp only at hSw); go_simp; try with_reducible rfl)
          try simp only [Act.put, List.setIfInBounds_toArray, List.set_cons_zero, List.set_cons_succ]
          refine wpAnyH_take (i := 15) (v := ?_) rfl (by kernel_rfl) (by kernel_rfl) (by kernel_rfl) (fun _ _ _ h => h) (Or.inl ⟨by kernel_rfl, ?_⟩) hHeld ?_
          rotate_left
          · (intro w hSw; (try dsimp only at hSw); go_simp; try with_reducible rfl)
          try simp only [Act.put, List.setIfInBounds_toArray, List.set_cons_zero, List.set_cons_succ]
          refine wpAnyH_take (i := 16) (v := ?_) rfl (by kernel_rfl) (by kernel_rfl) (by kernel_rfl) (fun _ _ _ h => h) (Or.inl ⟨by kernel_rfl, ?_⟩) hHeld ?_
          rotate_left
          · (intro w hSw; (try dsimp only at hSw); go_simp; try with_reducible rfl)
          try simp only [Act.put, List.setIfInBounds_toArray, List.set_cons_zero, List.set_cons_succ]
          refine wpAnyH_take (i := 18) (v := ?_) rfl (by kernel_rfl) (by kernel_rfl) (by kernel_rfl) (fun _ _ _ h => h) (Or.inl ⟨by kernel_rfl, ?_⟩) hHeld ?_
          rotate_left
          · (intro w hSw; (try dsimp only at hSw); go_simp; try with_reducible rfl)
          try simp only [Act.put, List.setIfInBounds_toArray, List.set_cons_zero, List.set_cons_succ]
          refine wpAnyH_ready (rs := [17]) (by kernel_rfl) (by simp) ?_
          refine AllReadyH.cons rfl (fun K hK => ?_) AllReadyH.nil
          go_simp
          go_at_call 17; (with_reducible refine (Of_any w7.drew _ L (CL.next HM7.out (Below.refl _ _).drew) HLL.out).mono ?_); rintro e w8 ⟨v8, rfl, hr8, hb8⟩; obtain ⟨A8, c8, rfl, _⟩ := RowRd.form hr8; have HM8 := Lib.hid hr8; have HX8 := Lib.hid (HX7.out.drew.next hb8 HX7.out.drew.lt); have HY8 := Lib.hid (HY7.out.drew.next hb8 HY7.out.drew.lt); have HQ8 := Lib.hid (RL.next (RL.next HQ7.out (Below.refl _ _).drew) hb8); have HB8 := Lib.hid (HB7.out.drew.trans (hb8.mono HB7.out.drew.size)); have z0 := HX8.out.cell 0; have z1 := HX8.out.cell 1; have z2 := HY8.out.cell 0; have z3 := HY8.out.cell 1; simp only [List.getElem?_toArray, List.getElem?_cons_zero, List.getElem?_cons_succ] at z0 z1 z2 z3; clear hr8 hb8
          try (go_wp2_with fail)
          refine hK.out _ _ ?_ (fun hNew => ?_)
          · exact ⟨z0, z1, z2, z3⟩
          clear hK K hHeld
          have hHeld := hNew
          clear hNew
          try simp only [Act.put, List.setIfInBounds_toArray, List.set_cons_zero, List.set_cons_succ]
          refine wpAnyH_ready (rs := [19]) (by kernel_rfl) (by simp) ?_
          refine AllReadyH.cons rfl (fun K hK => ?_) AllReadyH.nil
          go_simp
          go_at_call 16; (with_reducible refine (Same_is w8 _ _ L L true HM8.out HQ8.out HLL.out HLL.out HEL.out).mono ?_); rintro e w9 ⟨rfl, hb9⟩; have HX9 := Lib.hid (HX8.out.next hb9 HX8.out.lt); have HY9 := Lib.hid (HY8.out.next hb9 HY8.out.lt); have HB9 := Lib.hid (HB8.out.trans (hb9.mono HB8.out.size)); have z0 := HX9.out.cell 0; have z1 := HX9.out.cell 1; have z2 := HY9.out.cell 0; have z3 := HY9.out.cell 1; simp only [List.getElem?_toArray, List.getElem?_cons_zero, List.getElem?_cons_succ] at z0 z1 z2 z3; clear hb9
          try (go_wp2_with fail)
          refine hK.out _ _ ?_ (fun hNew => ?_)
          · exact ⟨z0, z1, z2, z3⟩
          clear hK K hHeld
          have hHeld := hNew
          clear hNew
          try simp only [Act.put, List.setIfInBounds_toArray, List.set_cons_zero, List.set_cons_succ]
          refine wpAnyH_take (i := 20) (v := ?_) rfl (by kernel_rfl) (by kernel_rfl) (by kernel_rfl) (fun _ _ _ h => h) (Or.inl ⟨by kernel_rfl, ?_⟩) hHeld ?_
          rotate_left
          · (intro w hSw; (try dsimp only at hSw); go_simp; try with_reducible rfl)
          try simp only [Act.put, List.setIfInBounds_toArray, List.set_cons_zero, List.set_cons_succ]
          refine wpAnyH_take (i := 21) (v := ?_) rfl (by kernel_rfl) (by kernel_rfl) (by kernel_rfl) (fun _ _ _ h => h) (Or.inl ⟨by kernel_rfl, ?_⟩) hHeld ?_
          rotate_left
          · (intro w hSw; (try dsimp only at hSw); go_simp; try with_reducible rfl)
          try simp only [Act.put, List.setIfInBounds_toArray, List.set_cons_zero, List.set_cons_succ]
          refine wpAnyH_take (i := 22) (v := ?_) rfl (by kernel_rfl) (by kernel_rfl) (by kernel_rfl) (fun _ _ _ h => h) (Or.inl ⟨by kernel_rfl, ?_⟩) hHeld ?_
          rotate_left
          · (intro w hSw; (try dsimp only at hSw); go_simp; try with_reducible rfl)
          try simp only [Act.put, List.setIfInBounds_toArray, List.set_cons_zero, List.set_cons_succ]
          refine wpAnyH_done (by kernel_rfl) ?_ _
          clear hHeld
          simp only [List.getElem_toArray, List.getElem_cons_zero, List.getElem_cons_succ, Act.put, List.setIfInBounds_toArray, List.set_cons_zero, List.set_cons_succ]
          refine NoPanic.normal ?_
          go_wp2
          go_ret
          exact ⟨rfl, HB9.out⟩
        · have HPP := Lib.hid (show parS tl = .err 0 5 from par_long tl (by omega))
          have d1 : decide ((1024 : Int) < ((bs tl).size : Int)) = true := decide_eq_true (by rw [bs_size]; omega)
          have d3 : 1024 < (bs tl).size := by rw [bs_size]; omega
          have d5 : tl.length ≤ 100000 := by omega
          clear hl
          go_wp2_with fail
          (with_reducible refine (Parse_err tl w5 0 5 HPP.out d5).mono ?_); rintro e w6 ⟨rfl, hb6⟩
          have HB6 := Lib.hid (HB5.out.trans (hb6.mono HB5.out.size)); clear hb6
          have HB7 := Lib.hid (HB6.out.alloc HB6.out.size (.cells #[.slice none 0 0, .bool false] 24))
          go_wp2
          go_quiet (fail)
          go_wp2
          go_ret
          exact ⟨rfl, below_drewN HB7.out _⟩
end Go.Proofs.Ytiddchpkmcncdaa
