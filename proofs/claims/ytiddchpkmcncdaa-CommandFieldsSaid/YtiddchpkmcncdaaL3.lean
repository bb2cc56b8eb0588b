/- The law CommandFields, walked. -/
import Derived.Test.YtiddchpkmcncdaaK10
import Derived.Test.YtiddchpkmcncdaaK9
namespace Go.Proofs.Ytiddchpkmcncdaa
open Go.RowKit
set_option linter.unusedSimpArgs false
set_option linter.unusedVariables false
theorem bs_cat3 (a b : Bs) : bs a ++ bs b = bs (a ++ b) := (bs_app a b).symm
theorem rd_vals (w : World) (l : Bs) : Rd 56 (w.alloc (.cells #[.string ⟨#[120]⟩, .string (bs l)] 56)) (.slice (some ⟨w.heap.size, 0, none⟩) 1 1) [(([120] : Bs), l)].length (vlC [([120], l)]) :=
  Rd.of_own (own_new w w.heap.size 56 2 [.string ⟨#[120]⟩, .string (bs l)] rfl (Nat.le_refl _))
theorem rd_piece (w : World) (q : Bool) : RdW (w.alloc (.cells #[.string ⟨#[120]⟩, .bool true, .bool q] 61)) (.slice (some ⟨w.heap.size, 0, none⟩) 1 1) [⟨[120], true, q⟩] :=
  Rd.of_own (own_new w w.heap.size 61 3 [.string ⟨#[120]⟩, .bool true, .bool q] rfl (Nat.le_refl _))
theorem lk_of {w : World} {v : Value} {l : Bs} {ps : Wd} (h : Rd 56 w v [(([120] : Bs), l)].length (vlC [([120], l)])) : LkOk w (ofV v) (valOf [([120], l)]) ps :=
  fun p _ _ wx hb => lookup_of wx v [([120], l)] p.text (h.next hb) (by simp)
theorem nsep_num (b : UInt8) (h : nsep b = true) : n8 b ≠ 32 ∧ n8 b ≠ 9 ∧ n8 b ≠ 10 := by
  unfold nsep sepB at h
  simp at h
  exact ⟨h.1.1, h.1.2, h.2⟩
def F1 (O : List Bs) (w5 : World) (gk : Nat) (v i : Value) (wr : World) : Prop := ∃ k : Nat, i = .int .i64 k ∧ k ≤ O.length ∧ gk + k = O.length + 1 ∧ v = .string (bs (O.take k).flatten) ∧ w5 = wr
def F3 (l : Bs) (w5 : World) (gk : Nat) (v i : Value) (wr : World) : Prop := ∃ k : Nat, i = .int .i64 k ∧ k ≤ l.length ∧ gk + k = l.length + 1 ∧ v = .string (bs ((l.take k).filter nsep)) ∧ w5 = wr
set_option maxRecDepth 100000 in
set_option maxHeartbeats 8000000 in
theorem fields_small (s : ByteArray) (w : World) (hs : s.size ≤ maxLen) (h60 : s.size ≤ 100) :
    Calls Try.prog 6 #[.string s] w fun e w' => e = .returned (.bool true) ∧ Below w.heap.size w w' := by
  unfold maxLen at hs
  have hm : min (s.size : Int) 100 = s.size := by omega
  have HCZ := Lib.hid h60
  have hmf : ∀ (fn : Fn) (first cap : Array Value) (w : World), (Instr.makeFunc fn first cap).run Try.prog w = .ok (.func fn first cap) w := fun _ _ _ _ => rfl
  go_enter Try.func6, Try.ntmps6
  go_upto_region 2 with (fail)
  clear hm h60
  generalize s = c at *
  obtain ⟨l, rfl⟩ : ∃ l, c = bs l := ⟨c.data.toList, (bs_of c).symm⟩
  have hc : (bs l).size ≤ 100 := HCZ.out
  have hll : l.length ≤ 100 := by rw [← bs_size]; exact hc
  clear HCZ
  go_upto_region 3 with (fail)
  have HV1 := Lib.hid (rd_vals w l)
  have HB1 := Lib.hid ((Below.refl w.heap.size w).alloc (Nat.le_refl _) (.cells #[.string ⟨#[120]⟩, .string (bs l)] 56))
  generalize (w.alloc (.cells #[.string ⟨#[120]⟩, .string (bs l)] 56)) = w1 at *
  generalize hvv : (Value.slice (some ⟨w.heap.size, 0, none⟩) 1 1) = vv at *
  have HVV := Lib.hid hvv
  clear hvv
  have HP2 := Lib.hid (rd_piece w1 true)
  have HV2 := Lib.hid (HV1.out.next ((Below.refl w1.heap.size w1).alloc (Nat.le_refl _) (.cells #[.string ⟨#[120]⟩, .bool true, .bool true] 61)))
  have HB2 := Lib.hid (HB1.out.alloc HB1.out.size (.cells #[.string ⟨#[120]⟩, .bool true, .bool true] 61))
  clear HV1 HB1
  go_wp2_with fail
  refine (Expand_pos _ _ (ofV vv) (valOf [([120], l)]) [⟨[120], true, true⟩] HP2.out (by simp) (by simp) (fun p hp => by simp at hp; subst hp; exact ⟨by simp, by simp [valOf]; omega⟩) (lk_of HV2.out)).mono ?_
  rintro e w3 ⟨v4, rfl, hrd4, hb4⟩
  rw [quoted_ok] at hrd4
  obtain ⟨A4, c4, rfl, _⟩ := Rd.form hrd4
  have HV3 := Lib.hid (HV2.out.next (hb4.alloc hb4.size (.cells #[.string ⟨#[120]⟩, .bool true, .bool false] 61)))
  have HQ3 := Lib.hid (Rd.next hrd4 ((Below.refl _ _).alloc (Nat.le_refl _) (.cells #[.string ⟨#[120]⟩, .bool true, .bool false] 61)))
  have HP3 := Lib.hid (rd_piece w3 false)
  have HB3 := Lib.hid (HB2.out.trans ((hb4.alloc hb4.size (.cells #[.string ⟨#[120]⟩, .bool true, .bool false] 61)).mono HB2.out.size))
  clear hrd4 hb4 HV2 HB2 HP2
  obtain ⟨O, hO⟩ : ∃ O, expS (valOf [([120], l)]) [⟨[120], true, false⟩] = O := ⟨_, rfl⟩
  have HO := Lib.hid hO
  have HOK := Lib.hid (fields_ok l O hO).1
  have HFL := Lib.hid (fields_ok l O hO).2
  have hOl := fields_len l O hO
  have hfl : O.flatten.length ≤ 100 := by rw [HFL.out]; have := List.length_filter_le nsep l; omega
  clear hO
  go_wp2_with fail
  refine (Expand_pos _ _ (ofV vv) (valOf [([120], l)]) [⟨[120], true, false⟩] HP3.out (by simp) (by simp) (fun p hp => by simp at hp; subst hp; exact ⟨by simp, by simp [valOf]; omega⟩) (lk_of HV3.out)).mono ?_
  rintro e w5 ⟨v5, rfl, hrd5, hb5⟩
  rw [HO.out] at hrd5
  have HQD := Lib.hid (Rd.next HQ3.out hb5)
  have HB5 := Lib.hid (HB3.out.trans (hb5.mono HB3.out.size))
  clear HQ3 HP3 HV3 HB3 hb5
  rcases Nat.eq_zero_or_pos O.length with h0 | h0
  · obtain ⟨A5, c5, rfl, _⟩ := Rd.form hrd5
    obtain rfl := List.length_eq_zero_iff.1 h0
    clear hrd5 h0 hOl hfl
    go_wp2
    go_loopg [6, 7] 1 (fun gk v i wr => v = .string (bs []) ∧ i = .int .i64 0 ∧ w5 = wr)
    case atStart => exact ⟨rfl, rfl, rfl⟩
    case round =>
      obtain ⟨rfl, rfl, rfl⟩ := hrel
      go_wp2
      go_loopg [9, 10] (l.length + 1) (fun gk v i wr => F3 l w5 gk v i wr)
      case atStart => exact ⟨0, rfl, Nat.zero_le _, by omega, rfl, rfl⟩
      case round =>
        obtain ⟨k, rfl, hk, hgk, rfl, rfl⟩ := hrel
        have hacc : (bs ((l.take k).filter nsep)).size ≤ 100000 := by
          rw [bs_size]
          have := List.length_filter_le nsep (l.take k)
          have h2 : (l.take k).length ≤ k := List.length_take_le _ _
          omega
        by_cases hlt : k < l.length
        · have z1 : k < (bs l).size := by rw [bs_size]; exact hlt
          have hbk := bt_of (bs l) k z1
          have HN := Lib.hid (filt_next l k hlt)
          have HXT := Lib.hid (ext_one l k hlt)
          have HBT := Lib.hid (bt_getD l k)
          have hxs : ((bs l).extract k (k + 1)).size ≤ 1 := by rw [HXT.out, bs_size]; simp
          obtain ⟨c8, hc8⟩ : ∃ c8, l.getD k 0 = c8 := ⟨_, rfl⟩
          rw [hc8] at HN HXT HBT
          clear hc8
          by_cases q0 : bt (bs l) k = 32
          · have t0a : (bt (bs l) k == 32) = true := by simpa using q0
            have t0b : (bt (bs l) k != 32) = false := by simpa using q0
            have HE := Lib.hid (show nsep c8 = false by unfold nsep sepB; rw [← HBT.out]; simp [q0])
            clear q0
            go_wp2
            go_roundg (gk - 1)
            case rel => exact ⟨k + 1, by go_num, by omega, by omega, str_eq (by rw [HN.out, HE.out]; simp), rfl⟩
            case measure => omega
          have t0a : (bt (bs l) k == 32) = false := by simpa using q0
          have t0b : (bt (bs l) k != 32) = true := by simpa using q0
          by_cases q1 : bt (bs l) k = 9
          · have t1a : (bt (bs l) k == 9) = true := by simpa using q1
            have t1b : (bt (bs l) k != 9) = false := by simpa using q1
            have HE := Lib.hid (show nsep c8 = false by unfold nsep sepB; rw [← HBT.out]; simp [q1])
            clear q0 q1
            go_wp2
            go_roundg (gk - 1)
            case rel => exact ⟨k + 1, by go_num, by omega, by omega, str_eq (by rw [HN.out, HE.out]; simp), rfl⟩
            case measure => omega
          have t1a : (bt (bs l) k == 9) = false := by simpa using q1
          have t1b : (bt (bs l) k != 9) = true := by simpa using q1
          by_cases q2 : bt (bs l) k = 10
          · have t2a : (bt (bs l) k == 10) = true := by simpa using q2
            have t2b : (bt (bs l) k != 10) = false := by simpa using q2
            have HE := Lib.hid (show nsep c8 = false by unfold nsep sepB; rw [← HBT.out]; simp [q2])
            clear q0 q1 q2
            go_wp2
            go_roundg (gk - 1)
            case rel => exact ⟨k + 1, by go_num, by omega, by omega, str_eq (by rw [HN.out, HE.out]; simp), rfl⟩
            case measure => omega
          have t2a : (bt (bs l) k == 10) = false := by simpa using q2
          have t2b : (bt (bs l) k != 10) = true := by simpa using q2
          have HE := Lib.hid (show nsep c8 = true by unfold nsep sepB; rw [← HBT.out]; simp [q0, q1, q2])
          clear q0 q1 q2
          go_wp2
          go_roundg (gk - 1)
          case rel => exact ⟨k + 1, by go_num, by omega, by omega, str_eq (by rw [HXT.out, bs_cat3, HN.out, HE.out]; rfl), rfl⟩
          case measure => omega
        · obtain rfl : k = l.length := by omega
          have HTL := Lib.hid (show l.take l.length = l from List.take_length)
          rw [HTL.out]
          have z3 : ¬ (l.length : Int) < ((bs l).size : Int) := by rw [bs_size]; omega
          have z4 : ¬ l.length < (bs l).size := by rw [bs_size]; omega
          clear hacc
          go_wp2_with fail
          refine (known_any _).mono ?_
          rintro e w6 ⟨rfl, hb6⟩
          have HN6 := Lib.hid (show Rd 9 (w6.alloc (.cells #[.string (bs l)] 9)) (.slice (some ⟨w6.heap.size, 0, none⟩) 1 1) 1 (stC [l]) from Rd.of_own (own_new w6 w6.heap.size 9 1 [.string (bs l)] rfl (Nat.le_refl _)))
          have HQ6 := Lib.hid (Rd.next HQD.out (hb6.alloc hb6.size (.cells #[.string (bs l)] 9)))
          have HB6 := Lib.hid (HB5.out.trans ((hb6.alloc hb6.size (.cells #[.string (bs l)] 9)).mono HB5.out.size))
          clear hb6
          go_wp2_with fail
          refine (sameS_any _ _ _ [l] [l] HQ6.out HN6.out (by simp) (by simp)).mono ?_
          rintro e w8 ⟨rfl, hb8⟩
          have hsw : decide ([l] = [l]) = true := decide_eq_true rfl
          rw [hsw]
          clear hsw
          have hALL : ((bs ([] : Bs)).toList == (bs (l.filter nsep)).toList) = true := by rw [bs_tl, bs_tl]; simpa using HFL.out
          go_wp2
          go_ret
          exact ⟨rfl, HB6.out.trans (hb8.mono HB6.out.size)⟩
  · obtain ⟨b, o, cc, rfl, _, hbl, hcell⟩ := Rd.texts hrd5 h0
    have HC := Lib.hid hcell
    clear hrd5 hcell
    go_wp2
    go_loopg [6, 7] (O.length + 1) (fun gk v i wr => F1 O w5 gk v i wr)
    case atStart => exact ⟨0, rfl, Nat.zero_le _, by omega, rfl, rfl⟩
    case round =>
      obtain ⟨k, rfl, hk, hgk, rfl, rfl⟩ := hrel
      by_cases hlt : k < O.length
      · skip
        have hne := HOK.out O[k] (List.getElem_mem hlt)
        have hmm := mem_le O k hlt
        have HFN := Lib.hid (flat_next O k hlt)
        have p0 := HC.out k hlt
        obtain ⟨t, ht⟩ : ∃ t, O[k] = t := ⟨_, rfl⟩
        rw [ht] at hne hmm HFN p0
        clear ht
        have i1 : (0 : Int) ≤ (k : Int) := by omega
        have i2 : (k : Int) < (O.length : Int) := by omega
        have hz1 : (bs t).size ≤ 1000 := by rw [bs_size]; omega
        have hz2 : (bs (O.take k).flatten).size ≤ 1000 := by rw [bs_size]; have := flat_le O k; omega
        have HAN := Lib.hid hne.2
        have hemp : (bs t).toList.isEmpty = false := isEmpty_of _ (by rw [bs_size]; intro e; exact hne.1 (List.length_eq_zero_iff.1 e))
        clear hne hmm
        go_wp2
        obtain ⟨gk0, rfl⟩ : ∃ gk0 : Nat, gk0 = gk := ⟨_, rfl⟩
        go_loopg [8] ((bs t).size + 1) (fun gk i wr => ∃ j : Nat, i = .int .i64 j ∧ j ≤ (bs t).size ∧ gk + j = (bs t).size + 1 ∧ w5 = wr)
        case atStart => exact ⟨0, rfl, Nat.zero_le _, by omega, rfl⟩
        case round =>
          obtain ⟨j, rfl, hj, hgj, rfl⟩ := hrel
          by_cases hjl : j < (bs t).size
          · have hbj := bt_of (bs t) j hjl
            have HNS := Lib.hid (nsep_num _ (List.all_eq_true.1 HAN.out (t.getD j 0) (by
              have hjt : j < t.length := by rw [← bs_size]; exact hjl
              rw [List.getD_eq_getElem?_getD, List.getElem?_eq_getElem hjt]
              exact List.getElem_mem hjt)))
            rw [← bt_getD] at HNS
            have s0 : (bt (bs t) j == 32) = false := beq_false_of_ne HNS.out.1
            have s1 : (bt (bs t) j == 9) = false := beq_false_of_ne HNS.out.2.1
            have s2 : (bt (bs t) j == 10) = false := beq_false_of_ne HNS.out.2.2
            go_wp2
            go_roundg (gk - 1)
            case rel => exact ⟨j + 1, by go_num, by omega, by omega, rfl⟩
            case measure => omega
          · obtain rfl : j = (bs t).size := by omega
            go_wp2
            go_roundg (gk0 - 1)
            case rel => exact ⟨k + 1, by go_num, by omega, by omega, str_eq (by rw [bs_cat3, HFN.out]), rfl⟩
            case measure => omega
      · obtain rfl : k = O.length := by omega
        have HTO := Lib.hid (show O.take O.length = O from List.take_length)
        rw [HTO.out]
        go_wp2
        go_loopg [9, 10] (l.length + 1) (fun gk v i wr => F3 l w5 gk v i wr)
        case atStart => exact ⟨0, rfl, Nat.zero_le _, by omega, rfl, rfl⟩
        case round =>
          obtain ⟨k, rfl, hk, hgk, rfl, rfl⟩ := hrel
          have hacc : (bs ((l.take k).filter nsep)).size ≤ 100000 := by
            rw [bs_size]
            have := List.length_filter_le nsep (l.take k)
            have h2 : (l.take k).length ≤ k := List.length_take_le _ _
            omega
          by_cases hlt : k < l.length
          · have z1 : k < (bs l).size := by rw [bs_size]; exact hlt
            have hbk := bt_of (bs l) k z1
            have HN := Lib.hid (filt_next l k hlt)
            have HXT := Lib.hid (ext_one l k hlt)
            have HBT := Lib.hid (bt_getD l k)
            have hxs : ((bs l).extract k (k + 1)).size ≤ 1 := by rw [HXT.out, bs_size]; simp
            obtain ⟨c8, hc8⟩ : ∃ c8, l.getD k 0 = c8 := ⟨_, rfl⟩
            rw [hc8] at HN HXT HBT
            clear hc8
            by_cases q0 : bt (bs l) k = 32
            · have t0a : (bt (bs l) k == 32) = true := by simpa using q0
              have t0b : (bt (bs l) k != 32) = false := by simpa using q0
              have HE := Lib.hid (show nsep c8 = false by unfold nsep sepB; rw [← HBT.out]; simp [q0])
              clear q0
              go_wp2
              go_roundg (gk - 1)
              case rel => exact ⟨k + 1, by go_num, by omega, by omega, str_eq (by rw [HN.out, HE.out]; simp), rfl⟩
              case measure => omega
            have t0a : (bt (bs l) k == 32) = false := by simpa using q0
            have t0b : (bt (bs l) k != 32) = true := by simpa using q0
            by_cases q1 : bt (bs l) k = 9
            · have t1a : (bt (bs l) k == 9) = true := by simpa using q1
              have t1b : (bt (bs l) k != 9) = false := by simpa using q1
              have HE := Lib.hid (show nsep c8 = false by unfold nsep sepB; rw [← HBT.out]; simp [q1])
              clear q0 q1
              go_wp2
              go_roundg (gk - 1)
              case rel => exact ⟨k + 1, by go_num, by omega, by omega, str_eq (by rw [HN.out, HE.out]; simp), rfl⟩
              case measure => omega
            have t1a : (bt (bs l) k == 9) = false := by simpa using q1
            have t1b : (bt (bs l) k != 9) = true := by simpa using q1
            by_cases q2 : bt (bs l) k = 10
            · have t2a : (bt (bs l) k == 10) = true := by simpa using q2
              have t2b : (bt (bs l) k != 10) = false := by simpa using q2
              have HE := Lib.hid (show nsep c8 = false by unfold nsep sepB; rw [← HBT.out]; simp [q2])
              clear q0 q1 q2
              go_wp2
              go_roundg (gk - 1)
              case rel => exact ⟨k + 1, by go_num, by omega, by omega, str_eq (by rw [HN.out, HE.out]; simp), rfl⟩
              case measure => omega
            have t2a : (bt (bs l) k == 10) = false := by simpa using q2
            have t2b : (bt (bs l) k != 10) = true := by simpa using q2
            have HE := Lib.hid (show nsep c8 = true by unfold nsep sepB; rw [← HBT.out]; simp [q0, q1, q2])
            clear q0 q1 q2
            go_wp2
            go_roundg (gk - 1)
            case rel => exact ⟨k + 1, by go_num, by omega, by omega, str_eq (by rw [HXT.out, bs_cat3, HN.out, HE.out]; rfl), rfl⟩
            case measure => omega
          · obtain rfl : k = l.length := by omega
            have HTL := Lib.hid (show l.take l.length = l from List.take_length)
            rw [HTL.out]
            have z3 : ¬ (l.length : Int) < ((bs l).size : Int) := by rw [bs_size]; omega
            have z4 : ¬ l.length < (bs l).size := by rw [bs_size]; omega
            clear hacc
            go_wp2_with fail
            refine (known_any _).mono ?_
            rintro e w6 ⟨rfl, hb6⟩
            have HN6 := Lib.hid (show Rd 9 (w6.alloc (.cells #[.string (bs l)] 9)) (.slice (some ⟨w6.heap.size, 0, none⟩) 1 1) 1 (stC [l]) from Rd.of_own (own_new w6 w6.heap.size 9 1 [.string (bs l)] rfl (Nat.le_refl _)))
            have HQ6 := Lib.hid (Rd.next HQD.out (hb6.alloc hb6.size (.cells #[.string (bs l)] 9)))
            have HB6 := Lib.hid (HB5.out.trans ((hb6.alloc hb6.size (.cells #[.string (bs l)] 9)).mono HB5.out.size))
            clear hb6
            go_wp2_with fail
            refine (sameS_any _ _ _ [l] [l] HQ6.out HN6.out (by simp) (by simp)).mono ?_
            rintro e w8 ⟨rfl, hb8⟩
            have hsw : decide ([l] = [l]) = true := decide_eq_true rfl
            rw [hsw]
            clear hsw
            have hALL : ((bs O.flatten).toList == (bs (l.filter nsep)).toList) = true := by rw [bs_tl, bs_tl]; rw [HFL.out]; simp
            go_wp2
            go_ret
            exact ⟨rfl, HB6.out.trans (hb8.mono HB6.out.size)⟩
set_option maxRecDepth 100000 in
set_option maxHeartbeats 8000000 in
theorem fields_large (s : ByteArray) (w : World) (hs : s.size ≤ maxLen) (h60 : ¬ s.size ≤ 100) :
    Calls Try.prog 6 #[.string s] w fun e w' => e = .returned (.bool true) ∧ Below w.heap.size w w' := by
  unfold maxLen at hs
  have hm : min (s.size : Int) 100 = 100 := by omega
  have HCZ := Lib.hid (show (s.extract 0 100).size ≤ 100 by rw [size_extract _ _ _ (by omega)]; omega)
  have hmf : ∀ (fn : Fn) (first cap : Array Value) (w : World), (Instr.makeFunc fn first cap).run Try.prog w = .ok (.func fn first cap) w := fun _ _ _ _ => rfl
  go_enter Try.func6, Try.ntmps6
  go_upto_region 2 with (fail)
  generalize s.extract 0 100 = c at *
  clear hm h60
  obtain ⟨l, rfl⟩ : ∃ l, c = bs l := ⟨c.data.toList, (bs_of c).symm⟩
  have hc : (bs l).size ≤ 100 := HCZ.out
  have hll : l.length ≤ 100 := by rw [← bs_size]; exact hc
  clear HCZ
  go_upto_region 3 with (fail)
  have HV1 := Lib.hid (rd_vals w l)
  have HB1 := Lib.hid ((Below.refl w.heap.size w).alloc (Nat.le_refl _) (.cells #[.string ⟨#[120]⟩, .string (bs l)] 56))
  generalize (w.alloc (.cells #[.string ⟨#[120]⟩, .string (bs l)] 56)) = w1 at *
  generalize hvv : (Value.slice (some ⟨w.heap.size, 0, none⟩) 1 1) = vv at *
  have HVV := Lib.hid hvv
  clear hvv
  have HP2 := Lib.hid (rd_piece w1 true)
  have HV2 := Lib.hid (HV1.out.next ((Below.refl w1.heap.size w1).alloc (Nat.le_refl _) (.cells #[.string ⟨#[120]⟩, .bool true, .bool true] 61)))
  have HB2 := Lib.hid (HB1.out.alloc HB1.out.size (.cells #[.string ⟨#[120]⟩, .bool true, .bool true] 61))
  clear HV1 HB1
  go_wp2_with fail
  refine (Expand_pos _ _ (ofV vv) (valOf [([120], l)]) [⟨[120], true, true⟩] HP2.out (by simp) (by simp) (fun p hp => by simp at hp; subst hp; exact ⟨by simp, by simp [valOf]; omega⟩) (lk_of HV2.out)).mono ?_
  rintro e w3 ⟨v4, rfl, hrd4, hb4⟩
  rw [quoted_ok] at hrd4
  obtain ⟨A4, c4, rfl, _⟩ := Rd.form hrd4
  have HV3 := Lib.hid (HV2.out.next (hb4.alloc hb4.size (.cells #[.string ⟨#[120]⟩, .bool true, .bool false] 61)))
  have HQ3 := Lib.hid (Rd.next hrd4 ((Below.refl _ _).alloc (Nat.le_refl _) (.cells #[.string ⟨#[120]⟩, .bool true, .bool false] 61)))
  have HP3 := Lib.hid (rd_piece w3 false)
  have HB3 := Lib.hid (HB2.out.trans ((hb4.alloc hb4.size (.cells #[.string ⟨#[120]⟩, .bool true, .bool false] 61)).mono HB2.out.size))
  clear hrd4 hb4 HV2 HB2 HP2
  obtain ⟨O, hO⟩ : ∃ O, expS (valOf [([120], l)]) [⟨[120], true, false⟩] = O := ⟨_, rfl⟩
  have HO := Lib.hid hO
  have HOK := Lib.hid (fields_ok l O hO).1
  have HFL := Lib.hid (fields_ok l O hO).2
  have hOl := fields_len l O hO
  have hfl : O.flatten.length ≤ 100 := by rw [HFL.out]; have := List.length_filter_le nsep l; omega
  clear hO
  go_wp2_with fail
  refine (Expand_pos _ _ (ofV vv) (valOf [([120], l)]) [⟨[120], true, false⟩] HP3.out (by simp) (by simp) (fun p hp => by simp at hp; subst hp; exact ⟨by simp, by simp [valOf]; omega⟩) (lk_of HV3.out)).mono ?_
  rintro e w5 ⟨v5, rfl, hrd5, hb5⟩
  rw [HO.out] at hrd5
  have HQD := Lib.hid (Rd.next HQ3.out hb5)
  have HB5 := Lib.hid (HB3.out.trans (hb5.mono HB3.out.size))
  clear HQ3 HP3 HV3 HB3 hb5
  rcases Nat.eq_zero_or_pos O.length with h0 | h0
  · obtain ⟨A5, c5, rfl, _⟩ := Rd.form hrd5
    obtain rfl := List.length_eq_zero_iff.1 h0
    clear hrd5 h0 hOl hfl
    go_wp2
    go_loopg [6, 7] 1 (fun gk v i wr => v = .string (bs []) ∧ i = .int .i64 0 ∧ w5 = wr)
    case atStart => exact ⟨rfl, rfl, rfl⟩
    case round =>
      obtain ⟨rfl, rfl, rfl⟩ := hrel
      go_wp2
      go_loopg [9, 10] (l.length + 1) (fun gk v i wr => F3 l w5 gk v i wr)
      case atStart => exact ⟨0, rfl, Nat.zero_le _, by omega, rfl, rfl⟩
      case round =>
        obtain ⟨k, rfl, hk, hgk, rfl, rfl⟩ := hrel
        have hacc : (bs ((l.take k).filter nsep)).size ≤ 100000 := by
          rw [bs_size]
          have := List.length_filter_le nsep (l.take k)
          have h2 : (l.take k).length ≤ k := List.length_take_le _ _
          omega
        by_cases hlt : k < l.length
        · have z1 : k < (bs l).size := by rw [bs_size]; exact hlt
          have hbk := bt_of (bs l) k z1
          have HN := Lib.hid (filt_next l k hlt)
          have HXT := Lib.hid (ext_one l k hlt)
          have HBT := Lib.hid (bt_getD l k)
          have hxs : ((bs l).extract k (k + 1)).size ≤ 1 := by rw [HXT.out, bs_size]; simp
          obtain ⟨c8, hc8⟩ : ∃ c8, l.getD k 0 = c8 := ⟨_, rfl⟩
          rw [hc8] at HN HXT HBT
          clear hc8
          by_cases q0 : bt (bs l) k = 32
          · have t0a : (bt (bs l) k == 32) = true := by simpa using q0
            have t0b : (bt (bs l) k != 32) = false := by simpa using q0
            have HE := Lib.hid (show nsep c8 = false by unfold nsep sepB; rw [← HBT.out]; simp [q0])
            clear q0
            go_wp2
            go_roundg (gk - 1)
            case rel => exact ⟨k + 1, by go_num, by omega, by omega, str_eq (by rw [HN.out, HE.out]; simp), rfl⟩
            case measure => omega
          have t0a : (bt (bs l) k == 32) = false := by simpa using q0
          have t0b : (bt (bs l) k != 32) = true := by simpa using q0
          by_cases q1 : bt (bs l) k = 9
          · have t1a : (bt (bs l) k == 9) = true := by simpa using q1
            have t1b : (bt (bs l) k != 9) = false := by simpa using q1
            have HE := Lib.hid (show nsep c8 = false by unfold nsep sepB; rw [← HBT.out]; simp [q1])
            clear q0 q1
            go_wp2
            go_roundg (gk - 1)
            case rel => exact ⟨k + 1, by go_num, by omega, by omega, str_eq (by rw [HN.out, HE.out]; simp), rfl⟩
            case measure => omega
          have t1a : (bt (bs l) k == 9) = false := by simpa using q1
          have t1b : (bt (bs l) k != 9) = true := by simpa using q1
          by_cases q2 : bt (bs l) k = 10
          · have t2a : (bt (bs l) k == 10) = true := by simpa using q2
            have t2b : (bt (bs l) k != 10) = false := by simpa using q2
            have HE := Lib.hid (show nsep c8 = false by unfold nsep sepB; rw [← HBT.out]; simp [q2])
            clear q0 q1 q2
            go_wp2
            go_roundg (gk - 1)
            case rel => exact ⟨k + 1, by go_num, by omega, by omega, str_eq (by rw [HN.out, HE.out]; simp), rfl⟩
            case measure => omega
          have t2a : (bt (bs l) k == 10) = false := by simpa using q2
          have t2b : (bt (bs l) k != 10) = true := by simpa using q2
          have HE := Lib.hid (show nsep c8 = true by unfold nsep sepB; rw [← HBT.out]; simp [q0, q1, q2])
          clear q0 q1 q2
          go_wp2
          go_roundg (gk - 1)
          case rel => exact ⟨k + 1, by go_num, by omega, by omega, str_eq (by rw [HXT.out, bs_cat3, HN.out, HE.out]; rfl), rfl⟩
          case measure => omega
        · obtain rfl : k = l.length := by omega
          have HTL := Lib.hid (show l.take l.length = l from List.take_length)
          rw [HTL.out]
          have z3 : ¬ (l.length : Int) < ((bs l).size : Int) := by rw [bs_size]; omega
          have z4 : ¬ l.length < (bs l).size := by rw [bs_size]; omega
          clear hacc
          go_wp2_with fail
          refine (known_any _).mono ?_
          rintro e w6 ⟨rfl, hb6⟩
          have HN6 := Lib.hid (show Rd 9 (w6.alloc (.cells #[.string (bs l)] 9)) (.slice (some ⟨w6.heap.size, 0, none⟩) 1 1) 1 (stC [l]) from Rd.of_own (own_new w6 w6.heap.size 9 1 [.string (bs l)] rfl (Nat.le_refl _)))
          have HQ6 := Lib.hid (Rd.next HQD.out (hb6.alloc hb6.size (.cells #[.string (bs l)] 9)))
          have HB6 := Lib.hid (HB5.out.trans ((hb6.alloc hb6.size (.cells #[.string (bs l)] 9)).mono HB5.out.size))
          clear hb6
          go_wp2_with fail
          refine (sameS_any _ _ _ [l] [l] HQ6.out HN6.out (by simp) (by simp)).mono ?_
          rintro e w8 ⟨rfl, hb8⟩
          have hsw : decide ([l] = [l]) = true := decide_eq_true rfl
          rw [hsw]
          clear hsw
          have hALL : ((bs ([] : Bs)).toList == (bs (l.filter nsep)).toList) = true := by rw [bs_tl, bs_tl]; simpa using HFL.out
          go_wp2
          go_ret
          exact ⟨rfl, HB6.out.trans (hb8.mono HB6.out.size)⟩
  · obtain ⟨b, o, cc, rfl, _, hbl, hcell⟩ := Rd.texts hrd5 h0
    have HC := Lib.hid hcell
    clear hrd5 hcell
    go_wp2
    go_loopg [6, 7] (O.length + 1) (fun gk v i wr => F1 O w5 gk v i wr)
    case atStart => exact ⟨0, rfl, Nat.zero_le _, by omega, rfl, rfl⟩
    case round =>
      obtain ⟨k, rfl, hk, hgk, rfl, rfl⟩ := hrel
      by_cases hlt : k < O.length
      · skip
        have hne := HOK.out O[k] (List.getElem_mem hlt)
        have hmm := mem_le O k hlt
        have HFN := Lib.hid (flat_next O k hlt)
        have p0 := HC.out k hlt
        obtain ⟨t, ht⟩ : ∃ t, O[k] = t := ⟨_, rfl⟩
        rw [ht] at hne hmm HFN p0
        clear ht
        have i1 : (0 : Int) ≤ (k : Int) := by omega
        have i2 : (k : Int) < (O.length : Int) := by omega
        have hz1 : (bs t).size ≤ 1000 := by rw [bs_size]; omega
        have hz2 : (bs (O.take k).flatten).size ≤ 1000 := by rw [bs_size]; have := flat_le O k; omega
        have HAN := Lib.hid hne.2
        have hemp : (bs t).toList.isEmpty = false := isEmpty_of _ (by rw [bs_size]; intro e; exact hne.1 (List.length_eq_zero_iff.1 e))
        clear hne hmm
        go_wp2
        obtain ⟨gk0, rfl⟩ : ∃ gk0 : Nat, gk0 = gk := ⟨_, rfl⟩
        go_loopg [8] ((bs t).size + 1) (fun gk i wr => ∃ j : Nat, i = .int .i64 j ∧ j ≤ (bs t).size ∧ gk + j = (bs t).size + 1 ∧ w5 = wr)
        case atStart => exact ⟨0, rfl, Nat.zero_le _, by omega, rfl⟩
        case round =>
          obtain ⟨j, rfl, hj, hgj, rfl⟩ := hrel
          by_cases hjl : j < (bs t).size
          · have hbj := bt_of (bs t) j hjl
            have HNS := Lib.hid (nsep_num _ (List.all_eq_true.1 HAN.out (t.getD j 0) (by
              have hjt : j < t.length := by rw [← bs_size]; exact hjl
              rw [List.getD_eq_getElem?_getD, List.getElem?_eq_getElem hjt]
              exact List.getElem_mem hjt)))
            rw [← bt_getD] at HNS
            have s0 : (bt (bs t) j == 32) = false := beq_false_of_ne HNS.out.1
            have s1 : (bt (bs t) j == 9) = false := beq_false_of_ne HNS.out.2.1
            have s2 : (bt (bs t) j == 10) = false := beq_false_of_ne HNS.out.2.2
            go_wp2
            go_roundg (gk - 1)
            case rel => exact ⟨j + 1, by go_num, by omega, by omega, rfl⟩
            case measure => omega
          · obtain rfl : j = (bs t).size := by omega
            go_wp2
            go_roundg (gk0 - 1)
            case rel => exact ⟨k + 1, by go_num, by omega, by omega, str_eq (by rw [bs_cat3, HFN.out]), rfl⟩
            case measure => omega
      · obtain rfl : k = O.length := by omega
        have HTO := Lib.hid (show O.take O.length = O from List.take_length)
        rw [HTO.out]
        go_wp2
        go_loopg [9, 10] (l.length + 1) (fun gk v i wr => F3 l w5 gk v i wr)
        case atStart => exact ⟨0, rfl, Nat.zero_le _, by omega, rfl, rfl⟩
        case round =>
          obtain ⟨k, rfl, hk, hgk, rfl, rfl⟩ := hrel
          have hacc : (bs ((l.take k).filter nsep)).size ≤ 100000 := by
            rw [bs_size]
            have := List.length_filter_le nsep (l.take k)
            have h2 : (l.take k).length ≤ k := List.length_take_le _ _
            omega
          by_cases hlt : k < l.length
          · have z1 : k < (bs l).size := by rw [bs_size]; exact hlt
            have hbk := bt_of (bs l) k z1
            have HN := Lib.hid (filt_next l k hlt)
            have HXT := Lib.hid (ext_one l k hlt)
            have HBT := Lib.hid (bt_getD l k)
            have hxs : ((bs l).extract k (k + 1)).size ≤ 1 := by rw [HXT.out, bs_size]; simp
            obtain ⟨c8, hc8⟩ : ∃ c8, l.getD k 0 = c8 := ⟨_, rfl⟩
            rw [hc8] at HN HXT HBT
            clear hc8
            by_cases q0 : bt (bs l) k = 32
            · have t0a : (bt (bs l) k == 32) = true := by simpa using q0
              have t0b : (bt (bs l) k != 32) = false := by simpa using q0
              have HE := Lib.hid (show nsep c8 = false by unfold nsep sepB; rw [← HBT.out]; simp [q0])
              clear q0
              go_wp2
              go_roundg (gk - 1)
              case rel => exact ⟨k + 1, by go_num, by omega, by omega, str_eq (by rw [HN.out, HE.out]; simp), rfl⟩
              case measure => omega
            have t0a : (bt (bs l) k == 32) = false := by simpa using q0
            have t0b : (bt (bs l) k != 32) = true := by simpa using q0
            by_cases q1 : bt (bs l) k = 9
            · have t1a : (bt (bs l) k == 9) = true := by simpa using q1
              have t1b : (bt (bs l) k != 9) = false := by simpa using q1
              have HE := Lib.hid (show nsep c8 = false by unfold nsep sepB; rw [← HBT.out]; simp [q1])
              clear q0 q1
              go_wp2
              go_roundg (gk - 1)
              case rel => exact ⟨k + 1, by go_num, by omega, by omega, str_eq (by rw [HN.out, HE.out]; simp), rfl⟩
              case measure => omega
            have t1a : (bt (bs l) k == 9) = false := by simpa using q1
            have t1b : (bt (bs l) k != 9) = true := by simpa using q1
            by_cases q2 : bt (bs l) k = 10
            · have t2a : (bt (bs l) k == 10) = true := by simpa using q2
              have t2b : (bt (bs l) k != 10) = false := by simpa using q2
              have HE := Lib.hid (show nsep c8 = false by unfold nsep sepB; rw [← HBT.out]; simp [q2])
              clear q0 q1 q2
              go_wp2
              go_roundg (gk - 1)
              case rel => exact ⟨k + 1, by go_num, by omega, by omega, str_eq (by rw [HN.out, HE.out]; simp), rfl⟩
              case measure => omega
            have t2a : (bt (bs l) k == 10) = false := by simpa using q2
            have t2b : (bt (bs l) k != 10) = true := by simpa using q2
            have HE := Lib.hid (show nsep c8 = true by unfold nsep sepB; rw [← HBT.out]; simp [q0, q1, q2])
            clear q0 q1 q2
            go_wp2
            go_roundg (gk - 1)
            case rel => exact ⟨k + 1, by go_num, by omega, by omega, str_eq (by rw [HXT.out, bs_cat3, HN.out, HE.out]; rfl), rfl⟩
            case measure => omega
          · obtain rfl : k = l.length := by omega
            have HTL := Lib.hid (show l.take l.length = l from List.take_length)
            rw [HTL.out]
            have z3 : ¬ (l.length : Int) < ((bs l).size : Int) := by rw [bs_size]; omega
            have z4 : ¬ l.length < (bs l).size := by rw [bs_size]; omega
            clear hacc
            go_wp2_with fail
            refine (known_any _).mono ?_
            rintro e w6 ⟨rfl, hb6⟩
            have HN6 := Lib.hid (show Rd 9 (w6.alloc (.cells #[.string (bs l)] 9)) (.slice (some ⟨w6.heap.size, 0, none⟩) 1 1) 1 (stC [l]) from Rd.of_own (own_new w6 w6.heap.size 9 1 [.string (bs l)] rfl (Nat.le_refl _)))
            have HQ6 := Lib.hid (Rd.next HQD.out (hb6.alloc hb6.size (.cells #[.string (bs l)] 9)))
            have HB6 := Lib.hid (HB5.out.trans ((hb6.alloc hb6.size (.cells #[.string (bs l)] 9)).mono HB5.out.size))
            clear hb6
            go_wp2_with fail
            refine (sameS_any _ _ _ [l] [l] HQ6.out HN6.out (by simp) (by simp)).mono ?_
            rintro e w8 ⟨rfl, hb8⟩
            have hsw : decide ([l] = [l]) = true := decide_eq_true rfl
            rw [hsw]
            clear hsw
            have hALL : ((bs O.flatten).toList == (bs (l.filter nsep)).toList) = true := by rw [bs_tl, bs_tl]; rw [HFL.out]; simp
            go_wp2
            go_ret
            exact ⟨rfl, HB6.out.trans (hb8.mono HB6.out.size)⟩
theorem fields_walk (s : ByteArray) (w : World) (hs : s.size ≤ maxLen) :
    Calls Try.prog 6 #[.string s] w fun e w' => e = .returned (.bool true) ∧ Below w.heap.size w w' := by
  by_cases h : s.size ≤ 100
  · exact fields_small s w hs h
  · exact fields_large s w hs h
end Go.Proofs.Ytiddchpkmcncdaa
