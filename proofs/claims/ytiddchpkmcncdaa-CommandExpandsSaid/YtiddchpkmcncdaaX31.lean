/- Walks of layer 41: same (of texts), Literal. -/
import Derived.Test.YtiddchpkmcncdaaX30
namespace Go.Proofs.Ytiddchpkmcncdaa
open Go.RowKit
set_option linter.unusedSimpArgs false
set_option linter.unusedVariables false
theorem Rd.texts {w : World} {v : Value} {l : List Bs} (h : Rd 9 w v l.length (stC l)) (hn : 0 < l.length) : ∃ b o c, v = .slice (some ⟨b, o, none⟩) l.length c ∧ l.length ≤ c ∧ b < w.heap.size ∧ ∀ k (hk : k < l.length), w.cell? ⟨b, o + k, none⟩ = some (.string (bs l[k])) := by
  obtain ⟨b, o, c, hv, hc, _, hb, hcell⟩ := Rd.at_ h hn
  refine ⟨b, o, c, hv, hc, hb, fun k hk => hcell k _ ?_⟩
  simp [stC, hk]
def SsRel (a b : List Bs) (gk : Nat) (i : Value) (w wr : World) : Prop :=
  ∃ k, i = .int .i64 ((k : Nat) : Int) ∧ k ≤ a.length ∧ gk + k = a.length + 1 ∧ Below w.heap.size w wr ∧ a.take k = b.take k
theorem ss_all {a b : List Bs} (hl : a.length = b.length) (h : a.take a.length = b.take a.length) : a = b := by
  rw [List.take_length] at h
  rw [hl, List.take_length] at h
  exact h
theorem ss_next {a b : List Bs} (k : Nat) (ha : k < a.length) (hb : k < b.length) (h : a.take k = b.take k) (he : a[k] = b[k]) : a.take (k + 1) = b.take (k + 1) := by
  rw [List.take_succ_eq_append_getElem ha, List.take_succ_eq_append_getElem hb, h, he]
set_option maxRecDepth 100000 in
set_option maxHeartbeats 2000000 in
theorem sameS_any (w : World) (va vb : Value) (a b : List Bs) (ha : Rd 9 w va a.length (stC a)) (hb : Rd 9 w vb b.length (stC b)) (la : a.length ≤ 10000000000) (lb : b.length ≤ 10000000000) :
    Calls Try.prog 27 #[va, vb] w fun e w' => e = .returned (.bool (decide (a = b))) ∧ Below w.heap.size w w' := by
  by_cases hl : a.length = b.length
  · rcases Nat.eq_zero_or_pos a.length with h0 | h0
    · obtain ⟨A, c, rfl, _⟩ := Rd.form ha
      obtain ⟨B, d, rfl, _⟩ := Rd.form hb
      obtain rfl := List.length_eq_zero_iff.1 h0
      obtain rfl := List.length_eq_zero_iff.1 (hl.symm.trans h0)
      clear ha hb h0 hl
      go_enter Try.func27, Try.ntmps27
      go_wp2
      go_loopg [5] 1 (fun gk i wr => i = .int .i64 0 ∧ Below w.heap.size w wr)
      case atStart => exact ⟨rfl, Below.refl _ _⟩
      case round =>
        obtain ⟨rfl, hb⟩ := hrel
        go_wp2
        go_ret
        exact ⟨rfl, hb⟩
    · obtain ⟨b1, o1, c1, rfl, _, hb1, hc1⟩ := Rd.texts ha h0
      obtain ⟨b2, o2, c2, hv2, _, hb2, hc2⟩ := Rd.texts hb (by omega)
      rw [← hl] at hv2
      subst hv2
      have HC1 := Lib.hid hc1
      have HC2 := Lib.hid hc2
      have HL := Lib.hid hl
      clear ha hb hc1 hc2 hl
      go_enter Try.func27, Try.ntmps27
      go_wp2
      go_loopg [5] (a.length + 1) (fun gk i wr => SsRel a b gk i w wr)
      case atStart => exact ⟨0, rfl, Nat.zero_le _, by omega, Below.refl _ _, rfl⟩
      case round =>
        obtain ⟨k, rfl, hk, hgk, hb, ht⟩ := hrel
        have HT := Lib.hid ht
        clear ht
        by_cases hlt : k < a.length
        · have hltb : k < b.length := by have := HL.out; omega
          have p0 := HC1.out k hlt
          have q0 := HC2.out k hltb
          have x0 := ((bcell hb).1 b1 (o1 + k) hb1).trans p0
          have y0 := ((bcell hb).1 b2 (o2 + k) hb2).trans q0
          clear p0 q0
          have i1 : (0 : Int) ≤ (k : Int) := by omega
          have i2 : (k : Int) < (a.length : Int) := by omega
          by_cases hpq : a[k] = b[k]
          · have HX := Lib.hid (ss_next k hlt hltb HT.out hpq)
            rw [← hpq] at y0
            clear hpq
            generalize a[k] = pk at *
            go_wp2
            go_quiet (fail)
            go_wp2
            go_roundg (gk - 1)
            case rel => exact ⟨k + 1, by go_num, by omega, by omega, below_drewN hb _, HX.out⟩
            case measure => omega
          · have HX := Lib.hid (show decide (a = b) = false by
              refine decide_eq_false ?_
              rintro rfl
              exact hpq rfl)
            have hn1 : ((bs a[k]).toList == (bs b[k]).toList) = false := by rw [bs_tl, bs_tl]; exact beq_false_of_ne hpq
            have hn2 : ((bs a[k]).toList != (bs b[k]).toList) = true := by rw [bs_tl, bs_tl]; simpa using hpq
            clear hpq
            generalize a[k] = pk at *
            generalize b[k] = qk at *
            go_wp2
            go_quiet (fail)
            go_wp2
            go_ret
            exact ⟨ret_bool HX.out.symm, below_drewN hb _⟩
        · obtain rfl : k = a.length := by omega
          have HX := Lib.hid (show decide (a = b) = true from decide_eq_true (ss_all HL.out HT.out))
          go_wp2
          go_ret
          exact ⟨ret_bool HX.out.symm, hb⟩
  · have HX := Lib.hid (show decide (a = b) = false from decide_eq_false (fun h => hl (by rw [h])))
    obtain ⟨A, c, rfl, _⟩ := Rd.form ha
    obtain ⟨B, d, rfl, _⟩ := Rd.form hb
    have e1 : ((a.length : Int) == (b.length : Int)) = false := beq_false_of_ne (by omega)
    have e2 : ((a.length : Int) != (b.length : Int)) = true := by simp; omega
    have e3 : ((a.length) == (b.length)) = false := beq_false_of_ne hl
    clear ha hb
    go_enter Try.func27, Try.ntmps27
    go_wp2
    go_ret
    exact ⟨ret_bool HX.out.symm, Below.refl _ _⟩
theorem in_sgn (s : ByteArray) (k : Nat) (w : World) (b : Bool) (h : sgnL.contains (b8 s k) = b) : Calls Try.prog 64 #[.string ⟨#[46, 47, 45, 43, 58, 44, 64, 37]⟩, .int .u8 (bt s k)] w fun e w' => e = .returned (.bool b) ∧ w = w' := by
  refine (in_any _ _ _ (by decide)).mono ?_
  rintro e w' ⟨rfl, rfl⟩
  refine ⟨ret_bool ?_, rfl⟩
  rw [← h]
  unfold inB
  show (sgnL.any fun b => decide (n8 b = bt s k)) = sgnL.contains (b8 s k)
  rw [bt_b8, Bool.eq_iff_iff]
  simp only [List.any_eq_true, decide_eq_true_eq, List.contains_iff_mem]
  constructor
  · rintro ⟨x, hx, e⟩
    have : x = b8 s k := by
      have h1 : x.toNat = (b8 s k).toNat := by unfold n8 at e; omega
      exact UInt8.toNat_inj.1 h1
    rw [← this]; exact hx
  · intro hx
    exact ⟨_, hx, rfl⟩
theorem letter_is (n : Int) (w : World) (b : Bool) (h : ltrI n = b) : Calls Try.prog 52 #[.int .u8 n] w fun e w' => e = .returned (.bool b) ∧ w = w' := by subst h; exact letter_any n w
theorem digit_is (n : Int) (w : World) (b : Bool) (h : digI n = b) : Calls Try.prog 53 #[.int .u8 n] w fun e w' => e = .returned (.bool b) ∧ w = w' := by subst h; exact digit_any n w
def LiRel (s : ByteArray) (w : World) (gk : Nat) (v i : Value) (wr : World) : Prop :=
  ∃ k, i = .int .i64 ((k : Nat) : Int) ∧ k ≤ s.size ∧ gk + k = s.size + 1 ∧ w = wr ∧ v = .bool (!s.data.toList.isEmpty && (s.data.toList.take k).all plnB)
theorem li_next (s : ByteArray) (k : Nat) (hk : k < s.size) : (!s.data.toList.isEmpty && (s.data.toList.take (k + 1)).all plnB) = ((!s.data.toList.isEmpty && (s.data.toList.take k).all plnB) && plnB (b8 s k)) := by
  have hl : k < s.data.toList.length := by simpa using hk
  rw [List.take_succ_eq_append_getElem hl, List.all_append, ← Bool.and_assoc]
  congr 1
  unfold b8
  rw [List.getD_eq_getElem?_getD, List.getElem?_eq_getElem hl]
  simp
def QlRel (s : ByteArray) (w : World) (gk : Nat) (v i : Value) (wr : World) : Prop :=
  ∃ k, i = .int .i64 ((k : Nat) : Int) ∧ k ≤ s.size ∧ gk + k = s.size + 1 ∧ w = wr ∧ v = .string (bs ([34] ++ (s.data.toList.take k).flatMap escS))
set_option maxRecDepth 100000 in
set_option maxHeartbeats 4000000 in
theorem Literal_any (s : ByteArray) (w : World) (hs : s.size ≤ 100000) :
    Calls Try.prog 29 #[.string s, .bool false] w fun e w' => e = .returned (.string (bs (pcS false (lit s.data.toList)))) ∧ w = w' := by
  have hE : s.toList.isEmpty = s.data.toList.isEmpty := by rw [Lib.toList_data]
  obtain ⟨B, hB⟩ : ∃ B, s.data.toList.isEmpty = B := ⟨_, rfl⟩
  have HBB := Lib.hid hB
  rw [hB] at hE
  clear hB
  go_enter Try.func29, Try.ntmps29
  cases B
  all_goals
    go_wp2
    go_loopg [5, 6] (s.size + 1) (fun gk v i wr => LiRel s w gk v i wr)
    case atStart => exact ⟨0, rfl, Nat.zero_le _, by omega, rfl, by rw [HBB.out]; rfl⟩
    case round =>
      obtain ⟨k, rfl, hk, hgk, rfl, rfl⟩ := hrel
      by_cases hlt : k < s.size
      · have HN := Lib.hid (li_next s k hlt)
        have hbk := bt_of s k hlt
        obtain ⟨pl, hpl⟩ : ∃ pl, (!s.data.toList.isEmpty && (s.data.toList.take k).all plnB) = pl := ⟨_, rfl⟩
        have HP := Lib.hid hpl
        rw [hpl]
        clear hpl
        cases pl with
        | false =>
          go_wp2
          go_roundg (gk - 1)
          case rel => exact ⟨k + 1, by go_num, by omega, by omega, rfl, by rw [HN.out, HP.out]; rfl⟩
          case measure => omega
        | true =>
          cases hl1 : ltrI (bt s k) with
          | true =>
            have HL := Lib.hid hl1
            have HPB := Lib.hid (show plnB (b8 s k) = true by unfold plnB aln8 alnI; rw [← bt_b8, hl1]; rfl)
            clear hl1
            go_wp2_with (first | (go_at_call 52; refine (letter_is _ _ true HL.out).mono ?_; rintro e w' ⟨rfl, rfl⟩))
            go_roundg (gk - 1)
            case rel => exact ⟨k + 1, by go_num, by omega, by omega, rfl, by rw [HN.out, HP.out, Bool.true_and, HPB.out]⟩
            case measure => omega
          | false =>
            have HL := Lib.hid hl1
            cases hd1 : digI (bt s k) with
            | true =>
              have HD := Lib.hid hd1
              have HPB := Lib.hid (show plnB (b8 s k) = true by unfold plnB aln8 alnI; rw [← bt_b8, hl1, hd1]; rfl)
              clear hl1 hd1
              go_wp2_with (first | (go_at_call 52; refine (letter_is _ _ false HL.out).mono ?_; rintro e w' ⟨rfl, rfl⟩) | (go_at_call 53; refine (digit_is _ _ true HD.out).mono ?_; rintro e w' ⟨rfl, rfl⟩))
              go_roundg (gk - 1)
              case rel => exact ⟨k + 1, by go_num, by omega, by omega, rfl, by rw [HN.out, HP.out, Bool.true_and, HPB.out]⟩
              case measure => omega
            | false =>
              have HD := Lib.hid hd1
              cases hs1 : sgnL.contains (b8 s k) with
              | true =>
                have HSG := Lib.hid hs1
                have HPB := Lib.hid (show plnB (b8 s k) = true by unfold plnB; rw [hs1]; simp)
                clear hl1 hd1 hs1
                go_wp2_with (first | (go_at_call 52; refine (letter_is _ _ false HL.out).mono ?_; rintro e w' ⟨rfl, rfl⟩) | (go_at_call 53; refine (digit_is _ _ false HD.out).mono ?_; rintro e w' ⟨rfl, rfl⟩) | (go_at_call 64; refine (in_sgn s k _ true HSG.out).mono ?_; rintro e w' ⟨rfl, rfl⟩))
                go_roundg (gk - 1)
                case rel => exact ⟨k + 1, by go_num, by omega, by omega, rfl, by rw [HN.out, HP.out, Bool.true_and, HPB.out]⟩
                case measure => omega
              | false =>
                have HSG := Lib.hid hs1
                have HPB := Lib.hid (show plnB (b8 s k) = false by unfold plnB aln8 alnI; rw [← bt_b8, hl1, hd1, hs1]; rfl)
                clear hl1 hd1 hs1
                go_wp2_with (first | (go_at_call 52; refine (letter_is _ _ false HL.out).mono ?_; rintro e w' ⟨rfl, rfl⟩) | (go_at_call 53; refine (digit_is _ _ false HD.out).mono ?_; rintro e w' ⟨rfl, rfl⟩) | (go_at_call 64; refine (in_sgn s k _ false HSG.out).mono ?_; rintro e w' ⟨rfl, rfl⟩))
                go_roundg (gk - 1)
                case rel => exact ⟨k + 1, by go_num, by omega, by omega, rfl, by rw [HN.out, HP.out, Bool.true_and, HPB.out]⟩
                case measure => omega
      · obtain rfl : k = s.size := by omega
        have HPL := Lib.hid (show (!s.data.toList.isEmpty && (s.data.toList.take s.size).all plnB) = isPlnS s.data.toList by rw [List.take_of_length_le (by simp)]; rfl)
        rw [HPL.out]
        cases hp : isPlnS s.data.toList with
        | true =>
          have HR := Lib.hid (show bs (pcS false (lit s.data.toList)) = s by unfold pcS lit; simp only; rw [if_neg (by decide), if_neg (by decide), if_pos (by rw [hp]; rfl), bs_of])
          clear hp
          go_wp2
          go_ret
          exact ⟨ret_str HR.out.symm, rfl⟩
        | false =>
          have HR := Lib.hid (show bs (pcS false (lit s.data.toList)) = bs (quoteS s.data.toList) by unfold pcS lit; simp only; rw [if_neg (by decide), if_neg (by decide), if_neg (by rw [hp]; decide)])
          clear hp
          go_wp2
          go_loopg [7, 8] (s.size + 1) (fun gk v i wr => QlRel s w gk v i wr)
          case atStart => exact ⟨0, rfl, Nat.zero_le _, by omega, rfl, rfl⟩
          case round =>
            obtain ⟨k, rfl, hk, hgk, rfl, rfl⟩ := hrel
            have hacc : (bs ([34] ++ (s.data.toList.take k).flatMap escS)).size ≤ 300000 := by
              rw [bs_size]
              have := esc_len (s.data.toList.take k)
              simp at this ⊢; omega
            obtain ⟨acc, ha⟩ : ∃ acc, bs ([34] ++ (s.data.toList.take k).flatMap escS) = acc := ⟨_, rfl⟩
            rw [ha] at hacc ⊢
            have HA := Lib.hid ha
            clear ha
            by_cases hlt : k < s.size
            · have hbk := bt_of s k hlt
              have HXT := Lib.hid (show s.extract k (k + 1) = bs [b8 s k] by
                have := ext_one s.data.toList k (by simpa using hlt)
                rw [bs_of] at this; exact this)
              have hxs : (s.extract k (k + 1)).size = 1 := by rw [size_extract _ _ _ (by omega)]; omega
              have z1 : (s.extract k (k + 1)).size ≤ 1 := by omega
              have z9 : ((⟨#[92]⟩ : ByteArray)).size = 1 := rfl
              clear hxs z9
              by_cases q0 : bt s k = 34
              · have t0 : (bt s k == 34) = true := by simpa using q0
                have HE := Lib.hid (show escS (b8 s k) = [92, b8 s k] by unfold escS escB; rw [← bt_b8]; simp [q0])
                have HX := Lib.hid (show bs ([34] ++ (s.data.toList.take (k + 1)).flatMap escS) = (acc ++ (⟨#[92]⟩ : ByteArray)) ++ bs [b8 s k] by
                  rw [esc_take s.data.toList k (by simpa using hlt), show s.data.toList.getD k 0 = b8 s k from rfl, HE.out, ← List.append_assoc, bs_app]
                  rw [HA.out, show ([92, b8 s k] : Bs) = [92] ++ [b8 s k] from rfl, bs_app, ByteArray.append_assoc]; rfl)
                clear q0
                go_wp2
                go_roundg (gk - 1)
                case rel => exact ⟨k + 1, by go_num, by omega, by omega, rfl, str_eq (by rw [HX.out, HXT.out])⟩
                case measure => omega
              have t0 : (bt s k == 34) = false := by simpa using q0
              by_cases q1 : bt s k = 92
              · have t1 : (bt s k == 92) = true := by simpa using q1
                have HE := Lib.hid (show escS (b8 s k) = [92, b8 s k] by unfold escS escB; rw [← bt_b8]; simp [q1])
                have HX := Lib.hid (show bs ([34] ++ (s.data.toList.take (k + 1)).flatMap escS) = (acc ++ (⟨#[92]⟩ : ByteArray)) ++ bs [b8 s k] by
                  rw [esc_take s.data.toList k (by simpa using hlt), show s.data.toList.getD k 0 = b8 s k from rfl, HE.out, ← List.append_assoc, bs_app]
                  rw [HA.out, show ([92, b8 s k] : Bs) = [92] ++ [b8 s k] from rfl, bs_app, ByteArray.append_assoc]; rfl)
                clear q0 q1
                go_wp2
                go_roundg (gk - 1)
                case rel => exact ⟨k + 1, by go_num, by omega, by omega, rfl, str_eq (by rw [HX.out, HXT.out])⟩
                case measure => omega
              have t1 : (bt s k == 92) = false := by simpa using q1
              by_cases q2 : bt s k = 36
              · have t2 : (bt s k == 36) = true := by simpa using q2
                have HE := Lib.hid (show escS (b8 s k) = [92, b8 s k] by unfold escS escB; rw [← bt_b8]; simp [q2])
                have HX := Lib.hid (show bs ([34] ++ (s.data.toList.take (k + 1)).flatMap escS) = (acc ++ (⟨#[92]⟩ : ByteArray)) ++ bs [b8 s k] by
                  rw [esc_take s.data.toList k (by simpa using hlt), show s.data.toList.getD k 0 = b8 s k from rfl, HE.out, ← List.append_assoc, bs_app]
                  rw [HA.out, show ([92, b8 s k] : Bs) = [92] ++ [b8 s k] from rfl, bs_app, ByteArray.append_assoc]; rfl)
                clear q0 q1 q2
                go_wp2
                go_roundg (gk - 1)
                case rel => exact ⟨k + 1, by go_num, by omega, by omega, rfl, str_eq (by rw [HX.out, HXT.out])⟩
                case measure => omega
              have t2 : (bt s k == 36) = false := by simpa using q2
              have HE := Lib.hid (show escS (b8 s k) = [b8 s k] by unfold escS escB; rw [← bt_b8]; simp [q0, q1, q2])
              have HX := Lib.hid (show bs ([34] ++ (s.data.toList.take (k + 1)).flatMap escS) = acc ++ bs [b8 s k] by
                rw [esc_take s.data.toList k (by simpa using hlt), show s.data.toList.getD k 0 = b8 s k from rfl, HE.out, ← List.append_assoc, bs_app]
                rw [HA.out])
              clear q0 q1 q2
              go_wp2
              go_roundg (gk - 1)
              case rel => exact ⟨k + 1, by go_num, by omega, by omega, rfl, str_eq (by rw [HX.out, HXT.out])⟩
              case measure => omega
            · obtain rfl : k = s.size := by omega
              have HX := Lib.hid (show acc ++ (⟨#[34]⟩ : ByteArray) = bs (quoteS s.data.toList) by
                rw [← HA.out, List.take_of_length_le (by simp)]
                unfold quoteS
                rw [bs_app ([34] ++ _)]; rfl)
              go_wp2
              go_ret
              exact ⟨ret_str (by rw [HR.out, ← HX.out]), rfl⟩
end Go.Proofs.Ytiddchpkmcncdaa
