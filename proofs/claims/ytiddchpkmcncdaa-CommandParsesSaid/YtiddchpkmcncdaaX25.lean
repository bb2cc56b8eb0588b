/- Walks of layer 41: the text of a word; Quote. -/
import Derived.Test.YtiddchpkmcncdaaX24
namespace Go.Proofs.Ytiddchpkmcncdaa
open Go.RowKit
set_option linter.unusedSimpArgs false
set_option linter.unusedVariables false
theorem isPlain_is (l : Bs) (w : World) (b : Bool) (h : isPlnS l = b) (hs : (bs l).size ≤ 100000) : Calls Try.prog 88 #[.string (bs l)] w fun e w' => e = .returned (.bool b) ∧ w = w' := by
  subst h
  have := isPlain_any (bs l) w hs
  rw [bs_list] at this; exact this
theorem quote_is (l : Bs) (w : World) (hs : (bs l).size ≤ 100000) : Calls Try.prog 89 #[.string (bs l)] w fun e w' => e = .returned (.string (bs (quoteS l))) ∧ Below w.heap.size w w' := by
  have := quote_any (bs l) w hs
  rw [bs_list] at this; exact this
theorem bs_app (a b : Bs) : bs (a ++ b) = bs a ++ bs b := by
  unfold bs
  apply ByteArray.ext
  simp
theorem pcC_get : ∀ (ps : Wd) (k : Nat) (hk : k < ps.length) (j : Nat) (hj : j < 3), (pcC ps)[k * 3 + j]? = (pcV ps[k])[j]?
  | [], k, hk, _, _ => by simp at hk
  | p :: ps, 0, hk, j, hj => by
    rw [pcC_cons, Nat.zero_mul, Nat.zero_add, List.getElem?_append_left (by simpa [pcV] using hj)]; rfl
  | p :: ps, k + 1, hk, j, hj => by
    have := pcC_get ps k (by simpa using hk) j hj
    rw [pcC_cons, List.getElem?_append_right (by simp [pcV]; omega)]
    rw [List.getElem_cons_succ, ← this]
    congr 1
    simp [pcV]; omega
/-- The cells of a piece. -/
theorem RdW.piece {w : World} {v : Value} {ps : Wd} (h : RdW w v ps) (hn : 0 < ps.length) : ∃ b o c, v = .slice (some ⟨b, o, none⟩) ps.length c ∧ ps.length ≤ c ∧ b < w.heap.size ∧ ∀ k (hk : k < ps.length), w.cell? ⟨b, o + k * 3, none⟩ = some (.string (bs ps[k].text)) ∧ w.cell? ⟨b, o + k * 3 + 1, none⟩ = some (.bool ps[k].var) ∧ w.cell? ⟨b, o + k * 3 + 2, none⟩ = some (.bool ps[k].quo) := by
  obtain ⟨b, o, c, hv, hc, _, hb, hcell⟩ := Rd.at_ h hn
  refine ⟨b, o, c, hv, hc, hb, fun k hk => ⟨?_, ?_, ?_⟩⟩
  · exact hcell (k * 3) _ ((pcC_get ps k hk 0 (by omega)).trans rfl)
  · have := hcell (k * 3 + 1) _ ((pcC_get ps k hk 1 (by omega)).trans rfl)
    rw [← Nat.add_assoc] at this; exact this
  · have := hcell (k * 3 + 2) _ ((pcC_get ps k hk 2 (by omega)).trans rfl)
    rw [← Nat.add_assoc] at this; exact this
def TxRel (w : World) (ps : Wd) (gk : Nat) (v i : Value) (wr : World) : Prop :=
  ∃ k, i = .int .i64 ((k : Nat) : Int) ∧ k ≤ ps.length ∧ gk + k = ps.length + 1 ∧ Below w.heap.size w wr ∧ v = .string (bs (txtS false (ps.take k)))
theorem txt_next (ps : Wd) (k : Nat) (hk : k < ps.length) : txtS false (ps.take (k + 1)) = txtS false (ps.take k) ++ pcS (lastA false (ps.take k)) ps[k] := by
  rw [List.take_succ_eq_append_getElem hk, txtS_snoc]
theorem last_zero (ps : Wd) : lastA false (ps.take 0) = false := rfl
theorem last_succ (ps : Wd) (k : Nat) (hk : k < ps.length) : lastA false (ps.take (k + 1)) = aftS ps[k] := by
  rw [List.take_succ_eq_append_getElem hk]
  unfold lastA
  rw [List.getLast?_concat]
theorem esc_all (l : Bs) : (quoteS l).length ≤ 2 * l.length + 2 := by
  have := esc_len l
  unfold quoteS
  simp at this ⊢; omega
theorem pcS_len (a : Bool) (p : Pc) : (pcS a p).length ≤ 2 * p.text.length + 3 := by
  have := esc_all p.text
  unfold pcS
  split
  · simp; omega
  split
  · simp; omega
  split
  · omega
  · omega
theorem txt_len : ∀ (ps : Wd) (a : Bool), (∀ p ∈ ps, p.text.length ≤ 100000) → (txtS a ps).length ≤ 200003 * ps.length
  | [], a, h => by simp [txtS]
  | p :: ps, a, h => by
    have h1 := txt_len ps (aftS p) (fun q hq => h q (List.mem_cons_of_mem _ hq))
    have h2 := pcS_len a p
    have h3 := h p (by simp)
    simp only [txtS, List.length_append, List.length_cons]
    omega
theorem str_eq {a b : ByteArray} (h : a = b) : Value.string a = Value.string b := by rw [h]
set_option maxRecDepth 100000 in
set_option maxHeartbeats 4000000 in
theorem text_any (w : World) (v : Value) (ps : Wd) (h : RdW w v ps) (hl : ps.length ≤ 100000) (hpl : ∀ p ∈ ps, p.text.length ≤ 100000) :
    Calls Try.prog 63 #[v] w fun e w' => e = .returned (.string (bs (txtS false ps))) ∧ Below w.heap.size w w' := by
  rcases Nat.eq_zero_or_pos ps.length with h0 | h0
  · obtain ⟨A, c, rfl, _⟩ := Rd.form h
    obtain rfl := List.length_eq_zero_iff.1 h0
    clear h h0
    go_enter Try.func63, Try.ntmps63
    go_wp2
    go_loopg [3, 8] 1 (fun gk v i wr => v = .string ⟨#[]⟩ ∧ i = .int .i64 0 ∧ Below w.heap.size w wr)
    case atStart => exact ⟨rfl, rfl, Below.refl _ _⟩
    case round =>
      obtain ⟨rfl, rfl, hb⟩ := hrel
      go_wp2
      go_ret
      exact ⟨rfl, hb⟩
  · obtain ⟨b, o, c, rfl, hc, hb0, hcell⟩ := RdW.piece h h0
    have HC := Lib.hid hcell
    have HPL := Lib.hid hpl
    clear h hcell hpl
    go_enter Try.func63, Try.ntmps63
    go_wp2
    go_loopg [3, 8] (ps.length + 1) (fun gk v i wr => TxRel w ps gk v i wr)
    case atStart => exact ⟨0, rfl, Nat.zero_le _, by omega, Below.refl _ _, rfl⟩
    case round =>
      obtain ⟨k, rfl, hk, hgk, hb, rfl⟩ := hrel
      have hcc := bcell hb
      have hbl : b < w.heap.size := hb0
      have hbr : b < wr.heap.size := Nat.lt_of_lt_of_le hb0 hb.size
      by_cases hlt : k < ps.length
      · have HT1 := Lib.hid (txt_next ps k hlt)
        obtain ⟨p0, p1, p2⟩ := HC.out k hlt
        obtain ⟨p, hp⟩ : ∃ p, ps[k] = p := ⟨_, rfl⟩
        rw [hp] at p0 p1 p2 HT1
        have hpl : p.text.length ≤ 100000 := by rw [← hp]; exact HPL.out _ (List.getElem_mem hlt)
        clear hp
        have b0 := (hcc.1 b (o + k * 3) hbl).trans p0
        have b1 := (hcc.1 b (o + k * 3 + 1) hbl).trans p1
        have b2 := (hcc.1 b (o + k * 3 + 2) hbl).trans p2
        clear p0 p1 p2
        have i0 : (0 : Int) ≤ (k : Int) := by omega
        have i1 : (k : Int) < (ps.length : Int) := by omega
        have z1 : (bs p.text).size ≤ 100000 := by rw [bs_size]; exact hpl
        have z2 : (bs (txtS false (ps.take k))).size ≤ 30000000000 := by
          rw [bs_size]
          have h1 := txt_len (ps.take k) false (fun q hq => HPL.out q (List.mem_of_mem_take hq))
          have h2 : (ps.take k).length ≤ 100000 := by simp; omega
          omega
        clear hcc
        cases hv : p.var with
        | true =>
          rw [hv] at b1
          cases hq : p.quo with
          | true =>
            rw [hq] at b2
            have HE := Lib.hid (show bs (txtS false (ps.take (k + 1))) = bs (txtS false (ps.take k)) ++ ((⟨#[34, 36]⟩ : ByteArray) ++ bs p.text ++ (⟨#[34]⟩ : ByteArray)) by
              rw [HT1.out, bs_app]
              unfold pcS
              rw [hv, hq, if_pos (by rfl), bs_app, bs_app]; rfl)
            clear hv hq
            go_wp2
            go_roundg (gk - 1)
            case rel => exact ⟨k + 1, by go_num, by omega, by omega, hb.alloc hb.size _, str_eq (by rw [HE.out])⟩
            case measure => omega
          | false =>
            rw [hq] at b2
            have HE := Lib.hid (show bs (txtS false (ps.take (k + 1))) = bs (txtS false (ps.take k)) ++ ((⟨#[36]⟩ : ByteArray) ++ bs p.text) by
              rw [HT1.out, bs_app]
              unfold pcS
              rw [hv, hq, if_neg (by decide), if_pos (by rfl), bs_app]; rfl)
            clear hv hq
            go_wp2
            go_roundg (gk - 1)
            case rel => exact ⟨k + 1, by go_num, by omega, by omega, hb.alloc hb.size _, str_eq (by rw [HE.out])⟩
            case measure => omega
        | false =>
          rw [hv] at b1
          have HV := Lib.hid hv
          clear hv
          cases hpn : isPlnS p.text with
          | false =>
            have HPN := Lib.hid hpn
            have HE := Lib.hid (show bs (txtS false (ps.take (k + 1))) = bs (txtS false (ps.take k)) ++ bs (quoteS p.text) by
              rw [HT1.out, bs_app]
              unfold pcS
              rw [HV.out, if_neg (by simp), if_neg (by simp), if_neg (by rw [hpn]; simp)])
            have z3 : (bs (quoteS p.text)).size ≤ 300000 := by
              rw [bs_size]; have := esc_all p.text; omega
            clear hpn
            go_wp2_with (first | (go_at_call 88; refine (isPlain_is _ _ _ HPN.out z1).mono ?_; rintro e w' ⟨rfl, rfl⟩) | (go_at_call 89; refine (quote_is _ _ z1).mono ?_; rintro e w9 ⟨rfl, hb9⟩))
            go_roundg (gk - 1)
            case rel => exact ⟨k + 1, by go_num, by omega, by omega, (hb.alloc hb.size _).trans (hb9.mono (by simp; have := hb.size; omega)), str_eq (by rw [HE.out])⟩
            case measure => omega
          | true =>
            have HPN := Lib.hid hpn
            by_cases hk0 : k = 0
            · have i4 : ((k : Int) == 0) = true := beq_iff_eq.2 (by omega)
              have HE := Lib.hid (show bs (txtS false (ps.take (k + 1))) = bs (txtS false (ps.take k)) ++ bs p.text by
                rw [HT1.out, bs_app]
                unfold pcS
                rw [HV.out, if_neg (by simp), if_neg (by simp), if_pos (by rw [hpn, hk0, last_zero]; rfl)])
              clear hpn hk0
              go_wp2_with (go_at_call 88; refine (isPlain_is _ _ _ HPN.out z1).mono ?_; rintro e w' ⟨rfl, rfl⟩)
              go_roundg (gk - 1)
              case rel => exact ⟨k + 1, by go_num, by omega, by omega, hb.alloc hb.size _, str_eq (by rw [HE.out])⟩
              case measure => omega
            · obtain ⟨j, rfl⟩ : ∃ j, k = j + 1 := ⟨k - 1, by omega⟩
              clear hk0
              obtain ⟨g0, g1, g2⟩ := HC.out j (by omega)
              have HLA := Lib.hid (last_succ ps j (by omega))
              obtain ⟨pq, hpq⟩ : ∃ pq, ps[j]'(by omega) = pq := ⟨_, rfl⟩
              rw [hpq] at g0 g1 g2 HLA
              clear hpq
              have hcc := bcell hb
              have c1 := (hcc.1 b (o + j * 3 + 1) hbl).trans g1
              have c2 := (hcc.1 b (o + j * 3 + 2) hbl).trans g2
              clear hcc g0 g1 g2
              have i2 : (0 : Int) ≤ (j : Int) := by omega
              have i3 : (j : Int) < (ps.length : Int) := by omega
              have i4 : ((j : Int) + 1 == 0) = false := beq_false_of_ne (by omega)
              cases hpv : pq.var with
              | false =>
                rw [hpv] at c1
                have HE := Lib.hid (show bs (txtS false (ps.take ((j + 1) + 1))) = bs (txtS false (ps.take (j + 1))) ++ bs p.text by
                  rw [HT1.out, bs_app]
                  unfold pcS
                  rw [HV.out, if_neg (by simp), if_neg (by simp), if_pos (by rw [hpn, HLA.out]; unfold aftS; rw [hpv]; rfl)])
                clear hpn hpv
                go_wp2_with (go_at_call 88; refine (isPlain_is _ _ _ HPN.out z1).mono ?_; rintro e w' ⟨rfl, rfl⟩)
                go_roundg (gk - 1)
                case rel => exact ⟨(j + 1) + 1, by go_num, by omega, by omega, hb.alloc hb.size _, str_eq (by rw [HE.out])⟩
                case measure => omega
              | true =>
                rw [hpv] at c1
                cases hpq : pq.quo with
                | true =>
                  rw [hpq] at c2
                  have HE := Lib.hid (show bs (txtS false (ps.take ((j + 1) + 1))) = bs (txtS false (ps.take (j + 1))) ++ bs p.text by
                    rw [HT1.out, bs_app]
                    unfold pcS
                    rw [HV.out, if_neg (by simp), if_neg (by simp), if_pos (by rw [hpn, HLA.out]; unfold aftS; rw [hpv, hpq]; rfl)])
                  clear hpn hpv hpq
                  go_wp2_with (go_at_call 88; refine (isPlain_is _ _ _ HPN.out z1).mono ?_; rintro e w' ⟨rfl, rfl⟩)
                  go_roundg (gk - 1)
                  case rel => exact ⟨(j + 1) + 1, by go_num, by omega, by omega, hb.alloc hb.size _, str_eq (by rw [HE.out])⟩
                  case measure => omega
                | false =>
                  rw [hpq] at c2
                  have HE := Lib.hid (show bs (txtS false (ps.take ((j + 1) + 1))) = bs (txtS false (ps.take (j + 1))) ++ bs (quoteS p.text) by
                    rw [HT1.out, bs_app]
                    unfold pcS
                    rw [HV.out, if_neg (by simp), if_neg (by simp), if_neg (by rw [hpn, HLA.out]; unfold aftS; rw [hpv, hpq]; decide)])
                  have z3 : (bs (quoteS p.text)).size ≤ 300000 := by
                    rw [bs_size]; have := esc_all p.text; omega
                  clear hpn hpv hpq
                  go_wp2_with (first | (go_at_call 88; refine (isPlain_is _ _ _ HPN.out z1).mono ?_; rintro e w' ⟨rfl, rfl⟩) | (go_at_call 89; refine (quote_is _ _ z1).mono ?_; rintro e w9 ⟨rfl, hb9⟩))
                  go_roundg (gk - 1)
                  case rel => exact ⟨(j + 1) + 1, by go_num, by omega, by omega, (hb.alloc hb.size _).trans (hb9.mono (by simp; have := hb.size; omega)), str_eq (by rw [HE.out])⟩
                  case measure => omega
      · obtain rfl : k = ps.length := by omega
        have HTX := Lib.hid (show txtS false (ps.take ps.length) = txtS false ps by rw [List.take_length])
        clear hcc
        go_wp2
        go_ret
        exact ⟨ret_str (by rw [HTX.out]), hb⟩
theorem one_piece (w : World) (l : Bs) : RdW (w.alloc (.cells #[.string (bs l), .bool false, .bool false] 61)) (.slice (some ⟨w.heap.size, 0, none⟩) 1 1) [lit l] :=
  Rd.of_own (own_new w w.heap.size 61 3 [.string (bs l), .bool false, .bool false] rfl (Nat.le_refl _))
def QuoP (w : World) (l : Bs) (r : Ending) (w' : World) : Prop :=
  (if badS l < l.length then r = .returned (.tuple #[.string ⟨#[]⟩, .int .i64 6]) else r = .returned (.tuple #[.string (bs (txtS false [lit l])), .int .i64 0])) ∧ Below w.heap.size w w'
set_option maxRecDepth 100000 in
theorem Quote_any (w : World) (l : Bs) (hl : l.length ≤ 100000) : Calls Try.prog 28 #[.string (bs l)] w fun e w' => QuoP w l e w' := by
  have hz : (bs l).size ≤ 100000 := by rw [bs_size]; exact hl
  by_cases hb : badS l < l.length
  · have HQ := Lib.hid hb
    have HB := Lib.hid (show badB (bs l) = (badS l : Int) by unfold badB; rw [bs_list, bs_size, if_pos hb])
    obtain ⟨q, hq⟩ : ∃ q, badS l = q := ⟨_, rfl⟩
    have HQQ := Lib.hid hq
    rw [hq] at HB
    clear hb hq
    have h2 : (0 : Int) ≤ (q : Int) := by omega
    go_enter Try.func28, Try.ntmps28
    go_wp2_with fail
    refine (badByte_any (bs l) _ hz).mono ?_
    rintro e w1 ⟨rfl, rfl⟩
    rw [HB.out]
    go_wp2
    go_ret2
    exact ⟨by rw [if_pos HQ.out]; rfl, Below.refl _ _⟩
  · have HQ := Lib.hid hb
    have HB := Lib.hid (show badB (bs l) = -1 by unfold badB; rw [bs_list, bs_size, if_neg hb])
    clear hb
    go_enter Try.func28, Try.ntmps28
    go_wp2_with fail
    refine (badByte_any (bs l) _ hz).mono ?_
    rintro e w1 ⟨rfl, rfl⟩
    rw [HB.out]
    go_wp2_with fail
    refine (text_any _ _ [lit l] (one_piece w l) (by simp) (fun p hp => by simp at hp; subst hp; exact hl)).mono ?_
    rintro e w2 ⟨rfl, hb2⟩
    go_wp2
    go_ret2
    exact ⟨by rw [if_neg HQ.out]; rfl, ((Below.refl _ _).alloc (Nat.le_refl _) _).trans (hb2.mono (by simp))⟩
end Go.Proofs.Ytiddchpkmcncdaa
