/- The law CommandCanonical, walked. -/
import Derived.Test.YtiddchpkmcncdaaG5
import Derived.Test.YtiddchpkmcncdaaE1
import Derived.Test.YtiddchpkmcncdaaX26
namespace Go.Proofs.Ytiddchpkmcncdaa
open Go.RowKit
set_option linter.unusedSimpArgs false
set_option linter.unusedVariables false
theorem toksS_err : ∀ (l : Bs) (k p : Nat) (q : Nat) (e : Int), toksS l k p = .err q e → e ≠ 0
  | [], k, p, q, e, h => by unfold toksS at h; cases h
  | b :: l, k + 1, p, q, e, h => toksS_err l k (p + 1) q e h
  | b :: l, 0, p, q, e, h => by
    have hc : ∀ (t : Tk) (r : R (List Tk)), r.cons t = .err q e → r = .err q e := fun t r h => by
      cases r with
      | ok a => cases h
      | err p' e' => exact h
    simp only [toksS] at h
    split at h
    · exact toksS_err l 0 (p + 1) q e h
    split at h
    · exact toksS_err l _ (p + 1) q e (hc _ _ h)
    · split at h
      · exact toksS_err l _ (p + 1) q e (hc _ _ h)
      · rename_i hw; cases h; exact wordS_err _ _ _ _ _ _ _ hw
theorem pipS_err (en : Nat) : ∀ (n : Nat) (ts : List Tk) (a : List Sm) (q : Nat) (e : Int), 0 < n → pipS en n ts a = .err q e → e ≠ 0
  | 0, ts, a, q, e, h0, h => by omega
  | n + 1, ts, a, q, e, _, h => by
    cases hs : simS en ts smE with
    | err p e' => rw [pip_bad en n ts a p e' hs] at h; cases h; exact simS_err en ts.length ts smE _ _ (Nat.le_refl _) hs
    | ok x =>
      obtain ⟨c, ts2⟩ := x
      by_cases hu : (hdT en ts2).op = [124]
      · obtain ⟨t, r, rfl, ht⟩ := hd_bar en ts2 [124] (by simp) hu
        cases n with
        | zero => rw [pip_full en ts a c t r hs ht] at h; cases h; decide
        | succ m =>
          rw [pip_more en (m + 1) ts a c t r hs ht (by omega)] at h
          exact pipS_err en (m + 1) r _ q e (by omega) h
      · rw [pip_end en n ts a c ts2 hs hu] at h
        cases h
theorem linS_err (en : Nat) : ∀ (n : Nat) (ts : List Tk) (wh : Int) (a : List Pl) (q : Nat) (e : Int), 0 < n → linS en n ts wh a = .err q e → e ≠ 0
  | 0, ts, wh, a, q, e, h0, h => by omega
  | n + 1, ts, wh, a, q0, e, _, h => by
    cases hp : pipS en 8 ts [] with
    | err p e' => rw [lin_bad en n ts wh a p e' hp] at h; cases h; exact pipS_err en 8 ts [] _ _ (by omega) hp
    | ok x =>
      obtain ⟨q, ts2⟩ := x
      have hsep : ∀ (t : Tk) (r : List Tk), ts2 = t :: r → isSep t.op → e ≠ 0 := by
        rintro t r rfl hs
        cases n with
        | zero => rw [lin_full en ts wh a q t r hp hs] at h; cases h; decide
        | succ m =>
          rw [lin_more en (m + 1) ts wh a q t r hp hs (by omega)] at h
          exact linS_err en (m + 1) r _ _ q0 e (by omega) h
      by_cases o1 : (hdT en ts2).op = [59]
      · obtain ⟨t, r, e1, ht⟩ := hd_bar en ts2 [59] (by simp) o1
        exact hsep t r e1 (.inl ht)
      by_cases o2 : (hdT en ts2).op = [38, 38]
      · obtain ⟨t, r, e1, ht⟩ := hd_bar en ts2 [38, 38] (by simp) o2
        exact hsep t r e1 (.inr (.inl ht))
      by_cases o3 : (hdT en ts2).op = [124, 124]
      · obtain ⟨t, r, e1, ht⟩ := hd_bar en ts2 [124, 124] (by simp) o3
        exact hsep t r e1 (.inr (.inr ht))
      by_cases o4 : (hdT en ts2).op = [38]
      · obtain ⟨t, r, rfl, ht⟩ := hd_bar en ts2 [38] (by simp) o4
        cases r with
        | nil => rw [lin_bg en n ts wh a q t hp ht] at h; cases h
        | cons u r => rw [lin_bgno en n ts wh a q t u r hp ht] at h; cases h; decide
      · rw [lin_end en n ts wh a q ts2 hp o1 o2 o3 o4] at h
        cases h
theorem parS_err (L : Bs) (q : Nat) (e : Int) (h : parS L = .err q e) : e ≠ 0 := by
  unfold parS at h
  split at h
  · cases h; decide
  split at h
  · cases h; decide
  split at h
  · rename_i ht; cases h; exact toksS_err _ _ _ _ _ ht
  · cases h
  · exact linS_err _ _ _ _ _ _ _ (by omega) h
theorem SmIn.lim {c : Sm} (h : SmIn c) : SmLim c := by
  obtain ⟨h1, h2, h3, h4, h5, h6⟩ := h
  exact ⟨by omega, by omega, fun a ha => by have := (h3 a ha).2.1; omega, fun x hx => by have := (h4 x hx).1; omega, by have := h5.1; omega, by have := h6.1; omega⟩
theorem LnIn.lim {l : Ln} (h : LnIn l) : LLen l := ⟨by have := h.1; omega, fun q hq => ⟨by have := (h.2 q hq).1; omega, fun c hc => ((h.2 q hq).2 c hc).lim⟩⟩
theorem Print_is (w : World) (v : Value) (l : Ln) (bg : Bool) (T : Bs) (e0 : Int) (h : RowRd 49 plV (NPp 61 42 140 46) w v l.parts) (hlim : LnIn l) (hb : l.bg = bg) (hp : prtS l = (T, e0)) :
    Calls Try.prog 35 #[.agg #[v, .bool bg]] w fun e w' => e = .returned (.tuple #[.string (bs T), .int .i64 e0]) ∧ Below w.heap.size w w' := by
  subst hb
  refine (Print_any w v l h hlim).mono ?_
  rintro e w' ⟨h1, h2⟩
  rw [hp] at h1
  exact ⟨h1, h2⟩
theorem Parse_is (L : Bs) (w : World) (l : Ln) (bg : Bool) (h : parS L = .ok l) (hb : l.bg = bg) (hs : L.length ≤ 100000) : Calls Try.prog 13 #[.string (bs L)] w fun r w' => ∃ v, r = .returned (.tuple #[.agg #[v, .bool bg], .int .i64 0, .int .i64 0]) ∧ RowRd 49 plV (NPp 61 42 140 46) w' v l.parts ∧ Below w.heap.size w w' := by
  subst hb
  exact Parse_ok (bs L) w l (by rw [bs_list]; exact h) (by rw [bs_size]; exact hs)
theorem Parse_err (L : Bs) (w : World) (q : Nat) (e : Int) (h : parS L = .err q e) (hs : L.length ≤ 100000) : Calls Try.prog 13 #[.string (bs L)] w fun r w' => r = .returned (.tuple #[.agg #[.slice none 0 0, .bool false], .int .i64 (q : Int), .int .i64 e]) ∧ Below w.heap.size w w' :=
  Parse_no (bs L) w q e (by rw [bs_list]; exact h) (by rw [bs_size]; exact hs)
theorem PL.next {w w' : World} {v : Value} {l : List Pl} (h : RowRd 49 plV (NPp 61 42 140 46) w v l) (hb : Below w.heap.size w w') : RowRd 49 plV (NPp 61 42 140 46) w' v l := h.next hb (fun _ _ h => NPp.next h hb)
set_option maxRecDepth 100000 in
set_option maxHeartbeats 8000000 in
theorem canon_small (s : ByteArray) (w : World) (hs : s.size ≤ maxLen) (h60 : s.size ≤ 1100) :
    Calls Try.prog 12 #[.string s] w fun e w' => e = .returned (.bool true) ∧ Below w.heap.size w w' := by
  unfold maxLen at hs
  have hm : min (s.size : Int) 1100 = s.size := by omega
  obtain ⟨L, hL⟩ : ∃ L, s = bs L := ⟨(s).data.toList, (bs_of _).symm⟩
  have hLl : L.length ≤ 1100 := by rw [← bs_size, ← hL]; exact h60
  have HL := Lib.hid hL
  clear hL
  go_enter Try.func12, Try.ntmps12
  go_wp2_with fail
  rw [HL.out]
  clear hm h60 hs HL
  cases hp : parS L with
  | err q ev =>
    have HP := Lib.hid hp
    have hne := parS_err L q ev hp
    have n1 : (ev == 0) = false := beq_false_of_ne hne
    have n2 : (ev != 0) = true := by simpa using hne
    clear hp hne
    refine (Parse_err L _ q ev HP.out (by omega)).mono ?_
    rintro e w1 ⟨rfl, hb1⟩
    have HB1 := Lib.hid (hb1.alloc hb1.size (.cells #[.slice none 0 0, .bool false] 24))
    have HX1 := Lib.hid (Blk.new w1 24 #[.slice none 0 0, .bool false])
    clear hb1
    go_wp2_with fail
    generalize (w1.alloc (.cells #[.slice none 0 0, .bool false] 24)) = wa at *
    generalize w1.heap.size = g at *
    refine (known_any _).mono ?_
    rintro e w2 ⟨rfl, hb2⟩
    have HB2 := Lib.hid (HB1.out.trans (hb2.mono HB1.out.size))
    have HX2 := Lib.hid (HX1.out.next hb2 HX1.out.lt)
    clear hb2
    go_wp2_with fail
    refine (known_any _).mono ?_
    rintro e w3 ⟨rfl, hb3⟩
    have HB3 := Lib.hid (HB2.out.trans (hb3.mono HB2.out.size))
    have HX3 := Lib.hid (HX2.out.next hb3 HX2.out.lt)
    clear hb3
    have x0 : w3.cell? ⟨g, 0, none⟩ = some (.slice none 0 0) := HX3.out.cell 0
    have x1 : w3.cell? ⟨g, 1, none⟩ = some (.bool false) := HX3.out.cell 1
    go_wp2_with fail
    refine (Equal_is _ _ _ ⟨[], false⟩ ⟨[], false⟩ true RowRd.nil RowRd.nil ⟨by simp, fun q hq => by simp at hq⟩ ⟨by simp, fun q hq => by simp at hq⟩ rfl).mono ?_
    rintro e w4 ⟨rfl, hb4⟩
    go_wp2
    go_ret
    exact ⟨rfl, HB3.out.trans (hb4.mono HB3.out.size)⟩
  | ok l =>
    have HP := Lib.hid hp
    obtain ⟨hck, hin⟩ := par_v L l hp
    have HCK := Lib.hid hck
    have HIN := Lib.hid hin
    have HEQ := Lib.hid ((eqLn_iff l l).2 rfl)
    have hprt : (prtS l = ([], 5)) ∨ (prtS l = (lnT l, 0) ∧ parS (lnT l) = .ok l ∧ (lnT l).length ≤ 1024) := by
      by_cases h : 1024 < (lnT l).length
      · exact .inl (prtS_2 hck h)
      · exact .inr ⟨prtS_3 hck h, par_print l hck (by omega), by omega⟩
    clear hp hck hin
    refine (Parse_is L _ l l.bg HP.out rfl (by omega)).mono ?_
    rintro e w1 ⟨v, rfl, hr1, hb1⟩
    obtain ⟨A, c, rfl, _⟩ := RowRd.form hr1
    have HB1 := Lib.hid (hb1.alloc hb1.size (.cells #[.slice A l.parts.length c, .bool l.bg] 24))
    have HX1 := Lib.hid (Blk.new w1 24 #[.slice A l.parts.length c, .bool l.bg])
    have HR1 := Lib.hid (PL.next hr1 ((Below.refl w1.heap.size w1).alloc (Nat.le_refl _) (.cells #[.slice A l.parts.length c, .bool l.bg] 24)))
    clear hb1 hr1
    go_wp2_with fail
    generalize (w1.alloc (.cells #[.slice A l.parts.length c, .bool l.bg] 24)) = wa at *
    generalize w1.heap.size = g at *
    refine (known_any _).mono ?_
    rintro e w2 ⟨rfl, hb2⟩
    have HB2 := Lib.hid (HB1.out.trans (hb2.mono HB1.out.size))
    have HX2 := Lib.hid (HX1.out.next hb2 HX1.out.lt)
    have HR2 := Lib.hid (PL.next HR1.out hb2)
    clear hb2 HB1 HX1 HR1
    have x0 : w2.cell? ⟨g, 0, none⟩ = some (.slice A l.parts.length c) := HX2.out.cell 0
    have x1 : w2.cell? ⟨g, 1, none⟩ = some (.bool l.bg) := HX2.out.cell 1
    rcases hprt with hpr | ⟨hpr, hpp, hlen⟩
    · have HPR := Lib.hid hpr
      clear hpr
      go_wp2_with fail
      refine (Print_is _ _ l l.bg [] 5 HR2.out HIN.out rfl HPR.out).mono ?_
      rintro e w3 ⟨rfl, hb3⟩
      have HB3 := Lib.hid (HB2.out.trans (hb3.mono HB2.out.size))
      have HX3 := Lib.hid (HX2.out.next hb3 HX2.out.lt)
      have HR3 := Lib.hid (PL.next HR2.out hb3)
      clear hb3 x0 x1 HB2 HX2 HR2
      have x0 : w3.cell? ⟨g, 0, none⟩ = some (.slice A l.parts.length c) := HX3.out.cell 0
      have x1 : w3.cell? ⟨g, 1, none⟩ = some (.bool l.bg) := HX3.out.cell 1
      go_wp2_with fail
      refine (Check_is _ _ l l.bg 0 HR3.out HIN.out rfl HCK.out).mono ?_
      rintro e w4 ⟨rfl, hb4⟩
      have HB4 := Lib.hid (HB3.out.trans (hb4.mono HB3.out.size))
      have HX4 := Lib.hid (HX3.out.next hb4 HX3.out.lt)
      have HR4 := Lib.hid (PL.next HR3.out hb4)
      clear hb4 x0 x1 HB3 HX3 HR3
      have x0 : w4.cell? ⟨g, 0, none⟩ = some (.slice A l.parts.length c) := HX4.out.cell 0
      have x1 : w4.cell? ⟨g, 1, none⟩ = some (.bool l.bg) := HX4.out.cell 1
      go_wp2_with fail
      refine (Check_is _ _ l l.bg 0 HR4.out HIN.out rfl HCK.out).mono ?_
      rintro e w5 ⟨rfl, hb5⟩
      go_wp2
      go_ret
      exact ⟨rfl, HB4.out.trans (hb5.mono HB4.out.size)⟩
    · have HPR := Lib.hid hpr
      have HPP := Lib.hid hpp
      clear hpr hpp
      obtain ⟨T, hT⟩ : ∃ T, lnT l = T := ⟨_, rfl⟩
      rw [hT] at HPR HPP hlen
      clear hT
      go_wp2_with fail
      refine (Print_is _ _ l l.bg T 0 HR2.out HIN.out rfl HPR.out).mono ?_
      rintro e w3 ⟨rfl, hb3⟩
      have HB3 := Lib.hid (HB2.out.trans (hb3.mono HB2.out.size))
      have HX3 := Lib.hid (HX2.out.next hb3 HX2.out.lt)
      have HR3 := Lib.hid (PL.next HR2.out hb3)
      clear hb3 x0 x1 HB2 HX2 HR2
      have x0 : w3.cell? ⟨g, 0, none⟩ = some (.slice A l.parts.length c) := HX3.out.cell 0
      have x1 : w3.cell? ⟨g, 1, none⟩ = some (.bool l.bg) := HX3.out.cell 1
      go_wp2_with fail
      refine (Check_is _ _ l l.bg 0 HR3.out HIN.out rfl HCK.out).mono ?_
      rintro e w4 ⟨rfl, hb4⟩
      have HB4 := Lib.hid (HB3.out.trans (hb4.mono HB3.out.size))
      have HX4 := Lib.hid (HX3.out.next hb4 HX3.out.lt)
      have HR4 := Lib.hid (PL.next HR3.out hb4)
      clear hb4 x0 x1 HB3 HX3 HR3
      go_wp2_with fail
      refine (Parse_is T _ l l.bg HPP.out rfl (by omega)).mono ?_
      rintro e w5 ⟨v5, rfl, hr5, hb5⟩
      obtain ⟨A5, c5, rfl, _⟩ := RowRd.form hr5
      have HB5 := Lib.hid ((HB4.out.trans (hb5.mono HB4.out.size)).alloc (Nat.le_trans HB4.out.size hb5.size) (.cells #[.slice A5 l.parts.length c5, .bool l.bg] 24))
      have HX5 := Lib.hid ((HX4.out.next hb5 HX4.out.lt).alloc (.cells #[.slice A5 l.parts.length c5, .bool l.bg] 24))
      have HR5 := Lib.hid (PL.next (PL.next HR4.out hb5) ((Below.refl w5.heap.size w5).alloc (Nat.le_refl _) (.cells #[.slice A5 l.parts.length c5, .bool l.bg] 24)))
      have HY5 := Lib.hid (Blk.new w5 24 #[.slice A5 l.parts.length c5, .bool l.bg])
      have HS5 := Lib.hid (PL.next hr5 ((Below.refl w5.heap.size w5).alloc (Nat.le_refl _) (.cells #[.slice A5 l.parts.length c5, .bool l.bg] 24)))
      clear hb5 hr5 HB4 HX4 HR4
      go_wp2_with fail
      generalize (w5.alloc (.cells #[.slice A5 l.parts.length c5, .bool l.bg] 24)) = wb at *
      generalize w5.heap.size = h at *
      refine (Print_is _ _ l l.bg T 0 HS5.out HIN.out rfl HPR.out).mono ?_
      rintro e w6 ⟨rfl, hb6⟩
      have HB6 := Lib.hid (HB5.out.trans (hb6.mono HB5.out.size))
      have HX6 := Lib.hid (HX5.out.next hb6 HX5.out.lt)
      have HR6 := Lib.hid (PL.next HR5.out hb6)
      have HY6 := Lib.hid (HY5.out.next hb6 HY5.out.lt)
      have HS6 := Lib.hid (PL.next HS5.out hb6)
      clear hb6 HB5 HX5 HR5 HY5 HS5
      have x0 : w6.cell? ⟨g, 0, none⟩ = some (.slice A l.parts.length c) := HX6.out.cell 0
      have x1 : w6.cell? ⟨g, 1, none⟩ = some (.bool l.bg) := HX6.out.cell 1
      have y0 : w6.cell? ⟨h, 0, none⟩ = some (.slice A5 l.parts.length c5) := HY6.out.cell 0
      have y1 : w6.cell? ⟨h, 1, none⟩ = some (.bool l.bg) := HY6.out.cell 1
      go_wp2_with fail
      refine (Equal_is _ _ _ l l true HR6.out HS6.out HIN.out.lim HIN.out.lim HEQ.out).mono ?_
      rintro e w7 ⟨rfl, hb7⟩
      go_wp2
      go_ret
      exact ⟨rfl, HB6.out.trans (hb7.mono HB6.out.size)⟩
set_option maxRecDepth 100000 in
set_option maxHeartbeats 8000000 in
theorem canon_large (s : ByteArray) (w : World) (hs : s.size ≤ maxLen) (h60 : ¬ s.size ≤ 1100) :
    Calls Try.prog 12 #[.string s] w fun e w' => e = .returned (.bool true) ∧ Below w.heap.size w w' := by
  unfold maxLen at hs
  have hm : min (s.size : Int) 1100 = 1100 := by omega
  obtain ⟨L, hL⟩ : ∃ L, s.extract 0 1100 = bs L := ⟨(s.extract 0 1100).data.toList, (bs_of _).symm⟩
  have hLl : L.length ≤ 1100 := by rw [← bs_size, ← hL]; rw [size_extract _ _ _ (by omega)]; omega
  have HL := Lib.hid hL
  clear hL
  go_enter Try.func12, Try.ntmps12
  go_wp2_with fail
  rw [HL.out]
  clear hm h60 hs HL
  cases hp : parS L with
  | err q ev =>
    have HP := Lib.hid hp
    have hne := parS_err L q ev hp
    have n1 : (ev == 0) = false := beq_false_of_ne hne
    have n2 : (ev != 0) = true := by simpa using hne
    clear hp hne
    refine (Parse_err L _ q ev HP.out (by omega)).mono ?_
    rintro e w1 ⟨rfl, hb1⟩
    have HB1 := Lib.hid (hb1.alloc hb1.size (.cells #[.slice none 0 0, .bool false] 24))
    have HX1 := Lib.hid (Blk.new w1 24 #[.slice none 0 0, .bool false])
    clear hb1
    go_wp2_with fail
    generalize (w1.alloc (.cells #[.slice none 0 0, .bool false] 24)) = wa at *
    generalize w1.heap.size = g at *
    refine (known_any _).mono ?_
    rintro e w2 ⟨rfl, hb2⟩
    have HB2 := Lib.hid (HB1.out.trans (hb2.mono HB1.out.size))
    have HX2 := Lib.hid (HX1.out.next hb2 HX1.out.lt)
    clear hb2
    go_wp2_with fail
    refine (known_any _).mono ?_
    rintro e w3 ⟨rfl, hb3⟩
    have HB3 := Lib.hid (HB2.out.trans (hb3.mono HB2.out.size))
    have HX3 := Lib.hid (HX2.out.next hb3 HX2.out.lt)
    clear hb3
    have x0 : w3.cell? ⟨g, 0, none⟩ = some (.slice none 0 0) := HX3.out.cell 0
    have x1 : w3.cell? ⟨g, 1, none⟩ = some (.bool false) := HX3.out.cell 1
    go_wp2_with fail
    refine (Equal_is _ _ _ ⟨[], false⟩ ⟨[], false⟩ true RowRd.nil RowRd.nil ⟨by simp, fun q hq => by simp at hq⟩ ⟨by simp, fun q hq => by simp at hq⟩ rfl).mono ?_
    rintro e w4 ⟨rfl, hb4⟩
    go_wp2
    go_ret
    exact ⟨rfl, HB3.out.trans (hb4.mono HB3.out.size)⟩
  | ok l =>
    have HP := Lib.hid hp
    obtain ⟨hck, hin⟩ := par_v L l hp
    have HCK := Lib.hid hck
    have HIN := Lib.hid hin
    have HEQ := Lib.hid ((eqLn_iff l l).2 rfl)
    have hprt : (prtS l = ([], 5)) ∨ (prtS l = (lnT l, 0) ∧ parS (lnT l) = .ok l ∧ (lnT l).length ≤ 1024) := by
      by_cases h : 1024 < (lnT l).length
      · exact .inl (prtS_2 hck h)
      · exact .inr ⟨prtS_3 hck h, par_print l hck (by omega), by omega⟩
    clear hp hck hin
    refine (Parse_is L _ l l.bg HP.out rfl (by omega)).mono ?_
    rintro e w1 ⟨v, rfl, hr1, hb1⟩
    obtain ⟨A, c, rfl, _⟩ := RowRd.form hr1
    have HB1 := Lib.hid (hb1.alloc hb1.size (.cells #[.slice A l.parts.length c, .bool l.bg] 24))
    have HX1 := Lib.hid (Blk.new w1 24 #[.slice A l.parts.length c, .bool l.bg])
    have HR1 := Lib.hid (PL.next hr1 ((Below.refl w1.heap.size w1).alloc (Nat.le_refl _) (.cells #[.slice A l.parts.length c, .bool l.bg] 24)))
    clear hb1 hr1
    go_wp2_with fail
    generalize (w1.alloc (.cells #[.slice A l.parts.length c, .bool l.bg] 24)) = wa at *
    generalize w1.heap.size = g at *
    refine (known_any _).mono ?_
    rintro e w2 ⟨rfl, hb2⟩
    have HB2 := Lib.hid (HB1.out.trans (hb2.mono HB1.out.size))
    have HX2 := Lib.hid (HX1.out.next hb2 HX1.out.lt)
    have HR2 := Lib.hid (PL.next HR1.out hb2)
    clear hb2 HB1 HX1 HR1
    have x0 : w2.cell? ⟨g, 0, none⟩ = some (.slice A l.parts.length c) := HX2.out.cell 0
    have x1 : w2.cell? ⟨g, 1, none⟩ = some (.bool l.bg) := HX2.out.cell 1
    rcases hprt with hpr | ⟨hpr, hpp, hlen⟩
    · have HPR := Lib.hid hpr
      clear hpr
      go_wp2_with fail
      refine (Print_is _ _ l l.bg [] 5 HR2.out HIN.out rfl HPR.out).mono ?_
      rintro e w3 ⟨rfl, hb3⟩
      have HB3 := Lib.hid (HB2.out.trans (hb3.mono HB2.out.size))
      have HX3 := Lib.hid (HX2.out.next hb3 HX2.out.lt)
      have HR3 := Lib.hid (PL.next HR2.out hb3)
      clear hb3 x0 x1 HB2 HX2 HR2
      have x0 : w3.cell? ⟨g, 0, none⟩ = some (.slice A l.parts.length c) := HX3.out.cell 0
      have x1 : w3.cell? ⟨g, 1, none⟩ = some (.bool l.bg) := HX3.out.cell 1
      go_wp2_with fail
      refine (Check_is _ _ l l.bg 0 HR3.out HIN.out rfl HCK.out).mono ?_
      rintro e w4 ⟨rfl, hb4⟩
      have HB4 := Lib.hid (HB3.out.trans (hb4.mono HB3.out.size))
      have HX4 := Lib.hid (HX3.out.next hb4 HX3.out.lt)
      have HR4 := Lib.hid (PL.next HR3.out hb4)
      clear hb4 x0 x1 HB3 HX3 HR3
      have x0 : w4.cell? ⟨g, 0, none⟩ = some (.slice A l.parts.length c) := HX4.out.cell 0
      have x1 : w4.cell? ⟨g, 1, none⟩ = some (.bool l.bg) := HX4.out.cell 1
      go_wp2_with fail
      refine (Check_is _ _ l l.bg 0 HR4.out HIN.out rfl HCK.out).mono ?_
      rintro e w5 ⟨rfl, hb5⟩
      go_wp2
      go_ret
      exact ⟨rfl, HB4.out.trans (hb5.mono HB4.out.size)⟩
    · have HPR := Lib.hid hpr
      have HPP := Lib.hid hpp
      clear hpr hpp
      obtain ⟨T, hT⟩ : ∃ T, lnT l = T := ⟨_, rfl⟩
      rw [hT] at HPR HPP hlen
      clear hT
      go_wp2_with fail
      refine (Print_is _ _ l l.bg T 0 HR2.out HIN.out rfl HPR.out).mono ?_
      rintro e w3 ⟨rfl, hb3⟩
      have HB3 := Lib.hid (HB2.out.trans (hb3.mono HB2.out.size))
      have HX3 := Lib.hid (HX2.out.next hb3 HX2.out.lt)
      have HR3 := Lib.hid (PL.next HR2.out hb3)
      clear hb3 x0 x1 HB2 HX2 HR2
      have x0 : w3.cell? ⟨g, 0, none⟩ = some (.slice A l.parts.length c) := HX3.out.cell 0
      have x1 : w3.cell? ⟨g, 1, none⟩ = some (.bool l.bg) := HX3.out.cell 1
      go_wp2_with fail
      refine (Check_is _ _ l l.bg 0 HR3.out HIN.out rfl HCK.out).mono ?_
      rintro e w4 ⟨rfl, hb4⟩
      have HB4 := Lib.hid (HB3.out.trans (hb4.mono HB3.out.size))
      have HX4 := Lib.hid (HX3.out.next hb4 HX3.out.lt)
      have HR4 := Lib.hid (PL.next HR3.out hb4)
      clear hb4 x0 x1 HB3 HX3 HR3
      go_wp2_with fail
      refine (Parse_is T _ l l.bg HPP.out rfl (by omega)).mono ?_
      rintro e w5 ⟨v5, rfl, hr5, hb5⟩
      obtain ⟨A5, c5, rfl, _⟩ := RowRd.form hr5
      have HB5 := Lib.hid ((HB4.out.trans (hb5.mono HB4.out.size)).alloc (Nat.le_trans HB4.out.size hb5.size) (.cells #[.slice A5 l.parts.length c5, .bool l.bg] 24))
      have HX5 := Lib.hid ((HX4.out.next hb5 HX4.out.lt).alloc (.cells #[.slice A5 l.parts.length c5, .bool l.bg] 24))
      have HR5 := Lib.hid (PL.next (PL.next HR4.out hb5) ((Below.refl w5.heap.size w5).alloc (Nat.le_refl _) (.cells #[.slice A5 l.parts.length c5, .bool l.bg] 24)))
      have HY5 := Lib.hid (Blk.new w5 24 #[.slice A5 l.parts.length c5, .bool l.bg])
      have HS5 := Lib.hid (PL.next hr5 ((Below.refl w5.heap.size w5).alloc (Nat.le_refl _) (.cells #[.slice A5 l.parts.length c5, .bool l.bg] 24)))
      clear hb5 hr5 HB4 HX4 HR4
      go_wp2_with fail
      generalize (w5.alloc (.cells #[.slice A5 l.parts.length c5, .bool l.bg] 24)) = wb at *
      generalize w5.heap.size = h at *
      refine (Print_is _ _ l l.bg T 0 HS5.out HIN.out rfl HPR.out).mono ?_
      rintro e w6 ⟨rfl, hb6⟩
      have HB6 := Lib.hid (HB5.out.trans (hb6.mono HB5.out.size))
      have HX6 := Lib.hid (HX5.out.next hb6 HX5.out.lt)
      have HR6 := Lib.hid (PL.next HR5.out hb6)
      have HY6 := Lib.hid (HY5.out.next hb6 HY5.out.lt)
      have HS6 := Lib.hid (PL.next HS5.out hb6)
      clear hb6 HB5 HX5 HR5 HY5 HS5
      have x0 : w6.cell? ⟨g, 0, none⟩ = some (.slice A l.parts.length c) := HX6.out.cell 0
      have x1 : w6.cell? ⟨g, 1, none⟩ = some (.bool l.bg) := HX6.out.cell 1
      have y0 : w6.cell? ⟨h, 0, none⟩ = some (.slice A5 l.parts.length c5) := HY6.out.cell 0
      have y1 : w6.cell? ⟨h, 1, none⟩ = some (.bool l.bg) := HY6.out.cell 1
      go_wp2_with fail
      refine (Equal_is _ _ _ l l true HR6.out HS6.out HIN.out.lim HIN.out.lim HEQ.out).mono ?_
      rintro e w7 ⟨rfl, hb7⟩
      go_wp2
      go_ret
      exact ⟨rfl, HB6.out.trans (hb7.mono HB6.out.size)⟩
theorem canon_walk (s : ByteArray) (w : World) (hs : s.size ≤ maxLen) :
    Calls Try.prog 12 #[.string s] w fun e w' => e = .returned (.bool true) ∧ Below w.heap.size w w' := by
  by_cases h : s.size ≤ 1100
  · exact canon_small s w hs h
  · exact canon_large s w hs h
end Go.Proofs.Ytiddchpkmcncdaa
