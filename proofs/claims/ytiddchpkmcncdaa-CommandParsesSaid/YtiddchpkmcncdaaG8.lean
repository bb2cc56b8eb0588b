/- Walks of layer 41: the reference's variable, assigned. -/
import Derived.Test.YtiddchpkmcncdaaE1
namespace Go.Proofs.Ytiddchpkmcncdaa
open Go.RowKit
set_option linter.unusedSimpArgs false
set_option linter.unusedVariables false
theorem let_is (n : Int) (w : World) (b : Bool) (h : ltrI n = b) : Calls Try.prog 52 #[.int .u8 n] w fun e w' => e = .returned (.bool b) ∧ w = w' := by subst h; exact letter_any n w
theorem dig_is (n : Int) (w : World) (b : Bool) (h : digI n = b) : Calls Try.prog 53 #[.int .u8 n] w fun e w' => e = .returned (.bool b) ∧ w = w' := by subst h; exact digit_any n w
theorem isVar_b (s : ByteArray) (w : World) (b : Bool) (h : isVarS s.data.toList = b) (hs : s.size ≤ 100000) : Calls Try.prog 19 #[.string s] w fun e w' => e = .returned (.bool b) ∧ w = w' := by
  refine (ref_IsVariable_any s w hs).mono ?_
  rintro e w' ⟨rfl, rfl⟩
  exact ⟨ret_bool (by unfold isVarB; rw [h]), rfl⟩
/-- The loop over letters and digits. -/
def AlRel (s : ByteArray) (a : Nat) (w : World) (gk : Nat) (i : Value) (wr : World) : Prop :=
  ∃ k : Nat, i = .int .i64 ((k : Nat) : Int) ∧ a ≤ k ∧ k ≤ s.size ∧ gk + k = s.size + 1 ∧ w = wr ∧ ∀ j, a ≤ j → j < k → alnI (bt s j) = true
theorem al_end {s : ByteArray} {a k : Nat} (h1 : a ≤ k) (h2 : k ≤ s.size) (h3 : ∀ j, a ≤ j → j < k → alnI (bt s j) = true) (h4 : k = s.size ∨ alnI (bt s k) = false) : k = a + (nmS s a).length := by
  have := nm_at s a k h1 h2 h3 h4; omega
def varR (s : ByteArray) (p : Nat) : Value := if isVarS (nmS s (p + 1)) = true then .tuple #[.string (bs (nmS s (p + 1))), .int .i64 ((p + 1 + (nmS s (p + 1)).length : Nat) : Int)] else .tuple #[.string ⟨#[]⟩, .int .i64 (p : Int)]
set_option maxRecDepth 100000 in
set_option maxHeartbeats 4000000 in
theorem variable_any (s : ByteArray) (p : Nat) (w : World) (hp : p < s.size) (hs : s.size ≤ 100000) :
    Calls Try.prog 117 #[.string s, .int .i64 (p : Int)] w fun e w' => e = .returned (varR s p) ∧ w = w' := by
  go_enter Try.func117, Try.ntmps117
  go_wp2
  go_loopg [6] (s.size - p) (fun gk i wr => AlRel s (p + 1) w gk i wr)
  case atStart => exact ⟨p + 1, by go_num, Nat.le_refl _, hp, by omega, rfl, fun j h1 h2 => by omega⟩
  case round =>
    obtain ⟨k, rfl, hk0, hk, hgk, rfl, hj⟩ := hrel
    have HJ := Lib.hid hj
    clear hj
    have i1 : (0 : Int) ≤ (k : Int) := by omega
    by_cases hlt : k < s.size
    · have hb := bt_of s k hlt
      have i2 : (k : Int) < (s.size : Int) := by omega
      cases hq : ltrI (bt s k) with
      | true =>
        have HQ := Lib.hid hq
        have HA := Lib.hid (show alnI (bt s k) = true by unfold alnI; rw [hq]; rfl)
        clear hq
        go_wp2_with (go_at_call 52; refine (let_is _ _ true HQ.out).mono ?_; rintro e w' ⟨rfl, rfl⟩)
        go_roundg (gk - 1)
        case rel => exact ⟨k + 1, by go_num, by omega, by omega, by omega, rfl, fun j h1 h2 => (by by_cases e : j = k; (subst e; exact HA.out); exact HJ.out j h1 (by omega))⟩
        case measure => omega
      | false =>
        have HQ := Lib.hid hq
        cases hd : digI (bt s k) with
        | true =>
          have HD := Lib.hid hd
          have HA := Lib.hid (show alnI (bt s k) = true by unfold alnI; rw [hq, hd]; rfl)
          clear hq hd
          go_wp2_with (first | (go_at_call 52; refine (let_is _ _ false HQ.out).mono ?_; rintro e w' ⟨rfl, rfl⟩) | (go_at_call 53; refine (dig_is _ _ true HD.out).mono ?_; rintro e w' ⟨rfl, rfl⟩))
          go_roundg (gk - 1)
          case rel => exact ⟨k + 1, by go_num, by omega, by omega, by omega, rfl, fun j h1 h2 => (by by_cases e : j = k; (subst e; exact HA.out); exact HJ.out j h1 (by omega))⟩
          case measure => omega
        | false =>
          have HD := Lib.hid hd
          have hend : alnI (bt s k) = false := by unfold alnI; rw [hq, hd]; rfl
          have HK := Lib.hid (al_end hk0 hk HJ.out (.inr hend))
          have HX := Lib.hid (nm_ext s (p + 1) k (by have := HK.out; omega))
          have hz : (s.extract (p + 1) k).size ≤ 100000 := by rw [size_extract _ _ _ hk]; omega
          have L1 : IntKind.i64.wrap ((p : Int) + 1) = (p : Int) + 1 := IntWalk.i64_in _ (by omega)
          have e1 : (0 : Int) ≤ (p : Int) + 1 := by omega
          have e2 : (p : Int) + 1 ≤ (k : Int) := by omega
          have e3 : (k : Int) ≤ (s.size : Int) := by omega
          have e4 : ((p : Int) + 1).toNat = p + 1 := by omega
          obtain ⟨b, hv⟩ : ∃ b, isVarS (nmS s (p + 1)) = b := ⟨_, rfl⟩
          have HV := Lib.hid (show isVarS (s.extract (p + 1) k).data.toList = b by rw [HX.out, bs_list]; exact hv)
          have HV2 := Lib.hid hv
          clear hq hd hend hv
          cases b
          all_goals
            go_wp2_with (first | (go_at_call 52; refine (let_is _ _ false HQ.out).mono ?_; rintro e w' ⟨rfl, rfl⟩) | (go_at_call 53; refine (dig_is _ _ false HD.out).mono ?_; rintro e w' ⟨rfl, rfl⟩) | (go_at_call 19; refine (isVar_b _ _ _ HV.out hz).mono ?_; rintro e w' ⟨rfl, rfl⟩))
            go_ret2
            refine ⟨?_, rfl⟩
            unfold varR; rw [HV2.out]
            first | rfl | (rw [HX.out, ← HK.out]; rfl)
    · obtain rfl : k = s.size := by omega
      have HK := Lib.hid (al_end hk0 hk HJ.out (.inl rfl))
      have HX := Lib.hid (nm_ext s (p + 1) s.size (by have := HK.out; omega))
      have hz : (s.extract (p + 1) s.size).size ≤ 100000 := by rw [size_extract _ _ _ hk]; omega
      have L1 : IntKind.i64.wrap ((p : Int) + 1) = (p : Int) + 1 := IntWalk.i64_in _ (by omega)
      have e1 : (0 : Int) ≤ (p : Int) + 1 := by omega
      have e2 : (p : Int) + 1 ≤ (s.size : Int) := by omega
      have e4 : ((p : Int) + 1).toNat = p + 1 := by omega
      obtain ⟨b, hv⟩ : ∃ b, isVarS (nmS s (p + 1)) = b := ⟨_, rfl⟩
      have HV := Lib.hid (show isVarS (s.extract (p + 1) s.size).data.toList = b by rw [HX.out, bs_list]; exact hv)
      have HV2 := Lib.hid hv
      clear hv
      cases b
      all_goals
        go_wp2_with (go_at_call 19; refine (isVar_b _ _ _ HV.out hz).mono ?_; rintro e w' ⟨rfl, rfl⟩)
        go_ret2
        refine ⟨?_, rfl⟩
        unfold varR; rw [HV2.out]
        first | rfl | (rw [HX.out, ← HK.out]; rfl)
end Go.Proofs.Ytiddchpkmcncdaa
/- Plain functions of layer 41: the reference's scanner. -/
namespace Go.Proofs.Ytiddchpkmcncdaa
open Go.RowKit
set_option linter.unusedSimpArgs false
set_option linter.unusedVariables false
/-- A byte with which an operator begins. -/
def opI (n : Int) : Bool := decide (n = 124) || decide (n = 38) || decide (n = 59) || decide (n = 60) || decide (n = 62)
/-- The operator that the reference reads. -/
def opR (l : Bs) : Bs :=
  match l with
  | [] => []
  | [b] => [b]
  | b :: c :: _ => if (decide (n8 b = 124) || decide (n8 b = 38) || decide (n8 b = 62)) && decide (n8 c = n8 b) then [b, c] else [b]
theorem n8_inj {a b : UInt8} (h : n8 a = n8 b) : a = b := by
  unfold n8 at h
  exact UInt8.toNat_inj.1 (by omega)
theorem op_byte (b : UInt8) (h : opI (n8 b) = true) : b = 124 ∨ b = 38 ∨ b = 59 ∨ b = 60 ∨ b = 62 := by
  unfold opI at h
  simp only [Bool.or_eq_true, decide_eq_true_eq, or_assoc] at h
  rcases h with h | h | h | h | h
  · exact .inl (n8_inj h)
  · exact .inr (.inl (n8_inj h))
  · exact .inr (.inr (.inl (n8_inj h)))
  · exact .inr (.inr (.inr (.inl (n8_inj h))))
  · exact .inr (.inr (.inr (.inr (n8_inj h))))
theorem op_no (b : UInt8) (l : Bs) (h : opI (n8 b) = false) : opAt (b :: l) = [] := by
  unfold opI at h
  simp only [Bool.or_eq_false_iff, decide_eq_false_iff_not] at h
  obtain ⟨⟨⟨⟨h1, h2⟩, h3⟩, h4⟩, h5⟩ := h
  exact opAt_nine b l h1 h2 h5 h3 h4
theorem op_is (b : UInt8) (l : Bs) (h : opI (n8 b) = true) : opAt (b :: l) = opR (b :: l) ∧ opAt (b :: l) ≠ [] := by
  cases l with
  | nil => rcases op_byte b h with rfl | rfl | rfl | rfl | rfl <;> exact ⟨by decide, by decide⟩
  | cons c l =>
    have hcc : ∀ a : UInt8, (decide (n8 c = n8 a)) = (a == c) := by
      intro a
      rw [Bool.eq_iff_iff]
      simp only [decide_eq_true_eq, beq_iff_eq]
      exact ⟨fun h => (n8_inj h).symm, fun h => by rw [h]⟩
    have e : opR (b :: c :: l) = if (decide (n8 b = 124) || decide (n8 b = 38) || decide (n8 b = 62)) && (b == c) then [b, c] else [b] := by
      show (if _ then _ else _) = _
      rw [hcc]
    rw [e]
    rcases op_byte b h with rfl | rfl | rfl | rfl | rfl
    · by_cases q : (124 : UInt8) = c
      · subst q; exact ⟨rfl, by simp [opAt, opsL, List.find?, List.isPrefixOf]⟩
      · have q1 : ((124 : UInt8) == c) = false := by simpa using q
        simp [opAt, opsL, List.find?, List.isPrefixOf, q1]
    · by_cases q : (38 : UInt8) = c
      · subst q; exact ⟨rfl, by simp [opAt, opsL, List.find?, List.isPrefixOf]⟩
      · have q1 : ((38 : UInt8) == c) = false := by simpa using q
        simp [opAt, opsL, List.find?, List.isPrefixOf, q1]
    · have k : (decide (n8 (59 : UInt8) = 124) || decide (n8 (59 : UInt8) = 38) || decide (n8 (59 : UInt8) = 62)) = false := by decide
      rw [k]
      simp [opAt, opsL, List.find?, List.isPrefixOf]
    · have k : (decide (n8 (60 : UInt8) = 124) || decide (n8 (60 : UInt8) = 38) || decide (n8 (60 : UInt8) = 62)) = false := by decide
      rw [k]
      simp [opAt, opsL, List.find?, List.isPrefixOf]
    · by_cases q : (62 : UInt8) = c
      · subst q; exact ⟨rfl, by simp [opAt, opsL, List.find?, List.isPrefixOf]⟩
      · have q1 : ((62 : UInt8) == c) = false := by simpa using q
        simp [opAt, opsL, List.find?, List.isPrefixOf, q1]
theorem op_dr (s : ByteArray) (p : Nat) (h : p < s.size) : (!(opAt (dr s p)).isEmpty) = opI (bt s p) := by
  rw [dr_cons s p h]
  show _ = opI (n8 (s.data.toList.getD p 0))
  cases q : opI (n8 (s.data.toList.getD p 0)) with
  | false => rw [op_no _ _ q]; rfl
  | true =>
    have := (op_is _ (dr s (p + 1)) q).2
    revert this
    cases opAt (s.data.toList.getD p 0 :: dr s (p + 1)) with
    | nil => intro h; exact absurd rfl h
    | cons a l => intro _; rfl
/-- The operator by offsets. -/
theorem op_two (s : ByteArray) (p : Nat) (h : p + 1 < s.size) (ho : opI (bt s p) = true) (h2 : bt s p = 124 ∨ bt s p = 38 ∨ bt s p = 62) (h3 : bt s (p + 1) = bt s p) : opAt (dr s p) = (dr s p).take 2 := by
  rw [dr_cons s p (by omega), dr_cons s (p + 1) h]
  rw [(op_is _ _ ho).1]
  show (if _ then _ else _) = _
  rw [if_pos]
  · rfl
  · rw [Bool.and_eq_true, Bool.or_eq_true, Bool.or_eq_true, decide_eq_true_eq, decide_eq_true_eq, decide_eq_true_eq, decide_eq_true_eq]
    exact ⟨by rcases h2 with h | h | h; exact .inl (.inl h); exact .inl (.inr h); exact .inr h, h3⟩
theorem op_one (s : ByteArray) (p : Nat) (h : p < s.size) (ho : opI (bt s p) = true) (h2 : ¬ (p + 1 < s.size ∧ (bt s p = 124 ∨ bt s p = 38 ∨ bt s p = 62) ∧ bt s (p + 1) = bt s p)) : opAt (dr s p) = (dr s p).take 1 := by
  rw [dr_cons s p h]
  rw [(op_is _ _ ho).1]
  by_cases hq : p + 1 < s.size
  · rw [dr_cons s (p + 1) hq]
    show (if _ then _ else _) = _
    rw [if_neg]
    · rfl
    · rw [Bool.and_eq_true, Bool.or_eq_true, Bool.or_eq_true, decide_eq_true_eq, decide_eq_true_eq, decide_eq_true_eq, decide_eq_true_eq]
      rintro ⟨h1, h3⟩
      exact h2 ⟨hq, (by rcases h1 with (h | h) | h; exact .inl h; exact .inr (.inl h); exact .inr (.inr h)), h3⟩
  · rw [dr_nil s (p + 1) (by omega)]
    rfl
/-- The reference's name behind which = stands. -/
def asgR (l : Bs) : Bs := match l.drop (l.takeWhile aln8).length with
  | [] => []
  | c :: _ => if n8 c = 61 ∧ isVarS (l.takeWhile aln8) = true then l.takeWhile aln8 else []
theorem aln_neq (b : UInt8) (h : aln8 b = true) : neq8 b = true := by
  unfold aln8 alnI ltrI digI at h
  unfold neq8
  simp only [Bool.or_eq_true, Bool.and_eq_true, decide_eq_true_eq, Bool.not_eq_true', decide_eq_false_iff_not] at h ⊢
  omega
theorem tw_app (p : UInt8 → Bool) : ∀ (a r : Bs), a.all p = true → (a ++ r).takeWhile p = a ++ r.takeWhile p
  | [], r, _ => rfl
  | b :: a, r, h => by
    simp only [List.all_cons, Bool.and_eq_true] at h
    simp only [List.cons_append, List.takeWhile_cons, h.1, if_true]
    rw [tw_app p a r h.2]
theorem isVarS_all (t : Bs) (h : isVarS t = true) : t.all aln8 = true := by
  unfold isVarS at h
  simp only [Bool.and_eq_true] at h
  exact h.2
theorem asgR_eq (l : Bs) : asgS l = asgR l := by
  have hs := List.takeWhile_append_dropWhile (p := aln8) (l := l)
  have ha : (l.takeWhile aln8).all aln8 = true := List.all_takeWhile
  have hd : ∀ c r, l.dropWhile aln8 = c :: r → aln8 c = false := by
    intro c r h
    have := List.head?_dropWhile_not aln8 l
    rw [h] at this
    simpa using this
  have hr : l.drop (l.takeWhile aln8).length = l.dropWhile aln8 := by
    conv => lhs; arg 2; rw [← hs]
    rw [List.drop_left]
  unfold asgR
  rw [hr]
  generalize l.takeWhile aln8 = a at *
  generalize l.dropWhile aln8 = r at *
  subst hs
  have han : a.all neq8 = true := by
    rw [List.all_eq_true] at ha ⊢
    exact fun x hx => aln_neq x (ha x hx)
  unfold asgS
  rw [tw_app _ _ _ han]
  cases r with
  | nil => simp
  | cons c r =>
    by_cases hc : n8 c = 61
    · have : neq8 c = false := by unfold neq8; rw [hc]; rfl
      simp only [List.takeWhile_cons, this]
      simp [hc]
    · have hn : neq8 c = true := by unfold neq8; simpa using hc
      have hv : isVarS (a ++ (c :: r).takeWhile neq8) = false := by
        cases q : isVarS (a ++ (c :: r).takeWhile neq8) with
        | false => rfl
        | true =>
          have := isVarS_all _ q
          rw [List.takeWhile_cons, hn, if_pos rfl, List.all_append, List.all_cons, hd c r rfl] at this
          simp at this
      rw [hv]
      simp [hc]
theorem asg_at (s : ByteArray) (p : Nat) (hp : p ≤ s.size) (n : Nat) (hn : n = p + (nmS s p).length) : asgS (dr s p) = if n < s.size ∧ bt s n = 61 ∧ isVarS (nmS s p) = true then nmS s p else [] := by
  subst hn
  rw [asgR_eq]
  unfold asgR
  rw [show (dr s p).takeWhile aln8 = nmS s p from rfl, dr_drop]
  by_cases h : p + (nmS s p).length < s.size
  · rw [dr_cons _ _ h]
    show (if _ then _ else _) = _
    by_cases h2 : bt s (p + (nmS s p).length) = 61 ∧ isVarS (nmS s p) = true
    · exact (if_pos h2).trans (if_pos ⟨h, h2⟩).symm
    · exact (if_neg h2).trans (if_neg (fun x => h2 x.2)).symm
  · rw [dr_nil _ _ (by omega), if_neg (fun x => h x.1)]
/-- The reference's word: a text is put behind it. -/
def addW (w : Wd) (s : Bs) : Wd := match w.getLast? with
  | none => [lit s]
  | some x => if x.var then w ++ [lit s] else w.dropLast ++ [lit (x.text ++ s)]
def keepP (p : Pc) : Bool := p.var || !p.text.isEmpty
def cleanW (w : Wd) : Wd := if (w.filter keepP).isEmpty then [lit []] else w.filter keepP
/-- The reference's word w stands for the pieces ps and the text tx. -/
def WR (w ps : Wd) (tx : Bs) : Prop := ∃ w0 : Wd, ((w = w0 ∧ tx = []) ∨ w = w0 ++ [lit tx]) ∧ (w0 = [] ∨ ∃ a x, w0 = a ++ [x] ∧ x.var = true) ∧ w0.filter keepP = ps
theorem WR.nil : WR [] [] [] := ⟨[], .inl ⟨rfl, rfl⟩, .inl rfl, rfl⟩
theorem WR.add {w ps : Wd} {tx : Bs} (h : WR w ps tx) (s : Bs) : WR (addW w s) ps (tx ++ s) := by
  obtain ⟨w0, h1, h2, h3⟩ := h
  refine ⟨w0, .inr ?_, h2, h3⟩
  rcases h1 with ⟨rfl, rfl⟩ | rfl
  · rcases h2 with rfl | ⟨a, x, rfl, hx⟩
    · rfl
    · unfold addW
      rw [List.getLast?_concat]
      simp only [hx, if_true, List.nil_append]
  · unfold addW
    rw [List.getLast?_concat]
    simp [lit]
theorem WR.var {w ps : Wd} {tx : Bs} (h : WR w ps tx) (x : Pc) (hx : x.var = true) : WR (w ++ [x]) (flS ps tx ++ [x]) [] := by
  obtain ⟨w0, h1, h2, h3⟩ := h
  refine ⟨w ++ [x], .inl ⟨rfl, rfl⟩, .inr ⟨w, x, rfl, hx⟩, ?_⟩
  have kx : keepP x = true := by unfold keepP; rw [hx]; rfl
  rw [List.filter_append]
  congr 1
  · rcases h1 with ⟨rfl, rfl⟩ | rfl
    · rw [h3]; rfl
    · rw [List.filter_append, h3]
      unfold flS
      cases tx with
      | nil => simp [keepP, lit]
      | cons b l => simp [keepP, lit]
  · simp [kx]
theorem WR.fin {w ps : Wd} {tx : Bs} (h : WR w ps tx) : cleanW w = finS ps tx := by
  obtain ⟨w0, h1, h2, h3⟩ := h
  have : w.filter keepP = flS ps tx := by
    rcases h1 with ⟨rfl, rfl⟩ | rfl
    · rw [h3]; rfl
    · rw [List.filter_append, h3]
      unfold flS
      cases tx with
      | nil => simp [keepP, lit]
      | cons b l => simp [keepP, lit]
  unfold cleanW finS
  rw [this]
theorem addW_len (w : Wd) (s : Bs) : (addW w s).length ≤ w.length + 1 := by
  unfold addW
  cases w.getLast? with
  | none => simp
  | some x => simp only []; split <;> simp <;> omega
end Go.Proofs.Ytiddchpkmcncdaa
/- Walks of layer 41: the reference's operator. -/
namespace Go.Proofs.Ytiddchpkmcncdaa
open Go.RowKit
set_option linter.unusedSimpArgs false
set_option linter.unusedVariables false
theorem dec_comm (a b : Int) : decide (a = b) = decide (b = a) := by
  rw [Bool.eq_iff_iff]; simp only [decide_eq_true_eq]; exact eq_comm
theorem inB_ops (n : Int) : inB ⟨#[124, 38, 59, 60, 62]⟩ n = opI n := by
  show (decide ((124 : Int) = n) || (decide ((38 : Int) = n) || (decide ((59 : Int) = n) || (decide ((60 : Int) = n) || (decide ((62 : Int) = n) || false))))) = _
  unfold opI
  simp only [dec_comm n, Bool.or_false, Bool.or_assoc]
theorem inB_stop (n : Int) : inB ⟨#[32, 9, 124, 38, 59, 60, 62]⟩ n = (blkI n || opI n) := by
  show (decide ((32 : Int) = n) || (decide ((9 : Int) = n) || (decide ((124 : Int) = n) || (decide ((38 : Int) = n) || (decide ((59 : Int) = n) || (decide ((60 : Int) = n) || (decide ((62 : Int) = n) || false))))))) = _
  unfold opI blkI
  simp only [dec_comm n, Bool.or_false, Bool.or_assoc]
theorem in_ops (n : Int) (w : World) (b : Bool) (h : opI n = b) : Calls Try.prog 64 #[.string ⟨#[124, 38, 59, 60, 62]⟩, .int .u8 n] w fun e w' => e = .returned (.bool b) ∧ w = w' := by
  refine (in_any _ _ _ (by decide)).mono ?_
  rintro e w' ⟨rfl, rfl⟩
  exact ⟨ret_bool (by rw [inB_ops, h]), rfl⟩
theorem in_stop (n : Int) (w : World) (b : Bool) (h : (blkI n || opI n) = b) : Calls Try.prog 64 #[.string ⟨#[32, 9, 124, 38, 59, 60, 62]⟩, .int .u8 n] w fun e w' => e = .returned (.bool b) ∧ w = w' := by
  refine (in_any _ _ _ (by decide)).mono ?_
  rintro e w' ⟨rfl, rfl⟩
  exact ⟨ret_bool (by rw [inB_stop, h]), rfl⟩
set_option maxRecDepth 100000 in
set_option maxHeartbeats 4000000 in
theorem operator_ref (s : ByteArray) (p : Nat) (w : World) (hp : p < s.size) (hs : s.size ≤ 100000) (ho : opI (bt s p) = true) :
    Calls Try.prog 78 #[.string s, .int .i64 (p : Int)] w fun e w' => e = .returned (.string (bs (opAt (dr s p)))) ∧ w = w' := by
  have HO := Lib.hid ho
  have hb := bt_of s p hp
  have i1 : (0 : Int) ≤ (p : Int) := by omega
  have i2 : (p : Int) < (s.size : Int) := by omega
  have L1 : IntKind.i64.wrap ((p : Int) + 1) = (p : Int) + 1 := IntWalk.i64_in _ (by omega)
  have L2 : IntKind.i64.wrap ((p : Int) + 2) = (p : Int) + 2 := IntWalk.i64_in _ (by omega)
  have e4 : ((p : Int) + 1).toNat = p + 1 := by omega
  have e5 : ((p : Int) + 2).toNat = p + 2 := by omega
  have e6 : (p : Int) ≤ (p : Int) + 1 := by omega
  have e7 : (p : Int) ≤ (p : Int) + 2 := by omega
  have e8 : (0 : Int) ≤ (p : Int) + 1 := by omega
  have e9 : (p : Int) + 1 ≤ (s.size : Int) := by omega
  by_cases hc : bt s p = 124 ∨ bt s p = 38 ∨ bt s p = 62
  · by_cases hlt : p + 1 < s.size
    · have hb1 := bt_of s (p + 1) hlt
      have i3 : (p : Int) + 1 < (s.size : Int) := by omega
      have e10 : (p : Int) + 2 ≤ (s.size : Int) := by omega
      by_cases h3 : bt s (p + 1) = bt s p
      · have HE := Lib.hid (op_two s p hlt ho hc h3)
        have HX := Lib.hid (ext_bs s p (p + 2))
        clear ho
        rw [h3] at hb1
        clear h3
        rcases hc with hc | hc | hc
        all_goals
          rw [hc] at hb hb1
          go_enter Try.func78, Try.ntmps78
          go_wp2
          go_ret
          refine ⟨?_, rfl⟩
          rw [HE.out, HX.out, Nat.add_sub_cancel_left]; rfl
      · have HE := Lib.hid (op_one s p hp ho (fun x => h3 x.2.2))
        have HX := Lib.hid (ext_bs s p (p + 1))
        clear ho
        rcases hc with hc | hc | hc
        all_goals
          rw [hc] at hb h3
          go_enter Try.func78, Try.ntmps78
          go_wp2
          go_ret
          refine ⟨?_, rfl⟩
          rw [HE.out, HX.out, Nat.add_sub_cancel_left]; rfl
    · have i3 : ¬ ((p : Int) + 1 < (s.size : Int)) := by omega
      have HE := Lib.hid (op_one s p hp ho (fun x => hlt x.1))
      have HX := Lib.hid (ext_bs s p (p + 1))
      clear ho
      rcases hc with hc | hc | hc
      all_goals
        rw [hc] at hb
        go_enter Try.func78, Try.ntmps78
        go_wp2
        go_ret
        refine ⟨?_, rfl⟩
        rw [HE.out, HX.out, Nat.add_sub_cancel_left]; rfl
  · have HE := Lib.hid (op_one s p hp ho (fun x => hc x.2.1))
    have HX := Lib.hid (ext_bs s p (p + 1))
    clear ho
    have n1 : ¬ bt s p = 124 := fun h => hc (.inl h)
    have n2 : ¬ bt s p = 38 := fun h => hc (.inr (.inl h))
    have n3 : ¬ bt s p = 62 := fun h => hc (.inr (.inr h))
    clear hc
    go_enter Try.func78, Try.ntmps78
    go_wp2
    go_ret
    refine ⟨?_, rfl⟩
    rw [HE.out, HX.out, Nat.add_sub_cancel_left]; rfl
end Go.Proofs.Ytiddchpkmcncdaa
/- Walks of layer 41: the reference's assigned. -/
namespace Go.Proofs.Ytiddchpkmcncdaa
open Go.RowKit
set_option linter.unusedSimpArgs false
set_option linter.unusedVariables false
set_option maxRecDepth 100000 in
set_option maxHeartbeats 4000000 in
theorem assigned_ref (s : ByteArray) (p : Nat) (w : World) (hp : p ≤ s.size) (hs : s.size ≤ 100000) :
    Calls Try.prog 80 #[.string s, .int .i64 (p : Int)] w fun e w' => e = .returned (.string (bs (asgS (dr s p)))) ∧ w = w' := by
  go_enter Try.func80, Try.ntmps80
  go_wp2
  go_loopg [5] (s.size + 1 - p) (fun gk i wr => AlRel s p w gk i wr)
  case atStart => exact ⟨p, rfl, Nat.le_refl _, hp, by omega, rfl, fun j h1 h2 => by omega⟩
  case round =>
    obtain ⟨k, rfl, hk0, hk, hgk, rfl, hj⟩ := hrel
    have HJ := Lib.hid hj
    clear hj
    have i1 : (0 : Int) ≤ (k : Int) := by omega
    by_cases hlt : k < s.size
    · have hb := bt_of s k hlt
      have i2 : (k : Int) < (s.size : Int) := by omega
      cases hq : ltrI (bt s k) with
      | true =>
        have HQ := Lib.hid hq
        have HA := Lib.hid (show alnI (bt s k) = true by unfold alnI; rw [hq]; rfl)
        clear hq
        go_wp2_with (go_at_call 52; refine (let_is _ _ true HQ.out).mono ?_; rintro e w' ⟨rfl, rfl⟩)
        go_roundg (gk - 1)
        case rel => exact ⟨k + 1, by go_num, by omega, by omega, by omega, rfl, fun j h1 h2 => (by by_cases e : j = k; (subst e; exact HA.out); exact HJ.out j h1 (by omega))⟩
        case measure => omega
      | false =>
        have HQ := Lib.hid hq
        cases hd : digI (bt s k) with
        | true =>
          have HD := Lib.hid hd
          have HA := Lib.hid (show alnI (bt s k) = true by unfold alnI; rw [hq, hd]; rfl)
          clear hq hd
          go_wp2_with (first | (go_at_call 52; refine (let_is _ _ false HQ.out).mono ?_; rintro e w' ⟨rfl, rfl⟩) | (go_at_call 53; refine (dig_is _ _ true HD.out).mono ?_; rintro e w' ⟨rfl, rfl⟩))
          go_roundg (gk - 1)
          case rel => exact ⟨k + 1, by go_num, by omega, by omega, by omega, rfl, fun j h1 h2 => (by by_cases e : j = k; (subst e; exact HA.out); exact HJ.out j h1 (by omega))⟩
          case measure => omega
        | false =>
          have HD := Lib.hid hd
          have hend : alnI (bt s k) = false := by unfold alnI; rw [hq, hd]; rfl
          have hkk := al_end hk0 hk HJ.out (.inr hend)
          have HG := Lib.hid (asg_at s p hp k hkk)
          have HX := Lib.hid (nm_ext s p k (by omega))
          have HLT := Lib.hid hlt
          have hz : (s.extract p k).size ≤ 100000 := by rw [size_extract _ _ _ hk]; omega
          have e1 : (0 : Int) ≤ (p : Int) := by omega
          have e2 : (p : Int) ≤ (k : Int) := by omega
          have e3 : (k : Int) ≤ (s.size : Int) := by omega
          obtain ⟨b, hv⟩ : ∃ b, isVarS (nmS s p) = b := ⟨_, rfl⟩
          have HV := Lib.hid (show isVarS (s.extract p k).data.toList = b by rw [HX.out, bs_list]; exact hv)
          have HV2 := Lib.hid hv
          clear hq hd hend hv hkk
          by_cases h61 : bt s k = 61
          · have H61 := Lib.hid h61
            rw [h61] at hb HQ HD
            clear h61
            cases b
            all_goals
              go_wp2_with (first | (go_at_call 52; refine (let_is _ _ false HQ.out).mono ?_; rintro e w' ⟨rfl, rfl⟩) | (go_at_call 53; refine (dig_is _ _ false HD.out).mono ?_; rintro e w' ⟨rfl, rfl⟩) | (go_at_call 19; refine (isVar_b _ _ _ HV.out hz).mono ?_; rintro e w' ⟨rfl, rfl⟩))
              go_ret
              refine ⟨?_, rfl⟩
              rw [HG.out]
              first | (rw [if_pos ⟨HLT.out, H61.out, HV2.out⟩, HX.out]; rfl) | (rw [if_neg (fun x => by have := HV2.out.symm.trans x.2.2; simp at this)]; rfl)
          · have H61 := Lib.hid h61
            go_wp2_with (first | (go_at_call 52; refine (let_is _ _ false HQ.out).mono ?_; rintro e w' ⟨rfl, rfl⟩) | (go_at_call 53; refine (dig_is _ _ false HD.out).mono ?_; rintro e w' ⟨rfl, rfl⟩))
            go_ret
            refine ⟨?_, rfl⟩
            rw [HG.out, if_neg (fun x => H61.out x.2.1)]
            rfl
    · obtain rfl : k = s.size := by omega
      have HG := Lib.hid (asg_at s p hp s.size (al_end hk0 hk HJ.out (.inl rfl)))
      clear hlt
      go_wp2
      go_ret
      refine ⟨?_, rfl⟩
      rw [HG.out, if_neg (fun x => Nat.lt_irrefl _ x.1)]
      rfl
end Go.Proofs.Ytiddchpkmcncdaa
/- Walks of layer 41: the reference's add. -/
namespace Go.Proofs.Ytiddchpkmcncdaa
open Go.RowKit
set_option linter.unusedSimpArgs false
set_option linter.unusedVariables false
theorem own_nil0 (w : World) (base : Nat) (e : TypeId) (size : Nat) (hb : base ≤ w.heap.size) : (w.alloc (.cells #[] e)).ownsRow base e size (.slice (some ⟨w.heap.size, 0, none⟩) 0 0) 0 [] :=
  ⟨by simp, .inr ⟨w.heap.size, 0, #[], rfl, hb, heap_alloc_new w _, Nat.le_refl _, Nat.zero_le _, by simp, by simp⟩⟩
theorem Rd.front {e : TypeId} {w : World} {A : Option Addr} {n c : Nat} {xs : List Value} (h : Rd e w (.slice A n c) n xs) (m : Nat) (ys : List Value) (hm : m ≤ n) (hy : ∀ (j : Nat) (u : Value), ys[j]? = some u → xs[j]? = some u) (h0 : m = 0 → ys = []) : Rd e w (.slice A m c) m ys := by
  obtain ⟨A', c', hv, hc, hcm, hd⟩ := h
  cases hv
  refine ⟨A, c, rfl, by omega, hcm, ?_⟩
  rcases hd with ⟨hn, _⟩ | ⟨b, o, cs, fr, hA, hb, hx⟩
  · exact .inl ⟨by omega, h0 (by omega)⟩
  · exact .inr ⟨b, o, cs, fr, hA, hb, fun j u hu => hx j u (hy j u hu)⟩
/-- A word's length and the lengths of its texts. -/
def WB (w : Wd) (n : Nat) : Prop := w.length ≤ n ∧ ∀ p ∈ w, p.text.length ≤ n
theorem WB.nil (n : Nat) : WB [] n := ⟨Nat.zero_le _, fun p h => by simp at h⟩
theorem WB.mono {w : Wd} {n m : Nat} (h : WB w n) (hm : n ≤ m) : WB w m := ⟨Nat.le_trans h.1 hm, fun p hp => Nat.le_trans (h.2 p hp) hm⟩
theorem WB.snoc {w : Wd} {n k : Nat} (h : WB w n) (x : Pc) (hx : x.text.length ≤ n + k) (hk : 1 ≤ k) : WB (w ++ [x]) (n + k) := by
  refine ⟨by rw [List.length_append, List.length_singleton]; have := h.1; omega, fun p hp => ?_⟩
  rw [List.mem_append, List.mem_singleton] at hp
  rcases hp with hp | rfl
  · have := h.2 p hp; omega
  · exact hx
theorem WB.add {w : Wd} {n k : Nat} (h : WB w n) (s : Bs) (hs : s.length ≤ k) (hk : 1 ≤ k) : WB (addW w s) (n + k) := by
  unfold addW
  cases hl : w.getLast? with
  | none =>
    obtain rfl := List.getLast?_eq_none_iff.1 hl
    exact WB.snoc (w := []) (WB.nil n) (lit s) (by simp [lit]; omega) hk
  | some x =>
    obtain ⟨a, rfl⟩ := List.getLast?_eq_some_iff.1 hl
    simp only []
    split
    · exact h.snoc (lit s) (by simp [lit]; omega) hk
    · rw [List.dropLast_concat]
      have hx := h.2 x (by simp)
      refine WB.snoc (w := a) (n := n) ⟨by have := h.1; rw [List.length_append] at this; omega, fun p hp => h.2 p (by simp [hp])⟩ _ ?_ hk
      simp [lit]; omega
/-- What add leaves. -/
def AddP (w : World) (ps : Wd) (t : Bs) (e : Ending) (w' : World) : Prop := ∃ v', e = .returned v' ∧ NWp 51 w' v' (addW ps t) ∧ Below w.heap.size w w'
theorem addW_nil (t : Bs) : addW [] t = [lit t] := rfl
theorem addW_var (a : Wd) (x : Pc) (t : Bs) (h : x.var = true) : addW (a ++ [x]) t = (a ++ [x]) ++ [lit t] := by
  unfold addW
  rw [List.getLast?_concat]
  simp only [h, if_true]
theorem addW_lit (a : Wd) (x : Pc) (t : Bs) (h : x.var = false) : addW (a ++ [x]) t = a ++ [lit (x.text ++ t)] := by
  unfold addW
  rw [List.getLast?_concat]
  simp [h]
theorem nwp_own {w : World} {base : Nat} {ao : Option Addr} {n cap : Nat} {ps qs : Wd} {t : Bs} (hl : n = ps.length + 1) (h : w.ownsRow base 51 3 (.slice ao n cap) n (pcC ps ++ [.string (bs t), .bool false, .bool false])) (hq : qs = ps ++ [lit t]) : NWp 51 w (.slice ao n cap) qs := by
  subst hq hl
  have := Rd.of_own h
  unfold NWp
  rw [pcC_snoc, List.length_append]
  exact this
section
variable (w : World) (v : Value) (ps : Wd) (s : ByteArray) (t : Bs)
set_option maxRecDepth 100000 in
set_option maxHeartbeats 8000000 in
theorem add_nil (h : NWp 51 w v []) (hs : s = bs t) : Calls Try.prog 115 #[v, .string s] w (AddP w [] t) := by
  obtain ⟨A, c, rfl, hc⟩ := Rd.form h
  have HS := Lib.hid hs
  obtain ⟨i0, hi, hz0, hz1, hz2⟩ := info_parts info51
  have HE := Lib.hid (own_nil0 w w.heap.size 51 3 (Nat.le_refl _))
  have HB := Lib.hid ((Below.refl w.heap.size w).alloc (Nat.le_refl _) (.cells #[] 51))
  have HV := Lib.hid (Rd.next h HB.out)
  clear h hs
  go_enter Try.func115, Try.ntmps115
  go_wp2_with (at_builtin; first | (refine wpList_append_rd _ rfl _ _ _ rfl w.heap.size 51 i0 _ 3 24 Try.underlying39 hi hz0 hz1 hz2 rfl (by omega) _ 0 [] (by rfl) HE.out _ 0 [] (by rfl) HV.out (by simp) (by simp) (by unfold maxLen; omega) (by omega) (by simp) ?_; intro ao cap w2 hown2 hgrow2; simp only [Nat.zero_add, List.nil_append] at hown2; have HG := Lib.hid hgrow2) | (refine wpList_append_lies _ rfl _ _ _ rfl w.heap.size 51 i0 _ 3 24 Try.underlying39 hi hz0 hz1 hz2 rfl (by omega) _ 0 [] (by rfl) (hown2.alloc _) ⟨w2.heap.size, 0, none⟩ 1 1 [.string s, .bool false, .bool false] rfl rfl (World.news_of_block (cs := #[.string s, .bool false, .bool false]) (t := 51) (fr := (0, 0)) (heap_alloc_new w2 _)) (by simp [Value.oneCell']) (by omega) (by unfold maxLen; omega) (by omega) (by have := hgrow2.size; simp at this ⊢; omega) (w2.heap.size + 1) (by simp) ?_; intro gg cap w3 hown3 hgrow3 hat hlt3))
  go_ret
  exact ⟨_, rfl, nwp_own (ps := []) rfl (by rw [← HS.out]; exact hown3) rfl, below_own ((below_own HB.out HE.out HG.out (Nat.le_refl _) (by simp)).alloc (by have := HG.out.size; simp at this; omega) _) (hown2.alloc _) hgrow3 (Nat.le_refl _) (by have := HG.out.size; simp at this ⊢; omega)⟩
set_option maxRecDepth 100000 in
set_option maxHeartbeats 8000000 in
theorem add_var (h : NWp 51 w v ps) (hl : ps.length ≤ 100000) (a : Wd) (x : Pc) (hps : ps = a ++ [x]) (hx : x.var = true) (hs : s = bs t) : Calls Try.prog 115 #[v, .string s] w (AddP w ps t) := by
  have HA := Lib.hid (show addW ps t = ps ++ [lit t] by rw [hps]; exact addW_var a x t hx)
  obtain ⟨A, c, rfl, hc, hcell⟩ := Rd.pall h
  have hn : ps.length = a.length + 1 := by rw [hps]; simp
  have hk : a.length < ps.length := by omega
  have hpk : ps[a.length] = x := by subst hps; simp
  obtain ⟨b, o, rfl, hb0, hx3⟩ := hcell a.length hk
  obtain ⟨b0, b1, b2⟩ := hx3 a.length hk
  rw [hpk, hx] at b1
  generalize a.length = k at *
  have HS := Lib.hid hs
  obtain ⟨i0, hi, hz0, hz1, hz2⟩ := info_parts info51
  have HE := Lib.hid (own_nil0 w w.heap.size 51 3 (Nat.le_refl _))
  have HB := Lib.hid ((Below.refl w.heap.size w).alloc (Nat.le_refl _) (.cells #[] 51))
  have HV := Lib.hid (Rd.next h HB.out)
  have HPC := Lib.hid (pcC_len ps)
  have HPO := Lib.hid (pcC_one ps)
  have L1 : IntKind.i64.wrap ((ps.length : Int) - 1) = (k : Int) := by rw [show ((ps.length : Int) - 1) = (k : Int) by omega]; exact IntWalk.i64_in _ (by omega)
  have i0' : (0 : Int) < (ps.length : Int) := by omega
  have i1 : (0 : Int) ≤ (k : Int) := by omega
  have i2 : (k : Int) < (ps.length : Int) := by omega
  clear h hs hps hx hpk hcell hx3 b0 b2 hn
  go_enter Try.func115, Try.ntmps115
  go_wp2_with (at_builtin; first | (refine wpList_append_rd _ rfl _ _ _ rfl w.heap.size 51 i0 _ 3 24 Try.underlying39 hi hz0 hz1 hz2 rfl (by omega) _ 0 [] (by rfl) HE.out _ ps.length (pcC ps) (by rfl) HV.out HPC.out HPO.out (by unfold maxLen; omega) (by omega) (by simp) ?_; intro ao cap w2 hown2 hgrow2; simp only [Nat.zero_add, List.nil_append] at hown2; have HG := Lib.hid hgrow2; have HO2 := Lib.hid hown2) | (refine wpList_append_lies _ rfl _ _ _ rfl w.heap.size 51 i0 _ 3 24 Try.underlying39 hi hz0 hz1 hz2 rfl (by omega) _ ps.length (pcC ps) (by rfl) (HO2.out.alloc _) ⟨w2.heap.size, 0, none⟩ 1 1 [.string s, .bool false, .bool false] rfl rfl (World.news_of_block (cs := #[.string s, .bool false, .bool false]) (t := 51) (fr := (0, 0)) (heap_alloc_new w2 _)) (by simp [Value.oneCell']) (by omega) (by unfold maxLen; omega) (by omega) (by have := HG.out.size; simp at this ⊢; omega) (w2.heap.size + 1) (by simp) ?_; intro gg cap w3 hown3 hgrow3 hat hlt3))
  go_ret
  exact ⟨_, rfl, nwp_own (ps := ps) rfl (by rw [← HS.out]; exact hown3) HA.out, below_own ((below_own HB.out HE.out HG.out (Nat.le_refl _) (by simp)).alloc (by have := HG.out.size; simp at this; omega) _) (HO2.out.alloc _) hgrow3 (Nat.le_refl _) (by have := HG.out.size; simp at this ⊢; omega)⟩
end
end Go.Proofs.Ytiddchpkmcncdaa
/- Walks of layer 41: the reference's add, behind a literal text. -/
namespace Go.Proofs.Ytiddchpkmcncdaa
open Go.RowKit
set_option linter.unusedSimpArgs false
set_option linter.unusedVariables false
theorem pcC_front (a : Wd) (x : Pc) (j : Nat) (u : Value) (h : (pcC a)[j]? = some u) : (pcC (a ++ [x]))[j]? = some u := by
  rw [pcC_snoc]
  have hj : j < (pcC a).length := by
    rcases Nat.lt_or_ge j (pcC a).length with h1 | h1
    · exact h1
    · rw [List.getElem?_eq_none h1] at h; cases h
  rw [List.getElem?_append_left hj]
  exact h
/-- A block of one element, behind an append to another row. -/
theorem rd_other {e : TypeId} {w w' : World} {g : Nat} {v : Value} {cs : List Value} (hr : Rd e w (.slice (some ⟨g, 0, none⟩) 1 1) 1 cs) (hg : w.grownBy w' v.ownBlock) (hne : v.ownBlock ≠ some g) : Rd e w' (.slice (some ⟨g, 0, none⟩) 1 1) 1 cs := by
  obtain ⟨A, c, hv, hc, hm, hd⟩ := hr
  cases hv
  refine ⟨_, _, rfl, hc, hm, ?_⟩
  rcases hd with ⟨h0, _⟩ | ⟨b, o, cs', fr, hA, hb, hx⟩
  · omega
  · cases hA
    refine .inr ⟨_, _, cs', fr, rfl, ?_, hx⟩
    rw [hg.block _ (Array.getElem?_eq_some_iff.1 hb).1 (fun h => hne h.symm)]
    exact hb
theorem rd_new (w : World) (e : TypeId) (a b c : Value) : Rd e (w.alloc (.cells #[a, b, c] e)) (.slice (some ⟨w.heap.size, 0, none⟩) 1 1) 1 [a, b, c] :=
  Rd.of_own (own_new w w.heap.size e 3 [a, b, c] rfl (Nat.le_refl _))
theorem own_neb {g n m k : Nat} (h : g ≠ k) : (Value.slice (some ⟨g, 0, none⟩) n m).ownBlock ≠ some k := by
  intro e
  simp [Value.ownBlock] at e
  exact h e
section
variable (w : World) (v : Value) (ps : Wd) (s : ByteArray) (t : Bs)
set_option maxRecDepth 100000 in
set_option maxHeartbeats 8000000 in
theorem add_lit (h : NWp 51 w v ps) (hl : ps.length ≤ 100000) (a : Wd) (x : Pc) (hps : ps = a ++ [x]) (hx : x.var = false) (hs : s = bs t) (hz : s.size ≤ 100000) (hzx : x.text.length ≤ 100000) : Calls Try.prog 115 #[v, .string s] w (AddP w ps t) := by
  have HA := Lib.hid (show addW ps t = a ++ [lit (x.text ++ t)] by rw [hps]; exact addW_lit a x t hx)
  obtain ⟨A, c, rfl, hc, hcell⟩ := Rd.pall h
  have hn : ps.length = a.length + 1 := by rw [hps]; simp
  have hk : a.length < ps.length := by omega
  have hpk : ps[a.length] = x := by subst hps; simp
  obtain ⟨b, o, rfl, hb0, hx3⟩ := hcell a.length hk
  obtain ⟨b0, b1, b2⟩ := hx3 a.length hk
  rw [hpk] at b0
  rw [hpk, hx] at b1
  have hbz : (bs x.text).size ≤ 100000 := by rw [bs_size]; exact hzx
  have hF := Rd.front h a.length (pcC a) (by omega) (fun j u hj => by rw [hps]; exact pcC_front a x j u hj) (fun h0 => by rw [List.length_eq_zero_iff.1 h0]; rfl)
  have HPC := Lib.hid (pcC_len a)
  have HPO := Lib.hid (pcC_one a)
  obtain ⟨S, hS⟩ : ∃ S, bs x.text ++ s = S := ⟨_, rfl⟩
  have HS := Lib.hid (show S = bs (x.text ++ t) by rw [← hS, hs, bs_app])
  have HSS := Lib.hid hS
  generalize hk' : a.length = k at *
  have HK := Lib.hid hk'
  obtain ⟨i0, hi, hz0, hz1, hz2⟩ := info_parts info51
  have L1 : IntKind.i64.wrap ((ps.length : Int) - 1) = (k : Int) := by rw [show ((ps.length : Int) - 1) = (k : Int) by omega]; exact IntWalk.i64_in _ (by omega)
  have i0' : (0 : Int) < (ps.length : Int) := by omega
  have i1 : (0 : Int) ≤ (k : Int) := by omega
  have i2 : (k : Int) < (ps.length : Int) := by omega
  have i3 : (k : Int) ≤ (c : Int) := by omega
  have HB1 := Lib.hid ((Below.refl w.heap.size w).drew.alloc (Nat.le_refl _) (.cells #[] 51))
  have HB2 := Lib.hid ((Below.refl w.heap.size w).drew.alloc (Nat.le_refl _) (.cells #[.string S, .bool false, .bool false] 51))
  have HB3 := Lib.hid (HB1.out.alloc (by simp) (.cells #[.string S, .bool false, .bool false] 51))
  have HB4 := Lib.hid (HB2.out.alloc (by simp) (.cells #[] 51))
  have HE1 := Lib.hid (own_nil0 w.drew w.heap.size 51 3 (Nat.le_refl _))
  have HE2 := Lib.hid (HE1.out.alloc (.cells #[.string S, .bool false, .bool false] 51))
  have HE3 := Lib.hid (own_nil0 (w.drew.alloc (.cells #[.string S, .bool false, .bool false] 51)) w.heap.size 51 3 (by simp))
  have HV1 := Lib.hid (Rd.next hF HB1.out)
  have HV2 := Lib.hid (Rd.next hF HB3.out)
  have HV3 := Lib.hid (Rd.next hF HB4.out)
  have HX2 := Lib.hid (rd_new (w.drew.alloc (.cells #[] 51)) 51 (.string S) (.bool false) (.bool false))
  have HX3 := Lib.hid (Rd.next (rd_new w.drew 51 (.string S) (.bool false) (.bool false)) ((Below.refl _ _).alloc (Nat.le_refl _) (.cells #[] 51)))
  have HC := Lib.hid b0
  have hsE1 : (w.drew.alloc (.cells #[] 51)).heap.size = w.heap.size + 1 := by simp
  have hsX1 : (w.drew.alloc (.cells #[.string S, .bool false, .bool false] 51)).heap.size = w.heap.size + 1 := by simp
  rw [hsE1] at HX2
  rw [hsX1] at HE3
  clear h hs hps hx hpk hcell hx3 b2 hn hF hk' hS
  go_enter Try.func115, Try.ntmps115
  go_wp2_with fail
  refine wp_region_noPanic ?_
  refine wp_region_held_drew (S := (fun w' => w'.cell? ⟨b, o + k * 3, none⟩ = some (.string (bs x.text)))) (by kernel_rfl) ?_ (fun hHeld => ?_)
  · exact HC.out
  refine wpAnyH_take (i := 1) (v := ?_) rfl (by kernel_rfl) (by kernel_rfl) (by kernel_rfl) (fun _ _ _ h => h) (Or.inl ⟨by kernel_rfl, ?_⟩) hHeld ?_
  rotate_left
  · (intro w hSw; (try dsimp only at hSw); go_simp; try with_reducible rfl)
  try simp only [Act.put, List.setIfInBounds_toArray, List.set_cons_zero, List.set_cons_succ]
  refine wpAnyH_take (i := 2) (v := ?_) rfl (by kernel_rfl) (by kernel_rfl) (by kernel_rfl) (fun _ _ _ h => h) (Or.inl ⟨by kernel_rfl, ?_⟩) hHeld ?_
  rotate_left
  · (intro w hSw; (try dsimp only at hSw); go_simp; try with_reducible rfl)
  try simp only [Act.put, List.setIfInBounds_toArray, List.set_cons_zero, List.set_cons_succ]
  refine wpAnyH_take (i := 3) (v := ?_) rfl (by kernel_rfl) (by kernel_rfl) (by kernel_rfl) (fun _ _ _ h => h) (Or.inl ⟨by kernel_rfl, ?_⟩) hHeld ?_
  rotate_left
  · (intro w hSw; (try dsimp only at hSw); go_simp; try with_reducible rfl)
  try simp only [Act.put, List.setIfInBounds_toArray, List.set_cons_zero, List.set_cons_succ]
  refine wpAnyH_take (i := 4) (v := ?_) rfl (by kernel_rfl) (by kernel_rfl) (by kernel_rfl) (fun _ _ _ h => h) (Or.inl ⟨by kernel_rfl, ?_⟩) hHeld ?_
  rotate_left
  · (intro w hSw; (try dsimp only at hSw); go_simp; try with_reducible rfl)
  try simp only [Act.put, List.setIfInBounds_toArray, List.set_cons_zero, List.set_cons_succ]
  refine wpAnyH_take (i := 6) (v := ?_) rfl (by kernel_rfl) (by kernel_rfl) (by kernel_rfl) (fun _ _ _ h => h) (Or.inl ⟨by kernel_rfl, ?_⟩) hHeld ?_
  rotate_left
  · (intro w hSw; (try dsimp only at hSw); go_simp; try with_reducible rfl)
  try simp only [Act.put, List.setIfInBounds_toArray, List.set_cons_zero, List.set_cons_succ]
  refine wpAnyH_take (i := 7) (v := ?_) rfl (by kernel_rfl) (by kernel_rfl) (by kernel_rfl) (fun _ _ _ h => h) (Or.inl ⟨by kernel_rfl, ?_⟩) hHeld ?_
  rotate_left
  · (intro w hSw; (try dsimp only at hSw); go_simp; try with_reducible rfl)
  try simp only [Act.put, List.setIfInBounds_toArray, List.set_cons_zero, List.set_cons_succ]
  refine wpAnyH_take (i := 8) (v := ?_) rfl (by kernel_rfl) (by kernel_rfl) (by kernel_rfl) (fun _ _ _ h => h) (Or.inl ⟨by kernel_rfl, ?_⟩) hHeld ?_
  rotate_left
  · (intro w hSw; (try dsimp only at hSw); go_simp; try with_reducible rfl)
  try simp only [Act.put, List.setIfInBounds_toArray, List.set_cons_zero, List.set_cons_succ]
  refine wpAnyH_take (i := 9) (v := ?_) rfl (by kernel_rfl) (by kernel_rfl) (by kernel_rfl) (fun _ _ _ h => h) (Or.inl ⟨by kernel_rfl, ?_⟩) hHeld ?_
  rotate_left
  · (intro w hSw; (try dsimp only at hSw); go_simp; try with_reducible rfl)
  try simp only [Act.put, List.setIfInBounds_toArray, List.set_cons_zero, List.set_cons_succ]
  refine wpAnyH_take (i := 10) (v := ?_) rfl (by kernel_rfl) (by kernel_rfl) (by kernel_rfl) (fun _ _ _ h => h) (Or.inl ⟨by kernel_rfl, ?_⟩) hHeld ?_
  rotate_left
  · (intro w hSw; (try dsimp only at hSw); go_simp; try with_reducible rfl)
  try simp only [Act.put, List.setIfInBounds_toArray, List.set_cons_zero, List.set_cons_succ]
  refine wpAnyH_take (i := 11) (v := ?_) rfl (by kernel_rfl) (by kernel_rfl) (by kernel_rfl) (fun _ _ _ h => h) (Or.inl ⟨by kernel_rfl, ?_⟩) hHeld ?_
  rotate_left
  · (intro w hSw; (try dsimp only at hSw); go_simp; try with_reducible rfl)
  try simp only [Act.put, List.setIfInBounds_toArray, List.set_cons_zero, List.set_cons_succ]
  refine wpAnyH_take (i := 12) (v := ?_) rfl (by kernel_rfl) (by kernel_rfl) (by kernel_rfl) (fun _ _ _ h => h) (Or.inl ⟨by kernel_rfl, ?_⟩) hHeld ?_
  rotate_left
  · (intro w hSw; (try dsimp only at hSw); go_simp; try with_reducible rfl)
  try simp only [Act.put, List.setIfInBounds_toArray, List.set_cons_zero, List.set_cons_succ]
  refine wpAnyH_take (i := 13) (v := .string S) rfl (by kernel_rfl) (by kernel_rfl) (by kernel_rfl) (fun _ _ _ h => h) (Or.inl ⟨by kernel_rfl, ?_⟩) hHeld ?_
  · (intro w hSw; (try dsimp only at hSw); go_simp; (try rw [if_neg (by omega)]); rw [HSS.out])
  try try simp only [Act.put, List.setIfInBounds_toArray, List.set_cons_zero, List.set_cons_succ]
  refine wpAnyH_take (i := 14) (v := ?_) rfl (by kernel_rfl) (by kernel_rfl) (by kernel_rfl) (fun _ _ _ h => h) (Or.inl ⟨by kernel_rfl, ?_⟩) hHeld ?_
  rotate_left
  · (intro w hSw; (try dsimp only at hSw); go_simp; try with_reducible rfl)
  try simp only [Act.put, List.setIfInBounds_toArray, List.set_cons_zero, List.set_cons_succ]
  refine wpAnyH_ready (rs := [0, 15]) (by kernel_rfl) (by simp) ?_
  refine AllReadyH.cons rfl (fun K hK => ?_) (AllReadyH.cons rfl (fun K hK => ?_) AllReadyH.nil)
  · go_simp
    refine hK.out _ _ ?_ (fun hNew => ?_)
    · go_keep
    clear hK K hHeld
    have hHeld := hNew
    clear hNew
    try simp only [Act.put, List.setIfInBounds_toArray, List.set_cons_zero, List.set_cons_succ]
    refine wpAnyH_ready (rs := [5, 15]) (by kernel_rfl) (by simp) ?_
    refine AllReadyH.cons rfl (fun K hK => ?_) (AllReadyH.cons rfl (fun K hK => ?_) AllReadyH.nil)
    · refine step_append_rd _ (by rfl) _ _ _ (by rfl) w.heap.size 51 i0 _ 3 24 Try.underlying39 hi hz0 hz1 hz2 rfl (by omega) (.slice (some ⟨w.heap.size, 0, none⟩) 0 0) 0 [] (by rfl) HE1.out (.slice (some ⟨b, o, none⟩) k c) k (pcC a) (by rfl) HV1.out HPC.out HPO.out (by unfold maxLen; omega) (by omega) (by simp; try omega) ?_; intro ao cap w2 hown2 hgrow2; simp only [Nat.zero_add, List.nil_append] at hown2 ⊢; have HG2 := Lib.hid (below_own (B := w.heap.size) HB1.out HE1.out hgrow2 (Nat.le_refl _) (by simp; try omega)); have HO2 := Lib.hid hown2; have z0 := ((bcell HG2.out).1 b (o + k * 3) hb0).trans HC.out
      refine hK.out _ _ ?_ (fun hNew => ?_)
      · exact z0
      clear hK K hHeld
      have hHeld := hNew
      clear hNew
      try simp only [Act.put, List.setIfInBounds_toArray, List.set_cons_zero, List.set_cons_succ]
      refine wpAnyH_ready (rs := [15]) (by kernel_rfl) (by simp) ?_
      refine AllReadyH.cons rfl (fun K hK => ?_) AllReadyH.nil
      go_simp
      refine hK.out _ _ ?_ (fun hNew => ?_)
      · go_keep
      clear hK K hHeld
      have hHeld := hNew
      clear hNew
      try simp only [Act.put, List.setIfInBounds_toArray, List.set_cons_zero, List.set_cons_succ]
      refine wpAnyH_ready (rs := [16]) (by kernel_rfl) (by simp) ?_
      refine AllReadyH.cons rfl (fun K hK => ?_) AllReadyH.nil
      refine step_append_rd _ (by rfl) _ _ _ (by rfl) w.heap.size 51 i0 _ 3 24 Try.underlying39 hi hz0 hz1 hz2 rfl (by omega) (.slice ao k cap) k (pcC a) (by rfl) (HO2.out.alloc _) (.slice (some ⟨w2.heap.size, 0, none⟩) 1 1) 1 [.string S, .bool false, .bool false] (by rfl) (rd_new w2 51 (.string S) (.bool false) (.bool false)) (by rfl) (by simp [Value.oneCell']) (by unfold maxLen; omega) (by omega) (by have := HG2.out.size; (try simp); omega) ?_; intro ao3 cap3 w3 hown3 hgrow3; have HG3 := Lib.hid (below_own (B := w.heap.size) (HG2.out.alloc (by have := HG2.out.size; omega) _) (HO2.out.alloc _) hgrow3 (Nat.le_refl _) (by have := HG2.out.size; (try simp); omega)); have y0 := ((bcell HG3.out).1 b (o + k * 3) hb0).trans HC.out
      refine hK.out _ _ ?_ (fun hNew => ?_)
      · exact y0
      clear hK K hHeld
      have hHeld := hNew
      clear hNew
      try simp only [Act.put, List.setIfInBounds_toArray, List.set_cons_zero, List.set_cons_succ]
      refine wpAnyH_take (i := 17) (v := ?_) rfl (by kernel_rfl) (by kernel_rfl) (by kernel_rfl) (fun _ _ _ h => h) (Or.inl ⟨by kernel_rfl, ?_⟩) hHeld ?_
      rotate_left
      · (intro w hSw; (try dsimp only at hSw); go_simp; try with_reducible rfl)
      try simp only [Act.put, List.setIfInBounds_toArray, List.set_cons_zero, List.set_cons_succ]
      refine wpAnyH_done (by kernel_rfl) ?_ _
      clear hHeld
      simp only [List.getElem_toArray, List.getElem_cons_zero, List.getElem_cons_succ, Act.put, List.setIfInBounds_toArray, List.set_cons_zero, List.set_cons_succ]
      refine NoPanic.normal ?_
      clear hgrow3 y0 z0
      go_wp2
      go_ret
      exact ⟨_, rfl, nwp_own (ps := a) (by rw [HK.out]) (by rw [← HS.out]; exact hown3) HA.out, HG3.out⟩
    · go_simp
      refine hK.out _ _ ?_ (fun hNew => ?_)
      · go_keep
      clear hK K hHeld
      have hHeld := hNew
      clear hNew
      try simp only [Act.put, List.setIfInBounds_toArray, List.set_cons_zero, List.set_cons_succ]
      refine wpAnyH_ready (rs := [5]) (by kernel_rfl) (by simp) ?_
      refine AllReadyH.cons rfl (fun K hK => ?_) AllReadyH.nil
      refine step_append_rd _ (by rfl) _ _ _ (by rfl) w.heap.size 51 i0 _ 3 24 Try.underlying39 hi hz0 hz1 hz2 rfl (by omega) (.slice (some ⟨w.heap.size, 0, none⟩) 0 0) 0 [] (by rfl) HE2.out (.slice (some ⟨b, o, none⟩) k c) k (pcC a) (by rfl) HV2.out HPC.out HPO.out (by unfold maxLen; omega) (by omega) (by simp; try omega) ?_; intro ao cap w2 hown2 hgrow2; simp only [Nat.zero_add, List.nil_append] at hown2 ⊢; have HG2 := Lib.hid (below_own (B := w.heap.size) HB3.out HE2.out hgrow2 (Nat.le_refl _) (by simp; try omega)); have HO2 := Lib.hid hown2; have z0 := ((bcell HG2.out).1 b (o + k * 3) hb0).trans HC.out
      refine hK.out _ _ ?_ (fun hNew => ?_)
      · exact z0
      clear hK K hHeld
      have hHeld := hNew
      clear hNew
      try simp only [Act.put, List.setIfInBounds_toArray, List.set_cons_zero, List.set_cons_succ]
      refine wpAnyH_ready (rs := [16]) (by kernel_rfl) (by simp) ?_
      refine AllReadyH.cons rfl (fun K hK => ?_) AllReadyH.nil
      refine step_append_rd _ (by rfl) _ _ _ (by rfl) w.heap.size 51 i0 _ 3 24 Try.underlying39 hi hz0 hz1 hz2 rfl (by omega) (.slice ao k cap) k (pcC a) (by rfl) (HO2.out) (.slice (some ⟨w.heap.size + 1, 0, none⟩) 1 1) 1 [.string S, .bool false, .bool false] (by rfl) (rd_other HX2.out hgrow2 (own_neb (by omega))) (by rfl) (by simp [Value.oneCell']) (by unfold maxLen; omega) (by omega) (by have := HG2.out.size; (try simp); omega) ?_; intro ao3 cap3 w3 hown3 hgrow3; have HG3 := Lib.hid (below_own (B := w.heap.size) (HG2.out) (HO2.out) hgrow3 (Nat.le_refl _) (by have := HG2.out.size; (try simp); omega)); have y0 := ((bcell HG3.out).1 b (o + k * 3) hb0).trans HC.out
      refine hK.out _ _ ?_ (fun hNew => ?_)
      · exact y0
      clear hK K hHeld
      have hHeld := hNew
      clear hNew
      try simp only [Act.put, List.setIfInBounds_toArray, List.set_cons_zero, List.set_cons_succ]
      refine wpAnyH_take (i := 17) (v := ?_) rfl (by kernel_rfl) (by kernel_rfl) (by kernel_rfl) (fun _ _ _ h => h) (Or.inl ⟨by kernel_rfl, ?_⟩) hHeld ?_
      rotate_left
      · (intro w hSw; (try dsimp only at hSw); go_simp; try with_reducible rfl)
      try simp only [Act.put, List.setIfInBounds_toArray, List.set_cons_zero, List.set_cons_succ]
      refine wpAnyH_done (by kernel_rfl) ?_ _
      clear hHeld
      simp only [List.getElem_toArray, List.getElem_cons_zero, List.getElem_cons_succ, Act.put, List.setIfInBounds_toArray, List.set_cons_zero, List.set_cons_succ]
      refine NoPanic.normal ?_
      clear hgrow3 y0 z0
      go_wp2
      go_ret
      exact ⟨_, rfl, nwp_own (ps := a) (by rw [HK.out]) (by rw [← HS.out]; exact hown3) HA.out, HG3.out⟩
  · go_simp
    refine hK.out _ _ ?_ (fun hNew => ?_)
    · go_keep
    clear hK K hHeld
    have hHeld := hNew
    clear hNew
    try simp only [Act.put, List.setIfInBounds_toArray, List.set_cons_zero, List.set_cons_succ]
    refine wpAnyH_ready (rs := [0]) (by kernel_rfl) (by simp) ?_
    refine AllReadyH.cons rfl (fun K hK => ?_) AllReadyH.nil
    go_simp
    refine hK.out _ _ ?_ (fun hNew => ?_)
    · go_keep
    clear hK K hHeld
    have hHeld := hNew
    clear hNew
    try simp only [Act.put, List.setIfInBounds_toArray, List.set_cons_zero, List.set_cons_succ]
    refine wpAnyH_ready (rs := [5]) (by kernel_rfl) (by simp) ?_
    refine AllReadyH.cons rfl (fun K hK => ?_) AllReadyH.nil
    refine step_append_rd _ (by rfl) _ _ _ (by rfl) w.heap.size 51 i0 _ 3 24 Try.underlying39 hi hz0 hz1 hz2 rfl (by omega) (.slice (some ⟨w.heap.size + 1, 0, none⟩) 0 0) 0 [] (by rfl) HE3.out (.slice (some ⟨b, o, none⟩) k c) k (pcC a) (by rfl) HV3.out HPC.out HPO.out (by unfold maxLen; omega) (by omega) (by simp; try omega) ?_; intro ao cap w2 hown2 hgrow2; simp only [Nat.zero_add, List.nil_append] at hown2 ⊢; have HG2 := Lib.hid (below_own (B := w.heap.size) HB4.out HE3.out hgrow2 (Nat.le_refl _) (by simp; try omega)); have HO2 := Lib.hid hown2; have z0 := ((bcell HG2.out).1 b (o + k * 3) hb0).trans HC.out
    refine hK.out _ _ ?_ (fun hNew => ?_)
    · exact z0
    clear hK K hHeld
    have hHeld := hNew
    clear hNew
    try simp only [Act.put, List.setIfInBounds_toArray, List.set_cons_zero, List.set_cons_succ]
    refine wpAnyH_ready (rs := [16]) (by kernel_rfl) (by simp) ?_
    refine AllReadyH.cons rfl (fun K hK => ?_) AllReadyH.nil
    refine step_append_rd _ (by rfl) _ _ _ (by rfl) w.heap.size 51 i0 _ 3 24 Try.underlying39 hi hz0 hz1 hz2 rfl (by omega) (.slice ao k cap) k (pcC a) (by rfl) (HO2.out) (.slice (some ⟨w.heap.size, 0, none⟩) 1 1) 1 [.string S, .bool false, .bool false] (by rfl) (rd_other HX3.out hgrow2 (own_neb (by omega))) (by rfl) (by simp [Value.oneCell']) (by unfold maxLen; omega) (by omega) (by have := HG2.out.size; (try simp); omega) ?_; intro ao3 cap3 w3 hown3 hgrow3; have HG3 := Lib.hid (below_own (B := w.heap.size) (HG2.out) (HO2.out) hgrow3 (Nat.le_refl _) (by have := HG2.out.size; (try simp); omega)); have y0 := ((bcell HG3.out).1 b (o + k * 3) hb0).trans HC.out
    refine hK.out _ _ ?_ (fun hNew => ?_)
    · exact y0
    clear hK K hHeld
    have hHeld := hNew
    clear hNew
    try simp only [Act.put, List.setIfInBounds_toArray, List.set_cons_zero, List.set_cons_succ]
    refine wpAnyH_take (i := 17) (v := ?_) rfl (by kernel_rfl) (by kernel_rfl) (by kernel_rfl) (fun _ _ _ h => h) (Or.inl ⟨by kernel_rfl, ?_⟩) hHeld ?_
    rotate_left
    · (intro w hSw; (try dsimp only at hSw); go_simp; try with_reducible rfl)
    try simp only [Act.put, List.setIfInBounds_toArray, List.set_cons_zero, List.set_cons_succ]
    refine wpAnyH_done (by kernel_rfl) ?_ _
    clear hHeld
    simp only [List.getElem_toArray, List.getElem_cons_zero, List.getElem_cons_succ, Act.put, List.setIfInBounds_toArray, List.set_cons_zero, List.set_cons_succ]
    refine NoPanic.normal ?_
    clear hgrow3 y0 z0
    go_wp2
    go_ret
    exact ⟨_, rfl, nwp_own (ps := a) (by rw [HK.out]) (by rw [← HS.out]; exact hown3) HA.out, HG3.out⟩
theorem add_ref (h : NWp 51 w v ps) (n : Nat) (hb : WB ps n) (hn : n ≤ 100000) (hs : s = bs t) (hz : t.length ≤ 100000) : Calls Try.prog 115 #[v, .string s] w (AddP w ps t) := by
  have hsz : s.size ≤ 100000 := by rw [hs, bs_size]; exact hz
  rcases List.eq_nil_or_concat ps with rfl | ⟨a, x, rfl⟩
  · exact add_nil w v s t h hs
  · rw [List.concat_eq_append] at *
    cases hx : x.var with
    | true => exact add_var w v _ s t h (by have := hb.1; omega) a x rfl hx hs
    | false => exact add_lit w v _ s t h (by have := hb.1; omega) a x rfl hx hs hsz (by have := hb.2 x (by simp); omega)
end
end Go.Proofs.Ytiddchpkmcncdaa
/- Walks of layer 41: the reference's clean. -/
namespace Go.Proofs.Ytiddchpkmcncdaa
open Go.RowKit
set_option linter.unusedSimpArgs false
set_option linter.unusedVariables false
/-- The loop of clean. -/
def ClRel (w : World) (ps : Wd) (gk : Nat) (v i : Value) (wr : World) : Prop :=
  ∃ k m, i = .int .i64 ((k : Nat) : Int) ∧ k ≤ ps.length ∧ gk + k = ps.length + 1 ∧ m ≤ k ∧ m = ((ps.take k).filter keepP).length ∧ Below w.heap.size w wr ∧ wr.ownsRow w.heap.size 51 3 v m (pcC ((ps.take k).filter keepP))
theorem keep_take (ps : Wd) (k : Nat) (h : k < ps.length) (p : Pc) (hp : ps[k] = p) : (ps.take (k + 1)).filter keepP = (ps.take k).filter keepP ++ (if keepP p = true then [p] else []) := by
  rw [List.take_succ_eq_append_getElem h, List.filter_append, hp]
  congr 1
  cases hq : keepP p <;> simp [hq]
theorem rd_new1 (w : World) : NWp 51 (w.alloc (.cells #[.string ⟨#[]⟩, .bool false, .bool false] 51)) (.slice (some ⟨w.heap.size, 0, none⟩) 1 1) [lit []] :=
  Rd.of_own (own_new w w.heap.size 51 3 [.string ⟨#[]⟩, .bool false, .bool false] rfl (Nat.le_refl _))
set_option maxRecDepth 100000 in
set_option maxHeartbeats 8000000 in
theorem clean_any (w : World) (v : Value) (ps : Wd) (h : NWp 51 w v ps) (hl : ps.length ≤ 100000) :
    Calls Try.prog 103 #[v] w fun e w' => ∃ v', e = .returned v' ∧ NWp 51 w' v' (cleanW ps) ∧ Below w.heap.size w w' := by
  obtain ⟨i0, hi, hz0, hz1, hz2⟩ := info_parts info51
  obtain ⟨A, c, rfl, hc, hcell⟩ := Rd.pall h
  have HC := Lib.hid hcell
  clear h hcell
  go_enter Try.func103, Try.ntmps103
  go_wp2
  go_loopg [3, 4] (ps.length + 1) (fun gk v i wr => ClRel w ps gk v i wr)
  case atStart => exact ⟨0, 0, rfl, Nat.zero_le _, by omega, Nat.le_refl _, rfl, Below.refl _ _, World.ownsRow_nil _ _ _ _⟩
  case round =>
    obtain ⟨k, m, rfl, hk, hgk, hmk, hm, hb, hown⟩ := hrel
    have HO := Lib.hid hown
    have HM := Lib.hid hm
    have HB := Lib.hid hb
    obtain ⟨av, cv, rfl, _⟩ := own_len hown
    have hsz : w.heap.size ≤ wr.heap.size := hb.size
    clear hown hm
    by_cases hlt : k < ps.length
    · obtain ⟨b, o, rfl, hb0, hx⟩ := HC.out k hlt
      obtain ⟨p0, p1, p2⟩ := hx k hlt
      obtain ⟨p, hp⟩ : ∃ p, ps[k] = p := ⟨_, rfl⟩
      have HK := Lib.hid (keep_take ps k hlt p hp)
      rw [hp] at p0 p1 p2
      clear hp hx
      have hbr : b < wr.heap.size := Nat.lt_of_lt_of_le hb0 hb.size
      have b0 := ((bcell hb).1 b (o + k * 3) hb0).trans p0
      have b1 := ((bcell hb).1 b (o + k * 3 + 1) hb0).trans p1
      have b2 := ((bcell hb).1 b (o + k * 3 + 2) hb0).trans p2
      have i1 : (0 : Int) ≤ (k : Int) := by omega
      have i2 : (k : Int) < (ps.length : Int) := by omega
      clear hb p0 p1 p2
      cases hv : p.var with
      | true =>
        have HKP := Lib.hid (show keepP p = true by unfold keepP; rw [hv]; rfl)
        have HPV := Lib.hid (show pcV p = [.string (bs p.text), .bool true, .bool p.quo] by unfold pcV; rw [hv])
        rw [hv] at b1
        clear hv
        go_wp2_with (at_builtin; refine wpList_append_lies _ rfl _ _ _ rfl w.heap.size 51 i0 _ 3 24 Try.underlying39 hi hz0 hz1 hz2 rfl (by omega) _ m (pcC ((ps.take k).filter keepP)) (by rfl) (HO.out.alloc _) ⟨wr.heap.size, 0, none⟩ 1 1 [.string (bs p.text), .bool true, .bool p.quo] rfl rfl (World.news_of_block (cs := #[.string (bs p.text), .bool true, .bool p.quo]) (t := 51) (fr := (0, 0)) (heap_alloc_new wr _)) (by simp [Value.oneCell']) (by omega) (by unfold maxLen; omega) (by omega) (by simp; omega) (wr.heap.size + 1) (by simp) ?_; intro gg cap w1 hown1 hgrow hat hlt1)
        have HB1 := Lib.hid (below_own (HB.out.alloc hsz _) (HO.out.alloc _) hgrow (Nat.le_refl _) (by simp; omega))
        have HO1 := Lib.hid (show w1.ownsRow w.heap.size 51 3 _ (m + 1) (pcC ((ps.take (k + 1)).filter keepP)) from by rw [HK.out, if_pos HKP.out, pcC_snoc, HPV.out]; exact hown1)
        clear hown1 hgrow b0 b1 b2 hat hlt1
        go_roundg (gk - 1)
        case rel => exact ⟨k + 1, m + 1, by go_num, by omega, by omega, by omega, by rw [HK.out, if_pos HKP.out, List.length_append, HM.out]; rfl, HB1.out, HO1.out⟩
        case measure => omega
      | false =>
        rw [hv] at b1
        cases ht : p.text.isEmpty with
        | true =>
          have HKP := Lib.hid (show ¬ keepP p = true by unfold keepP; rw [hv, ht]; simp)
          have t1 : (bs p.text).toList = [] := by rw [bs_tl]; exact List.isEmpty_iff.1 ht
          generalize bs p.text = T at *
          clear hv ht
          go_wp2
          go_roundg (gk - 1)
          case rel => exact ⟨k + 1, m, by go_num, by omega, by omega, by omega, by rw [HK.out, if_neg HKP.out, List.append_nil, HM.out], HB.out, by rw [HK.out, if_neg HKP.out, List.append_nil]; exact HO.out⟩
          case measure => omega
        | false =>
          have HKP := Lib.hid (show keepP p = true by unfold keepP; rw [hv, ht]; rfl)
          have HPV := Lib.hid (show pcV p = [.string (bs p.text), .bool false, .bool p.quo] by unfold pcV; rw [hv])
          have t1 : (bs p.text).toList.isEmpty = false := by rw [bs_tl]; exact ht
          generalize bs p.text = T at *
          clear hv ht
          go_wp2_with (at_builtin; refine wpList_append_lies _ rfl _ _ _ rfl w.heap.size 51 i0 _ 3 24 Try.underlying39 hi hz0 hz1 hz2 rfl (by omega) _ m (pcC ((ps.take k).filter keepP)) (by rfl) (HO.out.alloc _) ⟨wr.heap.size, 0, none⟩ 1 1 [.string T, .bool false, .bool p.quo] rfl rfl (World.news_of_block (cs := #[.string T, .bool false, .bool p.quo]) (t := 51) (fr := (0, 0)) (heap_alloc_new wr _)) (by simp [Value.oneCell']) (by omega) (by unfold maxLen; omega) (by omega) (by simp; omega) (wr.heap.size + 1) (by simp) ?_; intro gg cap w1 hown1 hgrow hat hlt1)
          have HB1 := Lib.hid (below_own (HB.out.alloc hsz _) (HO.out.alloc _) hgrow (Nat.le_refl _) (by simp; omega))
          have HO1 := Lib.hid (show w1.ownsRow w.heap.size 51 3 _ (m + 1) (pcC ((ps.take (k + 1)).filter keepP)) from by rw [HK.out, if_pos HKP.out, pcC_snoc, HPV.out]; exact hown1)
          clear hown1 hgrow b0 b1 b2 hat hlt1
          go_roundg (gk - 1)
          case rel => exact ⟨k + 1, m + 1, by go_num, by omega, by omega, by omega, by rw [HK.out, if_pos HKP.out, List.length_append, HM.out]; rfl, HB1.out, HO1.out⟩
          case measure => omega
    · obtain rfl : k = ps.length := by omega
      have HF := Lib.hid (show (ps.take ps.length).filter keepP = ps.filter keepP by rw [List.take_length])
      rw [HF.out] at HO HM
      rcases Nat.eq_zero_or_pos m with hm0 | hm0
      · have HN := Lib.hid (show ps.filter keepP = [] from List.length_eq_zero_iff.1 (by rw [← HM.out]; exact hm0))
        have HCW := Lib.hid (show cleanW ps = [lit []] by unfold cleanW; rw [HN.out]; rfl)
        clear hlt HM HO
        subst hm0
        go_wp2
        go_ret
        exact ⟨_, rfl, (by rw [HCW.out]; exact rd_new1 wr), HB.out.alloc hsz _⟩
      · have HN := Lib.hid (show ¬ (ps.filter keepP).isEmpty = true by rw [List.isEmpty_iff]; intro e; rw [e] at HM; have := HM.out; simp at this; omega)
        have e1 : ((m : Int) == 0) = false := beq_false_of_ne (by omega)
        clear hlt
        go_wp2
        go_ret
        exact ⟨_, rfl, (by unfold cleanW; rw [if_neg HN.out]; have := Rd.of_own HO.out; rw [HM.out] at this ⊢; exact this), HB.out⟩
end Go.Proofs.Ytiddchpkmcncdaa
/- Walks of layer 41: the reference's double. -/
namespace Go.Proofs.Ytiddchpkmcncdaa
open Go.RowKit
set_option linter.unusedSimpArgs false
set_option linter.unusedVariables false
theorem results_tmp4 {fn : Func} {t u v x : Tmp} (h : fn.results = #[.tmp t, .tmp u, .tmp v, .tmp x]) (tmps : Array Value) (P : Program) (w : World) :
    (results fn tmps).run P w = .ok (.tuple #[tmps.getD t undef, tmps.getD u undef, tmps.getD v undef, tmps.getD x undef]) w := by
  simp [results, h]
macro "go_ret4" : tactic => `(tactic|
  ((try simp only [Exit.inBlock, Exit.then]); refine bodyPost_ret (results_tmp4 rfl _ _ _) rfl ?_))
theorem ext_one (s : ByteArray) (k : Nat) (h : k < s.size) : s.extract k (k + 1) = bs [b8 s k] := by
  rw [ext_bs, Nat.add_sub_cancel_left, dr_cons s k h]; rfl
theorem isVar_ne {t : Bs} (h : isVarS t = true) : t.isEmpty = false ∧ t.length ≤ 16 := by
  unfold isVarS at h
  simp only [Bool.and_eq_true, Bool.not_eq_true', decide_eq_true_eq] at h
  exact ⟨h.1.1.1, h.1.1.2⟩
/-- What a word's reading leaves: the word, the offset behind it, or the error with its offset. -/
def PcP (w : World) (r : R (Wd × Bs × Nat)) (e : Ending) (w' : World) : Prop :=
  match r with
  | .ok (ps', tx', q) => ∃ v' W', e = .returned (.tuple #[v', .int .i64 (q : Int), .int .i64 0, .int .i64 0]) ∧ NWp 51 w' v' W' ∧ WR W' ps' tx' ∧ WB W' q ∧ Below w.heap.size w w'
  | .err q er => ∃ v' i, e = .returned (.tuple #[v', i, .int .i64 er, .int .i64 (q : Int)]) ∧ Below w.heap.size w w'
theorem PcP.ok {w w' : World} {r : R (Wd × Bs × Nat)} {ps' : Wd} {tx' : Bs} {q : Nat} {e : Ending} {v' : Value} {W' : Wd} (hr : r = .ok (ps', tx', q)) (he : e = .returned (.tuple #[v', .int .i64 (q : Int), .int .i64 0, .int .i64 0])) (h1 : NWp 51 w' v' W') (h2 : WR W' ps' tx') (h3 : WB W' q) (h4 : Below w.heap.size w w') : PcP w r e w' := by subst hr; exact ⟨_, _, he, h1, h2, h3, h4⟩
theorem PcP.err {w w' : World} {r : R (Wd × Bs × Nat)} {q : Nat} {er : Int} {e : Ending} {v' i : Value} (hr : r = .err q er) (he : e = .returned (.tuple #[v', i, .int .i64 er, .int .i64 (q : Int)])) (h4 : Below w.heap.size w w') : PcP w r e w' := by subst hr; exact ⟨_, _, he, h4⟩
/-- The loop of double. -/
def DbRel (w : World) (s : ByteArray) (p : Nat) (r : R (Wd × Bs × Nat)) (gk : Nat) (v i : Value) (wr : World) : Prop :=
  ∃ (k : Nat) (W ps : Wd) (tx : Bs), i = .int .i64 ((k : Nat) : Int) ∧ p + 1 ≤ k ∧ k ≤ s.size ∧ gk + k = s.size + 1 ∧ NWp 51 wr v W ∧ WR W ps tx ∧ WB W k ∧ Below w.heap.size w wr ∧ r = quoP s k p ps tx
theorem DbRel.intro0 {w : World} {s : ByteArray} {p : Nat} {v : Value} {W ps : Wd} {tx : Bs} (h : NWp 51 w v W) (hr : WR W ps tx) (hb : WB W p) (hp : p < s.size) : DbRel w s p (quoP s (p + 1) p ps tx) (s.size - p) v (.int .i64 ((p : Int) + 1)) w :=
  ⟨p + 1, W, ps, tx, by simp, Nat.le_refl _, hp, by omega, h, hr, hb.mono (by omega), Below.refl _ _, rfl⟩
theorem below_step {a b c : World} (h : Below a.heap.size a b) (k : Below b.heap.size b c) : Below a.heap.size a c := h.trans (k.mono h.size)
theorem nwp_var {w : World} {base : Nat} {ao : Option Addr} {n cap : Nat} {ps : Wd} {x : Pc} {c1 c2 c3 : Value} (hl : n = ps.length + 1) (h : w.ownsRow base 51 3 (.slice ao n cap) n (pcC ps ++ [c1, c2, c3])) (hx : pcV x = [c1, c2, c3]) : NWp 51 w (.slice ao n cap) (ps ++ [x]) := by
  subst hl
  have := Rd.of_own h
  unfold NWp
  rw [pcC_snoc, hx, List.length_append]
  exact this
set_option maxRecDepth 100000 in
set_option maxHeartbeats 16000000 in
theorem double_any (w : World) (s : ByteArray) (p : Nat) (v : Value) (W ps : Wd) (tx : Bs) (h : NWp 51 w v W) (hr : WR W ps tx) (hb : WB W p) (hp : p < s.size) (hs : s.size ≤ 90000) :
    Calls Try.prog 116 #[v, .string s, .int .i64 (p : Int)] w (PcP w (quoP s (p + 1) p ps tx)) := by
  obtain ⟨i0, hi, hz0, hz1, hz2⟩ := info_parts info51
  have h0 := DbRel.intro0 h hr hb hp (s := s)
  generalize quoP s (p + 1) p ps tx = r at *
  clear h hr hb
  have L0 : IntKind.i64.wrap ((p : Int) + 1) = (p : Int) + 1 := IntWalk.i64_in _ (by omega)
  go_enter Try.func116, Try.ntmps116
  go_wp2
  go_loopg [0, 10] (s.size - p) (fun gk v i wr => DbRel w s p r gk v i wr)
  case atStart => exact h0
  case round =>
    clear h0
    obtain ⟨k, W, ps, tx, rfl, hk0, hk, hgk, hn, hwr, hwb, hb, hr⟩ := hrel
    have HN := Lib.hid hn
    have HW := Lib.hid hwr
    have HWB := Lib.hid hwb
    have HB := Lib.hid hb
    have hwl : W.length ≤ k := hwb.1
    obtain ⟨A, c, rfl, hc⟩ := Rd.form hn
    clear hn hwr hwb hb L0
    have L1 : IntKind.i64.wrap ((k : Int) + 1) = (k : Int) + 1 := IntWalk.i64_in _ (by omega)
    have L2 : IntKind.i64.wrap ((k : Int) + 2) = (k : Int) + 2 := IntWalk.i64_in _ (by omega)
    have e4 : ((k : Int) + 1).toNat = k + 1 := by omega
    have e5 : ((k : Int) + 2).toNat = k + 2 := by omega
    have i1 : (0 : Int) ≤ (k : Int) := by omega
    have e8 : (0 : Int) ≤ (k : Int) + 1 := by omega
    have e6 : (k : Int) ≤ (k : Int) + 1 := by omega
    have e7 : (k : Int) + 1 ≤ (k : Int) + 2 := by omega
    by_cases hlt : k < s.size
    · have hbk := bt_of s k hlt
      have i2 : (k : Int) < (s.size : Int) := by omega
      have i3 : (k : Int) + 1 ≤ (s.size : Int) := by omega
      have hR := hr.trans (quoP_cons s k p ps tx hlt)
      clear hr
      by_cases h34 : bt s k = 34
      · have HR := Lib.hid (hR.trans (if_pos h34))
        rw [h34] at hbk
        clear hR h34
        go_wp2
        go_ret4
        exact PcP.ok HR.out (by rfl) HN.out HW.out (HWB.out.mono (by omega)) HB.out
      · have hR1 := hR.trans (if_neg h34)
        by_cases h92 : bt s k = 92
        · have hR2 := hR1.trans (if_pos h92)
          rw [h92] at hbk
          clear hR hR1 h34 h92
          by_cases hq : k + 1 = s.size
          · have HR := Lib.hid (hR2.trans (if_pos hq))
            have i4 : (s.size : Int) ≤ (k : Int) + 1 := by omega
            clear hR2
            go_wp2
            go_ret4
            exact PcP.err HR.out (by rfl) HB.out
          · have HR := Lib.hid (hR2.trans (if_neg hq))
            have i4 : ¬ ((s.size : Int) ≤ (k : Int) + 1) := by omega
            have i5 : (k : Int) + 2 ≤ (s.size : Int) := by omega
            have HX := Lib.hid (ext_one s (k + 1) (by omega))
            clear hR2
            go_wp2_with (go_at_call 115; refine (add_ref _ _ W _ [b8 s (k + 1)] HN.out k HWB.out (by omega) HX.out (by simp)).mono ?_; rintro e w1 ⟨v1, rfl, n1, k1⟩)
            go_roundg (gk - 2)
            case rel => exact ⟨k + 2, _, _, _, by go_num, by omega, by omega, by omega, n1, HW.out.add _, HWB.out.add _ (by simp) (by omega), below_step HB.out k1, HR.out⟩
            case measure => omega
        · have hR2 := hR1.trans (if_neg h92)
          by_cases h36 : bt s k = 36
          · have hR3 := hR2.trans (if_pos h36)
            rw [h36] at hbk
            clear hR hR1 hR2 h34 h92 h36
            cases hv : isVarS (nmS s (k + 1)) with
            | false =>
              have HR := Lib.hid (hR3.trans (if_neg (by rw [hv]; simp)))
              have HV := Lib.hid (show varR s k = .tuple #[.string ⟨#[]⟩, .int .i64 (k : Int)] by unfold varR; rw [if_neg (by rw [hv]; simp)])
              clear hR3 hv
              go_wp2_with (go_at_call 117; refine (variable_any s k _ hlt (by omega)).mono ?_; rintro e w1 ⟨rfl, rfl⟩; rw [HV.out])
              go_ret4
              exact PcP.err HR.out (by rfl) HB.out
            | true =>
              have HR := Lib.hid (hR3.trans (if_pos hv))
              obtain ⟨T, hT⟩ : ∃ T, bs (nmS s (k + 1)) = T := ⟨_, rfl⟩
              have hvn := isVar_ne hv
              have t1 : T.toList.isEmpty = false := by rw [← hT, bs_tl]; exact hvn.1
              have hnl := nm_le s (k + 1)
              have HV := Lib.hid (show varR s k = .tuple #[.string T, .int .i64 ((k + 1 + (nmS s (k + 1)).length : Nat) : Int)] by unfold varR; rw [if_pos hv, hT])
              have HT := Lib.hid hT
              have HNL := Lib.hid hvn.2
              obtain ⟨q, hq⟩ : ∃ q, k + 1 + (nmS s (k + 1)).length = q := ⟨_, rfl⟩
              have HNQ := Lib.hid hq
              rw [hq] at HV HR
              have hq1 : k + 1 ≤ q := by omega
              have hq2 : q ≤ s.size := by omega
              have HE := Lib.hid (own_nil0 wr wr.heap.size 51 3 (Nat.le_refl _))
              have HB1 := Lib.hid ((Below.refl wr.heap.size wr).alloc (Nat.le_refl _) (.cells #[] 51))
              have HV1 := Lib.hid (Rd.next HN.out HB1.out)
              have HPC := Lib.hid (pcC_len W)
              have HPO := Lib.hid (pcC_one W)
              clear hR3 hv hT hvn hq hnl
              go_wp2_with (first | (go_at_call 117; refine (variable_any s k _ hlt (by omega)).mono ?_; rintro e w1 ⟨rfl, rfl⟩; rw [HV.out]) | (at_builtin; first | (refine wpList_append_rd _ rfl _ _ _ rfl wr.heap.size 51 i0 _ 3 24 Try.underlying39 hi hz0 hz1 hz2 rfl (by omega) _ 0 [] (by rfl) HE.out _ W.length (pcC W) (by rfl) HV1.out HPC.out HPO.out (by unfold maxLen; omega) (by omega) (by simp) ?_; intro ao cap w2 hown2 hgrow2; simp only [Nat.zero_add, List.nil_append] at hown2; have HG := Lib.hid hgrow2; have HO2 := Lib.hid hown2) | (refine wpList_append_lies _ rfl _ _ _ rfl wr.heap.size 51 i0 _ 3 24 Try.underlying39 hi hz0 hz1 hz2 rfl (by omega) _ W.length (pcC W) (by rfl) (HO2.out.alloc _) ⟨w2.heap.size, 0, none⟩ 1 1 [.string T, .bool true, .bool true] rfl rfl (World.news_of_block (cs := #[.string T, .bool true, .bool true]) (t := 51) (fr := (0, 0)) (heap_alloc_new w2 _)) (by simp [Value.oneCell']) (by omega) (by unfold maxLen; omega) (by omega) (by have := HG.out.size; simp at this ⊢; omega) (w2.heap.size + 1) (by simp) ?_; intro gg cap w3 hown3 hgrow3 hat hlt3)))
              have HB3 := Lib.hid (below_step HB.out (below_own ((below_own HB1.out HE.out HG.out (Nat.le_refl _) (by simp)).alloc (by have := HG.out.size; simp at this; omega) _) (HO2.out.alloc _) hgrow3 (Nat.le_refl _) (by have := HG.out.size; simp at this ⊢; omega)))
              have HN3 := Lib.hid (nwp_var (ps := W) (x := ⟨nmS s (k + 1), true, true⟩) rfl hown3 (by unfold pcV; rw [HT.out]))
              clear hown3 hgrow3 hgrow2 hown2
              go_roundg (s.size + 1 - q)
              case rel => exact ⟨q, _, _, _, by rfl, by omega, hq2, by omega, HN3.out, HW.out.var ⟨nmS s (k + 1), true, true⟩ rfl, by have := HWB.out.snoc (k := q - k) ⟨nmS s (k + 1), true, true⟩ (by have := HNQ.out; show (nmS s (k + 1)).length ≤ _; omega) (by omega); rwa [show k + (q - k) = q by omega] at this, HB3.out, HR.out⟩
              case measure => omega
          · have hR3 := hR2.trans (if_neg h36)
            have HR := Lib.hid hR3
            have HX := Lib.hid (ext_one s k hlt)
            clear hR hR1 hR2 hR3
            go_wp2_with (go_at_call 115; refine (add_ref _ _ W _ [b8 s k] HN.out k HWB.out (by omega) HX.out (by simp)).mono ?_; rintro e w1 ⟨v1, rfl, n1, k1⟩)
            go_roundg (gk - 1)
            case rel => exact ⟨k + 1, _, _, _, by go_num, by omega, by omega, by omega, n1, HW.out.add _, HWB.out.add _ (by simp) (by omega), below_step HB.out k1, HR.out⟩
            case measure => omega
    · obtain rfl : k = s.size := by omega
      have HR := Lib.hid (hr.trans (quoP_end s s.size p ps tx (Nat.le_refl _)))
      clear hr hlt
      go_wp2
      go_ret4
      exact PcP.err HR.out (by rfl) HB.out
end Go.Proofs.Ytiddchpkmcncdaa
/- Walks of layer 41: the reference's piece. -/
namespace Go.Proofs.Ytiddchpkmcncdaa
open Go.RowKit
set_option linter.unusedSimpArgs false
set_option linter.unusedVariables false
theorem ap_at (s : ByteArray) (a k : Nat) (h1 : a ≤ k) (h2 : k ≤ s.size) (h3 : ∀ j, a ≤ j → j < k → bt s j ≠ 39) (h4 : k = s.size ∨ bt s k = 39) : (apS s a).length = k - a := by
  refine tw_at nap8 (dr s a) (k - a) (by rw [dr_len]; omega) (fun i hi => ?_) ?_
  · rw [dr_getD]
    have := h3 (a + i) (by omega) (by omega)
    show (!decide (bt s (a + i) = 39)) = true
    rw [decide_eq_false this]; rfl
  · rcases h4 with h4 | h4
    · exact .inl (by rw [dr_len]; omega)
    · refine .inr ?_
      rw [dr_getD, show a + (k - a) = k by omega]
      show (!decide (bt s k = 39)) = false
      rw [decide_eq_true h4]; rfl
/-- What piece leaves: a step of the word, or its error. -/
def StP (w : World) (s : ByteArray) (p : Nat) (r : R (Wd × Bs × Nat)) (e : Ending) (w' : World) : Prop :=
  (∃ v' W' q psq txq, e = .returned (.tuple #[v', .int .i64 ((q : Nat) : Int), .int .i64 0, .int .i64 0]) ∧ NWp 51 w' v' W' ∧ WR W' psq txq ∧ WB W' q ∧ p < q ∧ q ≤ s.size ∧ r = wordP s q psq txq ∧ Below w.heap.size w w') ∨
    (∃ v' i q er, e = .returned (.tuple #[v', i, .int .i64 er, .int .i64 ((q : Nat) : Int)]) ∧ er ≠ 0 ∧ r = .err q er ∧ Below w.heap.size w w')
theorem StP.ok {w w' : World} {s : ByteArray} {p : Nat} {r : R (Wd × Bs × Nat)} {ps' : Wd} {tx' : Bs} {q : Nat} {e : Ending} {v' : Value} {W' : Wd} (hr : r = wordP s q ps' tx') (he : e = .returned (.tuple #[v', .int .i64 (q : Int), .int .i64 0, .int .i64 0])) (h1 : NWp 51 w' v' W') (h2 : WR W' ps' tx') (h3 : WB W' q) (h4 : p < q) (h5 : q ≤ s.size) (h6 : Below w.heap.size w w') : StP w s p r e w' := .inl ⟨_, _, _, _, _, he, h1, h2, h3, h4, h5, hr, h6⟩
theorem StP.err {w w' : World} {s : ByteArray} {p : Nat} {r : R (Wd × Bs × Nat)} {q : Nat} {er : Int} {e : Ending} {v' i : Value} (hr : r = .err q er) (he : e = .returned (.tuple #[v', i, .int .i64 er, .int .i64 (q : Int)])) (h0 : er ≠ 0) (h4 : Below w.heap.size w w') : StP w s p r e w' := .inr ⟨_, _, _, _, he, h0, hr, h4⟩
def ApRel (s : ByteArray) (a : Nat) (w : World) (gk : Nat) (i : Value) (wr : World) : Prop :=
  ∃ k : Nat, i = .int .i64 ((k : Nat) : Int) ∧ a ≤ k ∧ k ≤ s.size ∧ gk + k = s.size + 1 ∧ w = wr ∧ ∀ j, a ≤ j → j < k → bt s j ≠ 39
section
variable (w : World) (s : ByteArray) (p : Nat) (v : Value) (W ps : Wd) (tx : Bs) (h : NWp 51 w v W) (hr : WR W ps tx) (hb : WB W p) (hp : p < s.size) (hs : s.size ≤ 90000) (hst : (blkI (bt s p) || opI (bt s p)) = false)
include h hr hb hp hs hst
set_option maxRecDepth 100000 in
set_option maxHeartbeats 8000000 in
theorem piece_any : Calls Try.prog 102 #[v, .string s, .int .i64 (p : Int)] w (StP w s p (wordP s p ps tx)) := by
  have hR0 := wordP_cons s p ps tx hp
  rw [op_dr s p hp, hst, if_neg (by simp)] at hR0
  have HN := Lib.hid h
  have HW := Lib.hid hr
  have HWB := Lib.hid hb
  have hwl : W.length ≤ p := hb.1
  obtain ⟨i0, hi, hz0, hz1, hz2⟩ := info_parts info51
  obtain ⟨A, c, rfl, hc⟩ := Rd.form h
  have hbp := bt_of s p hp
  have i1 : (0 : Int) ≤ (p : Int) := by omega
  have i2 : (p : Int) < (s.size : Int) := by omega
  have i3 : (p : Int) + 1 ≤ (s.size : Int) := by omega
  have L1 : IntKind.i64.wrap ((p : Int) + 1) = (p : Int) + 1 := IntWalk.i64_in _ (by omega)
  have L2 : IntKind.i64.wrap ((p : Int) + 2) = (p : Int) + 2 := IntWalk.i64_in _ (by omega)
  have e4 : ((p : Int) + 1).toNat = p + 1 := by omega
  have e5 : ((p : Int) + 2).toNat = p + 2 := by omega
  have e8 : (0 : Int) ≤ (p : Int) + 1 := by omega
  have e6 : (p : Int) ≤ (p : Int) + 1 := by omega
  have e7 : (p : Int) + 1 ≤ (p : Int) + 2 := by omega
  clear h hr hb hst
  generalize wordP s p ps tx = r at *
  by_cases h39 : bt s p = 39
  · have hR := hR0.trans (if_pos h39)
    rw [h39] at hbp
    clear hR0 h39
    go_enter Try.func102, Try.ntmps102
    go_wp2
    go_loopg [10] (s.size - p) (fun gk i wr => ApRel s (p + 1) w gk i wr)
    case atStart => exact ⟨p + 1, by go_num, Nat.le_refl _, hp, by omega, rfl, fun j h1 h2 => by omega⟩
    case round =>
      obtain ⟨k, rfl, hk0, hk, hgk, rfl, hj⟩ := hrel
      have HJ := Lib.hid hj
      have j1 : (0 : Int) ≤ (k : Int) := by omega
      have L3 : IntKind.i64.wrap ((k : Int) + 1) = (k : Int) + 1 := IntWalk.i64_in _ (by omega)
      clear hj
      by_cases hlt : k < s.size
      · have hbk := bt_of s k hlt
        have j2 : (k : Int) < (s.size : Int) := by omega
        by_cases hq : bt s k = 39
        · have hal := ap_at s (p + 1) k hk0 hk HJ.out (.inr hq)
          have HR := Lib.hid (hR.trans (if_pos (by show (apS s (p + 1)).length < _; omega)))
          have HX := Lib.hid (ap_ext s (p + 1) k (by omega))
          have j3 : (p : Int) + 1 ≤ (k : Int) := by omega
          have j4 : (k : Int) ≤ (s.size : Int) := by omega
          rw [hq] at hbk
          have hall : (apS s (p + 1)).length ≤ k - p := by omega
          have HAL := Lib.hid (show p + ((dr s (p + 1)).takeWhile nap8).length + 2 = k + 1 by show p + (apS s (p + 1)).length + 2 = k + 1; omega)
          rw [HAL.out] at HR
          clear hR hq hal HJ
          go_wp2_with (go_at_call 115; refine (add_ref _ _ W _ (apS s (p + 1)) HN.out p HWB.out (by omega) HX.out (by omega)).mono ?_; rintro e w1 ⟨v1, rfl, n1, k1⟩)
          go_ret4
          exact StP.ok HR.out (by rfl) n1 (HW.out.add _) (by have := HWB.out.add (k := k + 1 - p) (apS s (p + 1)) (by omega) (by omega); rwa [show p + (k + 1 - p) = k + 1 by omega] at this) (by omega) (by omega) k1
        · have HQ := Lib.hid hq
          go_wp2
          go_roundg (gk - 1)
          case rel => exact ⟨k + 1, by go_num, by omega, by omega, by omega, rfl, fun j h1 h2 => (by by_cases e : j = k; (subst e; exact HQ.out); exact HJ.out j h1 (by omega))⟩
          case measure => omega
      · obtain rfl : k = s.size := by omega
        have hal := ap_at s (p + 1) s.size hk0 hk HJ.out (.inl rfl)
        have HR := Lib.hid (hR.trans (if_neg (by show ¬ (apS s (p + 1)).length < _; omega)))
        clear hR hlt hal HJ
        go_wp2
        go_ret4
        exact StP.err HR.out (by rfl) (by decide) (Below.refl _ _)
  · have hR1 := hR0.trans (if_neg h39)
    by_cases h34 : bt s p = 34
    · have hR := hR1.trans (if_pos h34)
      rw [h34] at hbp
      clear hR0 hR1 h34 h39
      have HR := Lib.hid hR
      clear hR
      have HD := Lib.hid (double_any w s p _ W ps tx HN.out HW.out HWB.out hp hs)
      cases hqp : quoP s (p + 1) p ps tx with
      | ok a =>
        obtain ⟨ps', tx', q⟩ := a
        have hpos := quoP_pos s (p + 1) p ps tx ps' tx' q hp hqp
        rw [hqp] at HR HD
        have HR2 := Lib.hid (show r = wordP s q ps' tx' from HR.out.trans (wordP_quo s (p + 1) ps' tx' q (by omega) hpos.2))
        clear hqp HR
        go_enter Try.func102, Try.ntmps102
        go_wp2_with (go_at_call 116; refine HD.out.mono ?_; rintro e w1 ⟨v1, W1, rfl, n1, r1, b1, k1⟩)
        go_ret4
        exact StP.ok HR2.out (by rfl) n1 r1 b1 (by omega) hpos.2 k1
      | err q er =>
        have her := quoS_err _ _ _ _ _ _ _ _ hqp
        rw [hqp] at HR HD
        clear hqp
        go_enter Try.func102, Try.ntmps102
        go_wp2_with (go_at_call 116; refine HD.out.mono ?_; rintro e w1 ⟨v1, i, rfl, k1⟩)
        go_ret4
        exact StP.err HR.out (by rfl) her k1
    · have hR2 := hR1.trans (if_neg h34)
      by_cases h92 : bt s p = 92
      · have hR := hR2.trans (if_pos h92)
        rw [h92] at hbp
        clear hR0 hR1 hR2 h34 h39 h92
        by_cases hq : p + 1 = s.size
        · have HR := Lib.hid (hR.trans (if_pos hq))
          have i4 : (s.size : Int) ≤ (p : Int) + 1 := by omega
          clear hR
          go_enter Try.func102, Try.ntmps102
          go_wp2
          go_ret4
          exact StP.err HR.out (by rfl) (by decide) (Below.refl _ _)
        · have HR := Lib.hid (hR.trans (if_neg hq))
          have i4 : ¬ ((s.size : Int) ≤ (p : Int) + 1) := by omega
          have i5 : (p : Int) + 2 ≤ (s.size : Int) := by omega
          have HX := Lib.hid (ext_one s (p + 1) (by omega))
          clear hR
          go_enter Try.func102, Try.ntmps102
          go_wp2_with (go_at_call 115; refine (add_ref _ _ W _ [b8 s (p + 1)] HN.out p HWB.out (by omega) HX.out (by simp)).mono ?_; rintro e w1 ⟨v1, rfl, n1, k1⟩)
          go_ret4
          exact StP.ok HR.out (by rfl) n1 (HW.out.add _) (HWB.out.add (k := 2) _ (by simp) (by omega)) (by omega) (by omega) k1
      · have hR3 := hR2.trans (if_neg h92)
        by_cases h36 : bt s p = 36
        · have hR := hR3.trans (if_pos h36)
          rw [h36] at hbp
          clear hR0 hR1 hR2 hR3 h34 h39 h92 h36
          cases hv : isVarS (nmS s (p + 1)) with
          | false =>
            have HR := Lib.hid (hR.trans (if_neg (by rw [hv]; simp)))
            have HV := Lib.hid (show varR s p = .tuple #[.string ⟨#[]⟩, .int .i64 (p : Int)] by unfold varR; rw [if_neg (by rw [hv]; simp)])
            clear hR hv
            go_enter Try.func102, Try.ntmps102
            go_wp2_with (go_at_call 117; refine (variable_any s p _ hp (by omega)).mono ?_; rintro e w1 ⟨rfl, rfl⟩; rw [HV.out])
            go_ret4
            exact StP.err HR.out (by rfl) (by decide) (Below.refl _ _)
          | true =>
            have HR := Lib.hid (hR.trans (if_pos hv))
            obtain ⟨T, hT⟩ : ∃ T, bs (nmS s (p + 1)) = T := ⟨_, rfl⟩
            have hvn := isVar_ne hv
            have t1 : T.toList.isEmpty = false := by rw [← hT, bs_tl]; exact hvn.1
            have hnl := nm_le s (p + 1)
            have HV := Lib.hid (show varR s p = .tuple #[.string T, .int .i64 ((p + 1 + (nmS s (p + 1)).length : Nat) : Int)] by unfold varR; rw [if_pos hv, hT])
            have HT := Lib.hid hT
            obtain ⟨q, hq⟩ : ∃ q, p + 1 + (nmS s (p + 1)).length = q := ⟨_, rfl⟩
            have HNQ := Lib.hid hq
            rw [hq] at HV HR
            have hq1 : p + 1 ≤ q := by omega
            have hq2 : q ≤ s.size := by omega
            have HE := Lib.hid (own_nil0 w w.heap.size 51 3 (Nat.le_refl _))
            have HB1 := Lib.hid ((Below.refl w.heap.size w).alloc (Nat.le_refl _) (.cells #[] 51))
            have HV1 := Lib.hid (Rd.next HN.out HB1.out)
            have HPC := Lib.hid (pcC_len W)
            have HPO := Lib.hid (pcC_one W)
            clear hR hv hT hvn hq hnl
            go_enter Try.func102, Try.ntmps102
            go_wp2_with (first | (go_at_call 117; refine (variable_any s p _ hp (by omega)).mono ?_; rintro e w1 ⟨rfl, rfl⟩; rw [HV.out]) | (at_builtin; first | (refine wpList_append_rd _ rfl _ _ _ rfl w.heap.size 51 i0 _ 3 24 Try.underlying39 hi hz0 hz1 hz2 rfl (by omega) _ 0 [] (by rfl) HE.out _ W.length (pcC W) (by rfl) HV1.out HPC.out HPO.out (by unfold maxLen; omega) (by omega) (by simp) ?_; intro ao cap w2 hown2 hgrow2; simp only [Nat.zero_add, List.nil_append] at hown2; have HG := Lib.hid hgrow2; have HO2 := Lib.hid hown2) | (refine wpList_append_lies _ rfl _ _ _ rfl w.heap.size 51 i0 _ 3 24 Try.underlying39 hi hz0 hz1 hz2 rfl (by omega) _ W.length (pcC W) (by rfl) (HO2.out.alloc _) ⟨w2.heap.size, 0, none⟩ 1 1 [.string T, .bool true, .bool false] rfl rfl (World.news_of_block (cs := #[.string T, .bool true, .bool false]) (t := 51) (fr := (0, 0)) (heap_alloc_new w2 _)) (by simp [Value.oneCell']) (by omega) (by unfold maxLen; omega) (by omega) (by have := HG.out.size; simp at this ⊢; omega) (w2.heap.size + 1) (by simp) ?_; intro gg cap w3 hown3 hgrow3 hat hlt3)))
            go_ret4
            exact StP.ok HR.out (by rfl) (nwp_var (ps := W) (x := ⟨nmS s (p + 1), true, false⟩) rfl hown3 (by unfold pcV; rw [HT.out])) (HW.out.var ⟨nmS s (p + 1), true, false⟩ rfl) (by have := HWB.out.snoc (k := q - p) ⟨nmS s (p + 1), true, false⟩ (by have := HNQ.out; show (nmS s (p + 1)).length ≤ _; omega) (by omega); rwa [show p + (q - p) = q by omega] at this) (by omega) hq2 (below_own ((below_own HB1.out HE.out HG.out (Nat.le_refl _) (by simp)).alloc (by have := HG.out.size; simp at this; omega) _) (HO2.out.alloc _) hgrow3 (Nat.le_refl _) (by have := HG.out.size; simp at this ⊢; omega))
        · have HR := Lib.hid (hR3.trans (if_neg h36))
          have HX := Lib.hid (ext_one s p hp)
          clear hR0 hR1 hR2 hR3
          go_enter Try.func102, Try.ntmps102
          go_wp2_with (go_at_call 115; refine (add_ref _ _ W _ [b8 s p] HN.out p HWB.out (by omega) HX.out (by simp)).mono ?_; rintro e w1 ⟨v1, rfl, n1, k1⟩)
          go_ret4
          exact StP.ok HR.out (by rfl) n1 (HW.out.add _) (HWB.out.add (k := 1) _ (by simp) (by omega)) (by omega) (by omega) k1
end
end Go.Proofs.Ytiddchpkmcncdaa
/- Walks of layer 41: the reference's word. -/
namespace Go.Proofs.Ytiddchpkmcncdaa
open Go.RowKit
set_option linter.unusedSimpArgs false
set_option linter.unusedVariables false
/-- What word leaves. -/
def RwP (w : World) (r : R (Wd × Bs × Nat)) (e : Ending) (w' : World) : Prop :=
  match r with
  | .ok (ps, tx, q) => ∃ v', e = .returned (.tuple #[v', .int .i64 (q : Int), .int .i64 0, .int .i64 0]) ∧ NWp 51 w' v' (finS ps tx) ∧ Below w.heap.size w w'
  | .err q er => ∃ v' i, e = .returned (.tuple #[v', i, .int .i64 er, .int .i64 (q : Int)]) ∧ Below w.heap.size w w'
theorem RwP.ok {w w' : World} {r : R (Wd × Bs × Nat)} {ps : Wd} {tx : Bs} {q : Nat} {e : Ending} {v' : Value} (hr : r = .ok (ps, tx, q)) (he : e = .returned (.tuple #[v', .int .i64 (q : Int), .int .i64 0, .int .i64 0])) (h1 : NWp 51 w' v' (finS ps tx)) (h4 : Below w.heap.size w w') : RwP w r e w' := by subst hr; exact ⟨_, he, h1, h4⟩
theorem RwP.err {w w' : World} {r : R (Wd × Bs × Nat)} {q : Nat} {er : Int} {e : Ending} {v' i : Value} (hr : r = .err q er) (he : e = .returned (.tuple #[v', i, .int .i64 er, .int .i64 (q : Int)])) (h4 : Below w.heap.size w w') : RwP w r e w' := by subst hr; exact ⟨_, _, he, h4⟩
def WdRel (w : World) (s : ByteArray) (r : R (Wd × Bs × Nat)) (gk : Nat) (v i : Value) (wr : World) : Prop :=
  ∃ (k : Nat) (W ps : Wd) (tx : Bs), i = .int .i64 ((k : Nat) : Int) ∧ k ≤ s.size ∧ gk + k = s.size + 1 ∧ NWp 51 wr v W ∧ WR W ps tx ∧ WB W k ∧ Below w.heap.size w wr ∧ r = wordP s k ps tx
theorem nwp_nil (w : World) : NWp 51 w (.slice none 0 0) [] := ⟨none, 0, rfl, Nat.le_refl _, Nat.zero_le _, .inl ⟨rfl, rfl⟩⟩
theorem WdRel.intro0 {w : World} {s : ByteArray} {p : Nat} (hp : p ≤ s.size) : WdRel w s (wordP s p [] []) (s.size + 1 - p) (.slice none 0 0) (.int .i64 (p : Int)) w :=
  ⟨p, [], [], [], rfl, hp, by omega, nwp_nil w, WR.nil, WB.nil p, Below.refl _ _, rfl⟩
set_option maxRecDepth 100000 in
set_option maxHeartbeats 8000000 in
theorem word_any (w : World) (s : ByteArray) (p : Nat) (hp : p ≤ s.size) (hs : s.size ≤ 90000) :
    Calls Try.prog 79 #[.string s, .int .i64 (p : Int)] w (RwP w (wordP s p [] [])) := by
  have h0 := WdRel.intro0 (w := w) hp
  generalize wordP s p [] [] = r at *
  go_enter Try.func79, Try.ntmps79
  go_wp2
  go_loopg [8, 1] (s.size + 1 - p) (fun gk v i wr => WdRel w s r gk v i wr)
  case atStart => exact h0
  case round =>
    clear h0
    obtain ⟨k, W, ps, tx, rfl, hk, hgk, hn, hwr, hwb, hb, hr⟩ := hrel
    have HN := Lib.hid hn
    have HW := Lib.hid hwr
    have HWB := Lib.hid hwb
    have HB := Lib.hid hb
    have HR := Lib.hid hr
    have hwl : W.length ≤ k := hwb.1
    obtain ⟨A, c, rfl, hc⟩ := Rd.form hn
    clear hn hwr hwb hb hr
    have i1 : (0 : Int) ≤ (k : Int) := by omega
    by_cases hlt : k < s.size
    · have hbk := bt_of s k hlt
      have i2 : (k : Int) < (s.size : Int) := by omega
      cases hst : (blkI (bt s k) || opI (bt s k)) with
      | true =>
        have HST := Lib.hid hst
        have HR2 := Lib.hid (HR.out.trans ((wordP_cons s k ps tx hlt).trans (if_pos (by rw [op_dr s k hlt]; exact hst))))
        clear hst
        go_wp2_with (first | (go_at_call 64; refine (in_stop _ _ true HST.out).mono ?_; rintro e w1 ⟨rfl, rfl⟩) | (go_at_call 103; refine (clean_any _ _ W HN.out (by omega)).mono ?_; rintro e w1 ⟨v1, rfl, n1, k1⟩))
        go_ret4
        exact RwP.ok HR2.out (by rfl) (by rw [← HW.out.fin]; exact n1) (below_step HB.out k1)
      | false =>
        have HST := Lib.hid hst
        clear hst
        go_wp2_with (first | (go_at_call 64; refine (in_stop _ _ false HST.out).mono ?_; rintro e w1 ⟨rfl, rfl⟩))
        refine (piece_any _ s k _ W ps tx HN.out HW.out HWB.out hlt hs HST.out).mono ?_
        rintro e w1 (⟨v1, W1, q, psq, txq, rfl, n1, r1, b1, hq1, hq2, hr1, k1⟩ | ⟨v1, i, q, er, rfl, her, hr1, k1⟩)
        · have HR1 := Lib.hid hr1
          clear hr1
          go_wp2
          go_roundg (s.size + 1 - q)
          case rel => exact ⟨q, _, _, _, rfl, hq2, by omega, n1, r1, b1, below_step HB.out k1, HR.out.trans HR1.out⟩
          case measure => omega
        · have HR1 := Lib.hid hr1
          have e1 : (er == 0) = false := beq_false_of_ne her
          have e2 : (er != 0) = true := by rw [bne, e1]; rfl
          clear hr1
          go_wp2
          go_ret4
          exact RwP.err (HR.out.trans HR1.out) (by rfl) (below_step HB.out k1)
    · obtain rfl : k = s.size := by omega
      have HR2 := Lib.hid (HR.out.trans (wordP_end s s.size ps tx (Nat.le_refl _)))
      clear hlt
      go_wp2_with (go_at_call 103; refine (clean_any _ _ W HN.out (by omega)).mono ?_; rintro e w1 ⟨v1, rfl, n1, k1⟩)
      go_ret4
      exact RwP.ok HR2.out (by rfl) (by rw [← HW.out.fin]; exact n1) (below_step HB.out k1)
end Go.Proofs.Ytiddchpkmcncdaa
/- Words for memory: the reference's tokens. -/
namespace Go.Proofs.Ytiddchpkmcncdaa
open Go.RowKit
set_option linter.unusedSimpArgs false
set_option linter.unusedVariables false
theorem info134 : (Try.prog.info? 134).map (fun i => (i.zero, i.size, i.bytes)) = some (some (.agg #[.int .i64 0, .string ⟨#[]⟩, .slice none 0 0, .string ⟨#[]⟩, .slice none 0 0]), 5, 88) := by kernel_rfl
theorem und92 : Try.prog.underlying 92 = some (.slice 134) := by kernel_rfl
/-- The word that stands behind the = of a token, or none. -/
def valT (t : Tk) : Wd := if t.name.isEmpty then [] else valS t
def tkR (t : Tk) (v : Value × Value) : List Value := [.int .i64 (t.pos : Int), .string (bs t.op), v.1, .string (bs t.name), v.2]
theorem tkR_len (t : Tk) (v : Value × Value) : (tkR t v).length = 5 := rfl
def NTr (w : World) (v : Value × Value) (t : Tk) : Prop := NWp 51 w v.1 t.word ∧ NWp 51 w v.2 (valT t)
theorem NTr.next {w w' : World} {v : Value × Value} {t : Tk} (h : NTr w v t) (hb : Below w.heap.size w w') : NTr w' v t := ⟨h.1.next hb, h.2.next hb⟩
theorem NTr.keep {w w' : World} {v : Value × Value} {t : Tk} {L : List TypeId} (h : NTr w v t) (k : Kept L w w') (h1 : L.contains 51 = false) : NTr w' v t := ⟨h.1.keep k h1, h.2.keep k h1⟩
/-- The loop of Tokens. -/
def TkRel (w : World) (s : ByteArray) (r : R (List Tk)) (gk : Nat) (v i : Value) (wr : World) : Prop :=
  ∃ (k : Nat) (l : List Tk), i = .int .i64 ((k : Nat) : Int) ∧ k ≤ s.size ∧ gk + k = s.size + 1 ∧ RowOwn 134 5 tkR NTr wr w.heap.size v l ∧ l.length ≤ k ∧ Below w.heap.size w wr ∧ r = (toksP s k).pre l
theorem TkRel.intro0 (w : World) (s : ByteArray) : TkRel w s (toksP s 0) (s.size + 1) (.slice none 0 0) (.int .i64 0) w :=
  ⟨0, [], rfl, Nat.zero_le _, by omega, RowOwn.nil, Nat.le_refl _, Below.refl _ _, (R.pre_nil _).symm⟩
/-- What Tokens leaves. -/
def TokP (w : World) (r : R (List Tk)) (e : Ending) (w' : World) : Prop :=
  match r with
  | .ok l => ∃ v', e = .returned (.tuple #[v', .int .i64 0, .int .i64 0]) ∧ RowRd 134 tkR NTr w' v' l ∧ Below w.heap.size w w'
  | .err q er => ∃ v', e = .returned (.tuple #[v', .int .i64 er, .int .i64 (q : Int)]) ∧ Below w.heap.size w w'
theorem TokP.ok {w w' : World} {r : R (List Tk)} {l : List Tk} {e : Ending} {v' : Value} (hr : r = .ok l) (he : e = .returned (.tuple #[v', .int .i64 0, .int .i64 0])) (h1 : RowRd 134 tkR NTr w' v' l) (h4 : Below w.heap.size w w') : TokP w r e w' := by subst hr; exact ⟨_, he, h1, h4⟩
theorem TokP.err {w w' : World} {r : R (List Tk)} {q : Nat} {er : Int} {e : Ending} {v' : Value} (hr : r = .err q er) (he : e = .returned (.tuple #[v', .int .i64 er, .int .i64 (q : Int)])) (h4 : Below w.heap.size w w') : TokP w r e w' := by subst hr; exact ⟨_, he, h4⟩
theorem val_at (s : ByteArray) (p : Nat) (ps : Wd) (tx : Bs) (q : Nat) (h : wordP s p [] [] = .ok (ps, tx, q)) (n : Nat) (hn : (asgS (dr s p)).length = n) (h0 : asgS (dr s p) ≠ []) : p + (n + 1) ≤ s.size ∧ ∃ ps1 tx1, wordP s (p + (n + 1)) [] [] = .ok (ps1, tx1, q) ∧ valS ⟨p, [], finS ps tx, asgS (dr s p)⟩ = finS ps1 tx1 := by
  subst hn
  obtain ⟨l', hl, _⟩ := asgS_form (dr s p) h0
  have h1 := congrArg List.length hl
  rw [dr_len, List.length_append, List.length_cons] at h1
  refine ⟨by omega, ?_⟩
  obtain ⟨ps1, tx1, h2, h3⟩ := tok_val (dr s p) p ps tx q h h0
  rw [dr_drop] at h2
  exact ⟨ps1, tx1, h2, h3⟩
end Go.Proofs.Ytiddchpkmcncdaa
/- Walks of layer 41: the reference's Tokens. -/
namespace Go.Proofs.Ytiddchpkmcncdaa
open Go.RowKit
set_option linter.unusedSimpArgs false
set_option linter.unusedVariables false
theorem own_fresh {w : World} {base : Nat} {e : TypeId} {size n g : Nat} {v : Value} {xs : List Value} (h : w.ownsRow base e size v n xs) (hg : w.heap.size ≤ g) : v.ownBlock ≠ some g := by
  rcases h.2 with ⟨rfl, _⟩ | ⟨g', cap, cur, rfl, _, h2, _⟩
  · simp [Value.ownBlock]
  · intro e
    simp [Value.ownBlock] at e
    subst e
    have := (Array.getElem?_eq_some_iff.1 h2).1
    omega
theorem tok_push {wr wx w3 : World} {base : Nat} {v v' : Value} {l : List Tk} {vs : List (Value × Value)} {t : Tk} {u : Value × Value} (h2 : RowW NTr wr l vs) (hb : Below wr.heap.size wr wx) (ho : wx.ownsRow base 134 5 v l.length (rowC tkR l vs)) (hg : wx.grownBy w3 v.ownBlock)
    (hown : w3.ownsRow base 134 5 v' (l.length + 1) (rowC tkR l vs ++ tkR t u)) (hu : NTr wx u t) : RowOwn 134 5 tkR NTr w3 base v' (l ++ [t]) := by
  have K0 : Kept [] wr wx := Kept.of_below _ hb
  have K1 : Kept [134] wx w3 := Kept.of_own [134] ho hg rfl
  exact RowOwn.push h2 hown (fun v x h => (h.keep K0 rfl).keep K1 rfl) (hu.keep K1 rfl)
theorem new_at {w : World} {g : Nat} (o : Obj) (h : w.heap.size = g) : (w.alloc o).heap[g]? = some o := by subst h; exact heap_alloc_new w o
theorem nt_op (w : World) (k : Nat) (o : Bs) : NTr w (.slice none 0 0, .slice none 0 0) ⟨k, o, [], []⟩ := ⟨nwp_nil w, nwp_nil w⟩
def boxC (t : Tk) (a b : Value) : Array Value := #[.int .i64 (t.pos : Int), .string (bs t.op), a, .string (bs t.name), b]
theorem wr1 (wr : World) (o : Obj) : (wr.alloc o).heap.size = wr.heap.size + 1 := by simp
set_option maxRecDepth 100000 in
set_option maxHeartbeats 16000000 in
theorem tokens_any (w : World) (s : ByteArray) (hs : s.size ≤ 90000) :
    Calls Try.prog 43 #[.string s] w (TokP w (toksP s 0)) := by
  obtain ⟨i0, hi, hz0, hz1, hz2⟩ := info_parts info134
  have h0 := TkRel.intro0 w s
  generalize toksP s 0 = r at *
  go_enter Try.func43, Try.ntmps43
  go_wp2
  go_loopg [5, 6] (s.size + 1) (fun gk v i wr => TkRel w s r gk v i wr)
  case atStart => exact h0
  case round =>
    clear h0
    obtain ⟨k, l, rfl, hk, hgk, ho, hlk, hb, hr⟩ := hrel
    obtain ⟨vs, hvs, hown⟩ := ho
    have HVS := Lib.hid hvs
    have HO := Lib.hid hown
    have HB := Lib.hid hb
    have hsz : w.heap.size ≤ wr.heap.size := hb.size
    obtain ⟨av, cv, rfl, _⟩ := own_len hown
    have i1 : (0 : Int) ≤ (k : Int) := by omega
    have L1 : IntKind.i64.wrap ((k : Int) + 1) = (k : Int) + 1 := IntWalk.i64_in _ (by omega)
    clear hvs hown hb
    by_cases hlt : k < s.size
    · have hbk := bt_of s k hlt
      have i2 : (k : Int) < (s.size : Int) := by omega
      by_cases hbl : blkI (bt s k) = true
      · have HR := Lib.hid (hr.trans (by rw [toksP_blank s k hlt hbl]))
        have h32 : bt s k = 32 ∨ bt s k = 9 := by unfold blkI at hbl; simpa using hbl
        clear hr hbl
        rcases h32 with h32 | h32
        all_goals
          rw [h32] at hbk
          clear h32
          go_wp2
          go_roundg (gk - 1)
          case rel => exact ⟨k + 1, l, by go_num, by omega, by omega, ⟨vs, HVS.out, HO.out⟩, by omega, HB.out, HR.out⟩
          case measure => omega
      · have hbf : blkI (bt s k) = false := by simpa using hbl
        have h32 : (bt s k == 32) = false := beq_false_of_ne (fun h => hbl (by unfold blkI; rw [h]; rfl))
        have h9 : (bt s k == 9) = false := beq_false_of_ne (fun h => hbl (by unfold blkI; rw [h]; rfl))
        clear hbl
        cases hop : opI (bt s k) with
        | true =>
          have HOP := Lib.hid hop
          obtain ⟨o, hoo⟩ : ∃ o, opAt (dr s k) = o := ⟨_, rfl⟩
          have hone : o ≠ [] := by
            have := op_dr s k hlt
            rw [hop, hoo] at this
            intro e; rw [e] at this; simp at this
          obtain ⟨hol, hoe⟩ := toksP_op s k hlt hbf o hoo hone
          have HOO := Lib.hid hoo
          have hos : (bs o).size = o.length := bs_size o
          have hol2 : o.length ≤ 2 := by rw [← hoo]; exact opAt_two _
          have hopos : 0 < o.length := List.length_pos_iff.2 hone
          have L2 : IntKind.i64.wrap ((k : Int) + (o.length : Int)) = (k : Int) + (o.length : Int) := IntWalk.i64_in _ (by omega)
          have HR := Lib.hid (hr.trans (by rw [hoe, R.pre_cons]))
          have HBX := Lib.hid (((Below.refl wr.heap.size wr).alloc (Nat.le_refl _) (.cells #[.int .i64 k, .string (bs o), .slice none 0 0, .string ⟨#[]⟩, .slice none 0 0] 134)).alloc (by simp) (.cells #[.int .i64 k, .string (bs o), .slice none 0 0, .string ⟨#[]⟩, .slice none 0 0] 134))
          have HOX := Lib.hid ((HO.out.alloc (.cells #[.int .i64 k, .string (bs o), .slice none 0 0, .string ⟨#[]⟩, .slice none 0 0] 134)).alloc (.cells #[.int .i64 k, .string (bs o), .slice none 0 0, .string ⟨#[]⟩, .slice none 0 0] 134))
          have HBK := Lib.hid ((Blk.new wr 134 #[.int .i64 k, .string (bs o), .slice none 0 0, .string ⟨#[]⟩, .slice none 0 0]).alloc (.cells #[.int .i64 k, .string (bs o), .slice none 0 0, .string ⟨#[]⟩, .slice none 0 0] 134))
          have HNE := Lib.hid (own_fresh HO.out (Nat.le_refl _))
          clear hr hop hoo hoe hone hbf
          go_wp2_with (first | (go_at_call 64; refine (in_ops _ _ true HOP.out).mono ?_; rintro e w1 ⟨rfl, rfl⟩) | (go_at_call 78; refine (operator_ref s k _ hlt (by omega) HOP.out).mono ?_; rintro e w1 ⟨rfl, rfl⟩; rw [HOO.out]) | (at_builtin; refine wpList_append_lies _ rfl _ _ _ rfl w.heap.size 134 i0 _ 5 88 und92 hi hz0 hz1 hz2 rfl (by omega) _ l.length (rowC tkR l vs) (by rfl) HOX.out ⟨wr.heap.size + 1, 0, none⟩ 1 1 [.int .i64 k, .string (bs o), .slice none 0 0, .string ⟨#[]⟩, .slice none 0 0] rfl rfl (World.news_of_block (cs := #[.int .i64 k, .string (bs o), .slice none 0 0, .string ⟨#[]⟩, .slice none 0 0]) (t := 134) (fr := (0, 0)) (new_at _ (wr1 wr _))) (by simp [Value.oneCell']) (by omega) (by unfold maxLen; omega) (by omega) (by simp; omega) (wr.heap.size + 2) (by simp) ?_; intro gg cap w3 hown3 hgrow3 hat hlt3; have d1 : w3.cell? ⟨wr.heap.size, 1, none⟩ = some (.string (bs o)) := (HBK.out.grown hgrow3 (Ne.symm HNE.out)).cell 1))
          have HB3 := Lib.hid (below_own (B := w.heap.size) (HB.out.trans (HBX.out.mono hsz)) HOX.out hgrow3 (Nat.le_refl _) (by simp; omega))
          have HO3 := Lib.hid (tok_push (t := ⟨k, o, [], []⟩) (u := (.slice none 0 0, .slice none 0 0)) HVS.out HBX.out HOX.out hgrow3 hown3 (nt_op _ _ _))
          clear hown3 hgrow3 hat hlt3 d1
          go_roundg (gk - o.length)
          case rel => exact ⟨k + o.length, l ++ [⟨k, o, [], []⟩], by go_num, hol, by omega, HO3.out, by simp; omega, HB3.out, HR.out⟩
          case measure => omega
        | false =>
          have HOP := Lib.hid hop
          have hon : opAt (dr s k) = [] := by
            have := op_dr s k hlt
            rw [hop] at this
            cases hh : opAt (dr s k) with
            | nil => rfl
            | cons a b => rw [hh] at this; simp at this
          have hww := toksP_word s k hlt hbf hon
          have HWA := Lib.hid (word_any wr s k hk hs)
          clear hop hon hbf
          rcases hww with ⟨ps, tx, q, hw, hq1, hq2, he⟩ | ⟨q, er, hw, her, he⟩
          · have HR := Lib.hid (hr.trans (by rw [he, R.pre_cons]))
            rw [hw] at HWA
            obtain ⟨W1, hW1⟩ : ∃ W1, finS ps tx = W1 := ⟨_, rfl⟩
            have HW1 := Lib.hid hW1
            by_cases hn : asgS (dr s k) = []
            · have HA := Lib.hid (show bs (asgS (dr s k)) = ⟨#[]⟩ by rw [hn]; rfl)
              rw [hn, hW1] at HR
              clear hr hw he hn hW1
              go_wp2_with (first | (go_at_call 64; refine (in_ops _ _ false HOP.out).mono ?_; rintro e w1 ⟨rfl, rfl⟩) | (go_at_call 79; refine HWA.out.mono ?_; rintro e w1 ⟨v1, rfl, n1, k1⟩; rw [HW1.out] at n1; obtain ⟨A1, c1, rfl, hc1⟩ := Rd.form n1; have hzz := k1.size) | (go_at_call 80; refine (assigned_ref s k _ hk (by omega)).mono ?_; rintro e w2 ⟨rfl, rfl⟩; rw [HA.out]) | (at_builtin; refine wpList_append_lies _ rfl _ _ _ rfl w.heap.size 134 i0 _ 5 88 und92 hi hz0 hz1 hz2 rfl (by omega) _ l.length (rowC tkR l vs) (by rfl) (((own_next HO.out k1).alloc _).alloc _) ⟨w1.heap.size + 1, 0, none⟩ 1 1 [.int .i64 k, .string ⟨#[]⟩, .slice A1 W1.length c1, .string ⟨#[]⟩, .slice none 0 0] rfl rfl (World.news_of_block (cs := #[.int .i64 k, .string ⟨#[]⟩, .slice A1 W1.length c1, .string ⟨#[]⟩, .slice none 0 0]) (t := 134) (fr := (0, 0)) (new_at _ (wr1 w1 _))) (by simp [Value.oneCell']) (by omega) (by unfold maxLen; omega) (by omega) (by simp; omega) (w1.heap.size + 2) (by simp) ?_; intro gg cap w3 hown3 hgrow3 hat hlt3))
              have HBX := Lib.hid ((k1.alloc k1.size (.cells #[.int .i64 k, .string ⟨#[]⟩, .slice A1 W1.length c1, .string ⟨#[]⟩, .slice none 0 0] 134)).alloc (by simp; omega) (.cells #[.int .i64 k, .string ⟨#[]⟩, .slice A1 W1.length c1, .string ⟨#[]⟩, .slice none 0 0] 134))
              have HOX := Lib.hid (((own_next HO.out k1).alloc (.cells #[.int .i64 k, .string ⟨#[]⟩, .slice A1 W1.length c1, .string ⟨#[]⟩, .slice none 0 0] 134)).alloc (.cells #[.int .i64 k, .string ⟨#[]⟩, .slice A1 W1.length c1, .string ⟨#[]⟩, .slice none 0 0] 134))
              have HN1 := Lib.hid (n1.next (((Below.refl w1.heap.size w1).alloc (Nat.le_refl _) (.cells #[.int .i64 k, .string ⟨#[]⟩, .slice A1 W1.length c1, .string ⟨#[]⟩, .slice none 0 0] 134)).alloc (by simp) (.cells #[.int .i64 k, .string ⟨#[]⟩, .slice A1 W1.length c1, .string ⟨#[]⟩, .slice none 0 0] 134)))
              have HB3 := Lib.hid (below_own (B := w.heap.size) (HB.out.trans (HBX.out.mono hsz)) HOX.out hgrow3 (Nat.le_refl _) (by simp; omega))
              have HO3 := Lib.hid (tok_push (t := ⟨k, [], W1, []⟩) (u := (.slice A1 W1.length c1, .slice none 0 0)) HVS.out HBX.out HOX.out hgrow3 hown3 ⟨HN1.out, nwp_nil _⟩)
              clear hown3 hgrow3 hat hlt3
              go_roundg (s.size + 1 - q)
              case rel => exact ⟨q, l ++ [⟨k, [], W1, []⟩], by rfl, hq2, by omega, HO3.out, by simp; omega, HB3.out, HR.out⟩
              case measure => omega
            · obtain ⟨n, hnn⟩ : ∃ n, (asgS (dr s k)).length = n := ⟨_, rfl⟩
              obtain ⟨hq3, ps1, tx1, hw1, hv1⟩ := val_at s k ps tx q hw n hnn hn
              have HV := Lib.hid hv1
              rw [hW1] at HR HV
              obtain ⟨nm, hnm⟩ : ∃ nm, asgS (dr s k) = nm := ⟨_, rfl⟩
              rw [hnm] at HR HV hn hnn
              obtain ⟨T, hT⟩ : ∃ T, bs nm = T := ⟨_, rfl⟩
              have HA := Lib.hid (show bs (asgS (dr s k)) = T by rw [hnm, hT])
              have HT := Lib.hid hT
              have HNE := Lib.hid (show nm.isEmpty = false by cases nm with | nil => exact absurd rfl hn | cons a b => rfl)
              have t1 : T.toList.isEmpty = false := by rw [← hT, bs_tl]; exact HNE.out
              have t2 : T.size = n := by rw [← hT, bs_size]; exact hnn
              have HWB := Lib.hid (show ∀ wx, Calls Try.prog 79 #[.string s, .int .i64 ((k : Int) + (n : Int) + 1)] wx (RwP wx (.ok (ps1, tx1, q))) from fun wx => by
                have := word_any wx s (k + (n + 1)) hq3 hs
                rw [hw1, show ((k + (n + 1) : Nat) : Int) = (k : Int) + (n : Int) + 1 by omega] at this
                exact this)
              have L3 : IntKind.i64.wrap ((k : Int) + (n : Int)) = (k : Int) + (n : Int) := IntWalk.i64_in _ (by omega)
              have L4 : IntKind.i64.wrap ((k : Int) + (n : Int) + 1) = (k : Int) + (n : Int) + 1 := IntWalk.i64_in _ (by omega)
              obtain ⟨W2, hW2⟩ : ∃ W2, finS ps1 tx1 = W2 := ⟨_, rfl⟩
              have HW2 := Lib.hid hW2
              rw [hW2] at HV
              have HVT := Lib.hid (show valT ⟨k, [], W1, nm⟩ = W2 by unfold valT; rw [if_neg (by rw [HNE.out]; simp)]; exact HV.out)
              clear hr hw he hn hW1 hnn hw1 hv1 hnm hT hW2
              go_wp2_with (first | (go_at_call 64; refine (in_ops _ _ false HOP.out).mono ?_; rintro e w1 ⟨rfl, rfl⟩) | (go_at_call 79; first | ((with_reducible refine HWA.out.mono ?_); rintro e w1 ⟨v1, rfl, n1, k1⟩; rw [HW1.out] at n1; obtain ⟨A1, c1, rfl, hc1⟩ := Rd.form n1; have hzz := k1.size) | ((with_reducible refine (HWB.out _).mono ?_); rintro e w2 ⟨v2, rfl, n2, k2⟩; rw [HW2.out] at n2; obtain ⟨A2, c2, rfl, hc2⟩ := Rd.form n2; have hz2' := k2.size; have B2 := Lib.hid ((Blk.new w1 134 #[.int .i64 k, .string ⟨#[]⟩, .slice A1 W1.length c1, .string T, .slice none 0 0]).next k2 (by simp)); have c0 := B2.out.cell 0; have c1' := B2.out.cell 1; have c2' := B2.out.cell 2; have c3 := B2.out.cell 3; have c4 := B2.out.cell 4; have f4 := B2.out.frozen 4)) | (go_at_call 80; refine (assigned_ref s k _ hk (by omega)).mono ?_; rintro e w2 ⟨rfl, rfl⟩; rw [HA.out]) | (at_builtin; have HBY := Lib.hid (((k1.alloc k1.size (.cells #[.int .i64 k, .string ⟨#[]⟩, .slice A1 W1.length c1, .string T, .slice none 0 0] 134)).trans (k2.mono (by simp; omega))).setCell (p := ⟨w1.heap.size, 4, none⟩) hzz (.slice A2 W2.length c2)); have HOY := Lib.hid ((own_next HO.out HBY.out).alloc (.cells #[.int .i64 k, .string ⟨#[]⟩, .slice A1 W1.length c1, .string T, .slice A2 W2.length c2] 134)); refine wpList_append_lies _ rfl _ _ _ rfl w.heap.size 134 i0 _ 5 88 und92 hi hz0 hz1 hz2 rfl (by omega) _ l.length (rowC tkR l vs) (by rfl) HOY.out ⟨w2.heap.size, 0, none⟩ 1 1 [.int .i64 k, .string ⟨#[]⟩, .slice A1 W1.length c1, .string T, .slice A2 W2.length c2] rfl rfl (World.news_of_block (cs := #[.int .i64 k, .string ⟨#[]⟩, .slice A1 W1.length c1, .string T, .slice A2 W2.length c2]) (t := 134) (fr := (0, 0)) (new_at _ (by simp))) (by simp [Value.oneCell']) (by omega) (by unfold maxLen; omega) (by omega) (by simp at hz2' ⊢; omega) (w2.heap.size + 1) (by simp) ?_; intro gg cap w3 hown3 hgrow3 hat hlt3))
              have KY := Lib.hid (Kept.of_blk [134] B2.out (only_setCell (p := ⟨w1.heap.size, 4, none⟩) (World.grownBy.refl w2 (some w1.heap.size)) (.inl rfl) (.slice A2 W2.length c2)) rfl)
              have KZ := Lib.hid (KY.out.alloc (.cells #[.int .i64 k, .string ⟨#[]⟩, .slice A1 W1.length c1, .string T, .slice A2 W2.length c2] 134))
              have HN2 := Lib.hid (n2.keep KZ.out rfl)
              have HN1 := Lib.hid ((n1.next (((Below.refl w1.heap.size w1).alloc (Nat.le_refl _) (.cells #[.int .i64 k, .string ⟨#[]⟩, .slice A1 W1.length c1, .string T, .slice none 0 0] 134)).trans (k2.mono (by simp)))).keep KZ.out rfl)
              have HBX := Lib.hid (HBY.out.alloc (by simp at hz2' ⊢; omega) (.cells #[.int .i64 k, .string ⟨#[]⟩, .slice A1 W1.length c1, .string T, .slice A2 W2.length c2] 134))
              have HB3 := Lib.hid (below_own (B := w.heap.size) (HB.out.trans (HBX.out.mono hsz)) HOY.out hgrow3 (Nat.le_refl _) (by simp at hz2' ⊢; omega))
              have HO3 := Lib.hid (tok_push (t := ⟨k, [], W1, nm⟩) (u := (.slice A1 W1.length c1, .slice A2 W2.length c2)) HVS.out HBX.out HOY.out hgrow3 (by unfold tkR; rw [HT.out]; exact hown3) ⟨HN1.out, by rw [HVT.out]; exact HN2.out⟩)
              clear hown3 hgrow3 hat hlt3
              go_roundg (s.size + 1 - q)
              case rel => exact ⟨q, l ++ [⟨k, [], W1, nm⟩], by rfl, hq2, by omega, HO3.out, by simp; omega, HB3.out, HR.out⟩
              case measure => omega
          · have HR := Lib.hid (hr.trans (by rw [he]))
            rw [hw] at HWA
            have e1 : (er == 0) = false := beq_false_of_ne her
            have e2 : (er != 0) = true := by rw [bne, e1]; rfl
            clear hr hw he
            go_wp2_with (first | (go_at_call 64; refine (in_ops _ _ false HOP.out).mono ?_; rintro e w1 ⟨rfl, rfl⟩) | (go_at_call 79; refine HWA.out.mono ?_; rintro e w1 ⟨v1, i, rfl, k1⟩))
            go_ret3
            exact TokP.err HR.out (by rfl) (below_step HB.out k1)
    · obtain rfl : k = s.size := by omega
      have HR := Lib.hid (hr.trans (by rw [toksP_end s s.size (Nat.le_refl _)]))
      clear hr hlt
      go_wp2
      go_ret3
      exact TokP.ok (HR.out.trans (by simp [R.pre])) (by rfl) (RowOwn.rd ⟨vs, HVS.out, HO.out⟩) HB.out
end Go.Proofs.Ytiddchpkmcncdaa
/- Walks of layer 41: the reference's next, place, rest. -/
namespace Go.Proofs.Ytiddchpkmcncdaa
open Go.RowKit
set_option linter.unusedSimpArgs false
set_option linter.unusedVariables false
def nextS : List Tk → Bs | [] => [] | t :: _ => t.op
def placeS (en : Nat) : List Tk → Nat | [] => en | t :: _ => t.pos
/-- Tokens that are left. -/
def RdK (w : World) (v : Value) (ts : List Tk) : Prop := RowRd 134 tkR NTr w v ts
theorem RdK.next {w w' : World} {v : Value} {ts : List Tk} (h : RdK w v ts) (hb : Below w.heap.size w w') : RdK w' v ts := RowRd.next h hb (fun _ _ h => NTr.next h hb)
theorem RdK.keep {w w' : World} {v : Value} {ts : List Tk} {L : List TypeId} (h : RdK w v ts) (k : Kept L w w') (h1 : L.contains 51 = false) (h2 : L.contains 134 = false) : RdK w' v ts := RowRd.keep h k h2 (fun _ _ h => NTr.keep h k h1)
/-- The first token's cells. -/
theorem RdK.hd {w : World} {v : Value} {t : Tk} {ts : List Tk} (h : RdK w v (t :: ts)) : ∃ b o c u1 u2, v = .slice (some ⟨b, o, none⟩) (ts.length + 1) c ∧ ts.length + 1 ≤ c ∧ b < w.heap.size ∧ NWp 51 w u1 t.word ∧ NWp 51 w u2 (valT t) ∧
    w.cell? ⟨b, o, none⟩ = some (.int .i64 (t.pos : Int)) ∧ w.cell? ⟨b, o + 1, none⟩ = some (.string (bs t.op)) ∧ w.cell? ⟨b, o + 2, none⟩ = some u1 ∧ w.cell? ⟨b, o + 3, none⟩ = some (.string (bs t.name)) ∧ w.cell? ⟨b, o + 4, none⟩ = some u2 := by
  obtain ⟨b, o, c, u, hv, hc, hb, hu, hx⟩ := RowRd.at_ h tkR_len (i := 0) (x := t) rfl
  simp only [Nat.zero_mul, Nat.zero_add] at hx
  exact ⟨b, o, c, u.1, u.2, hv, hc, hb, hu.1, hu.2, hx 0 _ rfl, hx 1 _ rfl, hx 2 _ rfl, hx 3 _ rfl, hx 4 _ rfl⟩
theorem RdK.tl {w : World} {A : Option Addr} {n c : Nat} {t : Tk} {ts : List Tk} (h : RdK w (.slice A n c) (t :: ts)) : RdK w (.slice (if c = 1 then A else A.map (·.add 5)) (n - 1) (c - 1)) ts := RowRd.tail h tkR_len
set_option maxRecDepth 100000 in
set_option maxHeartbeats 4000000 in
theorem next_ref (w : World) (v : Value) (ts : List Tk) (en : Nat) (h : RdK w v ts) :
    Calls Try.prog 45 #[.agg #[v, .int .i64 (en : Int)]] w fun e w' => e = .returned (.string (bs (nextS ts))) ∧ Below w.heap.size w w' := by
  cases ts with
  | nil =>
    obtain ⟨A, c, rfl, _⟩ := RowRd.form h
    clear h
    go_enter Try.func45, Try.ntmps45
    go_wp2
    go_ret
    exact ⟨rfl, (Below.refl _ _).alloc (Nat.le_refl _) _⟩
  | cons t ts =>
    obtain ⟨b, o, c, u1, u2, rfl, hc, hb, _, _, _, p1, _, _, _⟩ := h.hd
    have HB := Lib.hid ((Below.refl w.heap.size w).alloc (Nat.le_refl _) (.cells #[.slice (some ⟨b, o, none⟩) (ts.length + 1) c, .int .i64 (en : Int)] 96))
    have q1 := ((bcell HB.out).1 b (o + 1) hb).trans p1
    have e1 : ((ts.length : Int) + 1 == 0) = false := beq_false_of_ne (by omega)
    clear h p1
    go_enter Try.func45, Try.ntmps45
    go_wp2
    go_ret
    exact ⟨rfl, HB.out⟩
set_option maxRecDepth 100000 in
set_option maxHeartbeats 4000000 in
theorem place_ref (w : World) (v : Value) (ts : List Tk) (en : Nat) (h : RdK w v ts) :
    Calls Try.prog 47 #[.agg #[v, .int .i64 (en : Int)]] w fun e w' => e = .returned (.int .i64 ((placeS en ts : Nat) : Int)) ∧ Below w.heap.size w w' := by
  cases ts with
  | nil =>
    obtain ⟨A, c, rfl, _⟩ := RowRd.form h
    clear h
    go_enter Try.func47, Try.ntmps47
    go_wp2
    go_ret
    exact ⟨rfl, (Below.refl _ _).alloc (Nat.le_refl _) _⟩
  | cons t ts =>
    obtain ⟨b, o, c, u1, u2, rfl, hc, hb, _, _, p0, _, _, _, _⟩ := h.hd
    have HB := Lib.hid ((Below.refl w.heap.size w).alloc (Nat.le_refl _) (.cells #[.slice (some ⟨b, o, none⟩) (ts.length + 1) c, .int .i64 (en : Int)] 96))
    have q0 := ((bcell HB.out).1 b o hb).trans p0
    have e1 : ((ts.length : Int) + 1 == 0) = false := beq_false_of_ne (by omega)
    clear h p0
    go_enter Try.func47, Try.ntmps47
    go_wp2
    go_ret
    exact ⟨rfl, HB.out⟩
set_option maxRecDepth 100000 in
set_option maxHeartbeats 4000000 in
theorem rest_ref (w : World) (v : Value) (t : Tk) (ts : List Tk) (en : Nat) (h : RdK w v (t :: ts)) (hl : ts.length ≤ 100000) :
    Calls Try.prog 46 #[.agg #[v, .int .i64 (en : Int)]] w fun e w' => ∃ v', e = .returned (.agg #[v', .int .i64 (en : Int)]) ∧ RdK w' v' ts ∧ Below w.heap.size w w' := by
  obtain ⟨b, o, c, u1, u2, rfl, hc, hb, _⟩ := h.hd
  have ht := h.tl
  clear h
  have e1 : (1 : Int) ≤ (ts.length : Int) + 1 := by omega
  have e2 : (ts.length : Int) + 1 ≤ (c : Int) := by omega
  by_cases hc1 : c = 1
  · subst hc1
    obtain rfl : ts = [] := List.length_eq_zero_iff.1 (by omega)
    rw [if_pos rfl] at ht
    have HT := Lib.hid ht
    clear ht
    go_enter Try.func46, Try.ntmps46
    go_wp2
    go_region
    go_wp2
    refine bodyPost_ret (v := .agg #[.slice (some ⟨b, o, none⟩) 0 0, .int .i64 (en : Int)]) (by simp [results, Try.results46, go_sem]) rfl ?_
    have HB := Lib.hid ((((Below.refl w.heap.size w).alloc (Nat.le_refl _) (.cells #[.slice (some ⟨b, o, none⟩) 1 1, .int .i64 (en : Int)] 96)).alloc (by simp) (.cells #[.slice (some ⟨b, o, none⟩) 0 0, .int .i64 (en : Int)] 96)).drew)
    exact ⟨_, rfl, HT.out.next HB.out, HB.out⟩
  · rw [if_neg hc1] at ht
    simp only [Option.map_some, add_off, Nat.add_sub_cancel] at ht
    have HT := Lib.hid ht
    clear ht
    go_enter Try.func46, Try.ntmps46
    go_wp2
    go_region
    go_wp2
    refine bodyPost_ret (v := .agg #[.slice (some ⟨b, o + 5, none⟩) ts.length (c - 1), .int .i64 (en : Int)]) (by simp [results, Try.results46, go_sem]) rfl ?_
    have HB := Lib.hid ((((Below.refl w.heap.size w).alloc (Nat.le_refl _) (.cells #[.slice (some ⟨b, o, none⟩) (ts.length + 1) c, .int .i64 (en : Int)] 96)).alloc (by simp) (.cells #[.slice (some ⟨b, o + 5, none⟩) ts.length (c - 1), .int .i64 (en : Int)] 96)).drew)
    exact ⟨_, rfl, HT.out.next HB.out, HB.out⟩
end Go.Proofs.Ytiddchpkmcncdaa
