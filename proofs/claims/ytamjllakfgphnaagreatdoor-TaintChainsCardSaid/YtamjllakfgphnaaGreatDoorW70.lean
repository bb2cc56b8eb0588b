/- Walks of layer 46: an ordinal of a lineage. -/
import Derived.Test.YtamjllakfgphnaaGreatDoorGO
import Derived.Deep.DeepCutAuto
import Derived.Deep.CutBlock
import Derived.Laws.Strings
namespace Go.Proofs.YtamjllakfgphnaaGreatDoor
open Go.RowKit
set_option linter.unusedSimpArgs false
set_option linter.unusedVariables false
attribute [local go_sem ↓] Go.wp_at_zero Go.wp_at_succ
def bt46 (s : ByteArray) (i : Nat) : Int := ((s.data.toList.getD i 0).toNat : Int)
theorem bt46_of (s : ByteArray) (i : Nat) (h : i < s.size) : (s[i].toNat : Int) = bt46 s i := by
  unfold bt46
  have h' : i < s.data.toList.length := by simpa using h
  rw [List.getD_eq_getElem?_getD, List.getElem?_eq_getElem h']
  rfl
theorem bt46_bd (s : ByteArray) (i : Nat) : 0 ≤ bt46 s i ∧ bt46 s i < 256 := by
  unfold bt46
  have := (s.data.toList.getD i 0).toNat_lt
  omega
def dig46 (n : Int) : Bool := decide (48 ≤ n) && decide (n ≤ 57)
/-- Where the digits end. -/
def dgE (s : ByteArray) : Nat → Nat → Nat
  | 0, e => e
  | f + 1, e => if e < s.size ∧ dig46 (bt46 s e) = true then dgE s f (e + 1) else e
/-- What the digits are worth. -/
def dgO (s : ByteArray) : Nat → Nat → Int → Int
  | 0, _, o => o
  | f + 1, e, o => if e < s.size ∧ dig46 (bt46 s e) = true then dgO s f (e + 1) (o * 10 + (bt46 s e - 48)) else o
theorem dgE_le (s : ByteArray) : ∀ (f e : Nat), e ≤ s.size → e ≤ dgE s f e ∧ dgE s f e ≤ e + f ∧ dgE s f e ≤ s.size
  | 0, e, h => ⟨Nat.le_refl _, Nat.le_refl _, h⟩
  | f + 1, e, h => by
    unfold dgE
    by_cases hc : e < s.size ∧ dig46 (bt46 s e) = true
    · rw [if_pos hc]
      have := dgE_le s f (e + 1) hc.1
      omega
    · rw [if_neg hc]; omega
structure Pt where
  o : Int
  a : Int
  e : Int
deriving DecidableEq
def ptV (p : Pt) : Value := .agg #[.int .i64 p.o, .int .i64 p.a, .int .i64 p.e]
/-- What is wrong with an ordinal. -/
def errF (s : ByteArray) (a c : Nat) : Int := if c = 8 then 9 else if a = s.size then 4 else if dgE s 7 a = a then 6 else if bt46 s a = 48 then 3 else if 6 < dgE s 7 a - a then 2 else 0
def fstP (s : ByteArray) (a c : Nat) : Pt := if errF s a c = 0 then ⟨dgO s 7 a 0, a, 0⟩ else ⟨0, a, errF s a c⟩
def fstE (s : ByteArray) (a c : Nat) : Nat := if errF s a c = 0 then dgE s 7 a else a
theorem isdig_is (n : Int) (w : World) : Calls Tryz.prog 200 #[.int .u8 n] w fun e w' => e = .returned (.bool (dig46 n)) ∧ w = w' := by
  unfold dig46
  by_cases h1 : 48 ≤ n
  · have e1 : decide (48 ≤ n) = true := decide_eq_true h1
    go_enter Tryz.func200, Tryz.ntmps200
    go_wp2
    go_ret
    exact ⟨by rw [e1]; rfl, rfl⟩
  · have e1 : decide (48 ≤ n) = false := decide_eq_false h1
    go_enter Tryz.func200, Tryz.ntmps200
    go_wp2
    go_ret
    exact ⟨rfl, rfl⟩
def FstRel (s : ByteArray) (a : Nat) (w : World) (i8 i9 : Value) (wr : World) : Prop :=
  ∃ (j : Nat) (o : Int), i8 = .int .i64 ((a + j : Nat) : Int) ∧ i9 = .int .i64 o ∧ j ≤ 7 ∧ a + j ≤ s.size ∧ dgE s 7 a = dgE s (7 - j) (a + j) ∧ dgO s 7 a 0 = dgO s (7 - j) (a + j) o ∧ 0 ≤ o ∧ o < (10 : Int) ^ j ∧ wr = w
theorem pow10 {j : Nat} (h : j ≤ 6) : (10 : Int) ^ j ≤ 1000000 := by
  rcases (show j = 0 ∨ j = 1 ∨ j = 2 ∨ j = 3 ∨ j = 4 ∨ j = 5 ∨ j = 6 by omega) with rfl | rfl | rfl | rfl | rfl | rfl | rfl <;> decide
set_option maxRecDepth 100000 in
set_option maxHeartbeats 2000000 in
theorem lfirst_is {w : World} (s : ByteArray) {a c : Nat} (ha : a ≤ s.size) (ha2 : a ≤ 1000) (hc : c ≤ 8) : Calls Tryz.prog 164 #[.string s, .int .i64 a, .int .i64 c] w fun e w' => e = .returned (.tuple #[ptV (fstP s a c), .int .i64 (fstE s a c : Nat)]) ∧ Below w.heap.size w w' := by
  have rb := Blk.new w 213 #[.int .i64 0, .int .i64 0, .int .i64 0]
  have r0 := rb.cell 0
  have r1 := rb.cell 1
  have r2 := rb.cell 2
  have f0 := rb.frozen 0
  have f1 := rb.frozen 1
  have f2 := rb.frozen 2
  simp only [List.getElem?_toArray, List.getElem?_cons_zero, List.getElem?_cons_succ] at r0 r1 r2
  have HB := Lib.hid ((Below.refl w.heap.size w).alloc (Nat.le_refl _) (.cells #[.int .i64 0, .int .i64 0, .int .i64 0] 213))
  clear rb
  go_enter Tryz.func164, Tryz.ntmps164
  go_upto_region 1 with (fail)
  generalize w.alloc (.cells #[.int .i64 0, .int .i64 0, .int .i64 0] 213) = W at *
  generalize hcb : w.heap.size = cb at *
  have HCB := Lib.hid hcb
  clear hcb
  have H0 : Hid (FstRel s a W (.int .i64 a) (.int .i64 0) W) := Lib.hid ⟨0, 0, rfl, rfl, by omega, ha, rfl, rfl, by omega, by decide, rfl⟩
  go_upto_block 0 with (fail)
  go_cut [8, 9] (fun v8 v9 wx => v8 = .int .i64 (dgE s 7 a : Nat) ∧ v9 = .int .i64 (dgO s 7 a 0) ∧ wx = W)
  case first =>
    go_wp2_with fail
    go_loopw [8, 9] (fun i8 i9 wr => FstRel s a W i8 i9 wr) (fun i8 _ _ => a + 7 - (intOf i8).toNat)
    case atStart => exact H0.out
    case round =>
      clear H0
      obtain ⟨j, ov, rfl, rfl, hj, hjs, hE, hO, ho0, ho1, rfl⟩ := hrel
      have HE := Lib.hid hE
      have HO := Lib.hid hO
      have HO1 := Lib.hid ho1
      clear hE hO ho1
      obtain ⟨p, hp⟩ : ∃ p, a + j = p := ⟨_, rfl⟩
      have HP := Lib.hid hp
      rw [hp] at HE HO hjs ⊢
      have hpa : p - a = j := by omega
      by_cases h1 : p < s.size
      · have e1 : decide ((p : Int) < (s.size : Int)) = true := decide_eq_true (by omega)
        by_cases h2 : j ≤ 6
        · have e2 : decide ((p : Int) - (a : Int) ≤ 6) = true := decide_eq_true (by omega)
          have ew : IntKind.i64.wrap ((p : Int) - (a : Int)) = (p : Int) - (a : Int) := IntWalk.i64_in _ (by omega)
          have hb := bt46_of s p h1
          have hbd := bt46_bd s p
          obtain ⟨b, hbv⟩ : ∃ b, bt46 s p = b := ⟨_, rfl⟩
          rw [hbv] at hb hbd
          have HBV := Lib.hid hbv
          have k1 : (0 : Int) ≤ (p : Int) := by omega
          have k2 : (p : Int) < (s.size : Int) := by omega
          have hov : ov < 1000000 := by have h10 := pow10 h2; have := HO1.out; omega
          clear hbv hp
          obtain ⟨d, hd⟩ : ∃ d, dig46 b = d := ⟨_, rfl⟩
          have HD := Lib.hid hd
          clear hd
          cases d with
          | true =>
            have hdd : 48 ≤ b ∧ b ≤ 57 := by have := HD.out; unfold dig46 at this; simpa using this
            have w1 : IntKind.i64.wrap (ov * 10) = ov * 10 := IntWalk.i64_in _ (by omega)
            have w2 : IntKind.u8.wrap (b - 48) = b - 48 := IntWalk.u8_in _ (by omega)
            have w3 : IntKind.i64.wrap (b - 48) = b - 48 := IntWalk.i64_in _ (by omega)
            have w4 : IntKind.i64.wrap (ov * 10 + (b - 48)) = ov * 10 + (b - 48) := IntWalk.i64_in _ (by omega)
            have hcond : p < s.size ∧ dig46 (bt46 s p) = true := ⟨h1, by rw [HBV.out]; exact HD.out⟩
            have HC := Lib.hid hcond
            clear hcond
            go_wp2_with (go_at_call 200; refine (isdig_is _ _).mono ?_; rintro e w' ⟨rfl, rfl⟩; rw [HD.out])
            go_roundw
            case rel =>
              have h7 : 7 - j = (7 - (j + 1)) + 1 := by omega
              refine ⟨j + 1, ov * 10 + (b - 48), by have := HP.out; congr 1; omega, rfl, by omega, by have := HP.out; omega, ?_, ?_, by omega, ?_, rfl⟩
              · rw [HE.out, h7, dgE, if_pos HC.out, ← HP.out]; rfl
              · rw [HO.out, h7, dgO, if_pos HC.out, HBV.out, ← HP.out]; rfl
              · have := HO1.out; rw [Int.pow_succ]; omega
            case measure => have := HP.out; simp [intOf]; omega
          | false =>
            have hcond : ¬ (p < s.size ∧ dig46 (bt46 s p) = true) := fun h => by rw [HBV.out, HD.out] at h; cases h.2
            have HC := Lib.hid hcond
            clear hcond
            go_wp2_with (go_at_call 200; refine (isdig_is _ _).mono ?_; rintro e w' ⟨rfl, rfl⟩; rw [HD.out])
            go_meet
            case rel =>
              have h7 : 7 - j = (7 - (j + 1)) + 1 := by omega
              exact ⟨by rw [HE.out, h7, dgE, if_neg HC.out], by rw [HO.out, h7, dgO, if_neg HC.out], rfl⟩
        · have e2 : decide ((p : Int) - (a : Int) ≤ 6) = false := decide_eq_false (by omega)
          have ew : IntKind.i64.wrap ((p : Int) - (a : Int)) = (p : Int) - (a : Int) := IntWalk.i64_in _ (by omega)
          have HJ7 := Lib.hid (show 7 - j = 0 by omega)
          clear hp
          go_wp2_with fail
          go_meet
          case rel => exact ⟨by rw [HE.out, HJ7.out]; rfl, by rw [HO.out, HJ7.out]; rfl, rfl⟩
      · have e1 : decide ((p : Int) < (s.size : Int)) = false := decide_eq_false (by omega)
        have HH := Lib.hid h1
        clear hp
        go_wp2_with fail
        go_meet
        case rel =>
          refine ⟨?_, ?_, rfl⟩
          · rw [HE.out]
            cases h7 : 7 - j with
            | zero => rfl
            | succ f => rw [dgE, if_neg fun h => HH.out h.1]
          · rw [HO.out]
            cases h7 : 7 - j with
            | zero => rfl
            | succ f => rw [dgO, if_neg fun h => HH.out h.1]
  case rest =>
    obtain ⟨rfl, rfl, hwx⟩ := hcut
    subst hwx
    clear H0
    obtain ⟨E, hE⟩ : ∃ E, dgE s 7 a = E := ⟨_, rfl⟩
    obtain ⟨O, hO⟩ : ∃ O, dgO s 7 a 0 = O := ⟨_, rfl⟩
    have hEl := dgE_le s 7 a ha
    rw [hE] at hEl
    obtain ⟨er, her⟩ : ∃ er, errF s a c = er := ⟨_, rfl⟩
    have HER := Lib.hid her
    have HP1 : Hid (er = 0 → fstP s a c = ⟨O, a, 0⟩ ∧ fstE s a c = E) := Lib.hid fun h => by
      unfold fstP fstE
      rw [her, if_pos h, if_pos h, hE, hO]
      exact ⟨rfl, rfl⟩
    have HP2 : Hid (er ≠ 0 → fstP s a c = ⟨0, a, er⟩ ∧ fstE s a c = a) := Lib.hid fun h => by
      unfold fstP fstE
      rw [her, if_neg h, if_neg h]
      exact ⟨rfl, rfl⟩
    have HF : Hid (er = if c = 8 then 9 else if a = s.size then 4 else if E = a then 6 else if bt46 s a = 48 then 3 else if 6 < E - a then 2 else 0) := Lib.hid (by rw [← her, ← hE]; rfl)
    rw [hE, hO]
    clear hE hO her
    by_cases q1 : c = 8
    · have e1 : ((c : Int) == 8) = true := by rw [beq_iff_eq]; omega
      have hf := HF.out
      rw [if_pos q1] at hf
      subst hf
      clear q1
      go_wp2_with fail
      have hp := HP2.out (by decide)
      exact bodyPost_ret (v := .tuple #[.agg #[.int .i64 0, .int .i64 a, .int .i64 9], .int .i64 a]) (by simp [results, Tryz.results164, go_sem, r0, r1, r2]) rfl ⟨by rw [hp.1, hp.2]; rfl, by rw [HCB.out]; exact (((HB.out.setCell (p := ⟨cb, 0, none⟩) (Nat.le_refl _) _).setCell (p := ⟨cb, 1, none⟩) (Nat.le_refl _) _).setCell (p := ⟨cb, 2, none⟩) (Nat.le_refl _) _)⟩
    · have e1 : ((c : Int) == 8) = false := by rw [beq_eq_false_iff_ne]; omega
      by_cases q2 : a = s.size
      · have e2 : ((a : Int) == (s.size : Int)) = true := by rw [beq_iff_eq]; omega
        have hf := HF.out
        rw [if_neg q1, if_pos q2] at hf
        subst hf
        clear q2
        go_wp2_with fail
        have hp := HP2.out (by decide)
        exact bodyPost_ret (v := .tuple #[.agg #[.int .i64 0, .int .i64 a, .int .i64 4], .int .i64 a]) (by simp [results, Tryz.results164, go_sem, r0, r1, r2]) rfl ⟨by rw [hp.1, hp.2]; rfl, by rw [HCB.out]; exact (((HB.out.setCell (p := ⟨cb, 0, none⟩) (Nat.le_refl _) _).setCell (p := ⟨cb, 1, none⟩) (Nat.le_refl _) _).setCell (p := ⟨cb, 2, none⟩) (Nat.le_refl _) _)⟩
      · have e2 : ((a : Int) == (s.size : Int)) = false := by rw [beq_eq_false_iff_ne]; omega
        by_cases q3 : E = a
        · have e3 : ((E : Int) == (a : Int)) = true := by rw [beq_iff_eq]; omega
          have hf := HF.out
          rw [if_neg q1, if_neg q2, if_pos q3] at hf
          subst hf
          clear q3
          go_wp2_with fail
          have hp := HP2.out (by decide)
          exact bodyPost_ret (v := .tuple #[.agg #[.int .i64 0, .int .i64 a, .int .i64 6], .int .i64 a]) (by simp [results, Tryz.results164, go_sem, r0, r1, r2]) rfl ⟨by rw [hp.1, hp.2]; rfl, by rw [HCB.out]; exact (((HB.out.setCell (p := ⟨cb, 0, none⟩) (Nat.le_refl _) _).setCell (p := ⟨cb, 1, none⟩) (Nat.le_refl _) _).setCell (p := ⟨cb, 2, none⟩) (Nat.le_refl _) _)⟩
        · have e3 : ((E : Int) == (a : Int)) = false := by rw [beq_eq_false_iff_ne]; omega
          have hb := bt46_of s a (by omega)
          have k1 : (0 : Int) ≤ (a : Int) := by omega
          have k2 : (a : Int) < (s.size : Int) := by omega
          have ew : IntKind.i64.wrap ((E : Int) - (a : Int)) = (E : Int) - (a : Int) := IntWalk.i64_in _ (by omega)
          obtain ⟨b, hbv⟩ : ∃ b, bt46 s a = b := ⟨_, rfl⟩
          rw [hbv] at hb
          have hf := HF.out
          rw [hbv] at hf
          clear hbv
          by_cases q4 : b = 48
          · have e4 : (b == 48) = true := by rw [beq_iff_eq]; exact q4
            rw [if_neg q1, if_neg q2, if_neg q3, if_pos q4] at hf
            subst hf
            clear q4
            go_wp2_with fail
            have hp := HP2.out (by decide)
            exact bodyPost_ret (v := .tuple #[.agg #[.int .i64 0, .int .i64 a, .int .i64 3], .int .i64 a]) (by simp [results, Tryz.results164, go_sem, r0, r1, r2]) rfl ⟨by rw [hp.1, hp.2]; rfl, by rw [HCB.out]; exact (((HB.out.setCell (p := ⟨cb, 0, none⟩) (Nat.le_refl _) _).setCell (p := ⟨cb, 1, none⟩) (Nat.le_refl _) _).setCell (p := ⟨cb, 2, none⟩) (Nat.le_refl _) _)⟩
          · have e4 : (b == 48) = false := by rw [beq_eq_false_iff_ne]; exact q4
            by_cases q5 : 6 < E - a
            · have e5 : decide ((6 : Int) < (E : Int) - (a : Int)) = true := decide_eq_true (by omega)
              rw [if_neg q1, if_neg q2, if_neg q3, if_neg q4, if_pos q5] at hf
              subst hf
              clear q5
              go_wp2_with fail
              have hp := HP2.out (by decide)
              exact bodyPost_ret (v := .tuple #[.agg #[.int .i64 0, .int .i64 a, .int .i64 2], .int .i64 a]) (by simp [results, Tryz.results164, go_sem, r0, r1, r2]) rfl ⟨by rw [hp.1, hp.2]; rfl, by rw [HCB.out]; exact (((HB.out.setCell (p := ⟨cb, 0, none⟩) (Nat.le_refl _) _).setCell (p := ⟨cb, 1, none⟩) (Nat.le_refl _) _).setCell (p := ⟨cb, 2, none⟩) (Nat.le_refl _) _)⟩
            · have e5 : decide ((6 : Int) < (E : Int) - (a : Int)) = false := decide_eq_false (by omega)
              rw [if_neg q1, if_neg q2, if_neg q3, if_neg q4, if_neg q5] at hf
              subst hf
              go_wp2_with fail
              have hp := HP1.out (by trivial)
              exact bodyPost_ret (v := .tuple #[.agg #[.int .i64 O, .int .i64 a, .int .i64 0], .int .i64 E]) (by simp [results, Tryz.results164, go_sem, r0, r1, r2]) rfl ⟨by rw [hp.1, hp.2]; rfl, by rw [HCB.out]; exact (((HB.out.setCell (p := ⟨cb, 0, none⟩) (Nat.le_refl _) _).setCell (p := ⟨cb, 1, none⟩) (Nat.le_refl _) _).setCell (p := ⟨cb, 2, none⟩) (Nat.le_refl _) _)⟩
end Go.Proofs.YtamjllakfgphnaaGreatDoor
