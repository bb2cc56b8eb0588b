/- Walks and plain facts of the earlier laws, packed: W70, W71, W72. -/
import Derived.Deep.DeepCutAuto
import Derived.Deep.CutBlock
import Derived.Laws.Strings
import Derived.RangeFuncBox
import Derived.RangeFuncLeaves
import Derived.RangeFuncKeeps
import Derived.RangeFuncBound
import Derived.RangeFuncCalls
import Derived.Shelf.Abstract
import Derived.OwnWalkIn
import Derived.TacticsInMore
import Derived.LoopNIn
import Derived.LoopIn
import Derived.RangeFuncNested
import Derived.Test.YtmjkcanjfjfkfaaB3
namespace Go.Proofs.Ytmjkcanjfjfkfaa
open Go.RowKit
set_option linter.unusedSimpArgs false
set_option linter.unusedVariables false
attribute [local go_sem ↓] Go.wp_at_zero Go.wp_at_succ
def bt46 (s : ByteArray) (i : Nat) : Int := ((s.data.toList.getD i 0).toNat : Int)
theorem bt46_of (s : ByteArray) (i : Nat) (h : i < s.size) : (s[i].toNat : Int) = bt46 s i := by
  unfold bt46
  have h' : i < s.data.toList.length := by simpa using h
  rw [List.getD_eq_getElem?_getD, List.getElem?_eq_getElem h']
  rfl
theorem bt46_bd (s : ByteArray) (i : Nat) : 0 ≤ bt46 s i ∧ bt46 s i < 256 := by
  unfold bt46
  have := (s.data.toList.getD i 0).toNat_lt
  omega
def dig46 (n : Int) : Bool := decide (48 ≤ n) && decide (n ≤ 57)
def dgE (s : ByteArray) : Nat → Nat → Nat
  | 0, e => e
  | f + 1, e => if e < s.size ∧ dig46 (bt46 s e) = true then dgE s f (e + 1) else e
def dgO (s : ByteArray) : Nat → Nat → Int → Int
  | 0, _, o => o
  | f + 1, e, o => if e < s.size ∧ dig46 (bt46 s e) = true then dgO s f (e + 1) (o * 10 + (bt46 s e - 48)) else o
theorem dgE_le (s : ByteArray) : ∀ (f e : Nat), e ≤ s.size → e ≤ dgE s f e ∧ dgE s f e ≤ e + f ∧ dgE s f e ≤ s.size
  | 0, e, h => ⟨Nat.le_refl _, Nat.le_refl _, h⟩
  | f + 1, e, h => by
    unfold dgE
    by_cases hc : e < s.size ∧ dig46 (bt46 s e) = true
    · rw [if_pos hc]
      have := dgE_le s f (e + 1) hc.1
      omega
    · rw [if_neg hc]; omega
structure Pt where
  o : Int
  a : Int
  e : Int
deriving DecidableEq
def ptV (p : Pt) : Value := .agg #[.int .i64 p.o, .int .i64 p.a, .int .i64 p.e]
def errF (s : ByteArray) (a c : Nat) : Int := if c = 8 then 9 else if a = s.size then 4 else if dgE s 7 a = a then 6 else if bt46 s a = 48 then 3 else if 6 < dgE s 7 a - a then 2 else 0
def fstP (s : ByteArray) (a c : Nat) : Pt := if errF s a c = 0 then ⟨dgO s 7 a 0, a, 0⟩ else ⟨0, a, errF s a c⟩
def fstE (s : ByteArray) (a c : Nat) : Nat := if errF s a c = 0 then dgE s 7 a else a
theorem isdig_is (n : Int) (w : World) : Calls Try.prog 97 #[.int .u8 n] w fun e w' => e = .returned (.bool (dig46 n)) ∧ w = w' := by
  unfold dig46
  by_cases h1 : 48 ≤ n
  · have e1 : decide (48 ≤ n) = true := decide_eq_true h1
    go_enter Try.func97, Try.ntmps97
    go_wp2
    go_ret
    exact ⟨by rw [e1]; rfl, rfl⟩
  · have e1 : decide (48 ≤ n) = false := decide_eq_false h1
    go_enter Try.func97, Try.ntmps97
    go_wp2
    go_ret
    exact ⟨rfl, rfl⟩
def FstRel (s : ByteArray) (a : Nat) (w : World) (i8 i9 : Value) (wr : World) : Prop :=
  ∃ (j : Nat) (o : Int), i8 = .int .i64 ((a + j : Nat) : Int) ∧ i9 = .int .i64 o ∧ j ≤ 7 ∧ a + j ≤ s.size ∧ dgE s 7 a = dgE s (7 - j) (a + j) ∧ dgO s 7 a 0 = dgO s (7 - j) (a + j) o ∧ 0 ≤ o ∧ o < (10 : Int) ^ j ∧ wr = w
theorem pow10 {j : Nat} (h : j ≤ 6) : (10 : Int) ^ j ≤ 1000000 := by
  rcases (show j = 0 ∨ j = 1 ∨ j = 2 ∨ j = 3 ∨ j = 4 ∨ j = 5 ∨ j = 6 by omega) with rfl | rfl | rfl | rfl | rfl | rfl | rfl <;> decide
set_option maxRecDepth 100000 in
set_option maxHeartbeats 2000000 in
theorem lfirst_is {w : World} (s : ByteArray) {a c : Nat} (ha : a ≤ s.size) (ha2 : a ≤ 1000) (hc : c ≤ 8) : Calls Try.prog 76 #[.string s, .int .i64 a, .int .i64 c] w fun e w' => e = .returned (.tuple #[ptV (fstP s a c), .int .i64 (fstE s a c : Nat)]) ∧ Below w.heap.size w w' := by
  have rb := Blk.new w 126 #[.int .i64 0, .int .i64 0, .int .i64 0]
  have r0 := rb.cell 0
  have r1 := rb.cell 1
  have r2 := rb.cell 2
  have f0 := rb.frozen 0
  have f1 := rb.frozen 1
  have f2 := rb.frozen 2
  simp only [List.getElem?_toArray, List.getElem?_cons_zero, List.getElem?_cons_succ] at r0 r1 r2
  have HB := Lib.hid ((Below.refl w.heap.size w).alloc (Nat.le_refl _) (.cells #[.int .i64 0, .int .i64 0, .int .i64 0] 126))
  clear rb
  go_enter Try.func76, Try.ntmps76
  go_upto_region 1 with (fail)
  generalize w.alloc (.cells #[.int .i64 0, .int .i64 0, .int .i64 0] 126) = W at *
  generalize hcb : w.heap.size = cb at *
  have HCB := Lib.hid hcb
  clear hcb
  have H0 : Hid (FstRel s a W (.int .i64 a) (.int .i64 0) W) := Lib.hid ⟨0, 0, rfl, rfl, by omega, ha, rfl, rfl, by omega, by decide, rfl⟩
  go_upto_block 0 with (fail)
  go_cut [8, 9] (fun v8 v9 wx => v8 = .int .i64 (dgE s 7 a : Nat) ∧ v9 = .int .i64 (dgO s 7 a 0) ∧ wx = W)
  case first =>
    go_wp2_with fail
    go_loopw [8, 9] (fun i8 i9 wr => FstRel s a W i8 i9 wr) (fun i8 _ _ => a + 7 - (intOf i8).toNat)
    case atStart => exact H0.out
    case round =>
      clear H0
      obtain ⟨j, ov, rfl, rfl, hj, hjs, hE, hO, ho0, ho1, rfl⟩ := hrel
      have HE := Lib.hid hE
      have HO := Lib.hid hO
      have HO1 := Lib.hid ho1
      clear hE hO ho1
      obtain ⟨p, hp⟩ : ∃ p, a + j = p := ⟨_, rfl⟩
      have HP := Lib.hid hp
      rw [hp] at HE HO hjs ⊢
      have hpa : p - a = j := by omega
      by_cases h1 : p < s.size
      · have e1 : decide ((p : Int) < (s.size : Int)) = true := decide_eq_true (by omega)
        by_cases h2 : j ≤ 6
        · have e2 : decide ((p : Int) - (a : Int) ≤ 6) = true := decide_eq_true (by omega)
          have ew : IntKind.i64.wrap ((p : Int) - (a : Int)) = (p : Int) - (a : Int) := IntWalk.i64_in _ (by omega)
          have hb := bt46_of s p h1
          have hbd := bt46_bd s p
          obtain ⟨b, hbv⟩ : ∃ b, bt46 s p = b := ⟨_, rfl⟩
          rw [hbv] at hb hbd
          have HBV := Lib.hid hbv
          have k1 : (0 : Int) ≤ (p : Int) := by omega
          have k2 : (p : Int) < (s.size : Int) := by omega
          have hov : ov < 1000000 := by have h10 := pow10 h2; have := HO1.out; omega
          clear hbv hp
          obtain ⟨d, hd⟩ : ∃ d, dig46 b = d := ⟨_, rfl⟩
          have HD := Lib.hid hd
          clear hd
          cases d with
          | true =>
            have hdd : 48 ≤ b ∧ b ≤ 57 := by have := HD.out; unfold dig46 at this; simpa using this
            have w1 : IntKind.i64.wrap (ov * 10) = ov * 10 := IntWalk.i64_in _ (by omega)
            have w2 : IntKind.u8.wrap (b - 48) = b - 48 := IntWalk.u8_in _ (by omega)
            have w3 : IntKind.i64.wrap (b - 48) = b - 48 := IntWalk.i64_in _ (by omega)
            have w4 : IntKind.i64.wrap (ov * 10 + (b - 48)) = ov * 10 + (b - 48) := IntWalk.i64_in _ (by omega)
            have hcond : p < s.size ∧ dig46 (bt46 s p) = true := ⟨h1, by rw [HBV.out]; exact HD.out⟩
            have HC := Lib.hid hcond
            clear hcond
            go_wp2_with (go_at_call 97; refine (isdig_is _ _).mono ?_; rintro e w' ⟨rfl, rfl⟩; rw [HD.out])
            go_roundw
            case rel =>
              have h7 : 7 - j = (7 - (j + 1)) + 1 := by omega
              refine ⟨j + 1, ov * 10 + (b - 48), by have := HP.out; congr 1; omega, rfl, by omega, by have := HP.out; omega, ?_, ?_, by omega, ?_, rfl⟩
              · rw [HE.out, h7, dgE, if_pos HC.out, ← HP.out]; rfl
              · rw [HO.out, h7, dgO, if_pos HC.out, HBV.out, ← HP.out]; rfl
              · have := HO1.out; rw [Int.pow_succ]; omega
            case measure => have := HP.out; simp [intOf]; omega
          | false =>
            have hcond : ¬ (p < s.size ∧ dig46 (bt46 s p) = true) := fun h => by rw [HBV.out, HD.out] at h; cases h.2
            have HC := Lib.hid hcond
            clear hcond
            go_wp2_with (go_at_call 97; refine (isdig_is _ _).mono ?_; rintro e w' ⟨rfl, rfl⟩; rw [HD.out])
            go_meet
            case rel =>
              have h7 : 7 - j = (7 - (j + 1)) + 1 := by omega
              exact ⟨by rw [HE.out, h7, dgE, if_neg HC.out], by rw [HO.out, h7, dgO, if_neg HC.out], rfl⟩
        · have e2 : decide ((p : Int) - (a : Int) ≤ 6) = false := decide_eq_false (by omega)
          have ew : IntKind.i64.wrap ((p : Int) - (a : Int)) = (p : Int) - (a : Int) := IntWalk.i64_in _ (by omega)
          have HJ7 := Lib.hid (show 7 - j = 0 by omega)
          clear hp
          go_wp2_with fail
          go_meet
          case rel => exact ⟨by rw [HE.out, HJ7.out]; rfl, by rw [HO.out, HJ7.out]; rfl, rfl⟩
      · have e1 : decide ((p : Int) < (s.size : Int)) = false := decide_eq_false (by omega)
        have HH := Lib.hid h1
        clear hp
        go_wp2_with fail
        go_meet
        case rel =>
          refine ⟨?_, ?_, rfl⟩
          · rw [HE.out]
            cases h7 : 7 - j with
            | zero => rfl
            | succ f => rw [dgE, if_neg fun h => HH.out h.1]
          · rw [HO.out]
            cases h7 : 7 - j with
            | zero => rfl
            | succ f => rw [dgO, if_neg fun h => HH.out h.1]
  case rest =>
    obtain ⟨rfl, rfl, hwx⟩ := hcut
    subst hwx
    clear H0
    obtain ⟨E, hE⟩ : ∃ E, dgE s 7 a = E := ⟨_, rfl⟩
    obtain ⟨O, hO⟩ : ∃ O, dgO s 7 a 0 = O := ⟨_, rfl⟩
    have hEl := dgE_le s 7 a ha
    rw [hE] at hEl
    obtain ⟨er, her⟩ : ∃ er, errF s a c = er := ⟨_, rfl⟩
    have HER := Lib.hid her
    have HP1 : Hid (er = 0 → fstP s a c = ⟨O, a, 0⟩ ∧ fstE s a c = E) := Lib.hid fun h => by
      unfold fstP fstE
      rw [her, if_pos h, if_pos h, hE, hO]
      exact ⟨rfl, rfl⟩
    have HP2 : Hid (er ≠ 0 → fstP s a c = ⟨0, a, er⟩ ∧ fstE s a c = a) := Lib.hid fun h => by
      unfold fstP fstE
      rw [her, if_neg h, if_neg h]
      exact ⟨rfl, rfl⟩
    have HF : Hid (er = if c = 8 then 9 else if a = s.size then 4 else if E = a then 6 else if bt46 s a = 48 then 3 else if 6 < E - a then 2 else 0) := Lib.hid (by rw [← her, ← hE]; rfl)
    rw [hE, hO]
    clear hE hO her
    by_cases q1 : c = 8
    · have e1 : ((c : Int) == 8) = true := by rw [beq_iff_eq]; omega
      have hf := HF.out
      rw [if_pos q1] at hf
      subst hf
      clear q1
      go_wp2_with fail
      have hp := HP2.out (by decide)
      exact bodyPost_ret (v := .tuple #[.agg #[.int .i64 0, .int .i64 a, .int .i64 9], .int .i64 a]) (by simp [results, Try.results76, go_sem, r0, r1, r2]) rfl ⟨by rw [hp.1, hp.2]; rfl, by rw [HCB.out]; exact (((HB.out.setCell (p := ⟨cb, 0, none⟩) (Nat.le_refl _) _).setCell (p := ⟨cb, 1, none⟩) (Nat.le_refl _) _).setCell (p := ⟨cb, 2, none⟩) (Nat.le_refl _) _)⟩
    · have e1 : ((c : Int) == 8) = false := by rw [beq_eq_false_iff_ne]; omega
      by_cases q2 : a = s.size
      · have e2 : ((a : Int) == (s.size : Int)) = true := by rw [beq_iff_eq]; omega
        have hf := HF.out
        rw [if_neg q1, if_pos q2] at hf
        subst hf
        clear q2
        go_wp2_with fail
        have hp := HP2.out (by decide)
        exact bodyPost_ret (v := .tuple #[.agg #[.int .i64 0, .int .i64 a, .int .i64 4], .int .i64 a]) (by simp [results, Try.results76, go_sem, r0, r1, r2]) rfl ⟨by rw [hp.1, hp.2]; rfl, by rw [HCB.out]; exact (((HB.out.setCell (p := ⟨cb, 0, none⟩) (Nat.le_refl _) _).setCell (p := ⟨cb, 1, none⟩) (Nat.le_refl _) _).setCell (p := ⟨cb, 2, none⟩) (Nat.le_refl _) _)⟩
      · have e2 : ((a : Int) == (s.size : Int)) = false := by rw [beq_eq_false_iff_ne]; omega
        by_cases q3 : E = a
        · have e3 : ((E : Int) == (a : Int)) = true := by rw [beq_iff_eq]; omega
          have hf := HF.out
          rw [if_neg q1, if_neg q2, if_pos q3] at hf
          subst hf
          clear q3
          go_wp2_with fail
          have hp := HP2.out (by decide)
          exact bodyPost_ret (v := .tuple #[.agg #[.int .i64 0, .int .i64 a, .int .i64 6], .int .i64 a]) (by simp [results, Try.results76, go_sem, r0, r1, r2]) rfl ⟨by rw [hp.1, hp.2]; rfl, by rw [HCB.out]; exact (((HB.out.setCell (p := ⟨cb, 0, none⟩) (Nat.le_refl _) _).setCell (p := ⟨cb, 1, none⟩) (Nat.le_refl _) _).setCell (p := ⟨cb, 2, none⟩) (Nat.le_refl _) _)⟩
        · have e3 : ((E : Int) == (a : Int)) = false := by rw [beq_eq_false_iff_ne]; omega
          have hb := bt46_of s a (by omega)
          have k1 : (0 : Int) ≤ (a : Int) := by omega
          have k2 : (a : Int) < (s.size : Int) := by omega
          have ew : IntKind.i64.wrap ((E : Int) - (a : Int)) = (E : Int) - (a : Int) := IntWalk.i64_in _ (by omega)
          obtain ⟨b, hbv⟩ : ∃ b, bt46 s a = b := ⟨_, rfl⟩
          rw [hbv] at hb
          have hf := HF.out
          rw [hbv] at hf
          clear hbv
          by_cases q4 : b = 48
          · have e4 : (b == 48) = true := by rw [beq_iff_eq]; exact q4
            rw [if_neg q1, if_neg q2, if_neg q3, if_pos q4] at hf
            subst hf
            clear q4
            go_wp2_with fail
            have hp := HP2.out (by decide)
            exact bodyPost_ret (v := .tuple #[.agg #[.int .i64 0, .int .i64 a, .int .i64 3], .int .i64 a]) (by simp [results, Try.results76, go_sem, r0, r1, r2]) rfl ⟨by rw [hp.1, hp.2]; rfl, by rw [HCB.out]; exact (((HB.out.setCell (p := ⟨cb, 0, none⟩) (Nat.le_refl _) _).setCell (p := ⟨cb, 1, none⟩) (Nat.le_refl _) _).setCell (p := ⟨cb, 2, none⟩) (Nat.le_refl _) _)⟩
          · have e4 : (b == 48) = false := by rw [beq_eq_false_iff_ne]; exact q4
            by_cases q5 : 6 < E - a
            · have e5 : decide ((6 : Int) < (E : Int) - (a : Int)) = true := decide_eq_true (by omega)
              rw [if_neg q1, if_neg q2, if_neg q3, if_neg q4, if_pos q5] at hf
              subst hf
              clear q5
              go_wp2_with fail
              have hp := HP2.out (by decide)
              exact bodyPost_ret (v := .tuple #[.agg #[.int .i64 0, .int .i64 a, .int .i64 2], .int .i64 a]) (by simp [results, Try.results76, go_sem, r0, r1, r2]) rfl ⟨by rw [hp.1, hp.2]; rfl, by rw [HCB.out]; exact (((HB.out.setCell (p := ⟨cb, 0, none⟩) (Nat.le_refl _) _).setCell (p := ⟨cb, 1, none⟩) (Nat.le_refl _) _).setCell (p := ⟨cb, 2, none⟩) (Nat.le_refl _) _)⟩
            · have e5 : decide ((6 : Int) < (E : Int) - (a : Int)) = false := decide_eq_false (by omega)
              rw [if_neg q1, if_neg q2, if_neg q3, if_neg q4, if_neg q5] at hf
              subst hf
              go_wp2_with fail
              have hp := HP1.out (by trivial)
              exact bodyPost_ret (v := .tuple #[.agg #[.int .i64 O, .int .i64 a, .int .i64 0], .int .i64 E]) (by simp [results, Try.results76, go_sem, r0, r1, r2]) rfl ⟨by rw [hp.1, hp.2]; rfl, by rw [HCB.out]; exact (((HB.out.setCell (p := ⟨cb, 0, none⟩) (Nat.le_refl _) _).setCell (p := ⟨cb, 1, none⟩) (Nat.le_refl _) _).setCell (p := ⟨cb, 2, none⟩) (Nat.le_refl _) _)⟩
end Go.Proofs.Ytmjkcanjfjfkfaa
namespace Go.Proofs.Ytmjkcanjfjfkfaa
open Go.RowKit Go.Shelf
set_option linter.unusedSimpArgs false
set_option linter.unusedVariables false
attribute [local go_sem] Oper.semAt_some
theorem fst_e (s : ByteArray) (a c : Nat) : (fstP s a c).e = errF s a c := by
  unfold fstP
  by_cases h : errF s a c = 0
  · rw [if_pos h, h]
  · rw [if_neg h]
theorem fst_bd {s : ByteArray} {a c : Nat} (ha : a ≤ s.size) (h : (fstP s a c).e = 0) : c ≠ 8 ∧ fstE s a c ≤ s.size ∧ fstE s a c ≤ a + 7 := by
  rw [fst_e] at h
  have h1 := dgE_le s 7 a ha
  unfold fstE
  rw [if_pos h]
  refine ⟨fun e => ?_, h1.2.2, h1.2.1⟩
  unfold errF at h
  rw [if_pos e] at h
  cases h
def partsL (s : ByteArray) : Nat → Nat → Nat → List Pt
  | 0, _, _ => []
  | f + 1, a, c => fstP s a c :: (if (fstP s a c).e ≠ 0 then [] else if fstE s a c = s.size then [] else if bt46 s (fstE s a c) ≠ 46 then [⟨0, fstE s a c, 6⟩] else partsL s f (fstE s a c + 1) (c + 1))
def PS (s : ByteArray) : List Pt := if s.size = 0 then [] else partsL s 9 0 0
structure KpL (W W' : World) : Prop where
  size : W.heap.size ≤ W'.heap.size
  same : ∀ (i : Nat) (cs : Array Value) (e : TypeId) (fr : Nat × Nat), W.heap[i]? = some (.cells cs e fr) → e = 126 ∨ e = 9 → W'.heap[i]? = some (.cells cs e fr)
theorem KpL.refl (W : World) : KpL W W := ⟨Nat.le_refl _, fun _ _ _ _ h _ => h⟩
theorem KpL.trans {A B C : World} (h : KpL A B) (k : KpL B C) : KpL A C := ⟨Nat.le_trans h.size k.size, fun i cs e fr h1 h2 => k.same i cs e fr (h.same i cs e fr h1 h2) h2⟩
theorem KpL.below {W W' : World} (h : Below W.heap.size W W') : KpL W W' := ⟨h.size, fun i cs e fr h1 _ => (h.block i (Array.getElem?_eq_some_iff.1 h1).1).trans h1⟩
theorem KpL.blk {W W' : World} {g t : Nat} {cs : Array Value} (h : KpL W W') (hb : Blk W g t cs) (ht : t = 126 ∨ t = 9) : Blk W' g t cs := h.same g cs t (0, 0) hb ht
theorem grown_none {w w' : World} (hb : Below w.heap.size w w') : w.grownBy w' none := ⟨hb.os, hb.tape, hb.output, hb.size, fun i hi _ => hb.block i hi⟩
def PrtRel (s : ByteArray) (Bt : Nat) (J : List Pt → World → Prop) (i3 i4 : Value) (wr : World) : Prop :=
  ∃ (a c : Nat) (pre : List Pt), i3 = .int .i64 a ∧ i4 = .int .i64 c ∧ a ≤ s.size ∧ a ≤ 8 * c ∧ c ≤ 8 ∧ pre ++ partsL s (9 - c) a c = PS s ∧ J pre wr ∧ Blk wr Bt 9 #[.string s]
set_option maxRecDepth 100000 in
set_option maxHeartbeats 4000000 in
theorem parts1_in (n l Bt : Nat) (s : ByteArray) (J Jx : List Pt → World → Prop) (W0 : World) (hab : AbidesFrom W0.heap.size J)
    (hY : ∀ pre x W, J pre W → pre.length < (PS s).length → YieldAt Fence.wide (n - 1) Try.prog l #[ptV x] W fun e W' => (e = .returned (.bool true) ∧ J (pre ++ [x]) W' ∧ KpL W W') ∨ (e = .returned (.bool false) ∧ Jx (pre ++ [x]) W'))
    (W : World) (hBt : Blk W Bt 9 #[.string s]) (h0 : J [] W) :
    CallsIn Fence.wide n Try.prog 75 #[.func (.yield l) #[] #[], .pointer (some ⟨Bt, 0, none⟩)] W fun e W' => (∃ v, e = .returned v) ∧ ((∃ ys, ys = PS s ∧ J ys W') ∨ (∃ pre, pre <+: PS s ∧ Jx pre W')) := by
  have x0 := hBt.cell 0
  simp only [List.getElem?_toArray, List.getElem?_cons_zero] at x0
  by_cases hs : s.size = 0
  · have hps : PS s = [] := by unfold PS; rw [if_pos hs]
    have hse : s = ⟨#[]⟩ := by
      have : s.data = #[] := Array.size_eq_zero_iff.1 hs
      cases s; simp_all
    subst hse
    refine callsIn_of_wp Try.func75 rfl trivial ?_ rfl
    simp only [Try.ntmps75, List.size_toArray, List.length_cons, List.length_nil, Nat.reduceAdd, Nat.reduceSub, Array.replicate_succ, Array.replicate_zero, List.push_toArray, List.append_toArray, List.nil_append, List.cons_append]
    gi_wp2
    gi_loopw [3, 4] (fun i3 i4 wr => wr = W) (fun _ _ _ => 0)
    case atStart => rfl
    case round =>
      subst hrel
      gi_wp2
      go_end0
      exact ⟨⟨_, rfl⟩, .inl ⟨_, hps.symm, h0⟩⟩
  · have hne : ¬ s.data.toList = [] := fun e => hs (by
      have : s.data = #[] := by cases h : s.data; rw [h] at e; simp at e; rw [e]
      rw [ByteArray.size, this]; rfl)
    have H0 : PrtRel s Bt J (.int .i64 (0 : Nat)) (.int .i64 (0 : Nat)) W := ⟨0, 0, [], rfl, rfl, Nat.zero_le _, by omega, by omega, by unfold PS; rw [if_neg hs]; rfl, h0, hBt⟩
    have H0 := Lib.hid H0
    have hemp : s.toList.isEmpty = false := by rw [Lib.toList_data]; simpa [List.isEmpty_iff] using hne
    clear h0 hBt hs hne
    refine callsIn_of_wp Try.func75 rfl trivial ?_ rfl
    simp only [Try.ntmps75, List.size_toArray, List.length_cons, List.length_nil, Nat.reduceAdd, Nat.reduceSub, Array.replicate_succ, Array.replicate_zero, List.push_toArray, List.append_toArray, List.nil_append, List.cons_append]
    gi_wp2
    gi_loopw [3, 4] (fun i3 i4 wr => PrtRel s Bt J i3 i4 wr) (fun _ i4 _ => 9 - (intOf i4).toNat)
    case atStart => exact H0.out
    case round =>
      clear H0 x0
      obtain ⟨a, c, pre, rfl, rfl, ha, ha8, hc, hps, hJ, hBt⟩ := hrel
      have x0 := hBt.cell 0
      simp only [List.getElem?_toArray, List.getElem?_cons_zero] at x0
      obtain ⟨p, hp⟩ : ∃ p, fstP s a c = p := ⟨_, rfl⟩
      obtain ⟨E, hE⟩ : ∃ E, fstE s a c = E := ⟨_, rfl⟩
      have HP := Lib.hid hp
      have HE := Lib.hid hE
      have h9 : 9 - c = (8 - c) + 1 := by omega
      rw [h9, partsL, hp, hE] at hps
      have hlt : pre.length < (PS s).length := by rw [← hps, List.length_append, List.length_cons]; omega
      have HBD := Lib.hid (fun h : p.e = 0 => by have := fst_bd (c := c) ha (by rw [hp]; exact h); rw [hE] at this; exact this)
      have HPS := Lib.hid hps
      clear hp hE hps h9
      by_cases q1 : p.e = 0
      · obtain ⟨hc8, hEs, hEa⟩ := HBD.out q1
        have n1 : (p.e != 0) = false := by rw [q1]; rfl
        have hE100 : E ≤ 100 := by omega
        by_cases q2 : E = s.size
        · have n2 : ((E : Int) == (s.size : Int)) = true := by rw [beq_iff_eq]; omega
          have HR1 : Hid (pre ++ [p] = PS s) := Lib.hid (by have := HPS.out; rw [if_neg (fun h => h q1), if_pos q2] at this; exact this)
          clear q1 q2
          gi_wp2_with (first
            | ((try refine ⟨trivial, ?_⟩); (try refine ⟨fun h => (by cases h), ?_⟩); gi_at_call 76; refine (callsIn_wide.2 (lfirst_is s ha (by omega) hc)).mono ?_; rintro e W1 ⟨rfl, hb1⟩; rw [HP.out, HE.out]; simp only [ptV]; have hbA := hb1.alloc hb1.size (.cells #[.int .i64 p.o, .int .i64 p.a, .int .i64 p.e] 126); have hJ2 := hab pre wr _ none hJ (grown_none hbA) (fun r e => by cases e); have hBt2 := hBt.next hbA hBt.lt; have hpb := Blk.new W1 126 #[.int .i64 p.o, .int .i64 p.a, .int .i64 p.e]; have d0 := hpb.cell 0; have d1 := hpb.cell 1; have d2 := hpb.cell 2; (simp only [List.getElem?_toArray, List.getElem?_cons_zero, List.getElem?_cons_succ] at d0 d1 d2); obtain ⟨fn, tmps, assign, body, hy, hR⟩ := hY pre p _ hJ2 hlt; (simp only [ptV] at hR hy); clear hJ2 hbA hb1)
            | ((try refine ⟨trivial, ?_⟩); (try refine ⟨fun h => (by cases h), ?_⟩); refine hR.mono ?_; clear hR; rintro e W3 (⟨rfl, hJ3, hk3⟩ | ⟨rfl, hx3⟩); (all_goals (try (have hBt3 := hk3.blk hBt2 (.inr rfl); have x3 := hBt3.cell 0; have hp3 := hk3.blk hpb (.inl rfl); have c3 := hp3.cell 2; (simp only [List.getElem?_toArray, List.getElem?_cons_zero, List.getElem?_cons_succ] at x3 c3))))))
          · refine bodyPost_ret (results_none rfl _ _ _) rfl ?_
            exact ⟨⟨_, rfl⟩, .inl ⟨_, rfl, by have := hJ3; rw [HR1.out] at this; exact this⟩⟩
          · refine bodyPost_ret (results_none rfl _ _ _) rfl ?_
            exact ⟨⟨_, rfl⟩, .inr ⟨pre ++ [p], by rw [HR1.out]; exact List.prefix_refl _, hx3⟩⟩
        · have n2 : ((E : Int) == (s.size : Int)) = false := by rw [beq_eq_false_iff_ne]; omega
          have hEl : E < s.size := by omega
          have hb := bt46_of s E hEl
          have k1 : (0 : Int) ≤ (E : Int) := by omega
          have k2 : (E : Int) < (s.size : Int) := by omega
          have k3 : IntKind.i64.wrap ((E : Int) + 1) = (E : Int) + 1 := IntWalk.i64_in _ (by omega)
          have k4 : IntKind.i64.wrap ((c : Int) + 1) = (c : Int) + 1 := IntWalk.i64_in _ (by omega)
          obtain ⟨b, hbv⟩ : ∃ b, bt46 s E = b := ⟨_, rfl⟩
          rw [hbv] at hb
          have HQ1 := Lib.hid q1
          have HQ2 := Lib.hid q2
          have HBV := Lib.hid hbv
          clear q1 hbv
          by_cases q3 : b = 46
          · have n3 : (b != 46) = false := by rw [q3]; rfl
            have HR1 : Hid (pre ++ [p] ++ partsL s (8 - c) (E + 1) (c + 1) = PS s) := Lib.hid (by have := HPS.out; rw [if_neg (fun h => h HQ1.out), if_neg HQ2.out, if_neg (fun h => h (by rw [HBV.out]; exact q3))] at this; rw [List.append_assoc]; exact this)
            clear q3
            gi_wp2_with (first
              | ((try refine ⟨trivial, ?_⟩); (try refine ⟨fun h => (by cases h), ?_⟩); gi_at_call 76; refine (callsIn_wide.2 (lfirst_is s ha (by omega) hc)).mono ?_; rintro e W1 ⟨rfl, hb1⟩; rw [HP.out, HE.out]; simp only [ptV]; have hbA := hb1.alloc hb1.size (.cells #[.int .i64 p.o, .int .i64 p.a, .int .i64 p.e] 126); have hJ2 := hab pre wr _ none hJ (grown_none hbA) (fun r e => by cases e); have hBt2 := hBt.next hbA hBt.lt; have hpb := Blk.new W1 126 #[.int .i64 p.o, .int .i64 p.a, .int .i64 p.e]; have d0 := hpb.cell 0; have d1 := hpb.cell 1; have d2 := hpb.cell 2; (simp only [List.getElem?_toArray, List.getElem?_cons_zero, List.getElem?_cons_succ] at d0 d1 d2); obtain ⟨fn, tmps, assign, body, hy, hR⟩ := hY pre p _ hJ2 hlt; (simp only [ptV] at hR hy); clear hJ2 hbA hb1)
              | ((try refine ⟨trivial, ?_⟩); (try refine ⟨fun h => (by cases h), ?_⟩); refine hR.mono ?_; clear hR; rintro e W3 (⟨rfl, hJ3, hk3⟩ | ⟨rfl, hx3⟩); (all_goals (try (have hBt3 := hk3.blk hBt2 (.inr rfl); have x3 := hBt3.cell 0; have hp3 := hk3.blk hpb (.inl rfl); have c3 := hp3.cell 2; (simp only [List.getElem?_toArray, List.getElem?_cons_zero, List.getElem?_cons_succ] at x3 c3))))))
            · go_roundw
              case rel => exact ⟨E + 1, c + 1, pre ++ [p], by go_num, by go_num, by omega, by omega, by omega, by rw [show 9 - (c + 1) = 8 - c by omega]; exact HR1.out, hJ3, hBt3⟩
              case measure => simp [intOf]; omega
            · refine bodyPost_ret (results_none rfl _ _ _) rfl ?_
              exact ⟨⟨_, rfl⟩, .inr ⟨pre ++ [p], ⟨_, HR1.out⟩, hx3⟩⟩
          · have n3 : (b != 46) = true := by rw [bne_iff_ne]; exact q3
            have HR1 : Hid (pre ++ [p] ++ [⟨0, (E : Int), 6⟩] = PS s) := Lib.hid (by have := HPS.out; rw [if_neg (fun h => h HQ1.out), if_neg HQ2.out, if_pos (by rw [HBV.out]; exact q3)] at this; rw [List.append_assoc]; exact this)
            have hlt2 : (pre ++ [p]).length < (PS s).length := by rw [← HR1.out]; simp
            clear q3
            have ONCE : True := trivial
            gi_wp2_with (first
              | ((try refine ⟨trivial, ?_⟩); (try refine ⟨fun h => (by cases h), ?_⟩); gi_at_call 76; refine (callsIn_wide.2 (lfirst_is s ha (by omega) hc)).mono ?_; rintro e W1 ⟨rfl, hb1⟩; rw [HP.out, HE.out]; simp only [ptV]; have hbA := hb1.alloc hb1.size (.cells #[.int .i64 p.o, .int .i64 p.a, .int .i64 p.e] 126); have hJ2 := hab pre wr _ none hJ (grown_none hbA) (fun r e => by cases e); have hBt2 := hBt.next hbA hBt.lt; have hpb := Blk.new W1 126 #[.int .i64 p.o, .int .i64 p.a, .int .i64 p.e]; have d0 := hpb.cell 0; have d1 := hpb.cell 1; have d2 := hpb.cell 2; (simp only [List.getElem?_toArray, List.getElem?_cons_zero, List.getElem?_cons_succ] at d0 d1 d2); obtain ⟨fn, tmps, assign, body, hy, hR⟩ := hY pre p _ hJ2 hlt; (simp only [ptV] at hR hy); clear hJ2 hbA hb1)
              | (clear ONCE; (try refine ⟨trivial, ?_⟩); (try refine ⟨fun h => (by cases h), ?_⟩); refine hR.mono ?_; clear hR; rintro e W3 (⟨rfl, hJ3, hk3⟩ | ⟨rfl, hx3⟩); (all_goals (try (have hBt3 := hk3.blk hBt2 (.inr rfl); have x3 := hBt3.cell 0; have hp3 := hk3.blk hpb (.inl rfl); have c3 := hp3.cell 2; obtain ⟨fn2, tmps2, assign2, body2, hy2, hR2⟩ := hY (pre ++ [p]) ⟨0, (E : Int), 6⟩ W3 hJ3 hlt2; (simp only [ptV] at hR2 hy2); (simp only [List.getElem?_toArray, List.getElem?_cons_zero, List.getElem?_cons_succ] at x3 c3)))))
              | ((try refine ⟨trivial, ?_⟩); (try refine ⟨fun h => (by cases h), ?_⟩); refine hR2.mono ?_; clear hR2; rintro e W4 (⟨rfl, hJ4, hk4⟩ | ⟨rfl, hx4⟩)))
            · refine bodyPost_ret (results_none rfl _ _ _) rfl ?_
              exact ⟨⟨_, rfl⟩, .inl ⟨_, rfl, by have := hJ4; rw [HR1.out] at this; exact this⟩⟩
            · refine bodyPost_ret (results_none rfl _ _ _) rfl ?_
              exact ⟨⟨_, rfl⟩, .inr ⟨_, by rw [HR1.out]; exact List.prefix_refl _, hx4⟩⟩
            · refine bodyPost_ret (results_none rfl _ _ _) rfl ?_
              exact ⟨⟨_, rfl⟩, .inr ⟨pre ++ [p], ⟨_, HR1.out⟩, hx3⟩⟩
      · have n1 : (p.e != 0) = true := by rw [bne_iff_ne]; exact q1
        have HR1 : Hid (pre ++ [p] = PS s) := Lib.hid (by have := HPS.out; rw [if_pos q1] at this; exact this)
        clear q1
        gi_wp2_with (first
          | ((try refine ⟨trivial, ?_⟩); (try refine ⟨fun h => (by cases h), ?_⟩); gi_at_call 76; refine (callsIn_wide.2 (lfirst_is s ha (by omega) hc)).mono ?_; rintro e W1 ⟨rfl, hb1⟩; rw [HP.out, HE.out]; simp only [ptV]; have hbA := hb1.alloc hb1.size (.cells #[.int .i64 p.o, .int .i64 p.a, .int .i64 p.e] 126); have hJ2 := hab pre wr _ none hJ (grown_none hbA) (fun r e => by cases e); have hBt2 := hBt.next hbA hBt.lt; have hpb := Blk.new W1 126 #[.int .i64 p.o, .int .i64 p.a, .int .i64 p.e]; have d0 := hpb.cell 0; have d1 := hpb.cell 1; have d2 := hpb.cell 2; (simp only [List.getElem?_toArray, List.getElem?_cons_zero, List.getElem?_cons_succ] at d0 d1 d2); obtain ⟨fn, tmps, assign, body, hy, hR⟩ := hY pre p _ hJ2 hlt; (simp only [ptV] at hR hy); clear hJ2 hbA hb1)
          | ((try refine ⟨trivial, ?_⟩); (try refine ⟨fun h => (by cases h), ?_⟩); refine hR.mono ?_; clear hR; rintro e W3 (⟨rfl, hJ3, hk3⟩ | ⟨rfl, hx3⟩); (all_goals (try (have hBt3 := hk3.blk hBt2 (.inr rfl); have x3 := hBt3.cell 0; have hp3 := hk3.blk hpb (.inl rfl); have c3 := hp3.cell 2; (simp only [List.getElem?_toArray, List.getElem?_cons_zero, List.getElem?_cons_succ] at x3 c3))))))
        · refine bodyPost_ret (results_none rfl _ _ _) rfl ?_
          exact ⟨⟨_, rfl⟩, .inl ⟨_, rfl, by have := hJ3; rw [HR1.out] at this; exact this⟩⟩
        · refine bodyPost_ret (results_none rfl _ _ _) rfl ?_
          exact ⟨⟨_, rfl⟩, .inr ⟨pre ++ [p], by rw [HR1.out]; exact List.prefix_refl _, hx3⟩⟩
end Go.Proofs.Ytmjkcanjfjfkfaa
namespace Go.Proofs.Ytmjkcanjfjfkfaa
open Go.RowKit Go.Shelf
set_option linter.unusedSimpArgs false
set_option linter.unusedVariables false
attribute [local go_sem] Oper.semAt_some
theorem parts_in (F : Fence) (n : Nat) (h4 : F.fn 66) (hro : F.round = none) (s : ByteArray) (w : World) :
    CallsIn F n Try.prog 66 #[.string s] w fun e w' => e = .returned (.func (.func 75) #[] #[.pointer (some ⟨w.heap.size, 0, none⟩)]) ∧ w' = w.alloc (.cells #[.string s] 9) := by
  refine callsIn_of_wp Try.func66 rfl h4 ?_ hro
  simp only [Try.ntmps66, List.size_toArray, List.length_cons, List.length_nil, Nat.reduceAdd, Nat.reduceSub, Array.replicate_succ, Array.replicate_zero, List.push_toArray, List.append_toArray, List.nil_append, List.cons_append]
  gi_wp2
  go_ret
  exact ⟨rfl, rfl⟩
theorem parts_stops (n Bt : Nat) (s : ByteArray) (w : World) (hBt : Blk w Bt 9 #[.string s]) :
    SeqStopsK Fence.wide n Try.prog 75 #[.pointer (some ⟨Bt, 0, none⟩)] (fun x : Pt => #[ptV x]) KpL (fun ys => ys = PS s) (fun pre => pre <+: PS s) (PS s).length w := fun l J Jx W hW hab _ hY h0 =>
  parts1_in n l Bt s J Jx W hab hY W (hBt.next hW hBt.lt) h0
theorem KpL.putObj {W : World} {l : Nat} {o o' : Obj} (h : W.heap[l]? = some o) (ho : o.isCells = false) : KpL W (W.putObj l o') :=
  ⟨(grownBy_putObj' W l o').size, fun i cs e fr h1 _ => ((grownBy_putObj' W l o').block i (Array.getElem?_eq_some_iff.1 h1).1 (fun e1 => by
    injection e1 with e1
    subst e1
    rw [h] at h1
    injection h1 with h1
    subst h1
    cases ho)).trans h1⟩
theorem blk_own {B : Nat} {W W' : World} {row : Option Nat} {g t : Nat} {cs : Array Value} (h : Blk W g t cs) (hg : W.grownBy W' row) (hr : ∀ r, row = some r → B ≤ r ∧ ∃ o : Obj, W.heap[r]? = some o ∧ o.isCells = false) : Blk W' g t cs :=
  h.grown hg (fun e => by
    obtain ⟨_, o, ho, hc⟩ := hr g e.symm
    unfold Blk at h
    rw [h] at ho
    injection ho with ho
    subst ho
    cases hc)
def ResI (w : World) (c2 c3 c4 : Value) (W : World) : Prop := Blk W w.heap.size 39 #[c2] ∧ Blk W (w.heap.size + 1) 3 #[c3] ∧ Blk W (w.heap.size + 1 + 1) 29 #[c4] ∧ Below w.heap.size w W
theorem ResI.own {B : Nat} {w W W' : World} {row : Option Nat} {c2 c3 c4 : Value} (h : ResI w c2 c3 c4 W) (hB : w.heap.size ≤ B) (hg : W.grownBy W' row) (hr : ∀ r, row = some r → B ≤ r ∧ ∃ o : Obj, W.heap[r]? = some o ∧ o.isCells = false) : ResI w c2 c3 c4 W' := by
  obtain ⟨h1, h2, h3, h4⟩ := h
  refine ⟨blk_own h1 hg hr, blk_own h2 hg hr, blk_own h3 hg hr, ?_⟩
  exact h4.trans ⟨hg.os, hg.tape, hg.output, hg.size, fun i hi => hg.block i (Nat.lt_of_lt_of_le hi h4.size) (fun e => by have := (hr i e.symm).1; omega)⟩
theorem ResI.drew {w W : World} {c2 c3 c4 : Value} (h : ResI w c2 c3 c4 W) : ResI w c2 c3 c4 W.drew := ⟨h.1, h.2.1, h.2.2.1, h.2.2.2.drew⟩
theorem ResI.put3 {w W : World} {c2 c3 c4 : Value} (h : ResI w c2 c3 c4 W) (v2 v3 v4 : Value) : ResI w v2 v3 v4 (((W.setCell ⟨w.heap.size, 0, none⟩ v2).setCell ⟨w.heap.size + 1, 0, none⟩ v3).setCell ⟨w.heap.size + 1 + 1, 0, none⟩ v4) ∧
    KeepsOthers W (((W.setCell ⟨w.heap.size, 0, none⟩ v2).setCell ⟨w.heap.size + 1, 0, none⟩ v3).setCell ⟨w.heap.size + 1 + 1, 0, none⟩ v4) := by
  obtain ⟨h1, h2, h3, h4⟩ := h
  have g := fun (W : World) (n : Nat) (v : Value) => (show W.grownBy (W.setCell ⟨n, 0, none⟩ v) (some n) from only_setCell (only_of_below (Below.refl _ _) _) (.inl rfl) v)
  refine ⟨⟨((h1.set_ 0 v2).grown (g _ _ v3) (by simp)).grown (g _ _ v4) (by simp; omega), ((h2.grown (g _ _ v2) (by simp)).set_ 0 v3).grown (g _ _ v4) (by simp), ((h3.grown (g _ _ v2) (by simp; omega)).grown (g _ _ v3) (by simp)).set_ 0 v4, ?_⟩, ((KeepsOthers.setCell _ _ _).trans (KeepsOthers.setCell _ _ _)).trans (KeepsOthers.setCell _ _ _)⟩
  exact ((h4.setCell (p := ⟨w.heap.size, 0, none⟩) (Nat.le_refl _) v2).setCell (p := ⟨w.heap.size + 1, 0, none⟩) (by simp) v3).setCell (p := ⟨w.heap.size + 1 + 1, 0, none⟩) (by simp; omega) v4
def ParI (w : World) (pre : List Pt) (W : World) : Prop := (∀ p ∈ pre, p.e = 0) ∧ ResI w (.string ⟨#[]⟩) (.int .i64 0) (.int .i64 0) W
def ParX (w : World) (c : Code) (pre : List Pt) (W : World) : Prop := c = .ret ∧ ∃ p ∈ pre, p.e ≠ 0 ∧ ResI w (.string ⟨#[]⟩) (.int .i64 p.a) (.int .i64 p.e) W
def ParseP (s : ByteArray) (w : World) (e : Ending) (w' : World) : Prop := Below w.heap.size w w' ∧ ∃ (v1 v2 : Value) (E : Int), e = .returned (.tuple #[v1, v2, .int .i64 E]) ∧ (E = 0 ↔ ∀ p ∈ PS s, p.e = 0)
def PARW (w : World) (s : ByteArray) : World := (((w.alloc (.cells #[.string ⟨#[]⟩] 39)).alloc (.cells #[.int .i64 0] 3)).alloc (.cells #[.int .i64 0] 29)).alloc (.cells #[.string s] 9)
theorem parw_start (w : World) (s : ByteArray) : ResI w (.string ⟨#[]⟩) (.int .i64 0) (.int .i64 0) (PARW w s) ∧ Blk (PARW w s) (w.heap.size + 1 + 1 + 1) 9 #[.string s] ∧ (PARW w s).heap.size = w.heap.size + 1 + 1 + 1 + 1 := by
  have b1 := Blk.new w 39 #[.string ⟨#[]⟩]
  have b2 := Blk.new (w.alloc (.cells #[.string ⟨#[]⟩] 39)) 3 #[.int .i64 0]
  have b3 := Blk.new ((w.alloc (.cells #[.string ⟨#[]⟩] 39)).alloc (.cells #[.int .i64 0] 3)) 29 #[.int .i64 0]
  have b4 := Blk.new (((w.alloc (.cells #[.string ⟨#[]⟩] 39)).alloc (.cells #[.int .i64 0] 3)).alloc (.cells #[.int .i64 0] 29)) 9 #[.string s]
  simp only [World.size_alloc] at b2 b3 b4
  have al := fun (W : World) (o : Obj) => (Below.refl W.heap.size W).alloc (Nat.le_refl _) o
  refine ⟨⟨((b1.next (al _ _) b1.lt).next (al _ _) (b1.next (al _ _) b1.lt).lt).next (al _ _) ((b1.next (al _ _) b1.lt).next (al _ _) (b1.next (al _ _) b1.lt).lt).lt, (b2.next (al _ _) b2.lt).next (al _ _) (b2.next (al _ _) b2.lt).lt, b3.next (al _ _) b3.lt, ?_⟩, b4, by simp [PARW]⟩
  exact ((((Below.refl _ _).alloc (Nat.le_refl _) _).alloc (by simp) _).alloc (by simp; omega) _).alloc (by simp; omega) _
set_option maxRecDepth 100000 in
set_option maxHeartbeats 4000000 in
theorem parse_is (s : ByteArray) (w : World) : Calls Try.prog 52 #[.string s] w (ParseP s w) := by
  obtain ⟨hR0, hBt, hSz⟩ := parw_start w s
  refine (callsIn_wide (n := 6)).1 ?_
  refine callsIn_of_wp_marks Try.func52 rfl trivial ?_ rfl
  simp only [Try.ntmps52, List.size_toArray, List.length_cons, List.length_nil, Nat.reduceAdd, Nat.reduceSub, Array.replicate_succ, Array.replicate_zero, List.push_toArray, List.append_toArray, List.nil_append, List.cons_append]
  gi_wp2_with ((try refine ⟨trivial, ?_⟩); gi_at_call 66; refine (parts_in Fence.wide _ trivial rfl _ _).mono ?_; rintro e w' ⟨rfl, rfl⟩)
  refine wpIn_rangeFunc_ownH (w := PARW w s) rfl (by omega) (gf := 75) (lb := #[.pointer (some ⟨w.heap.size + 1 + 1 + 1, 0, none⟩)]) rfl trivial (enters_of Try.func75 (by kernel_rfl) rfl)
    (parts_stops _ _ s (PARW w s) hBt) (fun h k => h.trans k) (fun W l o o' _ h1 h2 _ => KpL.putObj h1 h2) (Below.refl _ _) (fun _ => rfl)
    (ParI w) (ParX w) (fun pre W W' row h hg hr => ⟨h.1, h.2.own (by rw [hSz]; omega) hg hr⟩) (fun c pre W W' row h hg hr => by
      obtain ⟨h1, p, hp, h2, h3⟩ := h
      exact ⟨h1, p, hp, h2, h3.own (by rw [hSz]; omega) hg hr⟩)
    ⟨fun p h => (by cases h), hR0⟩
    (fun x a' W => ∃ pb, a' = { tmps := #[.string s, undef, .pointer (some ⟨w.heap.size, 0, none⟩), .pointer (some ⟨w.heap.size + 1, 0, none⟩), .pointer (some ⟨w.heap.size + 1 + 1, 0, none⟩), .pointer (some ⟨pb, 0, none⟩), .string s, .func (.func 75) #[] #[.pointer (some ⟨w.heap.size + 1 + 1 + 1, 0, none⟩)], .agg #[.int .i64 x.o, .int .i64 x.a, .int .i64 x.e], undef, undef, undef, undef, undef, undef, undef, undef], defers := [] } ∧ Blk W pb 126 #[.int .i64 x.o, .int .i64 x.a, .int .i64 x.e]) (fun x a' _ W W' row h hg hr => by
      obtain ⟨pb, h1, h2⟩ := h
      exact ⟨pb, h1, blk_own h2 hg hr⟩) ?assign ?body ?done ?stop
  case assign =>
    intro l pre x W K hI hK
    have hb := Blk.new W 126 #[.int .i64 x.o, .int .i64 x.a, .int .i64 x.e]
    have hal := (Below.refl W.heap.size W).alloc (Nat.le_refl _) (.cells #[.int .i64 x.o, .int .i64 x.a, .int .i64 x.e] 126)
    simp only [ptV]
    gi_wp2
    exact hK _ _ ((KeepsOthers.alloc W _).from _) (KpL.below hal) ⟨hI.1, hI.2.own (Nat.le_refl _) (grown_none hal) (fun r e => by cases e)⟩ ⟨W.heap.size, rfl, hb⟩
  case body =>
    rintro l pre x a' W hwl hr ⟨hI1, hI2⟩ ⟨pb, rfl, hb⟩ hlt
    obtain ⟨r2, r3, r4, hbw⟩ := id hI2
    have c1 := hb.cell 1
    have c2 := hb.cell 2
    have z2 := r2.cell 0
    have z3 := r3.cell 0
    have z4 := r4.cell 0
    have f2 := r2.frozen 0
    have f3 := r3.frozen 0
    have f4 := r4.frozen 0
    simp only [List.getElem?_toArray, List.getElem?_cons_zero, List.getElem?_cons_succ] at c1 c2 z2 z3 z4
    by_cases hx : x.e = 0
    · have n1 : (x.e != 0) = false := by rw [hx]; rfl
      have HX := Lib.hid hx
      clear hx
      gi_wp2
      refine ⟨KeepsFrom.refl _ _, KpL.refl _, fun p hp => ?_, hI2⟩
      rcases List.mem_append.1 hp with h | h
      · exact hI1 p h
      · rw [List.mem_singleton] at h; rw [h]; exact HX.out
    · have n1 : (x.e != 0) = true := by rw [bne_iff_ne]; exact hx
      have HX := Lib.hid hx
      clear hx
      gi_wp2
      obtain ⟨hr3, hk3⟩ := hI2.put3 (.string ⟨#[]⟩) (.int .i64 x.a) (.int .i64 x.e)
      have HR3 := Lib.hid hr3
      have HK3 := Lib.hid hk3
      clear hr3 hk3
      gi_region
      all_goals gi_wp2
      all_goals exact ⟨(HK3.out.trans (KeepsOthers.drew _)).from _, rfl, x, by simp, HX.out, HR3.out.drew⟩
  case done =>
    rintro D ys W hD rfl ⟨hI1, hI2⟩ hK
    obtain ⟨r2, r3, r4, hbw⟩ := id hI2
    have z2 := r2.cell 0
    have z3 := r3.cell 0
    have z4 := r4.cell 0
    have f2 := r2.frozen 0
    have f3 := r3.frozen 0
    have f4 := r4.frozen 0
    simp only [List.getElem?_toArray, List.getElem?_cons_zero, List.getElem?_cons_succ] at z2 z3 z4
    obtain ⟨hr3, hk3⟩ := hI2.put3 (.string s) (.int .i64 0) (.int .i64 0)
    have HR3 := Lib.hid hr3
    have hK2 := hk3.same D _ hK rfl
    have HK2 := Lib.hid hK2
    have HI1 := Lib.hid hI1
    clear hr3 hk3 hK2 hI1
    gi_wp2
    have hK2 := HK2.out
    refine ⟨by simp, .inl ⟨_, _, rfl, run_takeDeferred hK2, ?_⟩⟩
    have hD2 : w.heap.size + 1 + 1 < D := by rw [hSz] at hD; omega
    have hgp := grownBy_putObj' (((W.setCell ⟨w.heap.size, 0, none⟩ (.string s)).setCell ⟨w.heap.size + 1, 0, none⟩ (.int .i64 0)).setCell ⟨w.heap.size + 1 + 1, 0, none⟩ (.int .i64 0)) D (.deferred none)
    have hrp : ∀ r, some D = some r → w.heap.size ≤ r ∧ ∃ o : Obj, ((((W.setCell ⟨w.heap.size, 0, none⟩ (.string s)).setCell ⟨w.heap.size + 1, 0, none⟩ (.int .i64 0)).setCell ⟨w.heap.size + 1 + 1, 0, none⟩ (.int .i64 0))).heap[r]? = some o ∧ o.isCells = false := fun r e => by injection e with e; subst e; exact ⟨by omega, _, hK2, rfl⟩
    have hI4 := HR3.out.own (Nat.le_refl _) hgp hrp
    have y2 := hI4.1.cell 0
    have y3 := hI4.2.1.cell 0
    have y4 := hI4.2.2.1.cell 0
    simp only [List.getElem?_toArray, List.getElem?_cons_zero, List.getElem?_cons_succ] at y2 y3 y4
    refine ⟨.tuple #[.string s, .int .i64 0, .int .i64 0], by simp [results, Try.results52, go_sem, y2, y3, y4], hI4.2.2.2, _, _, 0, rfl, ⟨fun _ => HI1.out, fun _ => rfl⟩⟩
  case stop =>
    rintro D c pre W hD hpre ⟨rfl, p, hp, hpe, hI2⟩ hK
    have HI2 := Lib.hid hI2
    have HK2 := Lib.hid hK
    have HPE := Lib.hid hpe
    have HPP := Lib.hid (hpre.subset hp)
    clear hI2 hK hpe hpre hp
    gi_wp2
    have hK2 := HK2.out
    refine ⟨by simp, .inl ⟨_, _, rfl, run_takeDeferred hK2, ?_⟩⟩
    have hD2 : w.heap.size + 1 + 1 < D := by rw [hSz] at hD; omega
    have hgp := grownBy_putObj' W D (.deferred none)
    have hrp : ∀ r, some D = some r → w.heap.size ≤ r ∧ ∃ o : Obj, (W).heap[r]? = some o ∧ o.isCells = false := fun r e => by injection e with e; subst e; exact ⟨by omega, _, hK2, rfl⟩
    have hI4 := HI2.out.own (Nat.le_refl _) hgp hrp
    have y2 := hI4.1.cell 0
    have y3 := hI4.2.1.cell 0
    have y4 := hI4.2.2.1.cell 0
    simp only [List.getElem?_toArray, List.getElem?_cons_zero, List.getElem?_cons_succ] at y2 y3 y4
    refine ⟨.tuple #[.string ⟨#[]⟩, .int .i64 p.a, .int .i64 p.e], by simp [results, Try.results52, go_sem, y2, y3, y4], hI4.2.2.2, _, _, p.e, rfl, ⟨fun h => absurd h HPE.out, fun h => absurd (h p HPP.out) HPE.out⟩⟩
end Go.Proofs.Ytmjkcanjfjfkfaa
