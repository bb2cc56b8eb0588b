/- Walks of layer 54: files, equal slices. -/
import Derived.Test.YtamjllakfgphnaaGreatDoorW94
import Derived.Test.YtamjllakfgphnaaGreatDoorW73
import Derived.Test.YtamjllakfgphnaaGreatDoorW91
namespace Go.Proofs.YtamjllakfgphnaaGreatDoor
open Go.RowKit
set_option linter.unusedSimpArgs false
set_option linter.unusedVariables false
attribute [local go_sem ↓] Go.wp_at_zero Go.wp_at_succ
theorem within_f (n m : Int) (w : World) (h : ¬ (0 ≤ n ∧ n ≤ m)) : Calls Tryz.prog 29 #[.int .i64 n, .int .i64 m] w fun e w' => e = .returned (.bool false) ∧ w = w' := by
  by_cases h1 : 0 ≤ n
  · have h2 : ¬ n ≤ m := fun e => h ⟨h1, e⟩
    have e1 : decide ((0 : Int) ≤ n) = true := decide_eq_true h1
    have e2 : decide (n ≤ m) = false := decide_eq_false h2
    clear h
    go_enter Tryz.func29, Tryz.ntmps29
    go_wp2
    go_ret
    exact ⟨rfl, rfl⟩
  · have e1 : decide ((0 : Int) ≤ n) = false := decide_eq_false h1
    clear h
    go_enter Tryz.func29, Tryz.ntmps29
    go_wp2
    go_ret
    exact ⟨rfl, rfl⟩
def chkB (s : ByteArray) (m : Int) : Int := if okP s = true then (if 0 ≤ m ∧ m ≤ 1073741824 then 0 else 2) else 12
set_option maxRecDepth 100000 in
theorem bcheck_is (s : ByteArray) (m : Int) (w : World) : Calls Tryz.prog 9 #[.agg #[.string s, .int .i64 m]] w fun e w' => e = .returned (.int .i64 (chkB s m)) ∧ Below w.heap.size w w' := by
  have ha := (Below.refl w.heap.size w).alloc (Nat.le_refl _) (.cells #[.string s, .int .i64 m] 24)
  have z := Blk.new w 24 #[.string s, .int .i64 m]
  have x0 := z.cell 0
  simp only [List.getElem?_toArray, List.getElem?_cons_zero, List.getElem?_cons_succ] at x0
  have HA := Lib.hid ha
  have Z := Lib.hid z
  clear ha z
  obtain ⟨q, hq⟩ : ∃ q, okP s = q := ⟨_, rfl⟩
  have HQ := Lib.hid hq
  clear hq
  go_enter Tryz.func9, Tryz.ntmps9
  go_wp2_with fail
  go_at_call 28
  refine (valid_is s _).mono ?_
  rintro e w2 ⟨rfl, hb2⟩
  rw [HQ.out]
  have HB2 := Lib.hid (HA.out.trans (hb2.mono HA.out.size))
  have Z2 := Z.out.next hb2 Z.out.lt
  have x1 := Z2.cell 1
  simp only [List.getElem?_toArray, List.getElem?_cons_zero, List.getElem?_cons_succ] at x1
  clear hb2 x0 Z2
  cases q with
  | false =>
    have HC := Lib.hid (show chkB s m = 12 by unfold chkB; rw [HQ.out]; rfl)
    go_wp2_with fail
    go_ret
    exact ⟨by rw [HC.out]; rfl, HB2.out⟩
  | true =>
    by_cases h : 0 ≤ m ∧ m ≤ 1073741824
    · have HC := Lib.hid (show chkB s m = 0 by unfold chkB; rw [HQ.out, if_pos rfl, if_pos h])
      obtain ⟨h0, h1⟩ := h
      go_wp2_with fail
      go_at_call 29
      refine (within_t _ _ _ h0 h1).mono ?_
      rintro e w3 ⟨rfl, rfl⟩
      go_wp2_with fail
      go_ret
      exact ⟨by rw [HC.out]; rfl, HB2.out⟩
    · have HC := Lib.hid (show chkB s m = 2 by unfold chkB; rw [HQ.out, if_pos rfl, if_neg h])
      go_wp2_with fail
      go_at_call 29
      refine (within_f _ _ _ h).mono ?_
      rintro e w3 ⟨rfl, rfl⟩
      go_wp2_with fail
      go_ret
      exact ⟨by rw [HC.out]; rfl, HB2.out⟩
/-- The object of a block of a file. -/
def blkV (s : ByteArray) (m i : Int) : Value := .agg #[.int .i64 8, .string s, .int .i64 m, .int .i64 i, .string ⟨#[]⟩]
theorem ofbirth_is (k m : Int) (s : ByteArray) (w : World) : Calls Tryz.prog 33 #[.int .i64 k, .agg #[.string s, .int .i64 m]] w fun e w' => e = .returned (.agg #[.int .i64 k, .string s, .int .i64 m, .int .i64 0, .string ⟨#[]⟩]) ∧ Below w.heap.size w w' := by
  go_enter Tryz.func33, Tryz.ntmps33
  go_wp2
  exact bodyPost_ret (v := .agg #[.int .i64 k, .string s, .int .i64 m, .int .i64 0, .string ⟨#[]⟩]) (by simp [results, Tryz.results33, go_sem]) rfl ⟨rfl, ((Below.refl _ _).alloc (Nat.le_refl _) _).alloc (by simp) _⟩
theorem ofblock_is (s : ByteArray) (m i : Int) (w : World) : Calls Tryz.prog 12 #[.agg #[.string s, .int .i64 m], .int .i64 i] w fun e w' => e = .returned (blkV s m i) ∧ Below w.heap.size w w' := by
  go_enter Tryz.func12, Tryz.ntmps12
  go_wp2_with fail
  go_at_call 33
  refine (ofbirth_is 8 m s _).mono ?_
  rintro e w2 ⟨rfl, hb2⟩
  have HB := Lib.hid ((((Below.refl w.heap.size w).alloc (Nat.le_refl _) (.cells #[.string s, .int .i64 m] 24)).alloc (by simp) (.cells #[.int .i64 0, .string ⟨#[]⟩, .int .i64 0, .int .i64 0, .string ⟨#[]⟩] 26)).trans (hb2.mono (by simp; omega)))
  have z := (Blk.new (w.alloc (.cells #[.string s, .int .i64 m] 24)) 26 #[.int .i64 0, .string ⟨#[]⟩, .int .i64 0, .int .i64 0, .string ⟨#[]⟩]).next hb2 (by simp)
  rw [World.size_alloc] at z
  have hz2 : w.heap.size + 2 ≤ w2.heap.size := by have := hb2.size; simpa using this
  have hb2' := Lib.hid hb2
  clear hb2
  obtain ⟨pb, hpb⟩ : ∃ x, w.heap.size + 1 = x := ⟨_, rfl⟩
  have HPB := Lib.hid hpb
  rw [hpb] at z ⊢
  have hpl : pb < w2.heap.size := z.lt
  have hle : w.heap.size ≤ pb := by have := HPB.out; omega
  have n1 : ¬ pb = w2.heap.size := by omega
  have n2 : ¬ w2.heap.size = pb := by omega
  have c0 := z.cell 0
  have f0 := z.frozen 0
  have c1 := z.cell 1
  have f1 := z.frozen 1
  have c2 := z.cell 2
  have f2 := z.frozen 2
  have c3 := z.cell 3
  have f3 := z.frozen 3
  have c4 := z.cell 4
  have f4 := z.frozen 4
  simp only [List.getElem?_toArray, List.getElem?_cons_zero, List.getElem?_cons_succ] at c0 c1 c2 c3 c4
  have Z := Lib.hid z
  clear z hpb
  go_wp2_with fail
  have P0 := (Z.out).set_ 0 (.int .i64 8)
  have P1 := (P0).set_ 1 (.string s)
  have P2 := (P1).set_ 2 (.int .i64 m)
  have P3 := (P2).set_ 3 (.int .i64 i)
  have P4 := (P3).set_ 4 (.string ⟨#[]⟩)
  have PF := P4.alloc (.cells #[.int .i64 8, .string s, .int .i64 m, .int .i64 i, .string ⟨#[]⟩] 26)
  have q0 := PF.cell 0
  have q1 := PF.cell 1
  have q2 := PF.cell 2
  have q3 := PF.cell 3
  have q4 := PF.cell 4
  simp only [List.setIfInBounds_toArray, List.set_cons_zero, List.set_cons_succ, List.getElem?_toArray, List.getElem?_cons_zero, List.getElem?_cons_succ] at q0 q1 q2 q3 q4
  have HBE := Lib.hid ((((((HB.out.setCell (p := ⟨pb, 0, none⟩) hle (.int .i64 8)).setCell (p := ⟨pb, 1, none⟩) hle (.string s)).setCell (p := ⟨pb, 2, none⟩) hle (.int .i64 m)).setCell (p := ⟨pb, 3, none⟩) hle (.int .i64 i)).setCell (p := ⟨pb, 4, none⟩) hle (.string ⟨#[]⟩)).alloc (by simp; omega) (.cells #[.int .i64 8, .string s, .int .i64 m, .int .i64 i, .string ⟨#[]⟩] 26))
  exact bodyPost_ret (v := blkV s m i) (by simp [results, Tryz.results12, go_sem, q0, q1, q2, q3, q4, blkV]) rfl ⟨rfl, HBE.out⟩
def filR (s : ByteArray) (m a : Int) : Value × Int := if chkB s m = 0 then (if 0 ≤ a ∧ a < 4096 then (.agg #[.int .i64 8, .string s, .int .i64 m, .int .i64 (a / 64), .string ⟨#[]⟩, .int .i64 (a % 64)], 0) else (.agg #[.int .i64 0, .string ⟨#[]⟩, .int .i64 0, .int .i64 0, .string ⟨#[]⟩, .int .i64 0], 2)) else (.agg #[.int .i64 0, .string ⟨#[]⟩, .int .i64 0, .int .i64 0, .string ⟨#[]⟩, .int .i64 0], chkB s m)
set_option maxRecDepth 100000 in
theorem file_is (s : ByteArray) (m a : Int) (w : World) : Calls Tryz.prog 8 #[.agg #[.string s, .int .i64 m], .int .i64 a] w fun e w' => e = .returned (.tuple #[(filR s m a).1, .int .i64 (filR s m a).2]) ∧ Below w.heap.size w w' := by
  have ha := ((Below.refl w.heap.size w).alloc (Nat.le_refl _) (.cells #[.string s, .int .i64 m] 24)).alloc (by simp) (.cells #[.int .i64 0, .string ⟨#[]⟩, .int .i64 0, .int .i64 0, .string ⟨#[]⟩, .int .i64 0] 28)
  have zb := (Blk.new w 24 #[.string s, .int .i64 m]).alloc (.cells #[.int .i64 0, .string ⟨#[]⟩, .int .i64 0, .int .i64 0, .string ⟨#[]⟩, .int .i64 0] 28)
  have zp := Blk.new (w.alloc (.cells #[.string s, .int .i64 m] 24)) 28 #[.int .i64 0, .string ⟨#[]⟩, .int .i64 0, .int .i64 0, .string ⟨#[]⟩, .int .i64 0]
  rw [World.size_alloc] at zp
  have x0 := zb.cell 0
  have x1 := zb.cell 1
  simp only [List.getElem?_toArray, List.getElem?_cons_zero, List.getElem?_cons_succ] at x0 x1
  have HA := Lib.hid ha
  have ZB := Lib.hid zb
  have ZP := Lib.hid zp
  clear ha zb zp
  obtain ⟨ec, hec⟩ : ∃ q, chkB s m = q := ⟨_, rfl⟩
  have HEC := Lib.hid hec
  clear hec
  go_enter Tryz.func8, Tryz.ntmps8
  go_wp2_with fail
  generalize (w.alloc (.cells #[.string s, .int .i64 m] 24)).alloc (.cells #[.int .i64 0, .string ⟨#[]⟩, .int .i64 0, .int .i64 0, .string ⟨#[]⟩, .int .i64 0] 28) = W at *
  obtain ⟨pb, hpb⟩ : ∃ x, w.heap.size + 1 = x := ⟨_, rfl⟩
  have HPB := Lib.hid hpb
  rw [hpb] at ZP ⊢
  obtain ⟨sb, hsb⟩ : ∃ x, w.heap.size = x := ⟨_, rfl⟩
  have HSB := Lib.hid hsb
  rw [hsb] at ZB HA x0 x1 ⊢
  clear hpb hsb
  go_at_call 9
  refine (bcheck_is s m _).mono ?_
  rintro e w2 ⟨rfl, hb2⟩
  rw [HEC.out]
  have hlp : sb ≤ pb := by have := HPB.out; have := HSB.out; omega
  have HB2 := Lib.hid (HA.out.trans (hb2.mono (Nat.le_of_lt ZB.out.lt)))
  have ZB2 := Lib.hid (ZB.out.next hb2 ZB.out.lt)
  have ZP2 := Lib.hid (ZP.out.next hb2 ZP.out.lt)
  replace x0 := ZB2.out.cell 0
  replace x1 := ZB2.out.cell 1
  have c0 := ZP2.out.cell 0
  have f0 := ZP2.out.frozen 0
  have c1 := ZP2.out.cell 1
  have f1 := ZP2.out.frozen 1
  have c2 := ZP2.out.cell 2
  have f2 := ZP2.out.frozen 2
  have c3 := ZP2.out.cell 3
  have f3 := ZP2.out.frozen 3
  have c4 := ZP2.out.cell 4
  have f4 := ZP2.out.frozen 4
  have c5 := ZP2.out.cell 5
  have f5 := ZP2.out.frozen 5
  simp only [List.getElem?_toArray, List.getElem?_cons_zero, List.getElem?_cons_succ] at x0 x1 c0 c1 c2 c3 c4 c5
  clear hb2
  by_cases h0 : ec = 0
  · subst h0
    by_cases h1 : a < 0
    · have HR := Lib.hid (show filR s m a = (.agg #[.int .i64 0, .string ⟨#[]⟩, .int .i64 0, .int .i64 0, .string ⟨#[]⟩, .int .i64 0], 2) by unfold filR; rw [HEC.out, if_pos rfl, if_neg (by omega)])
      have d1 : decide (a < 0) = true := decide_eq_true h1
      go_wp2_with fail
      have P0 := (ZP2.out).set_ 0 (.int .i64 0)
      have P1 := (P0).set_ 1 (.string ⟨#[]⟩)
      have P2 := (P1).set_ 2 (.int .i64 0)
      have P3 := (P2).set_ 3 (.int .i64 0)
      have P4 := (P3).set_ 4 (.string ⟨#[]⟩)
      have P5 := (P4).set_ 5 (.int .i64 0)
      have q0 := P5.cell 0
      have q1 := P5.cell 1
      have q2 := P5.cell 2
      have q3 := P5.cell 3
      have q4 := P5.cell 4
      have q5 := P5.cell 5
      simp only [List.setIfInBounds_toArray, List.set_cons_zero, List.set_cons_succ, List.getElem?_toArray, List.getElem?_cons_zero, List.getElem?_cons_succ] at q0 q1 q2 q3 q4 q5
      have HBE := Lib.hid ((((((HB2.out.setCell (p := ⟨pb, 0, none⟩) hlp (.int .i64 0)).setCell (p := ⟨pb, 1, none⟩) hlp (.string ⟨#[]⟩)).setCell (p := ⟨pb, 2, none⟩) hlp (.int .i64 0)).setCell (p := ⟨pb, 3, none⟩) hlp (.int .i64 0)).setCell (p := ⟨pb, 4, none⟩) hlp (.string ⟨#[]⟩)).setCell (p := ⟨pb, 5, none⟩) hlp (.int .i64 0))
      exact bodyPost_ret (v := .tuple #[.agg #[.int .i64 0, .string ⟨#[]⟩, .int .i64 0, .int .i64 0, .string ⟨#[]⟩, .int .i64 0], .int .i64 2]) (by simp [results, Tryz.results8, go_sem, q0, q1, q2, q3, q4, q5]) rfl ⟨by rw [HR.out], by rw [HSB.out]; exact HBE.out⟩
    · have d1 : decide (a < 0) = false := decide_eq_false h1
      by_cases h2 : 4096 ≤ a
      · have HR := Lib.hid (show filR s m a = (.agg #[.int .i64 0, .string ⟨#[]⟩, .int .i64 0, .int .i64 0, .string ⟨#[]⟩, .int .i64 0], 2) by unfold filR; rw [HEC.out, if_pos rfl, if_neg (by omega)])
        have d2 : decide ((4096 : Int) ≤ a) = true := decide_eq_true h2
        go_wp2_with fail
        have P0 := (ZP2.out).set_ 0 (.int .i64 0)
        have P1 := (P0).set_ 1 (.string ⟨#[]⟩)
        have P2 := (P1).set_ 2 (.int .i64 0)
        have P3 := (P2).set_ 3 (.int .i64 0)
        have P4 := (P3).set_ 4 (.string ⟨#[]⟩)
        have P5 := (P4).set_ 5 (.int .i64 0)
        have q0 := P5.cell 0
        have q1 := P5.cell 1
        have q2 := P5.cell 2
        have q3 := P5.cell 3
        have q4 := P5.cell 4
        have q5 := P5.cell 5
        simp only [List.setIfInBounds_toArray, List.set_cons_zero, List.set_cons_succ, List.getElem?_toArray, List.getElem?_cons_zero, List.getElem?_cons_succ] at q0 q1 q2 q3 q4 q5
        have HBE := Lib.hid ((((((HB2.out.setCell (p := ⟨pb, 0, none⟩) hlp (.int .i64 0)).setCell (p := ⟨pb, 1, none⟩) hlp (.string ⟨#[]⟩)).setCell (p := ⟨pb, 2, none⟩) hlp (.int .i64 0)).setCell (p := ⟨pb, 3, none⟩) hlp (.int .i64 0)).setCell (p := ⟨pb, 4, none⟩) hlp (.string ⟨#[]⟩)).setCell (p := ⟨pb, 5, none⟩) hlp (.int .i64 0))
        exact bodyPost_ret (v := .tuple #[.agg #[.int .i64 0, .string ⟨#[]⟩, .int .i64 0, .int .i64 0, .string ⟨#[]⟩, .int .i64 0], .int .i64 2]) (by simp [results, Tryz.results8, go_sem, q0, q1, q2, q3, q4, q5]) rfl ⟨by rw [HR.out], by rw [HSB.out]; exact HBE.out⟩
      · have HR := Lib.hid (show filR s m a = (.agg #[.int .i64 8, .string s, .int .i64 m, .int .i64 (a / 64), .string ⟨#[]⟩, .int .i64 (a % 64)], 0) by unfold filR; rw [HEC.out, if_pos rfl, if_pos (by omega)])
        have d2 : decide ((4096 : Int) ≤ a) = false := decide_eq_false h2
        have hlw : sb ≤ w2.heap.size := Nat.le_of_lt ZB2.out.lt
        go_wp2_with fail
        go_at_call 12
        refine (ofblock_is s m _ _).mono ?_
        rintro e w3 ⟨rfl, hb3⟩
        have HB3 := Lib.hid (HB2.out.trans (hb3.mono hlw))
        have ZP3 := Lib.hid (ZP2.out.next hb3 ZP2.out.lt)
        replace c0 := ZP3.out.cell 0
        replace f0 := ZP3.out.frozen 0
        replace c1 := ZP3.out.cell 1
        replace f1 := ZP3.out.frozen 1
        replace c2 := ZP3.out.cell 2
        replace f2 := ZP3.out.frozen 2
        replace c3 := ZP3.out.cell 3
        replace f3 := ZP3.out.frozen 3
        replace c4 := ZP3.out.cell 4
        replace f4 := ZP3.out.frozen 4
        replace c5 := ZP3.out.cell 5
        replace f5 := ZP3.out.frozen 5
        simp only [List.getElem?_toArray, List.getElem?_cons_zero, List.getElem?_cons_succ] at c0 c1 c2 c3 c4 c5
        clear hb3
        simp only [blkV]
        go_wp2_with fail
        have P0 := (ZP3.out).set_ 0 (.int .i64 8)
        have P1 := (P0).set_ 1 (.string s)
        have P2 := (P1).set_ 2 (.int .i64 m)
        have P3 := (P2).set_ 3 (.int .i64 (a / 64))
        have P4 := (P3).set_ 4 (.string ⟨#[]⟩)
        have P5 := (P4).set_ 5 (.int .i64 (a % 64))
        have q0 := P5.cell 0
        have q1 := P5.cell 1
        have q2 := P5.cell 2
        have q3 := P5.cell 3
        have q4 := P5.cell 4
        have q5 := P5.cell 5
        simp only [List.setIfInBounds_toArray, List.set_cons_zero, List.set_cons_succ, List.getElem?_toArray, List.getElem?_cons_zero, List.getElem?_cons_succ] at q0 q1 q2 q3 q4 q5
        have HBE := Lib.hid ((((((HB3.out.setCell (p := ⟨pb, 0, none⟩) hlp (.int .i64 8)).setCell (p := ⟨pb, 1, none⟩) hlp (.string s)).setCell (p := ⟨pb, 2, none⟩) hlp (.int .i64 m)).setCell (p := ⟨pb, 3, none⟩) hlp (.int .i64 (a / 64))).setCell (p := ⟨pb, 4, none⟩) hlp (.string ⟨#[]⟩)).setCell (p := ⟨pb, 5, none⟩) hlp (.int .i64 (a % 64)))
        exact bodyPost_ret (v := .tuple #[.agg #[.int .i64 8, .string s, .int .i64 m, .int .i64 (a / 64), .string ⟨#[]⟩, .int .i64 (a % 64)], .int .i64 0]) (by simp [results, Tryz.results8, go_sem, q0, q1, q2, q3, q4, q5]) rfl ⟨by rw [HR.out], by rw [HSB.out]; exact HBE.out⟩
  · have HR := Lib.hid (show filR s m a = (.agg #[.int .i64 0, .string ⟨#[]⟩, .int .i64 0, .int .i64 0, .string ⟨#[]⟩, .int .i64 0], ec) by unfold filR; rw [HEC.out, if_neg h0])
    have d0 : (ec != 0) = true := by rw [bne_iff_ne]; exact h0
    have d0' : (ec == 0) = false := by rw [beq_eq_false_iff_ne]; exact h0
    clear h0
    go_wp2_with fail
    have P0 := (ZP2.out).set_ 0 (.int .i64 0)
    have P1 := (P0).set_ 1 (.string ⟨#[]⟩)
    have P2 := (P1).set_ 2 (.int .i64 0)
    have P3 := (P2).set_ 3 (.int .i64 0)
    have P4 := (P3).set_ 4 (.string ⟨#[]⟩)
    have P5 := (P4).set_ 5 (.int .i64 0)
    have q0 := P5.cell 0
    have q1 := P5.cell 1
    have q2 := P5.cell 2
    have q3 := P5.cell 3
    have q4 := P5.cell 4
    have q5 := P5.cell 5
    simp only [List.setIfInBounds_toArray, List.set_cons_zero, List.set_cons_succ, List.getElem?_toArray, List.getElem?_cons_zero, List.getElem?_cons_succ] at q0 q1 q2 q3 q4 q5
    have HBE := Lib.hid ((((((HB2.out.setCell (p := ⟨pb, 0, none⟩) hlp (.int .i64 0)).setCell (p := ⟨pb, 1, none⟩) hlp (.string ⟨#[]⟩)).setCell (p := ⟨pb, 2, none⟩) hlp (.int .i64 0)).setCell (p := ⟨pb, 3, none⟩) hlp (.int .i64 0)).setCell (p := ⟨pb, 4, none⟩) hlp (.string ⟨#[]⟩)).setCell (p := ⟨pb, 5, none⟩) hlp (.int .i64 0))
    exact bodyPost_ret (v := .tuple #[.agg #[.int .i64 0, .string ⟨#[]⟩, .int .i64 0, .int .i64 0, .string ⟨#[]⟩, .int .i64 0], .int .i64 ec]) (by simp [results, Tryz.results8, go_sem, q0, q1, q2, q3, q4, q5]) rfl ⟨by rw [HR.out], by rw [HSB.out]; exact HBE.out⟩
set_option maxRecDepth 100000 in
theorem tequal_is {w : World} {v1 v2 v3 u1 u2 u3 : Value} {a1 a2 b1 b2 : List Int} {a3 b3 : List Bs} (h1 : RdIn w v1 a1) (h2 : RdIn w v2 a2) (h3 : RdSt w v3 a3) (k1 : RdIn w u1 b1) (k2 : RdIn w u2 b2) (k3 : RdSt w u3 b3)
    (l1 : a1.length ≤ 1000000) (l2 : a2.length ≤ 1000000) (l3 : a3.length ≤ 1000000) (m1 : b1.length ≤ 1000000) (m2 : b2.length ≤ 1000000) (m3 : b3.length ≤ 1000000) :
    Calls Tryz.prog 11 #[.agg #[v1, v2, v3], .agg #[u1, u2, u3]] w fun e w' => e = .returned (.bool (decide (a1 = b1) && decide (a2 = b2) && decide (a3 = b3))) ∧ Below w.heap.size w w' := by
  have ha := ((Below.refl w.heap.size w).alloc (Nat.le_refl _) (.cells #[v1, v2, v3] 36)).alloc (by simp) (.cells #[u1, u2, u3] 36)
  have zx := (Blk.new w 36 #[v1, v2, v3]).alloc (.cells #[u1, u2, u3] 36)
  have zy := Blk.new (w.alloc (.cells #[v1, v2, v3] 36)) 36 #[u1, u2, u3]
  rw [World.size_alloc] at zy
  obtain ⟨A1, c1, rfl, _⟩ := RdP.form h1
  obtain ⟨A2, c2, rfl, _⟩ := RdP.form h2
  obtain ⟨A3, c3, rfl, _⟩ := RdP.form h3
  obtain ⟨B1, d1, rfl, _⟩ := RdP.form k1
  obtain ⟨B2, d2, rfl, _⟩ := RdP.form k2
  obtain ⟨B3, d3, rfl, _⟩ := RdP.form k3
  have H1 := Lib.hid (RdP.next h1 ha)
  have H2 := Lib.hid (RdP.next h2 ha)
  have H3 := Lib.hid (RdP.next h3 ha)
  have K1 := Lib.hid (RdP.next k1 ha)
  have K2 := Lib.hid (RdP.next k2 ha)
  have K3 := Lib.hid (RdP.next k3 ha)
  have HA := Lib.hid ha
  have ZX := Lib.hid zx
  have ZY := Lib.hid zy
  have x0 := zx.cell 0
  have y0 := zy.cell 0
  simp only [List.getElem?_toArray, List.getElem?_cons_zero, List.getElem?_cons_succ] at x0 y0
  obtain ⟨q1, hq1⟩ : ∃ q, decide (a1 = b1) = q := ⟨_, rfl⟩
  obtain ⟨q2, hq2⟩ : ∃ q, decide (a2 = b2) = q := ⟨_, rfl⟩
  obtain ⟨q3, hq3⟩ : ∃ q, decide (a3 = b3) = q := ⟨_, rfl⟩
  have HQ1 := Lib.hid hq1
  have HQ2 := Lib.hid hq2
  have HQ3 := Lib.hid hq3
  rw [hq1, hq2, hq3]
  clear h1 h2 h3 k1 k2 k3 ha zx zy hq1 hq2 hq3
  go_enter Tryz.func11, Tryz.ntmps11
  go_wp2_with fail
  generalize (w.alloc (.cells #[.slice A1 a1.length c1, .slice A2 a2.length c2, .slice A3 a3.length c3] 36)).alloc (.cells #[.slice B1 b1.length d1, .slice B2 b2.length d2, .slice B3 b3.length d3] 36) = W at *
  obtain ⟨yb, hyb⟩ : ∃ x, w.heap.size + 1 = x := ⟨_, rfl⟩
  have HYB := Lib.hid hyb
  rw [hyb] at ZY y0 ⊢
  obtain ⟨xb, hxb⟩ : ∃ x, w.heap.size = x := ⟨_, rfl⟩
  have HXB := Lib.hid hxb
  rw [hxb] at ZX HA x0 ⊢
  clear hyb hxb
  go_at_call 31
  refine (eqint_is H1.out K1.out l1 m1).mono ?_
  rintro e w2 ⟨rfl, hb2⟩
  rw [HQ1.out]
  have HB2 := Lib.hid (HA.out.trans (hb2.mono (Nat.le_of_lt ZX.out.lt)))
  have x1 := (ZX.out.next hb2 ZX.out.lt).cell 1
  have y1 := (ZY.out.next hb2 ZY.out.lt).cell 1
  have ZX2 := Lib.hid (ZX.out.next hb2 ZX.out.lt)
  have ZY2 := Lib.hid (ZY.out.next hb2 ZY.out.lt)
  replace H2 := Lib.hid (RdP.next H2.out hb2)
  replace H3 := Lib.hid (RdP.next H3.out hb2)
  replace K2 := Lib.hid (RdP.next K2.out hb2)
  replace K3 := Lib.hid (RdP.next K3.out hb2)
  simp only [List.getElem?_toArray, List.getElem?_cons_zero, List.getElem?_cons_succ] at x1 y1
  clear hb2 x0 y0
  cases q1 with
  | false =>
    go_wp2_with fail
    go_ret
    exact ⟨rfl, by rw [HXB.out]; exact HB2.out⟩
  | true =>
    go_wp2_with fail
    go_at_call 31
    refine (eqint_is H2.out K2.out l2 m2).mono ?_
    rintro e w3 ⟨rfl, hb3⟩
    rw [HQ2.out]
    have HB3 := Lib.hid (HB2.out.trans (hb3.mono (Nat.le_of_lt ZX2.out.lt)))
    have x2 := (ZX2.out.next hb3 ZX2.out.lt).cell 2
    have y2 := (ZY2.out.next hb3 ZY2.out.lt).cell 2
    replace H3 := Lib.hid (RdP.next H3.out hb3)
    replace K3 := Lib.hid (RdP.next K3.out hb3)
    have hl3 : xb ≤ w3.heap.size := Nat.le_of_lt (ZX2.out.next hb3 ZX2.out.lt).lt
    simp only [List.getElem?_toArray, List.getElem?_cons_zero, List.getElem?_cons_succ] at x2 y2
    clear hb3 x1 y1
    cases q2 with
    | false =>
      go_wp2_with fail
      go_ret
      exact ⟨rfl, by rw [HXB.out]; exact HB3.out⟩
    | true =>
      go_wp2_with fail
      go_at_call 32
      refine (eqname_is H3.out K3.out l3 m3).mono ?_
      rintro e w4 ⟨rfl, hb4⟩
      rw [HQ3.out]
      have HB4 := Lib.hid (HB3.out.trans (hb4.mono hl3))
      clear hb4
      go_wp2_with fail
      go_ret
      exact ⟨by simp, by rw [HXB.out]; exact HB4.out⟩
end Go.Proofs.YtamjllakfgphnaaGreatDoor
