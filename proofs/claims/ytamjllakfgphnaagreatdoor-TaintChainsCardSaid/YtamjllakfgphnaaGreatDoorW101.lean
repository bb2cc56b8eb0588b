/- Walks of layer 54: taint.Chain. -/
import Derived.Test.YtamjllakfgphnaaGreatDoorW100
import Derived.Test.YtamjllakfgphnaaGreatDoorW88
import Derived.Test.YtamjllakfgphnaaGreatDoorW89
namespace Go.Proofs.YtamjllakfgphnaaGreatDoor
open Go.RowKit
set_option linter.unusedSimpArgs false
set_option linter.unusedVariables false
attribute [local go_sem ↓] Go.wp_at_zero Go.wp_at_succ
/-- What taint.Chain answers: an error, or the chain. -/
def tchR (N : Nat) (ch : Int → Option (List Lk)) (r : Int × Int) (frm : Int) : Int × List Lk :=
  if r.2 ≠ 0 then (r.2, []) else if frm < 0 ∨ (N : Int) ≤ frm then (2, []) else
    match ch r.1 with
    | none => (8, [])
    | some c => (0, c)
set_option maxRecDepth 100000 in
set_option maxHeartbeats 2000000 in
theorem tchain_is {w : World} {F0 : Nat → Prop} {gx B gg : Nat} {s0 : St} {l : List Ac} {n : Nm} (frm a i : Int) (hv : VAt w F0 gx s0 l) (hg : GAt w B gg l) (hn : OwnE n) (ho : VOk l) (hl : l.length ≤ 100) (hr : ∀ a ∈ l, a.reads.length ≤ 10) :
    Calls Tryz.prog 14 #[.pointer (some ⟨gx, 0, none⟩), .pointer (some ⟨gg, 0, none⟩), .int .i64 frm, plV n a, .int .i64 i] w fun e w' => ∃ v, e = .returned (.tuple #[v, .int .i64 (tchR l.length (chainS l frm) (orgR l.length (verL s0 l n) a i) frm).1]) ∧ RdLk w' v (tchR l.length (chainS l frm) (orgR l.length (verL s0 l n) a i) frm).2 ∧ Below w.heap.size w w' := by
  have ha := (Below.refl w.heap.size w).alloc (Nat.le_refl _) (.cells #[.int .i64 n.kind, .string (bs n.owner), .int .i64 n.num, .int .i64 n.idx, .string (bs n.text), .int .i64 a] 28)
  have z := Blk.new w 28 #[.int .i64 n.kind, .string (bs n.owner), .int .i64 n.num, .int .i64 n.idx, .string (bs n.text), .int .i64 a]
  have HV := Lib.hid (hv.next ha)
  have HG := Lib.hid (hg.next ha)
  have HZ := Lib.hid z
  have HA := Lib.hid ha
  have HO := Lib.hid ho
  obtain ⟨ro, re, hro⟩ : ∃ o e, orgR l.length (verL s0 l n) a i = (o, e) := ⟨_, _, rfl⟩
  have HRO := Lib.hid hro
  rw [hro]
  clear hv hg z ha ho hro
  obtain ⟨TC, hTC⟩ : ∃ t, tchR l.length (chainS l frm) (ro, re) frm = t := ⟨_, rfl⟩
  have HTC := Lib.hid hTC
  rw [hTC]
  clear hTC
  go_enter Tryz.func14, Tryz.ntmps14
  simp only [plV]
  go_wp2_with fail
  generalize w.alloc (.cells #[.int .i64 n.kind, .string (bs n.owner), .int .i64 n.num, .int .i64 n.idx, .string (bs n.text), .int .i64 a] 28) = W at *
  obtain ⟨pb, hpb⟩ : ∃ x, w.heap.size = x := ⟨_, rfl⟩
  have HPB := Lib.hid hpb
  rw [hpb] at HZ HA ⊢
  clear hpb
  have c0 := HZ.out.cell 0
  have c1 := HZ.out.cell 1
  have c2 := HZ.out.cell 2
  have c3 := HZ.out.cell 3
  have c4 := HZ.out.cell 4
  have c5 := HZ.out.cell 5
  simp only [List.getElem?_toArray, List.getElem?_cons_zero, List.getElem?_cons_succ] at c0 c1 c2 c3 c4 c5
  go_at_call 40
  refine (tcheck_is HV.out HG.out (by omega) (by omega)).mono ?_
  rintro e w2 ⟨rfl, rfl⟩
  rw [if_pos rfl]
  go_wp2_with fail
  go_at_call 24
  refine (origin_is a i HV.out hn HO.out).mono ?_
  rintro e w3 ⟨rfl, hb3⟩
  rw [HRO.out]
  have hsz : pb ≤ W.heap.size := by have := HA.out.size; have := HPB.out; omega
  have HB3 := Lib.hid (HA.out.trans (hb3.mono hsz))
  have HV3 := Lib.hid (HV.out.next hb3)
  have HG3 := Lib.hid (HG.out.next hb3)
  clear hb3 c0 c1 c2 c3 c4 c5 HV HG HZ HA
  by_cases h0 : re = 0
  · subst h0
    by_cases h1 : frm < 0
    · have HR := Lib.hid (show TC = (2, []) by rw [← HTC.out]; unfold tchR; rw [if_neg (by simp), if_pos (.inl h1)])
      have d1 : decide (frm < 0) = true := decide_eq_true h1
      clear h1
      go_wp2_with fail
      go_ret2
      exact ⟨_, by rw [HR.out]; rfl, by rw [HR.out]; exact RdP.nil, by rw [HPB.out]; exact HB3.out⟩
    · have d1 : decide (frm < 0) = false := decide_eq_false h1
      by_cases h2 : (l.length : Int) ≤ frm
      · have HR := Lib.hid (show TC = (2, []) by rw [← HTC.out]; unfold tchR; rw [if_neg (by simp), if_pos (.inr h2)])
        have d2 : decide ((l.length : Int) ≤ frm) = true := decide_eq_true h2
        clear h1 h2
        go_wp2_with (go_at_call 41; refine (vlen_is HV3.out).mono ?_; rintro e w' ⟨rfl, rfl⟩)
        go_ret2
        exact ⟨_, by rw [HR.out]; rfl, by rw [HR.out]; exact RdP.nil, by rw [HPB.out]; exact HB3.out⟩
      · have d2 : decide ((l.length : Int) ≤ frm) = false := decide_eq_false h2
        have HR := Lib.hid (show TC = (match chainS l frm ro with | none => (8, []) | some c => (0, c)) by rw [← HTC.out]; unfold tchR; rw [if_neg (by simp), if_neg (by omega)])
        clear h1 h2
        have HCH := Lib.hid (fun (w' : World) (hb : Below w3.heap.size w3 w') => chain_is frm ro (HG3.out.next hb) hl hr)
        obtain ⟨cs, hcs⟩ : ∃ cs, chainS l frm ro = cs := ⟨_, rfl⟩
        rw [hcs] at HR HCH
        clear hcs
        have hs3 : pb ≤ w3.heap.size := by have := HB3.out.size; have := HPB.out; omega
        cases cs with
        | none =>
          go_wp2_with (first | (go_at_call 41; refine (vlen_is HV3.out).mono ?_; rintro e w' ⟨rfl, rfl⟩) | (go_at_call 17; refine (HCH.out _ (Below.refl _ _)).mono ?_; rintro e w4 ⟨v4, rfl, hrd4, hb4⟩; simp only [Option.isSome]; have HB4 := Lib.hid (HB3.out.trans (hb4.mono hs3)); clear hrd4 hb4))
          go_ret2
          exact ⟨_, by rw [HR.out]; rfl, by rw [HR.out]; exact RdP.nil, by rw [HPB.out]; exact HB4.out⟩
        | some c =>
          go_wp2_with (first | (go_at_call 41; refine (vlen_is HV3.out).mono ?_; rintro e w' ⟨rfl, rfl⟩) | (go_at_call 17; refine (HCH.out _ (Below.refl _ _)).mono ?_; rintro e w4 ⟨v4, rfl, hrd4, hb4⟩; simp only [Option.isSome]; have HRD4 := Lib.hid hrd4; have HB4 := Lib.hid (HB3.out.trans (hb4.mono hs3)); clear hrd4 hb4))
          go_ret2
          exact ⟨_, by rw [HR.out]; rfl, by rw [HR.out]; exact HRD4.out, by rw [HPB.out]; exact HB4.out⟩
  · have HR := Lib.hid (show TC = (re, []) by rw [← HTC.out]; unfold tchR; rw [if_pos h0])
    have d0 : (re != 0) = true := by rw [bne_iff_ne]; exact h0
    have d0' : (re == 0) = false := by rw [beq_eq_false_iff_ne]; exact h0
    clear h0
    go_wp2_with fail
    go_ret2
    exact ⟨_, by rw [HR.out]; rfl, by rw [HR.out]; exact RdP.nil, by rw [HPB.out]; exact HB3.out⟩
end Go.Proofs.YtamjllakfgphnaaGreatDoor
