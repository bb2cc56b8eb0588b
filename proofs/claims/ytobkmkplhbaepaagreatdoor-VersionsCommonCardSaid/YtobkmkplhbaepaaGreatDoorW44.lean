/- Walks of layer 46: equality of states. -/
import Derived.Test.YtobkmkplhbaepaaGreatDoorW43
namespace Go.Proofs.YtobkmkplhbaepaaGreatDoor
open Go.RowKit
set_option linter.unusedSimpArgs false
set_option linter.unusedVariables false
attribute [local go_sem ↓] Go.wp_at_zero Go.wp_at_succ
theorem sbytes_is {w : World} {p : Option Addr} {s : St} (h : StAt w p s) : Calls Tryz.prog 66 #[.pointer p] w fun e w' => e = .returned (.int .i64 (lenS s : Int)) ∧ w = w' := by
  obtain ⟨B, q, t, rfl, b, ht, hf, hs⟩ := h
  have c0 : w.cell? ⟨B, 0, none⟩ = some (.pointer q) := b.cell 0
  have HS := Lib.hid (bytes_is ht)
  have e : byT t = lenS s := by rw [← hf, by_lenS]
  rw [e] at HS
  clear b ht hf hs e
  go_enter Tryz.func66, Tryz.ntmps66
  go_wp2_with fail
  refine HS.out.mono ?_
  rintro e w' ⟨rfl, rfl⟩
  go_wp2
  go_ret
  exact ⟨rfl, rfl⟩
theorem sequal_is {w : World} {p1 p2 : Option Addr} {s1 s2 : St} (h1 : StAt w p1 s1) (h2 : StAt w p2 s2) (o1 : StOk s1) (o2 : StOk s2) : Calls Tryz.prog 28 #[.pointer p1, .pointer p2] w fun e w' => e = .returned (.bool (decide (s1 = s2))) ∧ Below w.heap.size w w' := by
  have HL1 := Lib.hid (len_is h1)
  have HL2 := Lib.hid (len_is h2)
  have HB1 := Lib.hid (sbytes_is h1)
  have HB2 := Lib.hid (sbytes_is h2)
  have HD := Lib.hid (diff_is h1 h2 o1 o2)
  have HN : Hid (diffL s1 s2 = [] ↔ s1 = s2) := Lib.hid ⟨diff_nil o1 o2, fun e => by rw [e]; exact diff_self o2⟩
  obtain ⟨B1, _, _, rfl, _⟩ := h1
  obtain ⟨B2, _, _, rfl, _⟩ := h2
  obtain ⟨n1, hn1⟩ : ∃ n, s1.length = n := ⟨_, rfl⟩
  obtain ⟨n2, hn2⟩ : ∃ n, s2.length = n := ⟨_, rfl⟩
  obtain ⟨y1, hy1⟩ : ∃ n, lenS s1 = n := ⟨_, rfl⟩
  obtain ⟨y2, hy2⟩ : ∃ n, lenS s2 = n := ⟨_, rfl⟩
  rw [hn1] at HL1
  rw [hn2] at HL2
  rw [hy1] at HB1
  rw [hy2] at HB2
  have N1 := Lib.hid hn1
  have N2 := Lib.hid hn2
  have Y1 := Lib.hid hy1
  have Y2 := Lib.hid hy2
  clear hn1 hn2 hy1 hy2 o1 o2
  have ONE : True := trivial
  have TWO : True := trivial
  by_cases hn : n1 = n2
  · have k1 : ((n1 : Int) == (n2 : Int)) = true := by rw [hn]; simp
    by_cases hy : y1 = y2
    · have k2 : ((y1 : Int) == (y2 : Int)) = true := by rw [hy]; simp
      subst hn hy
      go_enter Tryz.func28, Tryz.ntmps28
      go_wp2_with (first | (clear ONE; go_at_call 65; refine HL1.out.mono ?_; rintro e w' ⟨rfl, rfl⟩) | (go_at_call 65; refine HL2.out.mono ?_; rintro e w' ⟨rfl, rfl⟩) | (clear TWO; go_at_call 66; refine HB1.out.mono ?_; rintro e w' ⟨rfl, rfl⟩) | (go_at_call 66; refine HB2.out.mono ?_; rintro e w' ⟨rfl, rfl⟩) | (go_at_call 56; refine HD.out.mono ?_))
      rintro e w2 ⟨v, rfl, how, hb⟩
      obtain ⟨A, c, rfl, hc⟩ := own_len how
      have HBB := Lib.hid hb
      clear how hb
      by_cases hd : diffL s1 s2 = []
      · have HE := Lib.hid (HN.out.1 hd)
        rw [hd]
        simp only [List.length_nil]
        clear hd hc
        go_wp2_with fail
        go_ret
        exact ⟨by rw [decide_eq_true HE.out]; rfl, HBB.out⟩
      · have HE : Hid (¬ s1 = s2) := Lib.hid fun e => hd (HN.out.2 e)
        have k3 : 0 < (diffL s1 s2).length := List.length_pos_iff.2 hd
        have k4 : (((diffL s1 s2).length : Int) == 0) = false := by rw [beq_eq_false_iff_ne]; omega
        have k5 : ((diffL s1 s2).length == 0) = false := by rw [beq_eq_false_iff_ne]; omega
        clear hd hc
        go_wp2_with fail
        go_ret
        exact ⟨by rw [decide_eq_false HE.out]; rfl, HBB.out⟩
    · have k2 : ((y1 : Int) == (y2 : Int)) = false := by rw [beq_eq_false_iff_ne]; omega
      have HE : Hid (¬ s1 = s2) := Lib.hid fun e => hy (by rw [← Y1.out, ← Y2.out, e])
      subst hn
      clear hy
      go_enter Tryz.func28, Tryz.ntmps28
      go_wp2_with (first | (clear ONE; go_at_call 65; refine HL1.out.mono ?_; rintro e w' ⟨rfl, rfl⟩) | (go_at_call 65; refine HL2.out.mono ?_; rintro e w' ⟨rfl, rfl⟩) | (clear TWO; go_at_call 66; refine HB1.out.mono ?_; rintro e w' ⟨rfl, rfl⟩) | (go_at_call 66; refine HB2.out.mono ?_; rintro e w' ⟨rfl, rfl⟩))
      go_ret
      exact ⟨by rw [decide_eq_false HE.out]; rfl, Below.refl _ _⟩
  · have k1 : ((n1 : Int) == (n2 : Int)) = false := by rw [beq_eq_false_iff_ne]; omega
    have HE : Hid (¬ s1 = s2) := Lib.hid fun e => hn (by rw [← N1.out, ← N2.out, e])
    clear hn
    go_enter Tryz.func28, Tryz.ntmps28
    go_wp2_with (first | (clear ONE; go_at_call 65; refine HL1.out.mono ?_; rintro e w' ⟨rfl, rfl⟩) | (go_at_call 65; refine HL2.out.mono ?_; rintro e w' ⟨rfl, rfl⟩))
    go_ret
    exact ⟨by rw [decide_eq_false HE.out]; rfl, Below.refl _ _⟩
end Go.Proofs.YtobkmkplhbaepaaGreatDoor
