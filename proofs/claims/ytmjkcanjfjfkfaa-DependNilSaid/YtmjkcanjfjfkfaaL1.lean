/- The walk of the law DependNil. -/
import Derived.Test.YtmjkcanjfjfkfaaT8
import Derived.Test.YtmjkcanjfjfkfaaLA
namespace Go.Proofs.Ytmjkcanjfjfkfaa
open Go.RowKit
set_option linter.unusedSimpArgs false
set_option linter.unusedVariables false
attribute [local go_sem ↓] Go.wp_at_zero Go.wp_at_succ
set_option maxRecDepth 100000 in
set_option maxHeartbeats 4000000 in
theorem law_nil (w : World) (A : Option Addr) (n c : Nat) (hc : n ≤ c) (hcm : c ≤ maxLen) (a b : Int) : Calls Try.prog 8 #[.slice A n c, .int .i64 a, .int .i64 b] w fun e w' => e = .returned (.bool true) ∧ Below w.heap.size w w' := by
  have hm : c ≤ 9223372036854775807 := by unfold maxLen at hcm; omega
  obtain ⟨m, hme⟩ : ∃ m : Nat, m = (if n ≤ 10 then n else 10) := ⟨_, rfl⟩
  have hv0 := valid_is (bs [])
  rw [lin5_ok [] (by decide), show bs [] = ⟨#[]⟩ from rfl] at hv0
  have HV := Lib.hid hv0
  have HM := Lib.hid hme
  clear hv0 hme hcm
  have HMM := Lib.hid (fun W => make_many W)
  go_enter Try.func8, Try.ntmps8
  go_wp2_with fail
  go_at_call 27
  refine (sources_nil a _).mono ?_
  rintro e w1 ⟨rfl, hb⟩
  have HB1 := Lib.hid ((Below.refl w.heap.size w).trans (hb.mono (Below.refl w.heap.size w).size))
  clear hb
  go_wp2_with fail
  go_at_call 28
  refine (uses_nil a _).mono ?_
  rintro e w2 ⟨rfl, hb⟩
  have HB2 := Lib.hid (HB1.out.trans (hb.mono HB1.out.size))
  clear hb
  go_wp2_with fail
  go_at_call 21
  refine (causes_nil _ _ _ _).mono ?_
  rintro e w3 ⟨rfl, hb⟩
  have HB3 := Lib.hid (HB2.out.trans (hb.mono HB2.out.size))
  clear hb
  go_wp2_with fail
  go_at_call 29
  refine (effects_nil _ _ _ _).mono ?_
  rintro e w4 ⟨rfl, hb⟩
  have HB4 := Lib.hid (HB3.out.trans (hb.mono HB3.out.size))
  clear hb
  go_wp2_with fail
  go_at_call 30
  refine (closed_nil _ _ _ _).mono ?_
  rintro e w5 ⟨rfl, hb⟩
  have HB5 := Lib.hid (HB4.out.trans (hb.mono HB4.out.size))
  clear hb
  go_wp2_with fail
  go_at_call 11
  refine (chain_nil a b _).mono ?_
  rintro e w6 ⟨rfl, hb⟩
  have HB6 := Lib.hid (HB5.out.trans (hb.mono HB5.out.size))
  clear hb
  obtain ⟨cs, hmk⟩ := HMM.out w6
  have HBM := Lib.hid (HB6.out.alloc HB6.out.size (.cells cs 59))
  go_wp2_with fail
  go_at_call 10
  refine (build_many _ _ _).mono ?_
  rintro e w' ⟨rfl, rfl⟩
  clear hmk
  go_wp2_with fail
  go_at_call 12
  refine (known47_is _).mono ?_
  rintro e w8 ⟨rfl, hb⟩
  have HB8 := Lib.hid (HBM.out.trans (hb.mono HBM.out.size))
  clear hb
  go_wp2_with fail
  go_at_call 25
  refine (len_nil _).mono ?_
  rintro e w' ⟨rfl, rfl⟩
  go_wp2_with fail
  go_at_call 26
  refine (links_nil _).mono ?_
  rintro e w' ⟨rfl, rfl⟩
  go_wp2_with fail
  go_at_call 16
  refine (port_is 1 (by decide) (by decide) _).mono ?_
  rintro e w11 ⟨rfl, hb⟩
  have HB11 := Lib.hid (HB8.out.trans (hb.mono HB8.out.size))
  clear hb
  go_wp2_with fail
  go_at_call 19
  refine (writer_nil (prtN 2) b _).mono ?_
  rintro e w12 ⟨rfl, hb⟩
  have HB12 := Lib.hid (HB11.out.trans (hb.mono HB11.out.size))
  clear hb
  go_wp2_with fail
  go_at_call 33
  refine (HV.out _).mono ?_
  rintro e w13 ⟨rfl, hb⟩
  have HB13 := Lib.hid (HB12.out.trans (hb.mono HB12.out.size))
  clear hb
  go_wp2_with fail
  go_ret
  exact ⟨rfl, HB13.out⟩
theorem law_nil_at (w : World) {v : Value} {l : List Int} (h : InAt w.heap.size w v l) (a : Int) (ha : (Lit.int .i64 a).wf = true) (b : Int) (hb : (Lit.int .i64 b).wf = true) : Calls Try.prog 8 #[v, .int .i64 a, .int .i64 b] w fun e w' => e = .returned (.bool true) ∧ Below w.heap.size w w' := by
  obtain ⟨A, c, rfl, h1, h2⟩ := Ra.form h
  exact law_nil w A l.length c h1 h2 a b
end Go.Proofs.Ytmjkcanjfjfkfaa
