/- Walks of layer 41: known. -/
import Derived.Test.YtiddchpkmcncdaaX25
namespace Go.Proofs.Ytiddchpkmcncdaa
open Go.RowKit
set_option linter.unusedSimpArgs false
set_option linter.unusedVariables false
def knL : Bs := [97, 61, 49, 32, 108, 115, 32, 45, 108, 32, 39, 120, 32, 121, 39, 32, 124, 32, 115, 111, 114, 116, 32, 62, 32, 36, 111, 117, 116, 32, 38, 38, 32, 101, 99, 104, 111, 32, 34, 36, 97, 32, 98, 34, 32, 38]
def kn1 : Ln := match parS knL with | .ok l => l | .err _ _ => ⟨[], false⟩
theorem kn1_is : parS knL = .ok kn1 := by kernel_rfl
theorem kn2_is : parS [97, 32, 124] = .err 3 30 := by kernel_rfl
theorem kn3_is : parS [101, 99, 104, 111, 32, 39, 120] = .err 5 4 := by kernel_rfl
theorem kn4_is : txtS false [lit [97, 32, 98]] = [34, 97, 32, 98, 34] := by kernel_rfl
theorem kn4_no : badS [97, 32, 98] = 3 := by kernel_rfl
theorem kn1_parts : ∃ q0 q1 : Pl, kn1.parts = [q0, q1] ∧ q0.stages.length = 2 ∧ q1.wh = 1 := by
  refine ⟨kn1.parts.getD 0 ⟨0, []⟩, kn1.parts.getD 1 ⟨0, []⟩, ?_, ?_, ?_⟩
  · kernel_rfl
  · kernel_rfl
  · kernel_rfl
theorem kn1_bg : kn1.bg = true := by kernel_rfl
theorem Parse_ok (s : ByteArray) (w : World) (l : Ln) (h : parS s.data.toList = .ok l) (hs : s.size ≤ 100000) : Calls Try.prog 13 #[.string s] w fun r w' => ∃ v, r = .returned (.tuple #[.agg #[v, .bool l.bg], .int .i64 0, .int .i64 0]) ∧ RowRd 49 plV NP w' v l.parts ∧ Below w.heap.size w w' := by
  refine (Parse_any s w hs).mono ?_
  rintro r w' ⟨hb, hm⟩
  rw [h] at hm
  obtain ⟨v, h1, h2⟩ := hm
  exact ⟨v, h1, h2, hb⟩
theorem Parse_no (s : ByteArray) (w : World) (q : Nat) (e : Int) (h : parS s.data.toList = .err q e) (hs : s.size ≤ 100000) : Calls Try.prog 13 #[.string s] w fun r w' => r = .returned (.tuple #[.agg #[.slice none 0 0, .bool false], .int .i64 (q : Int), .int .i64 e]) ∧ Below w.heap.size w w' := by
  refine (Parse_any s w hs).mono ?_
  rintro r w' ⟨hb, hm⟩
  rw [h] at hm
  exact ⟨hm, hb⟩
theorem RowRd.pl_next {w w' : World} {v : Value} {l : List Pl} (h : RowRd 49 plV NP w v l) (hb : Below w.heap.size w w') : RowRd 49 plV NP w' v l := h.next hb (fun _ _ h => NP.next h hb)
/-- The cells of two parts. -/
theorem two_parts {w : World} {v : Value} {q0 q1 : Pl} (h : RowRd 49 plV NP w v [q0, q1]) : ∃ b o c A0 c0 A1 c1, v = .slice (some ⟨b, o, none⟩) 2 c ∧ 2 ≤ c ∧ b < w.heap.size ∧ w.cell? ⟨b, o, none⟩ = some (.int .i64 q0.wh) ∧ w.cell? ⟨b, o + 1, none⟩ = some (.slice A0 q0.stages.length c0) ∧ w.cell? ⟨b, o + 2, none⟩ = some (.int .i64 q1.wh) ∧ w.cell? ⟨b, o + 3, none⟩ = some (.slice A1 q1.stages.length c1) := by
  obtain ⟨b, o, c, u0, hv, hc, hb, hn0, hx0⟩ := h.at_ plV_len (i := 0) (x := q0) rfl
  obtain ⟨b', o', c', u1, hv', _, _, hn1, hx1⟩ := h.at_ plV_len (i := 1) (x := q1) rfl
  rw [hv] at hv'
  injection hv' with ha _ hcc
  injection ha with ha
  injection ha with hb1 ho1
  subst hb1 ho1
  obtain ⟨A0, c0, rfl, _⟩ := RowRd.form hn0
  obtain ⟨A1, c1, rfl, _⟩ := RowRd.form hn1
  exact ⟨b, o, c, A0, c0, A1, c1, hv, hc, hb, hx0 0 _ rfl, hx0 1 _ rfl, hx1 0 _ rfl, hx1 1 _ rfl⟩
set_option maxRecDepth 100000 in
set_option maxHeartbeats 4000000 in
theorem known_any (w : World) : Calls Try.prog 15 #[] w fun e w' => e = .returned (.bool true) ∧ Below w.heap.size w w' := by
  have K1 := Lib.hid kn1_is
  go_enter Try.func15, Try.ntmps15
  go_wp2_with fail
  refine (Parse_ok _ _ kn1 K1.out (by decide)).mono ?_
  rintro e w1 ⟨v, rfl, hrd, hb1⟩
  rw [kn1_bg]
  obtain ⟨A1, c1, rfl, _⟩ := hrd.form
  have HR1 := Lib.hid (hrd.pl_next ((Below.refl _ _).alloc (Nat.le_refl _) (.cells #[.slice A1 kn1.parts.length c1, .bool true] 24)))
  have HB1 := Lib.hid ((hb1.alloc hb1.size (.cells #[.slice A1 kn1.parts.length c1, .bool true] 24)))
  have HL1 := Lib.hid (Blk.new w1 24 #[.slice A1 kn1.parts.length c1, .bool true])
  clear hrd hb1
  go_upto_region 2 with (fail)
  generalize (w1.alloc (.cells #[.slice A1 kn1.parts.length c1, .bool true] 24)) = w2 at *
  generalize w1.heap.size = lb at *
  go_wp2_with fail
  refine (Parse_no _ _ 3 30 kn2_is (by decide)).mono ?_
  rintro e w3 ⟨rfl, hb3⟩
  have HR3 := Lib.hid (HR1.out.pl_next (hb3.alloc hb3.size (.cells #[.slice none 0 0, .bool false] 24)))
  have HL3 := Lib.hid (HL1.out.next (hb3.alloc hb3.size (.cells #[.slice none 0 0, .bool false] 24)) HL1.out.lt)
  have HB3 := Lib.hid (HB1.out.trans ((hb3.alloc hb3.size (.cells #[.slice none 0 0, .bool false] 24)).mono HB1.out.size))
  clear hb3 HR1 HL1 HB1
  go_upto_region 3 with (fail)
  generalize (w3.alloc (.cells #[.slice none 0 0, .bool false] 24)) = w4 at *
  go_wp2_with fail
  refine (Parse_no _ _ 5 4 kn3_is (by decide)).mono ?_
  rintro e w5 ⟨rfl, hb5⟩
  have HR5 := Lib.hid (HR3.out.pl_next (hb5.alloc hb5.size (.cells #[.slice none 0 0, .bool false] 24)))
  have HL5 := Lib.hid (HL3.out.next (hb5.alloc hb5.size (.cells #[.slice none 0 0, .bool false] 24)) HL3.out.lt)
  have HB5 := Lib.hid (HB3.out.trans ((hb5.alloc hb5.size (.cells #[.slice none 0 0, .bool false] 24)).mono HB3.out.size))
  clear hb5 HR3 HL3 HB3
  go_upto_region 4 with (fail)
  generalize (w5.alloc (.cells #[.slice none 0 0, .bool false] 24)) = w6 at *
  go_wp2_with fail
  refine (Quote_any _ [97, 32, 98] (by decide)).mono ?_
  rintro e w7 ⟨hq, hb7⟩
  rw [kn4_no, if_neg (by decide), kn4_is] at hq
  subst hq
  have HR7 := Lib.hid (HR5.out.pl_next hb7)
  have HL7 := Lib.hid (HL5.out.next hb7 HL5.out.lt)
  have HB7 := Lib.hid (HB5.out.trans (hb7.mono HB5.out.size))
  clear hb7 HR5 HL5 HB5
  obtain ⟨q0, q1, hp, hst, hwh⟩ := kn1_parts
  rw [hp] at HR7 HL7
  obtain ⟨b, o, c, A0, c0, A2, c2, hv, hc, hbl, x0, x1, x2, x3⟩ := two_parts HR7.out
  injection hv with hA _ hcc
  subst hA hcc
  rw [hst] at x1
  rw [hwh] at x2
  have l0 : w7.cell? ⟨lb, 0, none⟩ = some (.slice (some ⟨b, o, none⟩) 2 c1) := HL7.out.cell 0
  have l1 : w7.cell? ⟨lb, 1, none⟩ = some (.bool true) := HL7.out.cell 1
  clear hp hst hwh HR7 HL7
  go_wp2
  go_ret
  exact ⟨ret_bool (by rw [bs_tl]; rfl), HB7.out⟩
end Go.Proofs.Ytiddchpkmcncdaa
