/- Walks of layer 46: the law of nil Versions. -/
import Derived.Test.YtobkmkplhbaepaaGreatDoorW50
import Derived.Test.YtobkmkplhbaepaaGreatDoorHZ
namespace Go.Proofs.YtobkmkplhbaepaaGreatDoor
open Go.RowKit
set_option linter.unusedSimpArgs false
set_option linter.unusedVariables false
attribute [local go_sem ↓] Go.wp_at_zero Go.wp_at_succ
theorem VAt.head {w : World} {F : Nat → Prop} {g : Nat} {s0 : St} {l : List Ac} (h : VAt w F g s0 l) : ∃ pb, w.cell? ⟨g, 0, none⟩ = some (.pointer (some pb)) := by
  obtain ⟨pb, va, vk, pl, bw, br, hv⟩ := h
  obtain ⟨B, _, _, e, _⟩ := id hv.base
  exact ⟨_, by rw [← e]; exact hv.blk.cell 0⟩
set_option maxRecDepth 100000 in
set_option maxHeartbeats 4000000 in
theorem law_nil {w : World} (n m : Int) (hu : UseAt w) : Calls Tryz.prog 7 #[.int .i64 n, .int .i64 m] w fun e w' => e = .returned (.bool true) ∧ Below w.heap.size w w' := by
  have HU := Lib.hid hu
  clear hu
  have hev : ∀ W, (binOp .eql 44 (.agg #[.int .i64 0, .string ⟨#[]⟩, .bool false]) (.agg #[.int .i64 0, .string ⟨#[]⟩, .bool false])).run Tryz.prog W = .ok (.bool true) W := fun W => eqlVe ⟨0, [], false⟩ ⟨0, [], false⟩ true (by decide) W
  have hgv := guardVe
  have HB0 : Hid (Below w.heap.size w w) := Lib.hid (Below.refl _ _)
  go_enter Tryz.func7, Tryz.ntmps7
  go_upto_region 3 with (go_at_call 30; refine (action_nil n).mono ?_; rintro e w1 ⟨rfl, hb⟩; have HB1 := Lib.hid (HB0.out.trans (hb.mono HB0.out.size)); clear hb)
  have hbd := (Below.refl w1.heap.size w1).alloc (Nat.le_refl _) (.cells #[.int .i64 0, .int .i64 0, .int .i64 0, .string ⟨#[]⟩, .slice none 0 0, .slice none 0 0] 61)
  have zb := Blk.new w1 61 #[.int .i64 0, .int .i64 0, .int .i64 0, .string ⟨#[]⟩, .slice none 0 0, .slice none 0 0]
  have HB2 := Lib.hid (HB1.out.trans (hbd.mono HB1.out.size))
  have xlt : w1.heap.size < (w1.alloc (.cells #[.int .i64 0, .int .i64 0, .int .i64 0, .string ⟨#[]⟩, .slice none 0 0, .slice none 0 0] 61)).heap.size := by simp
  have q0 := zb.cell 0
  have q1 := zb.cell 1
  have q2 := zb.cell 2
  have q3 := zb.cell 3
  have q4 := zb.cell 4
  have q5 := zb.cell 5
  simp only [List.getElem?_toArray, List.getElem?_cons_zero, List.getElem?_cons_succ] at q0 q1 q2 q3 q4 q5
  clear hbd zb
  generalize w1.alloc (.cells #[.int .i64 0, .int .i64 0, .int .i64 0, .string ⟨#[]⟩, .slice none 0 0, .slice none 0 0] 61) = w2 at *
  generalize w1.heap.size = bx at *
  go_upto_region 4 with (go_at_call 31; refine (find_nil n 0 0 ⟨#[]⟩).mono ?_; rintro e w3 ⟨rfl, hb⟩; have HB3 := Lib.hid (HB2.out.trans (hb.mono HB2.out.size)); have q0 := (hb.cell (p := ⟨bx, 0, none⟩) xlt).trans q0; have q1 := (hb.cell (p := ⟨bx, 1, none⟩) xlt).trans q1; have q2 := (hb.cell (p := ⟨bx, 2, none⟩) xlt).trans q2; have q3 := (hb.cell (p := ⟨bx, 3, none⟩) xlt).trans q3; have q4 := (hb.cell (p := ⟨bx, 4, none⟩) xlt).trans q4; have q5 := (hb.cell (p := ⟨bx, 5, none⟩) xlt).trans q5; replace xlt := Nat.lt_of_lt_of_le xlt hb.size; clear hb)
  go_upto_region 5 with (first | (go_at_call 32; refine (clock_is w3).mono ?_; rintro e w4 ⟨rfl, hb⟩; have HB4 := Lib.hid (HB3.out.trans (hb.mono HB3.out.size)); have q0 := (hb.cell (p := ⟨bx, 0, none⟩) xlt).trans q0; have q1 := (hb.cell (p := ⟨bx, 1, none⟩) xlt).trans q1; have q2 := (hb.cell (p := ⟨bx, 2, none⟩) xlt).trans q2; have q3 := (hb.cell (p := ⟨bx, 3, none⟩) xlt).trans q3; have q4 := (hb.cell (p := ⟨bx, 4, none⟩) xlt).trans q4; have q5 := (hb.cell (p := ⟨bx, 5, none⟩) xlt).trans q5; replace xlt := Nat.lt_of_lt_of_le xlt hb.size; clear hb) | (go_at_call 17; refine (before_nil (n := obC) n).mono ?_; rintro e w5 ⟨rfl, hb⟩; have HB5 := Lib.hid (HB4.out.trans (hb.mono HB4.out.size)); have q0 := (hb.cell (p := ⟨bx, 0, none⟩) xlt).trans q0; have q1 := (hb.cell (p := ⟨bx, 1, none⟩) xlt).trans q1; have q2 := (hb.cell (p := ⟨bx, 2, none⟩) xlt).trans q2; have q3 := (hb.cell (p := ⟨bx, 3, none⟩) xlt).trans q3; have q4 := (hb.cell (p := ⟨bx, 4, none⟩) xlt).trans q4; have q5 := (hb.cell (p := ⟨bx, 5, none⟩) xlt).trans q5; replace xlt := Nat.lt_of_lt_of_le xlt hb.size; clear hb))
  have hbd := (Below.refl w5.heap.size w5).alloc (Nat.le_refl _) (.cells #[.int .i64 0, .string ⟨#[]⟩, .bool false] 44)
  have zb := Blk.new w5 44 #[.int .i64 0, .string ⟨#[]⟩, .bool false]
  have HB6 := Lib.hid (HB5.out.trans (hbd.mono HB5.out.size))
  have ylt : w5.heap.size < (w5.alloc (.cells #[.int .i64 0, .string ⟨#[]⟩, .bool false] 44)).heap.size := by simp
  have u0 := zb.cell 0
  have u1 := zb.cell 1
  have u2 := zb.cell 2
  simp only [List.getElem?_toArray, List.getElem?_cons_zero, List.getElem?_cons_succ] at u0 u1 u2
  replace q0 := (hbd.cell (p := ⟨bx, 0, none⟩) xlt).trans q0
  replace q1 := (hbd.cell (p := ⟨bx, 1, none⟩) xlt).trans q1
  replace q2 := (hbd.cell (p := ⟨bx, 2, none⟩) xlt).trans q2
  replace q3 := (hbd.cell (p := ⟨bx, 3, none⟩) xlt).trans q3
  replace q4 := (hbd.cell (p := ⟨bx, 4, none⟩) xlt).trans q4
  replace q5 := (hbd.cell (p := ⟨bx, 5, none⟩) xlt).trans q5
  replace xlt := Nat.lt_of_lt_of_le xlt hbd.size
  clear hbd zb
  generalize w5.alloc (.cells #[.int .i64 0, .string ⟨#[]⟩, .bool false] 44) = w6 at *
  generalize w5.heap.size = yx at *
  go_upto_region 6 with (go_at_call 33; refine (state_nil n).mono ?_; rintro e w7 ⟨rfl, hb⟩; have HB7 := Lib.hid (HB6.out.trans (hb.mono HB6.out.size)); replace q0 := (hb.cell (p := ⟨bx, 0, none⟩) xlt).trans q0; replace q1 := (hb.cell (p := ⟨bx, 1, none⟩) xlt).trans q1; replace q2 := (hb.cell (p := ⟨bx, 2, none⟩) xlt).trans q2; replace q3 := (hb.cell (p := ⟨bx, 3, none⟩) xlt).trans q3; replace q4 := (hb.cell (p := ⟨bx, 4, none⟩) xlt).trans q4; replace q5 := (hb.cell (p := ⟨bx, 5, none⟩) xlt).trans q5; replace u0 := (hb.cell (p := ⟨yx, 0, none⟩) ylt).trans u0; replace u1 := (hb.cell (p := ⟨yx, 1, none⟩) ylt).trans u1; replace u2 := (hb.cell (p := ⟨yx, 2, none⟩) ylt).trans u2; replace xlt := Nat.lt_of_lt_of_le xlt hb.size; replace ylt := Nat.lt_of_lt_of_le ylt hb.size; clear hb)
  go_upto_region 7 with (first | (go_at_call 32; refine (clock_is w7).mono ?_; rintro e w8 ⟨rfl, hb⟩; have HB8 := Lib.hid (HB7.out.trans (hb.mono HB7.out.size)); replace q0 := (hb.cell (p := ⟨bx, 0, none⟩) xlt).trans q0; replace q1 := (hb.cell (p := ⟨bx, 1, none⟩) xlt).trans q1; replace q2 := (hb.cell (p := ⟨bx, 2, none⟩) xlt).trans q2; replace q3 := (hb.cell (p := ⟨bx, 3, none⟩) xlt).trans q3; replace q4 := (hb.cell (p := ⟨bx, 4, none⟩) xlt).trans q4; replace q5 := (hb.cell (p := ⟨bx, 5, none⟩) xlt).trans q5; replace u0 := (hb.cell (p := ⟨yx, 0, none⟩) ylt).trans u0; replace u1 := (hb.cell (p := ⟨yx, 1, none⟩) ylt).trans u1; replace u2 := (hb.cell (p := ⟨yx, 2, none⟩) ylt).trans u2; replace xlt := Nat.lt_of_lt_of_le xlt hb.size; replace ylt := Nat.lt_of_lt_of_le ylt hb.size; clear hb) | (go_at_call 34; refine (readers_nil (n := obC) n).mono ?_; rintro e w9 ⟨rfl, hb⟩; have HB9 := Lib.hid (HB8.out.trans (hb.mono HB8.out.size)); replace q0 := (hb.cell (p := ⟨bx, 0, none⟩) xlt).trans q0; replace q1 := (hb.cell (p := ⟨bx, 1, none⟩) xlt).trans q1; replace q2 := (hb.cell (p := ⟨bx, 2, none⟩) xlt).trans q2; replace q3 := (hb.cell (p := ⟨bx, 3, none⟩) xlt).trans q3; replace q4 := (hb.cell (p := ⟨bx, 4, none⟩) xlt).trans q4; replace q5 := (hb.cell (p := ⟨bx, 5, none⟩) xlt).trans q5; replace u0 := (hb.cell (p := ⟨yx, 0, none⟩) ylt).trans u0; replace u1 := (hb.cell (p := ⟨yx, 1, none⟩) ylt).trans u1; replace u2 := (hb.cell (p := ⟨yx, 2, none⟩) ylt).trans u2; replace xlt := Nat.lt_of_lt_of_le xlt hb.size; replace ylt := Nat.lt_of_lt_of_le ylt hb.size; clear hb))
  go_upto_region 8 with (go_at_call 22; refine (changed_nil n m).mono ?_; rintro e w10 ⟨rfl, hb⟩; have HB10 := Lib.hid (HB9.out.trans (hb.mono HB9.out.size)); replace q0 := (hb.cell (p := ⟨bx, 0, none⟩) xlt).trans q0; replace q1 := (hb.cell (p := ⟨bx, 1, none⟩) xlt).trans q1; replace q2 := (hb.cell (p := ⟨bx, 2, none⟩) xlt).trans q2; replace q3 := (hb.cell (p := ⟨bx, 3, none⟩) xlt).trans q3; replace q4 := (hb.cell (p := ⟨bx, 4, none⟩) xlt).trans q4; replace q5 := (hb.cell (p := ⟨bx, 5, none⟩) xlt).trans q5; replace u0 := (hb.cell (p := ⟨yx, 0, none⟩) ylt).trans u0; replace u1 := (hb.cell (p := ⟨yx, 1, none⟩) ylt).trans u1; replace u2 := (hb.cell (p := ⟨yx, 2, none⟩) ylt).trans u2; replace xlt := Nat.lt_of_lt_of_le xlt hb.size; replace ylt := Nat.lt_of_lt_of_le ylt hb.size; clear hb)
  have O1 : True := trivial
  have O2 : True := trivial
  have O3 : True := trivial
  go_wp2_with (first
    | (go_at_call 35; refine (new_is w10).mono ?_; rintro e w11 ⟨p, rfl, hp, hb⟩; have HB11 := Lib.hid (HB10.out.trans (hb.mono HB10.out.size)); replace q0 := (hb.cell (p := ⟨bx, 0, none⟩) xlt).trans q0; replace q1 := (hb.cell (p := ⟨bx, 1, none⟩) xlt).trans q1; replace q2 := (hb.cell (p := ⟨bx, 2, none⟩) xlt).trans q2; replace q3 := (hb.cell (p := ⟨bx, 3, none⟩) xlt).trans q3; replace q4 := (hb.cell (p := ⟨bx, 4, none⟩) xlt).trans q4; replace q5 := (hb.cell (p := ⟨bx, 5, none⟩) xlt).trans q5; replace u0 := (hb.cell (p := ⟨yx, 0, none⟩) ylt).trans u0; replace u1 := (hb.cell (p := ⟨yx, 1, none⟩) ylt).trans u1; replace u2 := (hb.cell (p := ⟨yx, 2, none⟩) ylt).trans u2; replace xlt := Nat.lt_of_lt_of_le xlt hb.size; replace ylt := Nat.lt_of_lt_of_le ylt hb.size; have HP := Lib.hid hp; clear hp; clear hb)
    | (go_at_call 11; refine (build_is (l := []) HP.out RowRd.nil (HU.out.next HB11.out HU.out.1) (fun a h => by cases h) ⟨⟨List.Pairwise.nil, fun p h => by cases h⟩, fun p h => by cases h⟩ (by simp)).mono ?_; rintro e w12 ⟨hb, h12⟩; have HB12 := Lib.hid (HB11.out.trans (hb.mono HB11.out.size)); rcases h12 with ⟨_, g, F, rfl, hv12, _⟩ | ⟨hbad, rfl⟩; (case inr => exact absurd rfl hbad); replace q0 := (hb.cell (p := ⟨bx, 0, none⟩) xlt).trans q0; replace q1 := (hb.cell (p := ⟨bx, 1, none⟩) xlt).trans q1; replace q2 := (hb.cell (p := ⟨bx, 2, none⟩) xlt).trans q2; replace q3 := (hb.cell (p := ⟨bx, 3, none⟩) xlt).trans q3; replace q4 := (hb.cell (p := ⟨bx, 4, none⟩) xlt).trans q4; replace q5 := (hb.cell (p := ⟨bx, 5, none⟩) xlt).trans q5; replace u0 := (hb.cell (p := ⟨yx, 0, none⟩) ylt).trans u0; replace u1 := (hb.cell (p := ⟨yx, 1, none⟩) ylt).trans u1; replace u2 := (hb.cell (p := ⟨yx, 2, none⟩) ylt).trans u2; replace xlt := Nat.lt_of_lt_of_le xlt hb.size; replace ylt := Nat.lt_of_lt_of_le ylt hb.size; have HV12 := Lib.hid hv12; clear hb hv12)
    | (go_at_call 8; refine (known_is (HU.out.next HB12.out HU.out.1)).mono ?_; rintro e w13 ⟨rfl, hb⟩; have HB13 := Lib.hid (HB12.out.trans (hb.mono HB12.out.size)); replace q0 := (hb.cell (p := ⟨bx, 0, none⟩) xlt).trans q0; replace q1 := (hb.cell (p := ⟨bx, 1, none⟩) xlt).trans q1; replace q2 := (hb.cell (p := ⟨bx, 2, none⟩) xlt).trans q2; replace q3 := (hb.cell (p := ⟨bx, 3, none⟩) xlt).trans q3; replace q4 := (hb.cell (p := ⟨bx, 4, none⟩) xlt).trans q4; replace q5 := (hb.cell (p := ⟨bx, 5, none⟩) xlt).trans q5; replace u0 := (hb.cell (p := ⟨yx, 0, none⟩) ylt).trans u0; replace u1 := (hb.cell (p := ⟨yx, 1, none⟩) ylt).trans u1; replace u2 := (hb.cell (p := ⟨yx, 2, none⟩) ylt).trans u2; replace xlt := Nat.lt_of_lt_of_le xlt hb.size; replace ylt := Nat.lt_of_lt_of_le ylt hb.size; have HV13 := Lib.hid (HV12.out.next hb); clear hb)
    | (go_at_call 24; refine (append_nil 0 0 0 ⟨#[]⟩ (.slice none 0 0) (.slice none 0 0)).mono ?_; rintro e w14 ⟨rfl, hb⟩; have HB14 := Lib.hid (HB13.out.trans (hb.mono HB13.out.size)); replace u0 := (hb.cell (p := ⟨yx, 0, none⟩) ylt).trans u0; replace u1 := (hb.cell (p := ⟨yx, 1, none⟩) ylt).trans u1; replace u2 := (hb.cell (p := ⟨yx, 2, none⟩) ylt).trans u2; replace ylt := Nat.lt_of_lt_of_le ylt hb.size; have HV14 := Lib.hid (HV13.out.next hb); clear q0 q1 q2 q3 q4 q5 xlt; clear hb)
    | (go_at_call 26; refine (len_nil).mono ?_; rintro e w15 ⟨rfl, hb⟩; have HB15 := Lib.hid (HB14.out.trans (hb.mono HB14.out.size)); replace u0 := (hb.cell (p := ⟨yx, 0, none⟩) ylt).trans u0; replace u1 := (hb.cell (p := ⟨yx, 1, none⟩) ylt).trans u1; replace u2 := (hb.cell (p := ⟨yx, 2, none⟩) ylt).trans u2; replace ylt := Nat.lt_of_lt_of_le ylt hb.size; have HV15 := Lib.hid (HV14.out.next hb); clear hb)
    | (go_at_call 20; refine (names_nil).mono ?_; rintro e w16 ⟨rfl, hb⟩; have HB16 := Lib.hid (HB15.out.trans (hb.mono HB15.out.size)); replace u0 := (hb.cell (p := ⟨yx, 0, none⟩) ylt).trans u0; replace u1 := (hb.cell (p := ⟨yx, 1, none⟩) ylt).trans u1; replace u2 := (hb.cell (p := ⟨yx, 2, none⟩) ylt).trans u2; replace ylt := Nat.lt_of_lt_of_le ylt hb.size; have HV16 := Lib.hid (HV15.out.next hb); clear hb)
    | (go_at_call 32; refine (clock_is w16).mono ?_; rintro e w17 ⟨rfl, hb⟩; have HB17 := Lib.hid (HB16.out.trans (hb.mono HB16.out.size)); replace u0 := (hb.cell (p := ⟨yx, 0, none⟩) ylt).trans u0; replace u1 := (hb.cell (p := ⟨yx, 1, none⟩) ylt).trans u1; replace u2 := (hb.cell (p := ⟨yx, 2, none⟩) ylt).trans u2; replace ylt := Nat.lt_of_lt_of_le ylt hb.size; have HV17 := Lib.hid (HV16.out.next hb); clear hb)
    | (go_at_call 16; refine (of_nil obC).mono ?_; rintro e w18 ⟨rfl, hb⟩; have HB18 := Lib.hid (HB17.out.trans (hb.mono HB17.out.size)); replace u0 := (hb.cell (p := ⟨yx, 0, none⟩) ylt).trans u0; replace u1 := (hb.cell (p := ⟨yx, 1, none⟩) ylt).trans u1; replace u2 := (hb.cell (p := ⟨yx, 2, none⟩) ylt).trans u2; replace ylt := Nat.lt_of_lt_of_le ylt hb.size; have HV18 := Lib.hid (HV17.out.next hb); clear hb)
    | (go_at_call 36; refine (consistent_nil).mono ?_; rintro e w19 ⟨rfl, hb⟩; have HB19 := Lib.hid (HB18.out.trans (hb.mono HB18.out.size)); have HV19 := Lib.hid (HV18.out.next hb); clear u0 u1 u2 ylt; clear hb)
    | (clear O1; go_at_call 29; refine (common_nil1 (some ⟨g, 0, none⟩)).mono ?_; rintro e w20 ⟨rfl, hb⟩; have HB20 := Lib.hid (HB19.out.trans (hb.mono HB19.out.size)); have HV20 := Lib.hid (HV19.out.next hb); obtain ⟨pb, hpb⟩ := HV20.out.head; clear hb)
    | (go_at_call 29; refine (common_nil2 hpb).mono ?_; rintro e w21 ⟨rfl, hb⟩; have HB21 := Lib.hid (HB20.out.trans (hb.mono HB20.out.size)); clear hb)
    | (go_at_call 23; refine (clone_nil).mono ?_; rintro e w22 ⟨rfl, hb⟩; have HB22 := Lib.hid (HB21.out.trans (hb.mono HB21.out.size)); clear hb)
    | (clear O2; go_at_call 25; refine (equal_nn).mono ?_; rintro e w23 ⟨rfl, hb⟩; have HB23 := Lib.hid (HB22.out.trans (hb.mono HB22.out.size)); clear hb)
    | (clear O3; go_at_call 25; refine (equal_ns ⟨g, 0, none⟩).mono ?_; rintro e w24 ⟨rfl, hb⟩; have HB24 := Lib.hid (HB23.out.trans (hb.mono HB23.out.size)); clear hb)
    | (go_at_call 25; refine (equal_sn ⟨g, 0, none⟩).mono ?_; rintro e w25 ⟨rfl, hb⟩; have HB25 := Lib.hid (HB24.out.trans (hb.mono HB24.out.size)); clear hb))
  go_ret
  exact ⟨rfl, HB25.out⟩
end Go.Proofs.YtobkmkplhbaepaaGreatDoor
