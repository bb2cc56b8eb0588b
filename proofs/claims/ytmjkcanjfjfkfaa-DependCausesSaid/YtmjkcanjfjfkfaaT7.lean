/- Walks of layer 47: the example of the document holds. -/
import Derived.Test.YtmjkcanjfjfkfaaT6
namespace Go.Proofs.Ytmjkcanjfjfkfaa
open Go.RowKit
set_option linter.unusedSimpArgs false
set_option linter.unusedVariables false
attribute [local go_sem ↓] Go.wp_at_zero Go.wp_at_succ
theorem chn_ks : KS chn47 := by
  intro k hk
  have : k = 0 ∨ k = 1 := by
    have : chn47.length = 3 := rfl
    omega
  rcases this with rfl | rfl
  · show cmpK a047.key a147.key < 0
    decide
  · show cmpK a147.key a247.key < 0
    decide
theorem cx_r : ChR cx47 := ⟨.inl (by unfold IsOb; decide), by decide⟩
theorem cy_r : ChR cy47 := ⟨.inl (by unfold IsOb; decide), by decide⟩
theorem cz_r : ChR cz47 := ⟨.inl (by unfold IsOb; decide), by decide⟩
theorem chn_acr : ∀ a ∈ chn47, AcR a := by
  intro a ha
  simp only [chn47, List.mem_cons, List.not_mem_nil, or_false] at ha
  rcases ha with rfl | rfl | rfl
  · exact ⟨⟨⟨by decide, by decide⟩, by decide, .inl ⟨rfl, by decide, by decide, rfl⟩⟩, by simp [a047], by simp [a047, cx_r], by decide, by decide⟩
  · exact ⟨⟨⟨by decide, by decide⟩, by decide, .inl ⟨rfl, by decide, by decide, rfl⟩⟩, by simp [a147, cx_r], by simp [a147, cy_r], by decide, by decide⟩
  · exact ⟨⟨⟨by decide, by decide⟩, by decide, .inl ⟨rfl, by decide, by decide, rfl⟩⟩, by simp [a247, cy_r, cz_r], by simp [a247], by decide, by decide⟩
theorem chn_ok : ∀ a ∈ chn47, okAc a = true := by decide +kernel
theorem chn_rl : ∀ a ∈ chn47, a.reads.length ≤ 10 := by decide
def k1l : List Lk := [⟨0, 1, prtN 1⟩, ⟨1, 2, prtN 2⟩]
def k2l : List Lk := [⟨0, 1, prtN 1⟩, ⟨1, 2, prtN 2⟩, ⟨-1, 2, prtN 3⟩]
theorem chn_links : (lnkD chn47).flatten = k2l := by decide +kernel
theorem chn_chain : chainS chn47 0 2 = some k1l := by decide +kernel
theorem srtI_mem {l : List Int} {x : Int} : x ∈ srtI l ↔ x ∈ l := (List.mergeSort_perm l _).mem_iff
theorem srtI_asc {l : List Int} (h : l.Nodup) : (srtI l).Pairwise (· < ·) := by
  have h1 : (srtI l).Pairwise (fun a b => decide (a ≤ b) = true) := List.pairwise_mergeSort (fun a b c h1 h2 => by simp only [decide_eq_true_eq] at *; omega) (fun a b => by simp only [Bool.or_eq_true, decide_eq_true_eq]; omega) l
  have h2 : (srtI l).Nodup := (List.mergeSort_perm l _).nodup_iff.2 h
  refine (h1.and h2).imp ?_
  intro a b ⟨h3, h4⟩
  have := of_decide_eq_true h3
  omega
theorem chn_vis : ([2].foldl (visF (stpC chn47) (fun _ => none) chn47.length) ((fun _ => []), [])).2 = [2, 1, 0] := by decide +kernel
theorem chn_causes : seaS (stpC chn47) (fun _ => none) chn47.length (fun _ => []) [2] = [0, 1, 2] := by
  unfold seaS
  rw [chn_vis]
  refine asc_ext (srtI_asc (by decide)) (by decide) fun x => ?_
  rw [srtI_mem]
  simp only [List.mem_cons, List.not_mem_nil, or_false]
  constructor <;> rintro (h | h | h) <;> simp [h]
theorem chn_chk : chk2 chn47.length [2] = 0 := by decide +kernel
theorem rdlk_new (w : World) (l : List Lk) (n : Nat) (hn : l.length = n) (cs : Array Value) (hcs : cs = (l.flatMap lkC).toArray) (hl : n ≤ 1000) : RdLk (w.alloc (.cells cs 43)) (.slice (some ⟨w.heap.size, 0, none⟩) n n) l := by
  subst hn hcs
  exact ⟨_, l.length, rfl, Nat.le_refl _, by unfold maxLen; omega, .inr ⟨_, 0, _, (0, 0), rfl, heap_alloc_new w _, fun j u hu => by simpa using hu⟩⟩
theorem rdin_new (w : World) (l : List Int) (n : Nat) (hn : l.length = n) (cs : Array Value) (hcs : cs = (l.flatMap inC).toArray) (hl : n ≤ 1000) : RdIn (w.alloc (.cells cs 3)) (.slice (some ⟨w.heap.size, 0, none⟩) n n) l := by
  subst hn hcs
  exact ⟨_, l.length, rfl, Nat.le_refl _, by unfold maxLen; omega, .inr ⟨_, 0, _, (0, 0), rfl, heap_alloc_new w _, fun j u hu => by simpa using hu⟩⟩
set_option maxRecDepth 100000 in
set_option maxHeartbeats 2000000 in
theorem known47_is (w : World) : Calls Try.prog 12 #[] w fun e w' => e = .returned (.bool true) ∧ Below w.heap.size w w' := by
  have HB0 := Lib.hid (Below.refl w.heap.size w)
  go_enter Try.func12, Try.ntmps12
  go_wp2_with fail
  go_at_call 40
  refine (chain47_is _).mono ?_
  rintro e w1 ⟨v1, rfl, hr, hb⟩
  have HB1 := Lib.hid (HB0.out.trans (hb.mono HB0.out.size))
  have HR := Lib.hid hr
  clear hr
  clear hb
  go_wp2_with fail
  go_at_call 10
  refine (dbuild_is HR.out chn_ks chn_acr chn_ok (by decide)).mono ?_
  rintro e w2 ⟨g, rfl, hg, hb⟩
  have HB2 := Lib.hid (HB1.out.trans (hb.mono HB1.out.size))
  have HG := Lib.hid hg
  clear hg HR
  clear hb
  have ha := (Below.refl w2.heap.size w2).alloc (Nat.le_refl _) (.cells #[.int .i64 2] 3)
  replace HG := Lib.hid (GAt.next HG.out ha)
  have X2 := Lib.hid (rdin_new w2 [2] 1 rfl #[.int .i64 2] rfl (by decide))
  have HCX2 := Lib.hid (HB2.out.trans (ha.mono HB2.out.size))
  clear ha
  go_wp2_with fail
  go_at_call 21
  refine (causes_is HG.out (RdA.of X2.out) (by decide) chn_rl (by decide)).mono ?_
  rintro e w3 ⟨v3, rfl, hr, hb⟩
  have HB3 := Lib.hid (HCX2.out.trans (hb.mono HCX2.out.size))
  replace HG := Lib.hid (GAt.next HG.out hb)
  replace X2 := Lib.hid (RdP.next X2.out hb)
  rw [chn_chk, if_pos rfl, chn_causes] at hr
  rw [chn_chk]
  have HCA := Lib.hid hr
  clear hr
  clear hb
  clear X2
  go_wp2_with fail
  go_at_call 11
  refine (chain_is 0 2 HG.out (by decide) chn_rl).mono ?_
  rintro e w4 ⟨v4, rfl, hr, hb⟩
  have HB4 := Lib.hid (HB3.out.trans (hb.mono HB3.out.size))
  replace HG := Lib.hid (GAt.next HG.out hb)
  replace HCA := Lib.hid (RdP.next HCA.out hb)
  rw [chn_chain] at hr
  rw [chn_chain, Option.isSome_some]
  simp only [Option.getD_some] at hr
  have HCH := Lib.hid hr
  clear hr
  clear hb
  have ha := (Below.refl w4.heap.size w4).alloc (Nat.le_refl _) (.cells #[.int .i64 0, .int .i64 1, .int .i64 2] 3)
  replace HG := Lib.hid (GAt.next HG.out ha)
  replace HCA := Lib.hid (RdP.next HCA.out ha)
  replace HCH := Lib.hid (RdP.next HCH.out ha)
  have X5 := Lib.hid (rdin_new w4 [0, 1, 2] 3 rfl #[.int .i64 0, .int .i64 1, .int .i64 2] rfl (by decide))
  have HCX5 := Lib.hid (HB4.out.trans (ha.mono HB4.out.size))
  clear ha
  go_wp2_with fail
  go_at_call 31
  refine (eqint_is HCA.out X5.out (by decide) (by decide)).mono ?_
  rintro e w5 ⟨rfl, hb⟩
  have HB5 := Lib.hid (HCX5.out.trans (hb.mono HCX5.out.size))
  replace HG := Lib.hid (GAt.next HG.out hb)
  replace HCH := Lib.hid (RdP.next HCH.out hb)
  rw [show decide (([0, 1, 2] : List Int) = [0, 1, 2]) = true from rfl]
  clear HCA X5
  clear hb
  go_wp2_with fail
  go_at_call 16
  refine (port_is 0 (by decide) (by decide) _).mono ?_
  rintro e w6 ⟨rfl, hb⟩
  have HB6 := Lib.hid (HB5.out.trans (hb.mono HB5.out.size))
  replace HG := Lib.hid (GAt.next HG.out hb)
  replace HCH := Lib.hid (RdP.next HCH.out hb)
  rw [show nmV (prtN (1 + 0)) = .agg #[.int .i64 16, .string ⟨#[]⟩, .int .i64 1, .int .i64 0, .string ⟨#[]⟩] from rfl]
  clear hb
  go_wp2_with fail
  go_at_call 16
  refine (port_is 1 (by decide) (by decide) _).mono ?_
  rintro e w7 ⟨rfl, hb⟩
  have HB7 := Lib.hid (HB6.out.trans (hb.mono HB6.out.size))
  replace HG := Lib.hid (GAt.next HG.out hb)
  replace HCH := Lib.hid (RdP.next HCH.out hb)
  rw [show nmV (prtN (1 + 1)) = .agg #[.int .i64 16, .string ⟨#[]⟩, .int .i64 2, .int .i64 0, .string ⟨#[]⟩] from rfl]
  clear hb
  have ha := (Below.refl w7.heap.size w7).alloc (Nat.le_refl _) (.cells #[.int .i64 0, .int .i64 1, .int .i64 16, .string ⟨#[]⟩, .int .i64 1, .int .i64 0, .string ⟨#[]⟩, .int .i64 1, .int .i64 2, .int .i64 16, .string ⟨#[]⟩, .int .i64 2, .int .i64 0, .string ⟨#[]⟩] 43)
  replace HG := Lib.hid (GAt.next HG.out ha)
  replace HCH := Lib.hid (RdP.next HCH.out ha)
  have X8 := Lib.hid (rdlk_new w7 k1l 2 rfl #[.int .i64 0, .int .i64 1, .int .i64 16, .string ⟨#[]⟩, .int .i64 1, .int .i64 0, .string ⟨#[]⟩, .int .i64 1, .int .i64 2, .int .i64 16, .string ⟨#[]⟩, .int .i64 2, .int .i64 0, .string ⟨#[]⟩] rfl (by decide))
  have HCX8 := Lib.hid (HB7.out.trans (ha.mono HB7.out.size))
  clear ha
  go_wp2_with fail
  go_at_call 15
  refine (eqlk_is HCH.out X8.out (by decide) (by decide)).mono ?_
  rintro e w8 ⟨rfl, hb⟩
  have HB8 := Lib.hid (HCX8.out.trans (hb.mono HCX8.out.size))
  replace HG := Lib.hid (GAt.next HG.out hb)
  rw [decide_eq_true (rfl : k1l = k1l)]
  clear HCH X8
  clear hb
  go_wp2_with fail
  go_at_call 26
  refine (glinks_is HG.out (by decide) chn_rl).mono ?_
  rintro e w9 ⟨v9, rfl, hr, hb⟩
  have HB9 := Lib.hid (HB8.out.trans (hb.mono HB8.out.size))
  replace HG := Lib.hid (GAt.next HG.out hb)
  rw [chn_links] at hr
  have HLK := Lib.hid hr
  clear hr
  clear hb
  go_wp2_with fail
  go_at_call 16
  refine (port_is 0 (by decide) (by decide) _).mono ?_
  rintro e w10 ⟨rfl, hb⟩
  have HB10 := Lib.hid (HB9.out.trans (hb.mono HB9.out.size))
  replace HG := Lib.hid (GAt.next HG.out hb)
  replace HLK := Lib.hid (RdP.next HLK.out hb)
  rw [show nmV (prtN (1 + 0)) = .agg #[.int .i64 16, .string ⟨#[]⟩, .int .i64 1, .int .i64 0, .string ⟨#[]⟩] from rfl]
  clear hb
  go_wp2_with fail
  go_at_call 16
  refine (port_is 1 (by decide) (by decide) _).mono ?_
  rintro e w11 ⟨rfl, hb⟩
  have HB11 := Lib.hid (HB10.out.trans (hb.mono HB10.out.size))
  replace HG := Lib.hid (GAt.next HG.out hb)
  replace HLK := Lib.hid (RdP.next HLK.out hb)
  rw [show nmV (prtN (1 + 1)) = .agg #[.int .i64 16, .string ⟨#[]⟩, .int .i64 2, .int .i64 0, .string ⟨#[]⟩] from rfl]
  clear hb
  go_wp2_with fail
  go_at_call 16
  refine (port_is 2 (by decide) (by decide) _).mono ?_
  rintro e w12 ⟨rfl, hb⟩
  have HB12 := Lib.hid (HB11.out.trans (hb.mono HB11.out.size))
  replace HG := Lib.hid (GAt.next HG.out hb)
  replace HLK := Lib.hid (RdP.next HLK.out hb)
  rw [show nmV (prtN (1 + 2)) = .agg #[.int .i64 16, .string ⟨#[]⟩, .int .i64 3, .int .i64 0, .string ⟨#[]⟩] from rfl]
  clear hb
  have ha := (Below.refl w12.heap.size w12).alloc (Nat.le_refl _) (.cells #[.int .i64 0, .int .i64 1, .int .i64 16, .string ⟨#[]⟩, .int .i64 1, .int .i64 0, .string ⟨#[]⟩, .int .i64 1, .int .i64 2, .int .i64 16, .string ⟨#[]⟩, .int .i64 2, .int .i64 0, .string ⟨#[]⟩, .int .i64 (-1), .int .i64 2, .int .i64 16, .string ⟨#[]⟩, .int .i64 3, .int .i64 0, .string ⟨#[]⟩] 43)
  replace HG := Lib.hid (GAt.next HG.out ha)
  replace HLK := Lib.hid (RdP.next HLK.out ha)
  have X9 := Lib.hid (rdlk_new w12 k2l 3 rfl #[.int .i64 0, .int .i64 1, .int .i64 16, .string ⟨#[]⟩, .int .i64 1, .int .i64 0, .string ⟨#[]⟩, .int .i64 1, .int .i64 2, .int .i64 16, .string ⟨#[]⟩, .int .i64 2, .int .i64 0, .string ⟨#[]⟩, .int .i64 (-1), .int .i64 2, .int .i64 16, .string ⟨#[]⟩, .int .i64 3, .int .i64 0, .string ⟨#[]⟩] rfl (by decide))
  have HCX9 := Lib.hid (HB12.out.trans (ha.mono HB12.out.size))
  clear ha
  go_wp2_with fail
  go_at_call 15
  refine (eqlk_is HLK.out X9.out (by decide) (by decide)).mono ?_
  rintro e w13 ⟨rfl, hb⟩
  have HB13 := Lib.hid (HCX9.out.trans (hb.mono HCX9.out.size))
  replace HG := Lib.hid (GAt.next HG.out hb)
  rw [decide_eq_true (rfl : k2l = k2l)]
  clear HLK X9
  clear hb
  go_wp2_with fail
  go_ret
  exact ⟨rfl, HB13.out⟩
end Go.Proofs.Ytmjkcanjfjfkfaa
