/- Walks and plain facts, packed: Z15, Z16, T21, Z17, Z20, Z18, Z19, Z21, Z22, LB. -/
import Derived.Test.YtmjkcanjfjfkfaaGreatZV5
namespace Go.Proofs.YtmjkcanjfjfkfaaGreat
open Go.RowKit
set_option linter.unusedSimpArgs false
set_option linter.unusedVariables false
attribute [local go_sem ↓] Go.wp_at_zero Go.wp_at_succ
open Go.MapKept Go.ChangeMaps
theorem difC_eq {c d : Ch} (hc : okCh c = true) (hd : okCh d = true) (hn : c.name = d.name) : difC c d = !decide (c = d) := by
  obtain ⟨n, v, a⟩ := c; obtain ⟨n', v', a'⟩ := d
  simp only at hn
  subst hn
  simp only [okCh, Bool.and_eq_true, Bool.not_eq_true', Bool.and_eq_false_iff, List.isEmpty_iff] at hc hd
  unfold difC
  simp only [Ch.mk.injEq, true_and]
  cases a <;> cases a' <;> simp_all
  · by_cases h : v = v' <;> simp [h]
theorem chOf_w {l : List Ac} (ol : RunOk l) {n : Nm} {k : Ky} (h : 0 ≤ lwr l n k) : okCh (chOf (acG l (lwr l n k)) n) = true ∧ (chOf (acG l (lwr l n k)) n).name = n := by
  have hb := befK_le l k
  rcases wrB_spec l n (befK l k) with ⟨h1, _⟩ | ⟨i, h1, h2, h3, _⟩
  · exfalso; unfold lwr at h; omega
  · have hil : i < l.length := by omega
    have e : acG l (lwr l n k) = l[i] := by
      have h2' : lwr l n k = (i : Int) := h2; rw [h2', acG_at (by omega) (by omega)]
      rfl
    rw [e]
    unfold hasW at h3
    rw [List.getElem?_eq_getElem hil] at h3; obtain ⟨c, hc⟩ := Option.isSome_iff_exists.1 (by rw [List.isSome_find?]; exact h3 : (l[i].writes.find? fun c => decide (c.name = n)).isSome = true)
    unfold chOf
    rw [hc]; have h4 := List.find?_some hc
    exact ⟨(ord_nodup (okAc_w (ol.o _ (List.getElem_mem hil)))).2 c (List.mem_of_find?_eq_some hc), by simpa using h4⟩
theorem vdf_law {a b : List Ac} (oa : RunOk a) (ob : RunOk b) (n : Nm) (k : Ky) : vdf a b n k = if 0 ≤ lwr a n k ∧ 0 ≤ lwr b n k then !decide (lstC a n k = lstC b n k) else decide (0 ≤ lwr a n k) != decide (0 ≤ lwr b n k) := by
  unfold vdf lstC
  by_cases h1 : 0 ≤ lwr a n k
  · by_cases h2 : 0 ≤ lwr b n k
    · obtain ⟨x1, x2⟩ := chOf_w oa h1
      obtain ⟨y1, y2⟩ := chOf_w ob h2; rw [if_neg (by omega), if_pos ⟨h1, h2⟩, if_pos h1, if_pos h2]
      exact difC_eq x1 y1 (x2.trans y2.symm)
    · rw [if_pos (by omega), if_neg (by omega)]
      simp [h1, h2]
  · rw [if_pos (by omega), if_neg (by omega)]
    by_cases h2 : 0 ≤ lwr b n k <;> simp [h1, h2]
set_option maxRecDepth 100000 in
set_option maxHeartbeats 4000000 in
theorem ldiffers_is {w : World} {v1 v2 : Value} {a b : List Ac} (n : Nm) {k : Ky} (ha : RdAc w v1 a) (hb : RdAc w v2 b) (oa : RunOk a) (ob : RunOk b) (hk : k.lin ∈ lin5) : Calls Tryz.prog 34 #[v1, v2, nmV n, kyV k] w fun e w' => e = .returned (.bool (vdf a b n k)) ∧ Below w.heap.size w w' := by
  have HV := Lib.hid (vdf_law oa ob n k); obtain ⟨A1, c1, rfl, hc1⟩ := RowRd.form ha; obtain ⟨A2, c2, rfl, hc2⟩ := RowRd.form hb; have b0 := Below.refl w.heap.size w; have b1 := b0.alloc b0.size (.cells #[.int .i64 n.kind, .string (bs n.owner), .int .i64 n.num, .int .i64 n.idx, .string (bs n.text)] 45); have b2 := b1.alloc b1.size (.cells #[.int .i64 k.tick, .int .i64 k.cls, .int .i64 k.num, .string (bs k.lin)] 35); have z0 := ((Blk.new w 45 #[.int .i64 n.kind, .string (bs n.owner), .int .i64 n.num, .int .i64 n.idx, .string (bs n.text)]).alloc (.cells #[.int .i64 k.tick, .int .i64 k.cls, .int .i64 k.num, .string (bs k.lin)] 35)); have z1 := (Blk.newE (w.alloc (.cells #[.int .i64 n.kind, .string (bs n.owner), .int .i64 n.num, .int .i64 n.idx, .string (bs n.text)] 45)) 35 #[.int .i64 k.tick, .int .i64 k.cls, .int .i64 k.num, .string (bs k.lin)] (w.heap.size + 1) (by simp)); have HB0 := Lib.hid b2; have HLA := Lib.hid (fun (W : World) (hW : Below ((w.alloc (.cells #[.int .i64 n.kind, .string (bs n.owner), .int .i64 n.num, .int .i64 n.idx, .string (bs n.text)] 45)).alloc (.cells #[.int .i64 k.tick, .int .i64 k.cls, .int .i64 k.num, .string (bs k.lin)] 35)).heap.size ((w.alloc (.cells #[.int .i64 n.kind, .string (bs n.owner), .int .i64 n.num, .int .i64 n.idx, .string (bs n.text)] 45)).alloc (.cells #[.int .i64 k.tick, .int .i64 k.cls, .int .i64 k.num, .string (bs k.lin)] 35)) W) => last_is n ((ha.next b2).next hW) oa hk); have HLB := Lib.hid (fun (W : World) (hW : Below ((w.alloc (.cells #[.int .i64 n.kind, .string (bs n.owner), .int .i64 n.num, .int .i64 n.idx, .string (bs n.text)] 45)).alloc (.cells #[.int .i64 k.tick, .int .i64 k.cls, .int .i64 k.num, .string (bs k.lin)] 35)).heap.size ((w.alloc (.cells #[.int .i64 n.kind, .string (bs n.owner), .int .i64 n.num, .int .i64 n.idx, .string (bs n.text)] 45)).alloc (.cells #[.int .i64 k.tick, .int .i64 k.cls, .int .i64 k.num, .string (bs k.lin)] 35)) W) => last_is n ((hb.next b2).next hW) ob hk); have HNN := Lib.hid (fun (W : World) (hW : Below ((w.alloc (.cells #[.int .i64 n.kind, .string (bs n.owner), .int .i64 n.num, .int .i64 n.idx, .string (bs n.text)] 45)).alloc (.cells #[.int .i64 k.tick, .int .i64 k.cls, .int .i64 k.num, .string (bs k.lin)] 35)).heap.size ((w.alloc (.cells #[.int .i64 n.kind, .string (bs n.owner), .int .i64 n.num, .int .i64 n.idx, .string (bs n.text)] 45)).alloc (.cells #[.int .i64 k.tick, .int .i64 k.cls, .int .i64 k.num, .string (bs k.lin)] 35)) W) => show Blk W w.heap.size 45 #[.int .i64 n.kind, .string (bs n.owner), .int .i64 n.num, .int .i64 n.idx, .string (bs n.text)] ∧ Blk W (w.heap.size + 1) 35 #[.int .i64 k.tick, .int .i64 k.cls, .int .i64 k.num, .string (bs k.lin)] from ⟨z0.next hW z0.lt, z1.next hW z1.lt⟩); obtain ⟨ca, hca⟩ : ∃ ca, lstC a n k = ca := ⟨_, rfl⟩; obtain ⟨cb, hcb⟩ : ∃ cb, lstC b n k = cb := ⟨_, rfl⟩; obtain ⟨ga, hga⟩ : ∃ ga, lstK a n k = ga := ⟨_, rfl⟩; obtain ⟨gb, hgb⟩ : ∃ gb, lstK b n k = gb := ⟨_, rfl⟩; obtain ⟨pa, hpa⟩ : ∃ pa, decide (0 ≤ lwr a n k) = pa := ⟨_, rfl⟩
  obtain ⟨pb, hpb⟩ : ∃ pb, decide (0 ≤ lwr b n k) = pb := ⟨_, rfl⟩; rw [hca, hga, hpa] at HLA; rw [hcb, hgb, hpb] at HLB
  have HR := Lib.hid (show vdf a b n k = if pa = true ∧ pb = true then !decide (ca = cb) else pa != pb by
    rw [HV.out, hca, hcb, hpa, hpb, ← hpa, ← hpb]
    simp only [decide_eq_true_eq])
  unfold kyV chV nmV nmA at HLA HLB
  unfold kyV nmV nmA
  clear ha hb b0 b1 b2 z0 z1 hca hcb hga hgb hpa hpb HV
  go_enter Tryz.func34, Tryz.ntmps34
  go_upto_region 1 with (fail)
  generalize ((w.alloc (.cells #[.int .i64 n.kind, .string (bs n.owner), .int .i64 n.num, .int .i64 n.idx, .string (bs n.text)] 45)).alloc (.cells #[.int .i64 k.tick, .int .i64 k.cls, .int .i64 k.num, .string (bs k.lin)] 35)) = w3 at *; obtain ⟨kb, hkb⟩ : ∃ kb, w.heap.size + 1 = kb := ⟨_, rfl⟩; obtain ⟨nb, hnb⟩ : ∃ nb, w.heap.size = nb := ⟨_, rfl⟩; have HNB := Lib.hid hnb; rw [hkb, hnb] at HNN; rw [hkb, hnb]; clear hkb hnb; obtain ⟨ZN, ZK⟩ := HNN.out w3 (Below.refl _ _); have n0 := ZN.cell 0; have n1 := ZN.cell 1; have n2 := ZN.cell 2; have n3 := ZN.cell 3; have n4 := ZN.cell 4; simp only [qB, qC, qD] at n0 n1 n2 n3 n4; have kk0 := ZK.cell 0; have kk1 := ZK.cell 1; have kk2 := ZK.cell 2; have kk3 := ZK.cell 3; simp only [qB, qC, qD] at kk0 kk1 kk2 kk3; clear ZN ZK
  go_upto_region 2 with (go_at_call 30; refine (HLA.out _ (Below.refl _ _)).mono ?_; rintro e w4 ⟨rfl, hb⟩; have B4 := Lib.hid hb; clear hb)
  have hb1 := (Below.refl w4.heap.size w4).alloc (Nat.le_refl _) (.cells #[.int .i64 ca.name.kind, .string (bs ca.name.owner), .int .i64 ca.name.num, .int .i64 ca.name.idx, .string (bs ca.name.text), .string (bs ca.value), .bool ca.absent] 92); have hb2 := hb1.alloc hb1.size (.cells #[.int .i64 ga.tick, .int .i64 ga.cls, .int .i64 ga.num, .string (bs ga.lin)] 35); have B5 := Lib.hid (B4.out.trans (hb2.mono B4.out.size)); have ZA := Lib.hid ((Blk.new w4 92 #[.int .i64 ca.name.kind, .string (bs ca.name.owner), .int .i64 ca.name.num, .int .i64 ca.name.idx, .string (bs ca.name.text), .string (bs ca.value), .bool ca.absent]).alloc (.cells #[.int .i64 ga.tick, .int .i64 ga.cls, .int .i64 ga.num, .string (bs ga.lin)] 35)); clear hb1 hb2; generalize ((w4.alloc (.cells #[.int .i64 ca.name.kind, .string (bs ca.name.owner), .int .i64 ca.name.num, .int .i64 ca.name.idx, .string (bs ca.name.text), .string (bs ca.value), .bool ca.absent] 92)).alloc (.cells #[.int .i64 ga.tick, .int .i64 ga.cls, .int .i64 ga.num, .string (bs ga.lin)] 35)) = w5 at *; obtain ⟨ZAb, hZA⟩ : ∃ x, w4.heap.size = x := ⟨_, rfl⟩; rw [hZA] at ZA
  try rw [hZA]
  clear hZA; obtain ⟨ZN, ZK⟩ := HNN.out w5 B5.out; have n0 := ZN.cell 0; have n1 := ZN.cell 1; have n2 := ZN.cell 2; have n3 := ZN.cell 3; have n4 := ZN.cell 4; simp only [qB, qC, qD] at n0 n1 n2 n3 n4; have kk0 := ZK.cell 0; have kk1 := ZK.cell 1; have kk2 := ZK.cell 2; have kk3 := ZK.cell 3; simp only [qB, qC, qD] at kk0 kk1 kk2 kk3; clear ZN ZK
  go_upto_region 3 with (go_at_call 30; refine (HLB.out _ B5.out).mono ?_; rintro e w6 ⟨rfl, hb⟩; have B6 := Lib.hid (B5.out.trans (hb.mono B5.out.size)); replace ZA := Lib.hid (ZA.out.next hb ZA.out.lt); clear hb; clear n0 n1 n2 n3 n4 kk0 kk1 kk2 kk3)
  have hb1 := (Below.refl w6.heap.size w6).alloc (Nat.le_refl _) (.cells #[.int .i64 cb.name.kind, .string (bs cb.name.owner), .int .i64 cb.name.num, .int .i64 cb.name.idx, .string (bs cb.name.text), .string (bs cb.value), .bool cb.absent] 92); have hb2 := hb1.alloc hb1.size (.cells #[.int .i64 gb.tick, .int .i64 gb.cls, .int .i64 gb.num, .string (bs gb.lin)] 35); have B7 := Lib.hid (B6.out.trans (hb2.mono B6.out.size)); replace ZA := Lib.hid (ZA.out.next hb2 ZA.out.lt); have ZB := Lib.hid ((Blk.new w6 92 #[.int .i64 cb.name.kind, .string (bs cb.name.owner), .int .i64 cb.name.num, .int .i64 cb.name.idx, .string (bs cb.name.text), .string (bs cb.value), .bool cb.absent]).alloc (.cells #[.int .i64 gb.tick, .int .i64 gb.cls, .int .i64 gb.num, .string (bs gb.lin)] 35)); clear hb1 hb2; generalize ((w6.alloc (.cells #[.int .i64 cb.name.kind, .string (bs cb.name.owner), .int .i64 cb.name.num, .int .i64 cb.name.idx, .string (bs cb.name.text), .string (bs cb.value), .bool cb.absent] 92)).alloc (.cells #[.int .i64 gb.tick, .int .i64 gb.cls, .int .i64 gb.num, .string (bs gb.lin)] 35)) = w7 at *; obtain ⟨ZBb, hZB⟩ : ∃ x, w6.heap.size = x := ⟨_, rfl⟩; rw [hZB] at ZB
  try rw [hZB]
  clear hZB; have HF := Lib.hid (HB0.out.trans (B7.out.mono HB0.out.size))
  cases pa with
  | false => cases pb with
    | false =>
      have HE := Lib.hid (show vdf a b n k = false by rw [HR.out]; rfl)
      go_wp2_with fail
      go_ret
      exact ⟨by rw [HE.out]; rfl, HF.out⟩
    | true =>
      have HE := Lib.hid (show vdf a b n k = true by rw [HR.out]; rfl)
      go_wp2_with fail
      go_ret
      exact ⟨by rw [HE.out]; rfl, HF.out⟩
  | true => cases pb with
    | false =>
      have HE := Lib.hid (show vdf a b n k = true by rw [HR.out]; rfl)
      go_wp2_with fail
      go_ret
      exact ⟨by rw [HE.out]; rfl, HF.out⟩
    | true =>
      have HE := Lib.hid (show vdf a b n k = !decide (ca = cb) by rw [HR.out]; rfl); obtain ⟨bq, hbq⟩ : ∃ bq, decide (ca = cb) = bq := ⟨_, rfl⟩
      have he := fun W => neqCh ca cb bq hbq W
      unfold chV at he
      rw [hbq] at HE; clear hbq; have q0 := ZA.out.cell 0; have q1 := ZA.out.cell 1; have q2 := ZA.out.cell 2; have q3 := ZA.out.cell 3; have q4 := ZA.out.cell 4; have q5 := ZA.out.cell 5; have q6 := ZA.out.cell 6; simp only [qB, qC, qD] at q0 q1 q2 q3 q4 q5 q6; have r0 := ZB.out.cell 0; have r1 := ZB.out.cell 1; have r2 := ZB.out.cell 2; have r3 := ZB.out.cell 3; have r4 := ZB.out.cell 4; have r5 := ZB.out.cell 5; have r6 := ZB.out.cell 6; simp only [qB, qC, qD] at r0 r1 r2 r3 r4 r5 r6
      go_wp2_with fail
      go_ret
      exact ⟨by rw [HE.out]; rfl, HF.out⟩
theorem expF_len (a b : List Ac) : ∀ (n : Nat) (k : Ky) (out : List Rs), (expF a b n k out).1.length ≤ out.length + n
  | 0, k, out => by simp [expF]
  | n + 1, k, out => by
    rw [expF]
    split
    · simp
    · split
      · simp
      · split
        · simp
        · have := expF_len a b n ‹_› (out ++ [(rsnE a b k).1])
          rw [List.length_append, List.length_singleton] at this
          omega
theorem expA_len {a b : List Ac} (oa : RunOk a) (ob : RunOk b) (k : Ky) : (expA a b k).1.length ≤ 100 := by
  have h := expF_len a b (msr a b k + 1) k []; have h1 := befK_le a k; have h2 := befK_le b k; have h3 := oa.len; have h4 := ob.len
  unfold expA
  unfold msr at h ⊢
  simp only [List.length_nil] at h
  omega
def verL (a b : List Ac) (m : List Rs) : Bool := match m with
  | [] => false
  | r :: _ => decide ((expA a b r.key).2 = 0) && decide ((expA a b r.key).1 = m)
theorem verL_at {a b : List Ac} {m : List Rs} (h : 0 < m.length) : verL a b m = (decide ((expA a b m[0].key).2 = 0) && decide ((expA a b m[0].key).1 = m)) := by
  cases m with
  | nil => simp at h
  | cons r l => rfl
set_option maxRecDepth 100000 in
set_option maxHeartbeats 4000000 in
theorem verify_is {w : World} {v1 v2 v3 : Value} {a b : List Ac} {m : List Rs} (ha : RdAc w v1 a) (hb : RdAc w v2 b) (oa : RunOk a) (ob : RunOk b) (hm : RdRs w v3 m) (hml : m.length ≤ 1000) (hk : ∀ (h : 0 < m.length), m[0].key.lin ∈ lin5) : Calls Tryz.prog 13 #[v1, v2, v3] w fun e w' => e = .returned (.bool (verL a b m)) ∧ Below w.heap.size w w' := by
  obtain ⟨A1, c1, rfl, hc1⟩ := RowRd.form ha; obtain ⟨A2, c2, rfl, hc2⟩ := RowRd.form hb; obtain ⟨A3, c3, rfl, hc3⟩ := RdP.form hm
  by_cases h0 : 0 < m.length
  · have HV := Lib.hid (verL_at (a := a) (b := b) h0)
    have e1 : decide ((m.length : Int) = 0) = false := decide_eq_false (by omega)
    have e2 : ((m.length : Int) == 0) = false := by rw [beq_eq_false_iff_ne]; omega
    have j2 : (0 : Int) < (m.length : Int) := by omega
    obtain ⟨xb, xo, hbe, hxb, y0, y1, y2, y3, -, -, -, -, -, -⟩ := RdRs.piece hm h0; subst hbe
    simp only [Nat.zero_mul, Nat.add_zero] at y0 y1 y2 y3
    have HK := hk h0; obtain ⟨k, hkk⟩ : ∃ k, m[0].key = k := ⟨_, rfl⟩; rw [hkk] at y0 y1 y2 y3 HV HK; have HEX := Lib.hid (explain_is (k0 := k) ha hb oa ob HK); have HL := Lib.hid (expA_len oa ob k); have HM := Lib.hid hm; obtain ⟨er, her⟩ : ∃ er, (expA a b k).2 = er := ⟨_, rfl⟩; obtain ⟨R, hR⟩ : ∃ R, (expA a b k).1 = R := ⟨_, rfl⟩; rw [her, hR] at HEX HV; rw [hR] at HL
    unfold kyV at HEX
    clear ha hb hm hk hkk HK h0 oa ob her hR
    by_cases he : er = 0
    · subst he
      have HV2 := Lib.hid (show verL a b m = decide (R = m) by rw [HV.out]; simp)
      go_enter Tryz.func13, Tryz.ntmps13
      go_upto_region 3 with (fail)
      go_upto_region 4 with (go_at_call 7; refine HEX.out.mono ?_; rintro e w1 ⟨vr, rfl, hr, hb⟩; have HR := Lib.hid hr; have HB := Lib.hid hb; clear hr hb y0 y1 y2 y3)
      go_wp2_with fail
      go_at_call 9; refine (eqrs_is HR.out (RdP.next HM.out HB.out) (by have := HL.out; omega) (by omega)).mono ?_; rintro e w2 ⟨rfl, hb⟩; have HB2 := Lib.hid (HB.out.trans (hb.mono HB.out.size)); clear hb
      go_wp2_with fail
      go_ret
      exact ⟨by rw [HV2.out]; rfl, HB2.out⟩
    · have HV2 := Lib.hid (show verL a b m = false by rw [HV.out]; simp [he])
      have e3 : (er == 0) = false := by simpa using he
      have e4 : decide (er = 0) = false := decide_eq_false he; clear he
      go_enter Tryz.func13, Tryz.ntmps13
      go_upto_region 3 with (fail)
      go_upto_region 4 with (go_at_call 7; refine HEX.out.mono ?_; rintro e w1 ⟨vr, rfl, hr, hb⟩; have HB := Lib.hid hb; clear hr hb y0 y1 y2 y3)
      go_wp2_with fail
      go_ret
      exact ⟨by rw [HV2.out]; rfl, HB.out⟩
  · obtain rfl : m = [] := List.length_eq_zero_iff.1 (by omega)
    clear ha hb hm hk h0 oa ob
    go_enter Tryz.func13, Tryz.ntmps13
    go_wp2_with fail
    go_ret
    exact ⟨rfl, Below.refl _ _⟩
end Go.Proofs.YtmjkcanjfjfkfaaGreat
namespace Go.Proofs.YtmjkcanjfjfkfaaGreat
open Go.RowKit
set_option linter.unusedSimpArgs false
set_option linter.unusedVariables false
attribute [local go_sem ↓] Go.wp_at_zero Go.wp_at_succ
def sameRel (a b : List Ch) (w : World) (i : Value) (wr : World) : Prop := ∃ k : Nat, k ≤ a.length ∧ i = .int .i64 k ∧ (∀ j (h1 : j < a.length) (h2 : j < b.length), j < k → a[j] = b[j]) ∧ Below w.heap.size w wr
set_option maxRecDepth 100000 in
set_option maxHeartbeats 4000000 in
theorem same_is {w : World} {v1 v2 : Value} {a b : List Ch} (h1 : RdCh w v1 a) (h2 : RdCh w v2 b) (l1 : a.length ≤ 1000) (l2 : b.length ≤ 1000) : Calls Tryz.prog 32 #[v1, v2] w fun e w' => e = .returned (.bool (decide (a = b))) ∧ Below w.heap.size w w' := by
  obtain ⟨A1, c1, rfl, hc1⟩ := RdP.form h1; obtain ⟨A2, c2, rfl, hc2⟩ := RdP.form h2; have H1 := Lib.hid h1; have H2 := Lib.hid h2; clear h1 h2
  by_cases hl : a.length = b.length
  · have k1 : ((a.length : Int) != (b.length : Int)) = false := by rw [hl]; simp
    have HLL := Lib.hid hl; rw [← hl] at hc2 k1; have H0 : Hid (sameRel a b w (.int .i64 (0 : Nat)) w) := Lib.hid ⟨0, Nat.zero_le _, rfl, fun j _ _ h => by omega, Below.refl _ _⟩
    go_enter Tryz.func32, Tryz.ntmps32
    rw [← HLL.out]; clear hl
    go_wp2_with fail
    go_loopw [5] (fun i wr => sameRel a b w i wr) (fun i _ => a.length - (intOf i).toNat)
    case atStart => exact H0.out
    case round =>
      clear H0; obtain ⟨k, hkl, rfl, hz, hbw⟩ := hrel; have HZ := Lib.hid hz; have HBW := Lib.hid hbw; clear hz hbw
      by_cases hk : k < a.length
      · have j1 : (0 : Int) ≤ (k : Int) := by omega
        have j2 : (k : Int) < (a.length : Int) := by omega
        have j3 : decide ((k : Int) < (a.length : Int)) = true := decide_eq_true j2
        have hkb : k < b.length := by rw [← HLL.out]; exact hk
        obtain ⟨b1, o1, hbe, hb1, x0, x1, x2, x3, x4, x5, x6⟩ := RdCh.piece (RdP.next H1.out HBW.out) hk; subst hbe; obtain ⟨b2, o2, hbe, hb2, y0, y1, y2, y3, y4, y5, y6⟩ := RdCh.piece (RdP.next H2.out HBW.out) hkb; subst hbe; obtain ⟨x, hx⟩ : ∃ x, a[k] = x := ⟨_, rfl⟩; obtain ⟨y, hy⟩ : ∃ y, b[k] = y := ⟨_, rfl⟩; rw [hx] at x0 x1 x2 x3 x4 x5 x6; rw [hy] at y0 y1 y2 y3 y4 y5 y6; have HX := Lib.hid hx; have HY := Lib.hid hy; clear hx hy hb1 hb2; obtain ⟨bq, hbq⟩ : ∃ bq, decide (x = y) = bq := ⟨_, rfl⟩; have HQ := Lib.hid hbq
        have he := fun W => neqCh x y bq hbq W
        unfold chV at he
        clear hbq; have HKK := Lib.hid hk
        cases bq with
        | true =>
          go_upto_region 6 with (fail)
          go_quiet (fail)
          clear x0 x1 x2 x3 x4 x5 x6 y0 y1 y2 y3 y4 y5 y6 he
          go_wp2_with fail
          go_roundw
          case rel => exact ⟨k + 1, HKK.out, by go_num, fun j h1 h2 h3 => by
            rcases Nat.lt_or_ge j k with h | h
            · exact HZ.out j h1 h2 h
            · obtain rfl : j = k := by omega
              rw [HX.out, HY.out]; exact of_decide_eq_true HQ.out, HBW.out.trans (below_drewN (Below.refl _ _) nq)⟩
          case measure => have := HKK.out; simp [intOf]; omega
        | false =>
          have hne : decide (a = b) = false := decide_eq_false (fun e => by
            subst e
            exact (of_decide_eq_false HQ.out) (HX.out.symm.trans HY.out))
          have HNE := Lib.hid hne; clear hne
          go_upto_region 6 with (fail)
          go_quiet (fail)
          clear x0 x1 x2 x3 x4 x5 x6 y0 y1 y2 y3 y4 y5 y6 he
          go_wp2_with fail
          go_ret
          exact ⟨by rw [HNE.out]; rfl, HBW.out.trans (below_drewN (Below.refl _ _) nq)⟩
      · have j3 : decide ((k : Int) < (a.length : Int)) = false := decide_eq_false (by omega)
        have HEQ := Lib.hid (show decide (a = b) = true from decide_eq_true (List.ext_getElem HLL.out (fun j h1 h2 => HZ.out j h1 h2 (by omega))))
        go_wp2_with fail
        go_ret
        exact ⟨by rw [HEQ.out]; rfl, HBW.out⟩
  · have k1 : ((a.length : Int) != (b.length : Int)) = true := by rw [bne_iff_ne]; omega
    have k2 : (a.length != b.length) = true := by rw [bne_iff_ne]; exact hl
    have HNE := Lib.hid (show decide (a = b) = false from decide_eq_false (fun e => hl (by rw [e]))); clear hl
    go_enter Tryz.func32, Tryz.ntmps32
    go_wp2_with fail
    go_ret
    exact ⟨by rw [HNE.out]; rfl, Below.refl _ _⟩
end Go.Proofs.YtmjkcanjfjfkfaaGreat
namespace Go.Proofs.YtmjkcanjfjfkfaaGreat
open Go.RowKit
set_option linter.unusedSimpArgs false
set_option linter.unusedVariables false
attribute [local go_sem ↓] Go.wp_at_zero Go.wp_at_succ
open Go.MapKept Go.ChangeMaps
theorem setKz_ {w : World} {g : Nat} {t : TypeId} {z0 z1 z2 z3 z4 z5 z6 z7 z8 z9 : Value} (v0 v1 v2 v3 : Value) (h : Blk w g t #[z0, z1, z2, z3, z4, z5, z6, z7, z8, z9]) : Blk ((((w.setCell ⟨g, 0, none⟩ (v0)).setCell ⟨g, 1, none⟩ (v1)).setCell ⟨g, 2, none⟩ (v2)).setCell ⟨g, 3, none⟩ (v3)) g t #[v0, v1, v2, v3, z4, z5, z6, z7, z8, z9] := by
  have := ((((h.set_ 0 v0).set_ 1 v1).set_ 2 v2).set_ 3 v3)
  simpa using this
theorem lowKz_ {B : Nat} {w0 w : World} {g : Nat} (v0 v1 v2 v3 : Value) (h : Below B w0 w) (hg : B ≤ g) : Below B w0 ((((w.setCell ⟨g, 0, none⟩ (v0)).setCell ⟨g, 1, none⟩ (v1)).setCell ⟨g, 2, none⟩ (v2)).setCell ⟨g, 3, none⟩ (v3)) :=
  ((((h.setCell (p := ⟨g, 0, none⟩) hg v0).setCell (p := ⟨g, 1, none⟩) hg v1).setCell (p := ⟨g, 2, none⟩) hg v2).setCell (p := ⟨g, 3, none⟩) hg v3)
theorem kpKz_ {w : World} {g b : Nat} {t : TypeId} {cs : Array Value} (v0 v1 v2 v3 : Value) (h : Blk w b t cs) (hne : b ≠ g) : Blk ((((w.setCell ⟨g, 0, none⟩ (v0)).setCell ⟨g, 1, none⟩ (v1)).setCell ⟨g, 2, none⟩ (v2)).setCell ⟨g, 3, none⟩ (v3)) b t cs :=
  h.grown (only_setCell (only_setCell (only_setCell (only_setCell (only_of_below (Below.refl w.heap.size w) (some g)) (.inl rfl) _) (.inl rfl) _) (.inl rfl) _) (.inl rfl) _) (fun e => hne (by injection e))
theorem setDz_ {w : World} {g : Nat} {t : TypeId} {z0 z1 z2 z3 z4 z5 z6 z7 z8 z9 : Value} (v0 : Value) (h : Blk w g t #[z0, z1, z2, z3, z4, z5, z6, z7, z8, z9]) : Blk (w.setCell ⟨g, 4, none⟩ (v0)) g t #[z0, z1, z2, z3, v0, z5, z6, z7, z8, z9] := by
  have := (h.set_ 4 v0)
  simpa using this
theorem lowDz_ {B : Nat} {w0 w : World} {g : Nat} (v0 : Value) (h : Below B w0 w) (hg : B ≤ g) : Below B w0 (w.setCell ⟨g, 4, none⟩ (v0)) :=
  (h.setCell (p := ⟨g, 4, none⟩) hg v0)
theorem kpDz_ {w : World} {g b : Nat} {t : TypeId} {cs : Array Value} (v0 : Value) (h : Blk w b t cs) (hne : b ≠ g) : Blk (w.setCell ⟨g, 4, none⟩ (v0)) b t cs :=
  h.grown (only_setCell (only_of_below (Below.refl w.heap.size w) (some g)) (.inl rfl) _) (fun e => hne (by injection e))
set_option maxRecDepth 100000 in
set_option maxHeartbeats 1500000 in
theorem lreason_no {w : World} {v1 v2 : Value} {a b : List Ac} {k : Ky} (ha : RdAc w v1 a) (hb : RdAc w v2 b) (oa : RunOk a) (ob : RunOk b) (h1 : hasK a k = false) (h2 : hasK b k = false) : Calls Tryz.prog 10 #[v1, v2, kyV k] w fun e w' => e = .returned (.tuple #[rsV rs0, .bool false, .bool false]) ∧ Below w.heap.size w w' := by
  have hfa : fndI a k = -1 := by rw [fndI_has oa.pw, h1]; rfl
  have hfb : fndI b k = -1 := by rw [fndI_has ob.pw, h2]; rfl
  obtain ⟨A1, c1, rfl, hc1⟩ := RowRd.form ha; obtain ⟨A2, c2, rfl, hc2⟩ := RowRd.form hb; have hal := oa.len; have hbl := ob.len; have b0 := Below.refl w.heap.size w; have b1 := b0.alloc b0.size (.cells #[.int .i64 k.tick, .int .i64 k.cls, .int .i64 k.num, .string (bs k.lin)] 35); have b2 := b1.alloc b1.size (.cells #[.int .i64 0, .int .i64 0, .int .i64 0, .string ⟨#[]⟩, .int .i64 0, .int .i64 0, .string ⟨#[]⟩, .int .i64 0, .int .i64 0, .string ⟨#[]⟩] 47); have z0 := ((Blk.new w 35 #[.int .i64 k.tick, .int .i64 k.cls, .int .i64 k.num, .string (bs k.lin)]).alloc (.cells #[.int .i64 0, .int .i64 0, .int .i64 0, .string ⟨#[]⟩, .int .i64 0, .int .i64 0, .string ⟨#[]⟩, .int .i64 0, .int .i64 0, .string ⟨#[]⟩] 47)); have z1 := (Blk.newE (w.alloc (.cells #[.int .i64 k.tick, .int .i64 k.cls, .int .i64 k.num, .string (bs k.lin)] 35)) 47 #[.int .i64 0, .int .i64 0, .int .i64 0, .string ⟨#[]⟩, .int .i64 0, .int .i64 0, .string ⟨#[]⟩, .int .i64 0, .int .i64 0, .string ⟨#[]⟩] (w.heap.size + 1) (by simp)); have HB0 := Lib.hid b2; have Z0 := Lib.hid z0; have Z1 := Lib.hid z1; have HA := Lib.hid (fun (W : World) (hW : Below w.heap.size w W) => ha.next hW); have HB := Lib.hid (fun (W : World) (hW : Below w.heap.size w W) => hb.next hW); have HFA := Lib.hid (fun (W : World) (hW : Below ((w.alloc (.cells #[.int .i64 k.tick, .int .i64 k.cls, .int .i64 k.num, .string (bs k.lin)] 35)).alloc (.cells #[.int .i64 0, .int .i64 0, .int .i64 0, .string ⟨#[]⟩, .int .i64 0, .int .i64 0, .string ⟨#[]⟩, .int .i64 0, .int .i64 0, .string ⟨#[]⟩] 47)).heap.size ((w.alloc (.cells #[.int .i64 k.tick, .int .i64 k.cls, .int .i64 k.num, .string (bs k.lin)] 35)).alloc (.cells #[.int .i64 0, .int .i64 0, .int .i64 0, .string ⟨#[]⟩, .int .i64 0, .int .i64 0, .string ⟨#[]⟩, .int .i64 0, .int .i64 0, .string ⟨#[]⟩] 47)) W) => find_is k ((ha.next b2).next hW) (Nat.le_trans oa.len (by decide))); have HFB := Lib.hid (fun (W : World) (hW : Below ((w.alloc (.cells #[.int .i64 k.tick, .int .i64 k.cls, .int .i64 k.num, .string (bs k.lin)] 35)).alloc (.cells #[.int .i64 0, .int .i64 0, .int .i64 0, .string ⟨#[]⟩, .int .i64 0, .int .i64 0, .string ⟨#[]⟩, .int .i64 0, .int .i64 0, .string ⟨#[]⟩] 47)).heap.size ((w.alloc (.cells #[.int .i64 k.tick, .int .i64 k.cls, .int .i64 k.num, .string (bs k.lin)] 35)).alloc (.cells #[.int .i64 0, .int .i64 0, .int .i64 0, .string ⟨#[]⟩, .int .i64 0, .int .i64 0, .string ⟨#[]⟩, .int .i64 0, .int .i64 0, .string ⟨#[]⟩] 47)) W) => find_is k ((hb.next b2).next hW) (Nat.le_trans ob.len (by decide))); have OA := Lib.hid oa; have OB := Lib.hid ob; rw [hfa] at HFA; rw [hfb] at HFB; clear hfa hfb h1 h2
  unfold kyV at HFA HFB
  unfold rsV kyV
  clear ha hb b0 b1 b2 z0 z1 oa ob
  go_enter Tryz.func10, Tryz.ntmps10
  go_upto_region 1 with (fail)
  generalize ((w.alloc (.cells #[.int .i64 k.tick, .int .i64 k.cls, .int .i64 k.num, .string (bs k.lin)] 35)).alloc (.cells #[.int .i64 0, .int .i64 0, .int .i64 0, .string ⟨#[]⟩, .int .i64 0, .int .i64 0, .string ⟨#[]⟩, .int .i64 0, .int .i64 0, .string ⟨#[]⟩] 47)) = w2 at *; obtain ⟨rb, hrb⟩ : ∃ rb, w.heap.size + 1 = rb := ⟨_, rfl⟩; obtain ⟨kb, hkb⟩ : ∃ kb, w.heap.size = kb := ⟨_, rfl⟩; have HKR := Lib.hid (show kb ≠ rb by omega); have HRL := Lib.hid (show w.heap.size ≤ rb by omega); have HWK := Lib.hid hkb; rw [hrb] at Z1 ⊢; rw [hkb] at Z0 ⊢; clear hrb hkb; have HSS := Lib.hid (fun (W : World) (hW : Below w2.heap.size w2 W) => show W.cell? ⟨kb, 0, none⟩ = some (.int .i64 k.tick) ∧ W.cell? ⟨kb, 1, none⟩ = some (.int .i64 k.cls) ∧ W.cell? ⟨kb, 2, none⟩ = some (.int .i64 k.num) ∧ W.cell? ⟨kb, 3, none⟩ = some (.string (bs k.lin)) from ⟨(Z0.out.next hW Z0.out.lt).cell 0, (Z0.out.next hW Z0.out.lt).cell 1, (Z0.out.next hW Z0.out.lt).cell 2, (Z0.out.next hW Z0.out.lt).cell 3⟩)
  refine wp_region_noPanic ?_
  refine wp_region_held_drew (S := (fun (w' : World) => w'.cell? ⟨kb, 0, none⟩ = some (.int .i64 k.tick) ∧ w'.cell? ⟨kb, 1, none⟩ = some (.int .i64 k.cls) ∧ w'.cell? ⟨kb, 2, none⟩ = some (.int .i64 k.num) ∧ w'.cell? ⟨kb, 3, none⟩ = some (.string (bs k.lin)))) (by kernel_rfl) ?_ (fun hHeld => ?_)
  · exact HSS.out w2 (Below.refl _ _)
  refine tk (v := ?_) 0 rfl (by kernel_rfl) (fun _ _ _ h => h) ?_ hHeld ?_; rotate_left
  · (intro w h; (try dsimp only at h); go_simp; try with_reducible rfl)
  try simp only [Act.put, pB, pC, pD]
  refine tk (v := ?_) 1 rfl (by kernel_rfl) (fun _ _ _ h => h) ?_ hHeld ?_; rotate_left
  · (intro w h; (try dsimp only at h); go_simp; try with_reducible rfl)
  try simp only [Act.put, pB, pC, pD]
  refine tk (v := ?_) 3 rfl (by kernel_rfl) (fun _ _ _ h => h) ?_ hHeld ?_; rotate_left
  · (intro w h; (try dsimp only at h); go_simp; try with_reducible rfl)
  try simp only [Act.put, pB, pC, pD]
  refine tk (v := ?_) 4 rfl (by kernel_rfl) (fun _ _ _ h => h) ?_ hHeld ?_; rotate_left
  · (intro w h; (try dsimp only at h); go_simp; try with_reducible rfl)
  try simp only [Act.put, pB, pC, pD]
  refine wpAnyH_ready (rs := [2]) (by kernel_rfl) (by simp) ?_; refine AllReadyH.cons rfl (fun K hK => ?_) AllReadyH.nil; go_simp; refine (HFA.out _ ((Below.refl w2.heap.size w2).drew)).mono ?_; rintro e w3 ⟨rfl, hb'⟩; have B3 := Lib.hid (((Below.refl w2.heap.size w2).drew).trans (hb'.mono ((Below.refl w2.heap.size w2).drew).size)); have h3 := HSS.out w3 B3.out; clear hb'
  try (go_wp2_with fail)
  refine hK.out _ _ ?_ (fun hNew => ?_)
  · exact h3
  clear hK K hHeld; have hHeld := hNew; clear hNew; try simp only [Act.put, pB, pC, pD]
  refine wpAnyH_ready (rs := [5]) (by kernel_rfl) (by simp) ?_; refine AllReadyH.cons rfl (fun K hK => ?_) AllReadyH.nil; go_simp; refine (HFB.out _ (B3.out)).mono ?_; rintro e w4 ⟨rfl, hb'⟩; have B4 := Lib.hid ((B3.out).trans (hb'.mono (B3.out).size)); have h4 := HSS.out w4 B4.out; clear hb'
  try (go_wp2_with fail)
  refine hK.out _ _ ?_ (fun hNew => ?_)
  · exact h4
  clear hK K hHeld; have hHeld := hNew; clear hNew; try simp only [Act.put, pB, pC, pD]
  refine tk (v := ?_) 6 rfl (by kernel_rfl) (fun _ _ _ h => h) ?_ hHeld ?_; rotate_left
  · (intro w h; (try dsimp only at h); go_simp; try with_reducible rfl)
  try simp only [Act.put, pB, pC, pD]
  refine tk (v := ?_) 7 rfl (by kernel_rfl) (fun _ _ _ h => h) ?_ hHeld ?_; rotate_left
  · (intro w h; (try dsimp only at h); go_simp; try with_reducible rfl)
  try simp only [Act.put, pB, pC, pD]
  refine wpAnyH_done (by kernel_rfl) ?_ _; clear hHeld
  try simp only [List.getElem_toArray, List.getElem_cons_zero, List.getElem_cons_succ, Act.put, pB, pC, pD]
  refine NoPanic.normal ?_
  replace Z0 := Lib.hid (Z0.out.next B4.out Z0.out.lt); replace Z1 := Lib.hid (Z1.out.next B4.out Z1.out.lt); replace B4 := Lib.hid (HB0.out.trans (B4.out.mono HB0.out.size)); obtain ⟨kk0, kk1, kk2, kk3⟩ := h4; clear h3 B3 HSS HFA HFB HB0; have q0 := Z1.out.cell 0; have q1 := Z1.out.cell 1; have q2 := Z1.out.cell 2; have q3 := Z1.out.cell 3; have q4 := Z1.out.cell 4; have q5 := Z1.out.cell 5; have q6 := Z1.out.cell 6; have q7 := Z1.out.cell 7; have q8 := Z1.out.cell 8; have q9 := Z1.out.cell 9; simp only [qB, qC, qD] at q0 q1 q2 q3 q4 q5 q6 q7 q8 q9; have f0 := Z1.out.frozen 0; have f1 := Z1.out.frozen 1; have f2 := Z1.out.frozen 2; have f3 := Z1.out.frozen 3; have f4 := Z1.out.frozen 4; have f5 := Z1.out.frozen 5; have f6 := Z1.out.frozen 6; have f7 := Z1.out.frozen 7; have f8 := Z1.out.frozen 8; have f9 := Z1.out.frozen 9; have ZA := Lib.hid (setKz_ (.int .i64 k.tick) (.int .i64 k.cls) (.int .i64 k.num) (.string (bs k.lin)) Z1.out); have BA := Lib.hid (lowKz_ (.int .i64 k.tick) (.int .i64 k.cls) (.int .i64 k.num) (.string (bs k.lin)) B4.out HRL.out); have ZKA := Lib.hid (kpKz_ (g := rb) (.int .i64 k.tick) (.int .i64 k.cls) (.int .i64 k.num) (.string (bs k.lin)) Z0.out HKR.out)
  go_upto_region 5 with (fail)
  clear q0 q1 q2 q3 q4 q5 q6 q7 q8 q9 f0 f1 f2 f3 f4 f5 f6 f7 f8 f9 kk0 kk1 kk2 kk3; generalize ((((w4.setCell ⟨rb, 0, none⟩ (.int .i64 k.tick)).setCell ⟨rb, 1, none⟩ (.int .i64 k.cls)).setCell ⟨rb, 2, none⟩ (.int .i64 k.num)).setCell ⟨rb, 3, none⟩ (.string (bs k.lin))) = w5 at *; have q0 := ZA.out.cell 0; have q1 := ZA.out.cell 1; have q2 := ZA.out.cell 2; have q3 := ZA.out.cell 3; have q4 := ZA.out.cell 4; have q5 := ZA.out.cell 5; have q6 := ZA.out.cell 6; have q7 := ZA.out.cell 7; have q8 := ZA.out.cell 8; have q9 := ZA.out.cell 9; simp only [qB, qC, qD] at q0 q1 q2 q3 q4 q5 q6 q7 q8 q9; have f0 := ZA.out.frozen 0; have f1 := ZA.out.frozen 1; have f2 := ZA.out.frozen 2; have f3 := ZA.out.frozen 3; have f4 := ZA.out.frozen 4; have f5 := ZA.out.frozen 5; have f6 := ZA.out.frozen 6; have f7 := ZA.out.frozen 7; have f8 := ZA.out.frozen 8; have f9 := ZA.out.frozen 9; have ZE := Lib.hid (set10z_ (.int .i64 0) (.int .i64 0) (.int .i64 0) (.string ⟨#[]⟩) (.int .i64 0) (.int .i64 0) (.string ⟨#[]⟩) (.int .i64 0) (.int .i64 0) (.string ⟨#[]⟩) ZA.out); have BE := Lib.hid (low10z_ (.int .i64 0) (.int .i64 0) (.int .i64 0) (.string ⟨#[]⟩) (.int .i64 0) (.int .i64 0) (.string ⟨#[]⟩) (.int .i64 0) (.int .i64 0) (.string ⟨#[]⟩) BA.out HRL.out)
  go_wp2_with fail
  clear q0 q1 q2 q3 q4 q5 q6 q7 q8 q9 f0 f1 f2 f3 f4 f5 f6 f7 f8 f9; have d0 := ZE.out.cell 0; have d1 := ZE.out.cell 1; have d2 := ZE.out.cell 2; have d3 := ZE.out.cell 3; have d4 := ZE.out.cell 4; have d5 := ZE.out.cell 5; have d6 := ZE.out.cell 6; have d7 := ZE.out.cell 7; have d8 := ZE.out.cell 8; have d9 := ZE.out.cell 9; simp only [qB, qC, qD] at d0 d1 d2 d3 d4 d5 d6 d7 d8 d9; generalize ((((((((((w5.setCell ⟨rb, 0, none⟩ (.int .i64 0)).setCell ⟨rb, 1, none⟩ (.int .i64 0)).setCell ⟨rb, 2, none⟩ (.int .i64 0)).setCell ⟨rb, 3, none⟩ (.string ⟨#[]⟩)).setCell ⟨rb, 4, none⟩ (.int .i64 0)).setCell ⟨rb, 5, none⟩ (.int .i64 0)).setCell ⟨rb, 6, none⟩ (.string ⟨#[]⟩)).setCell ⟨rb, 7, none⟩ (.int .i64 0)).setCell ⟨rb, 8, none⟩ (.int .i64 0)).setCell ⟨rb, 9, none⟩ (.string ⟨#[]⟩)) = W9 at *
  exact bodyPost_ret (v := .tuple #[.agg #[.int .i64 0, .int .i64 0, .int .i64 0, .string ⟨#[]⟩, .int .i64 0, .int .i64 0, .string ⟨#[]⟩, .int .i64 0, .int .i64 0, .string ⟨#[]⟩], .bool false, .bool false]) (by simp [results, Tryz.results10, go_sem, d0, d1, d2, d3, d4, d5, d6, d7, d8, d9]) rfl ⟨rfl, BE.out⟩def loRel (a b : List Ac) (pn : Nm) (sk k : Ky) (kd : Int) (en : Nm) (w : World) (rb kb sb : Nat) (i : Value) (wr : World) : Prop := ∃ j : Nat, j ≤ 2 ∧ i = .int .i64 (j : Int) ∧ (0 < j → vdf a b pn sk = false) ∧ Blk wr rb 47 #[.int .i64 k.tick, .int .i64 k.cls, .int .i64 k.num, .string (bs k.lin), .int .i64 kd, .int .i64 0, .string ⟨#[]⟩, .int .i64 0, .int .i64 0, .string ⟨#[]⟩] ∧ Blk wr kb 35 #[.int .i64 k.tick, .int .i64 k.cls, .int .i64 k.num, .string (bs k.lin)] ∧ Blk wr sb 45 #[.int .i64 pn.kind, .string (bs pn.owner), .int .i64 pn.num, .int .i64 pn.idx, .string (bs pn.text), .int .i64 en.kind, .string (bs en.owner), .int .i64 en.num, .int .i64 en.idx, .string (bs en.text)] ∧ Below w.heap.size w wr
set_option maxRecDepth 100000 in
set_option maxHeartbeats 1500000 in
theorem lreason_one {w : World} {v1 v2 : Value} {a b : List Ac} {k : Ky} {kd : Int} (ha : RdAc w v1 a) (hb : RdAc w v2 b) (oa : RunOk a) (ob : RunOk b) (hk : k.lin ∈ lin5) (hx : (hasK a k = true ∧ hasK b k = false ∧ kd = 3) ∨ (hasK a k = false ∧ hasK b k = true ∧ kd = 2)) : Calls Tryz.prog 10 #[v1, v2, kyV k] w fun e w' => e = .returned (.tuple #[rsV (alo a b k kd), .bool true, .bool false]) ∧ Below w.heap.size w w' := by
  have hfx : (0 ≤ fndI a k ∧ fndI b k = -1 ∧ kd = 3) ∨ (fndI a k = -1 ∧ 0 ≤ fndI b k ∧ kd = 2) := by
    rcases hx with ⟨h1, h2, h3⟩ | ⟨h1, h2, h3⟩
    · left; rw [fndI_has oa.pw, fndI_has ob.pw, h1, h2]; exact ⟨by simp, rfl, h3⟩
    · right; rw [fndI_has oa.pw, fndI_has ob.pw, h1, h2]; exact ⟨rfl, by simp, h3⟩
  obtain ⟨A1, c1, rfl, hc1⟩ := RowRd.form ha; obtain ⟨A2, c2, rfl, hc2⟩ := RowRd.form hb; have hal := oa.len; have hbl := ob.len; have b0 := Below.refl w.heap.size w; have b1 := b0.alloc b0.size (.cells #[.int .i64 k.tick, .int .i64 k.cls, .int .i64 k.num, .string (bs k.lin)] 35); have b2 := b1.alloc b1.size (.cells #[.int .i64 0, .int .i64 0, .int .i64 0, .string ⟨#[]⟩, .int .i64 0, .int .i64 0, .string ⟨#[]⟩, .int .i64 0, .int .i64 0, .string ⟨#[]⟩] 47); have z0 := ((Blk.new w 35 #[.int .i64 k.tick, .int .i64 k.cls, .int .i64 k.num, .string (bs k.lin)]).alloc (.cells #[.int .i64 0, .int .i64 0, .int .i64 0, .string ⟨#[]⟩, .int .i64 0, .int .i64 0, .string ⟨#[]⟩, .int .i64 0, .int .i64 0, .string ⟨#[]⟩] 47)); have z1 := (Blk.newE (w.alloc (.cells #[.int .i64 k.tick, .int .i64 k.cls, .int .i64 k.num, .string (bs k.lin)] 35)) 47 #[.int .i64 0, .int .i64 0, .int .i64 0, .string ⟨#[]⟩, .int .i64 0, .int .i64 0, .string ⟨#[]⟩, .int .i64 0, .int .i64 0, .string ⟨#[]⟩] (w.heap.size + 1) (by simp)); have HB0 := Lib.hid b2; have Z0 := Lib.hid z0; have Z1 := Lib.hid z1; have HA := Lib.hid (fun (W : World) (hW : Below w.heap.size w W) => ha.next hW); have HB := Lib.hid (fun (W : World) (hW : Below w.heap.size w W) => hb.next hW); have HFA := Lib.hid (fun (W : World) (hW : Below ((w.alloc (.cells #[.int .i64 k.tick, .int .i64 k.cls, .int .i64 k.num, .string (bs k.lin)] 35)).alloc (.cells #[.int .i64 0, .int .i64 0, .int .i64 0, .string ⟨#[]⟩, .int .i64 0, .int .i64 0, .string ⟨#[]⟩, .int .i64 0, .int .i64 0, .string ⟨#[]⟩] 47)).heap.size ((w.alloc (.cells #[.int .i64 k.tick, .int .i64 k.cls, .int .i64 k.num, .string (bs k.lin)] 35)).alloc (.cells #[.int .i64 0, .int .i64 0, .int .i64 0, .string ⟨#[]⟩, .int .i64 0, .int .i64 0, .string ⟨#[]⟩, .int .i64 0, .int .i64 0, .string ⟨#[]⟩] 47)) W) => find_is k ((ha.next b2).next hW) (Nat.le_trans oa.len (by decide))); have HFB := Lib.hid (fun (W : World) (hW : Below ((w.alloc (.cells #[.int .i64 k.tick, .int .i64 k.cls, .int .i64 k.num, .string (bs k.lin)] 35)).alloc (.cells #[.int .i64 0, .int .i64 0, .int .i64 0, .string ⟨#[]⟩, .int .i64 0, .int .i64 0, .string ⟨#[]⟩, .int .i64 0, .int .i64 0, .string ⟨#[]⟩] 47)).heap.size ((w.alloc (.cells #[.int .i64 k.tick, .int .i64 k.cls, .int .i64 k.num, .string (bs k.lin)] 35)).alloc (.cells #[.int .i64 0, .int .i64 0, .int .i64 0, .string ⟨#[]⟩, .int .i64 0, .int .i64 0, .string ⟨#[]⟩, .int .i64 0, .int .i64 0, .string ⟨#[]⟩] 47)) W) => find_is k ((hb.next b2).next hW) (Nat.le_trans ob.len (by decide))); have OA := Lib.hid oa; have OB := Lib.hid ob; have HSL := Lib.hid (fun W => slots_is W k.tick); have HDF := Lib.hid (fun (n : Nm) (W : World) (hW : Below w.heap.size w W) => ldiffers_is n (k := sloK k.tick) (ha.next hW) (hb.next hW) oa ob (show ([] : Bs) ∈ lin5 by decide)); have HEP := Lib.hid (vdf_ep oa ob (sloK k.tick)); have HAL := Lib.hid (show alo a b k kd = if k.cls = 0 then ⟨k, kd, nm0⟩ else if vdf a b (prcN k.lin) (sloK k.tick) then ⟨k, kd, prcN k.lin⟩ else ⟨k, kd, nm0⟩ from rfl)
  have HOP := Lib.hid (fun W => ofproc_is k.lin W); have HOE := Lib.hid (fun W => ofepoch_is W); obtain ⟨sk, hsk⟩ : ∃ sk, sloK k.tick = sk := ⟨_, rfl⟩; obtain ⟨pn, hpn⟩ : ∃ pn, prcN k.lin = pn := ⟨_, rfl⟩; obtain ⟨en, hen⟩ : ∃ en, epN = en := ⟨_, rfl⟩; rw [hsk] at HSL HDF HEP HAL; rw [hpn] at HAL HOP; rw [hen] at HOE HEP; obtain ⟨R, hR⟩ : ∃ R, alo a b k kd = R := ⟨_, rfl⟩; rw [hR] at HAL ⊢; obtain ⟨fa, hfa⟩ : ∃ fa, fndI a k = fa := ⟨_, rfl⟩; obtain ⟨fb, hfb⟩ : ∃ fb, fndI b k = fb := ⟨_, rfl⟩; rw [hfa, hfb] at hfx; rw [hfa] at HFA; rw [hfb] at HFB
  unfold nmV nmA kyV at HDF
  unfold nmV nmA at HOP HOE
  unfold kyV at HSL
  clear hsk hpn hen hR hfa hfb hx; have HGO : Hid (∀ (F : Prop), ((fa ≥ 0 ∧ fb = -1 ∧ kd = 3) → F) → ((fa = -1 ∧ 0 ≤ fb ∧ kd = 2) → F) → F) := Lib.hid (fun F f g => by rcases hfx with h | h; exact f h; exact g h); clear hfx
  refine HGO.out _ (fun hfx => ?_) (fun hfx => ?_) <;> clear HGO
  · obtain ⟨hf1, hf2, hf3⟩ := hfx
    have e1 : decide (fa < 0) = false := decide_eq_false (by omega); have e2 : decide (fb < 0) = true := decide_eq_true (by omega); have e3 : decide (0 ≤ fa) = true := decide_eq_true (by omega); have e4 : decide (0 ≤ fb) = false := decide_eq_false (by omega); have HKD := Lib.hid hf3; clear hf1 hf2 hf3
    unfold kyV at HFA HFB
    unfold rsV kyV
    clear ha hb b0 b1 b2 z0 z1 oa ob
    go_enter Tryz.func10, Tryz.ntmps10
    go_upto_region 1 with (fail)
    generalize ((w.alloc (.cells #[.int .i64 k.tick, .int .i64 k.cls, .int .i64 k.num, .string (bs k.lin)] 35)).alloc (.cells #[.int .i64 0, .int .i64 0, .int .i64 0, .string ⟨#[]⟩, .int .i64 0, .int .i64 0, .string ⟨#[]⟩, .int .i64 0, .int .i64 0, .string ⟨#[]⟩] 47)) = w2 at *; obtain ⟨rb, hrb⟩ : ∃ rb, w.heap.size + 1 = rb := ⟨_, rfl⟩; obtain ⟨kb, hkb⟩ : ∃ kb, w.heap.size = kb := ⟨_, rfl⟩; have HKR := Lib.hid (show kb ≠ rb by omega); have HRL := Lib.hid (show w.heap.size ≤ rb by omega); have HWK := Lib.hid hkb; rw [hrb] at Z1 ⊢; rw [hkb] at Z0 ⊢; clear hrb hkb; have HSS := Lib.hid (fun (W : World) (hW : Below w2.heap.size w2 W) => show W.cell? ⟨kb, 0, none⟩ = some (.int .i64 k.tick) ∧ W.cell? ⟨kb, 1, none⟩ = some (.int .i64 k.cls) ∧ W.cell? ⟨kb, 2, none⟩ = some (.int .i64 k.num) ∧ W.cell? ⟨kb, 3, none⟩ = some (.string (bs k.lin)) from ⟨(Z0.out.next hW Z0.out.lt).cell 0, (Z0.out.next hW Z0.out.lt).cell 1, (Z0.out.next hW Z0.out.lt).cell 2, (Z0.out.next hW Z0.out.lt).cell 3⟩)
    refine wp_region_noPanic ?_
    refine wp_region_held_drew (S := (fun (w' : World) => w'.cell? ⟨kb, 0, none⟩ = some (.int .i64 k.tick) ∧ w'.cell? ⟨kb, 1, none⟩ = some (.int .i64 k.cls) ∧ w'.cell? ⟨kb, 2, none⟩ = some (.int .i64 k.num) ∧ w'.cell? ⟨kb, 3, none⟩ = some (.string (bs k.lin)))) (by kernel_rfl) ?_ (fun hHeld => ?_)
    · exact HSS.out w2 (Below.refl _ _)
    refine tk (v := ?_) 0 rfl (by kernel_rfl) (fun _ _ _ h => h) ?_ hHeld ?_; rotate_left
    · (intro w h; (try dsimp only at h); go_simp; try with_reducible rfl)
    try simp only [Act.put, pB, pC, pD]
    refine tk (v := ?_) 1 rfl (by kernel_rfl) (fun _ _ _ h => h) ?_ hHeld ?_; rotate_left
    · (intro w h; (try dsimp only at h); go_simp; try with_reducible rfl)
    try simp only [Act.put, pB, pC, pD]
    refine tk (v := ?_) 3 rfl (by kernel_rfl) (fun _ _ _ h => h) ?_ hHeld ?_; rotate_left
    · (intro w h; (try dsimp only at h); go_simp; try with_reducible rfl)
    try simp only [Act.put, pB, pC, pD]
    refine tk (v := ?_) 4 rfl (by kernel_rfl) (fun _ _ _ h => h) ?_ hHeld ?_; rotate_left
    · (intro w h; (try dsimp only at h); go_simp; try with_reducible rfl)
    try simp only [Act.put, pB, pC, pD]
    refine wpAnyH_ready (rs := [2]) (by kernel_rfl) (by simp) ?_; refine AllReadyH.cons rfl (fun K hK => ?_) AllReadyH.nil; go_simp; refine (HFA.out _ ((Below.refl w2.heap.size w2).drew)).mono ?_; rintro e w3 ⟨rfl, hb'⟩; have B3 := Lib.hid (((Below.refl w2.heap.size w2).drew).trans (hb'.mono ((Below.refl w2.heap.size w2).drew).size)); have h3 := HSS.out w3 B3.out; clear hb'
    try (go_wp2_with fail)
    refine hK.out _ _ ?_ (fun hNew => ?_)
    · exact h3
    clear hK K hHeld; have hHeld := hNew; clear hNew; try simp only [Act.put, pB, pC, pD]
    refine wpAnyH_ready (rs := [5]) (by kernel_rfl) (by simp) ?_; refine AllReadyH.cons rfl (fun K hK => ?_) AllReadyH.nil; go_simp; refine (HFB.out _ (B3.out)).mono ?_; rintro e w4 ⟨rfl, hb'⟩; have B4 := Lib.hid ((B3.out).trans (hb'.mono (B3.out).size)); have h4 := HSS.out w4 B4.out; clear hb'
    try (go_wp2_with fail)
    refine hK.out _ _ ?_ (fun hNew => ?_)
    · exact h4
    clear hK K hHeld; have hHeld := hNew; clear hNew; try simp only [Act.put, pB, pC, pD]
    refine tk (v := ?_) 6 rfl (by kernel_rfl) (fun _ _ _ h => h) ?_ hHeld ?_; rotate_left
    · (intro w h; (try dsimp only at h); go_simp; try with_reducible rfl)
    try simp only [Act.put, pB, pC, pD]
    refine tk (v := ?_) 7 rfl (by kernel_rfl) (fun _ _ _ h => h) ?_ hHeld ?_; rotate_left
    · (intro w h; (try dsimp only at h); go_simp; try with_reducible rfl)
    try simp only [Act.put, pB, pC, pD]
    refine wpAnyH_done (by kernel_rfl) ?_ _; clear hHeld
    try simp only [List.getElem_toArray, List.getElem_cons_zero, List.getElem_cons_succ, Act.put, pB, pC, pD]
    refine NoPanic.normal ?_
    replace Z0 := Lib.hid (Z0.out.next B4.out Z0.out.lt); replace Z1 := Lib.hid (Z1.out.next B4.out Z1.out.lt); replace B4 := Lib.hid (HB0.out.trans (B4.out.mono HB0.out.size)); obtain ⟨kk0, kk1, kk2, kk3⟩ := h4; clear h3 B3 HSS HFA HFB HB0; have q0 := Z1.out.cell 0; have q1 := Z1.out.cell 1; have q2 := Z1.out.cell 2; have q3 := Z1.out.cell 3; have q4 := Z1.out.cell 4; have q5 := Z1.out.cell 5; have q6 := Z1.out.cell 6; have q7 := Z1.out.cell 7; have q8 := Z1.out.cell 8; have q9 := Z1.out.cell 9; simp only [qB, qC, qD] at q0 q1 q2 q3 q4 q5 q6 q7 q8 q9; have f0 := Z1.out.frozen 0; have f1 := Z1.out.frozen 1; have f2 := Z1.out.frozen 2; have f3 := Z1.out.frozen 3; have f4 := Z1.out.frozen 4; have f5 := Z1.out.frozen 5; have f6 := Z1.out.frozen 6; have f7 := Z1.out.frozen 7; have f8 := Z1.out.frozen 8; have f9 := Z1.out.frozen 9; have ZA := Lib.hid (setKz_ (.int .i64 k.tick) (.int .i64 k.cls) (.int .i64 k.num) (.string (bs k.lin)) Z1.out); have BA := Lib.hid (lowKz_ (.int .i64 k.tick) (.int .i64 k.cls) (.int .i64 k.num) (.string (bs k.lin)) B4.out HRL.out); have ZKA := Lib.hid (kpKz_ (g := rb) (.int .i64 k.tick) (.int .i64 k.cls) (.int .i64 k.num) (.string (bs k.lin)) Z0.out HKR.out); have ZB := Lib.hid (setDz_ (.int .i64 kd) ZA.out); have BB := Lib.hid (lowDz_ (.int .i64 kd) BA.out HRL.out); have ZKB := Lib.hid (kpDz_ (g := rb) (.int .i64 kd) ZKA.out HKR.out); have hkd := HKD.out; subst hkd
    go_upto_region 22 with (fail)
    clear q0 q1 q2 q3 q4 q5 q6 q7 q8 q9 f0 f1 f2 f3 f4 f5 f6 f7 f8 f9 kk0 kk1 kk2 kk3 ZA BA ZKA Z0 Z1 B4 e1 e2 e3 e4; generalize (((((w4.setCell ⟨rb, 0, none⟩ (.int .i64 k.tick)).setCell ⟨rb, 1, none⟩ (.int .i64 k.cls)).setCell ⟨rb, 2, none⟩ (.int .i64 k.num)).setCell ⟨rb, 3, none⟩ (.string (bs k.lin))).setCell ⟨rb, 4, none⟩ (.int .i64 3)) = w6 at *; have q0 := ZB.out.cell 0; have q1 := ZB.out.cell 1; have q2 := ZB.out.cell 2; have q3 := ZB.out.cell 3; have q4 := ZB.out.cell 4; have q5 := ZB.out.cell 5; have q6 := ZB.out.cell 6; have q7 := ZB.out.cell 7; have q8 := ZB.out.cell 8; have q9 := ZB.out.cell 9; simp only [qB, qC, qD] at q0 q1 q2 q3 q4 q5 q6 q7 q8 q9; have f0 := ZB.out.frozen 0; have f1 := ZB.out.frozen 1; have f2 := ZB.out.frozen 2; have f3 := ZB.out.frozen 3; have f4 := ZB.out.frozen 4; have f5 := ZB.out.frozen 5; have f6 := ZB.out.frozen 6; have f7 := ZB.out.frozen 7; have f8 := ZB.out.frozen 8; have f9 := ZB.out.frozen 9; have kk0 := ZKB.out.cell 0; have kk1 := ZKB.out.cell 1; have kk2 := ZKB.out.cell 2; have kk3 := ZKB.out.cell 3; simp only [qB, qC, qD] at kk0 kk1 kk2 kk3
    by_cases hc : k.cls = 0
    · have e1 : (k.cls != 0) = false := by simpa using hc
      have e2 : decide (k.cls = 0) = true := decide_eq_true hc
      have e3 : (k.cls == 0) = true := by simpa using hc
      have HRR := Lib.hid (show R = ⟨k, 3, nm0⟩ by rw [HAL.out, if_pos hc]); clear hc; have ZE := Lib.hid (set10z_ (.int .i64 k.tick) (.int .i64 k.cls) (.int .i64 k.num) (.string (bs k.lin)) (.int .i64 3) (.int .i64 0) (.string ⟨#[]⟩) (.int .i64 0) (.int .i64 0) (.string ⟨#[]⟩) ZB.out); have BE := Lib.hid (low10z_ (.int .i64 k.tick) (.int .i64 k.cls) (.int .i64 k.num) (.string (bs k.lin)) (.int .i64 3) (.int .i64 0) (.string ⟨#[]⟩) (.int .i64 0) (.int .i64 0) (.string ⟨#[]⟩) BB.out HRL.out)
      go_wp2_with fail
      clear kk0 kk1 kk2 kk3; clear q0 q1 q2 q3 q4 q5 q6 q7 q8 q9 f0 f1 f2 f3 f4 f5 f6 f7 f8 f9; have d0 := ZE.out.cell 0; have d1 := ZE.out.cell 1; have d2 := ZE.out.cell 2; have d3 := ZE.out.cell 3; have d4 := ZE.out.cell 4; have d5 := ZE.out.cell 5; have d6 := ZE.out.cell 6; have d7 := ZE.out.cell 7; have d8 := ZE.out.cell 8; have d9 := ZE.out.cell 9; simp only [qB, qC, qD] at d0 d1 d2 d3 d4 d5 d6 d7 d8 d9; generalize ((((((((((w6.setCell ⟨rb, 0, none⟩ (.int .i64 k.tick)).setCell ⟨rb, 1, none⟩ (.int .i64 k.cls)).setCell ⟨rb, 2, none⟩ (.int .i64 k.num)).setCell ⟨rb, 3, none⟩ (.string (bs k.lin))).setCell ⟨rb, 4, none⟩ (.int .i64 3)).setCell ⟨rb, 5, none⟩ (.int .i64 0)).setCell ⟨rb, 6, none⟩ (.string ⟨#[]⟩)).setCell ⟨rb, 7, none⟩ (.int .i64 0)).setCell ⟨rb, 8, none⟩ (.int .i64 0)).setCell ⟨rb, 9, none⟩ (.string ⟨#[]⟩)) = W9 at *
      exact bodyPost_ret (v := .tuple #[.agg #[.int .i64 k.tick, .int .i64 k.cls, .int .i64 k.num, .string (bs k.lin), .int .i64 3, .int .i64 0, .string ⟨#[]⟩, .int .i64 0, .int .i64 0, .string ⟨#[]⟩], .bool true, .bool false]) (by simp [results, Tryz.results10, go_sem, d0, d1, d2, d3, d4, d5, d6, d7, d8, d9]) rfl ⟨by rw [HRR.out] <;> rfl, BE.out⟩
    · have e1 : (k.cls != 0) = true := by simpa using hc
      have e2 : decide (k.cls = 0) = false := decide_eq_false hc
      have e3 : (k.cls == 0) = false := by simpa using hc
      have HRR := Lib.hid (show R = if vdf a b pn sk then ⟨k, 3, pn⟩ else ⟨k, 3, nm0⟩ by rw [HAL.out, if_neg hc]); clear hc q0 q1 q2 q3 q4 q5 q6 q7 q8 q9 f0 f1 f2 f3 f4 f5 f6 f7 f8 f9
      go_upto_region 24 with (first | (go_at_call 16; refine (HOP.out _).mono ?_; rintro e w7 ⟨rfl, hb⟩; have B7 := Lib.hid hb; clear hb; clear kk0 kk1 kk2 kk3) | (go_at_call 33; refine (HOE.out _).mono ?_; rintro e w8 ⟨rfl, hb⟩; have B8 := Lib.hid (B7.out.trans (hb.mono B7.out.size)); clear hb))
      have hba := B8.out.alloc B8.out.size (.cells #[.int .i64 pn.kind, .string (bs pn.owner), .int .i64 pn.num, .int .i64 pn.idx, .string (bs pn.text), .int .i64 en.kind, .string (bs en.owner), .int .i64 en.num, .int .i64 en.idx, .string (bs en.text)] 45); have B9 := Lib.hid (BB.out.trans (hba.mono BB.out.size)); have ZR9 := Lib.hid (ZB.out.next hba ZB.out.lt); have ZK9 := Lib.hid (ZKB.out.next hba ZKB.out.lt); have ZS9 := Lib.hid (Blk.new w8 45 #[.int .i64 pn.kind, .string (bs pn.owner), .int .i64 pn.num, .int .i64 pn.idx, .string (bs pn.text), .int .i64 en.kind, .string (bs en.owner), .int .i64 en.num, .int .i64 en.idx, .string (bs en.text)]); clear hba B7 B8 ZB ZKB BB e1 e2 e3; generalize w8.alloc (.cells #[.int .i64 pn.kind, .string (bs pn.owner), .int .i64 pn.num, .int .i64 pn.idx, .string (bs pn.text), .int .i64 en.kind, .string (bs en.owner), .int .i64 en.num, .int .i64 en.idx, .string (bs en.text)] 45) = w12 at *; obtain ⟨sb, hsb⟩ : ∃ sb, w8.heap.size = sb := ⟨_, rfl⟩; rw [hsb] at ZS9 ⊢; clear hsb; have H0 : Hid (loRel a b pn sk k 3 en w rb kb sb (.int .i64 (0 : Nat)) w12) := Lib.hid ⟨0, by omega, rfl, fun h => absurd h (Nat.lt_irrefl 0), ZR9.out, ZK9.out, ZS9.out, B9.out⟩; clear ZR9 ZK9 ZS9 B9
      go_wp2_with fail
      go_loopw [135] (fun i wr => loRel a b pn sk k 3 en w rb kb sb i wr) (fun i _ => 2 - (intOf i).toNat)
      case atStart => exact H0.out
      case round =>
        clear H0; obtain ⟨j, hj, rfl, hno, hz1, hz0, hzs, hB⟩ := hrel; have HNO := Lib.hid hno; have Z1 := Lib.hid hz1; have Z0 := Lib.hid hz0; have ZS := Lib.hid hzs; have HBW := Lib.hid hB; clear hno hz1 hz0 hzs hB
        by_cases hj2 : j < 2
        · have j1 : decide ((j : Int) < 2) = true := decide_eq_true (by omega)
          have j2 : (0 : Int) ≤ (j : Int) := by omega
          have j3 : (j : Int) < 2 := by omega
          obtain ⟨x, hx, hx0, hx1⟩ : ∃ x, x = (if j = 0 then pn else en) ∧ (j = 0 → x = pn) ∧ (j ≠ 0 → x = en) := ⟨_, rfl, fun h => if_pos h, fun h => if_neg h⟩
          have hcc : wr.cell? ⟨sb, j * 5, none⟩ = some (.int .i64 x.kind) ∧ wr.cell? ⟨sb, j * 5 + 1, none⟩ = some (.string (bs x.owner)) ∧ wr.cell? ⟨sb, j * 5 + 2, none⟩ = some (.int .i64 x.num) ∧ wr.cell? ⟨sb, j * 5 + 3, none⟩ = some (.int .i64 x.idx) ∧ wr.cell? ⟨sb, j * 5 + 4, none⟩ = some (.string (bs x.text)) := by
            have t0 := ZS.out.cell 0; have t1 := ZS.out.cell 1; have t2 := ZS.out.cell 2; have t3 := ZS.out.cell 3; have t4 := ZS.out.cell 4; have t5 := ZS.out.cell 5; have t6 := ZS.out.cell 6; have t7 := ZS.out.cell 7; have t8 := ZS.out.cell 8; have t9 := ZS.out.cell 9
            rcases (show j = 0 ∨ j = 1 by omega) with rfl | rfl
            · rw [hx0 rfl]; exact ⟨t0, t1, t2, t3, t4⟩
            · rw [hx1 (by omega)]; exact ⟨t5, t6, t7, t8, t9⟩
          obtain ⟨x0, x1, x2, x3, x4⟩ := hcc; have HX0 := Lib.hid hx0; have HX1 := Lib.hid hx1; have HJ2 := Lib.hid hj2; clear hx hx0 hx1 hj2
          go_upto_region 26 with (fail)
          have hba := (Below.refl wr.heap.size wr).alloc (Nat.le_refl _) (.cells #[.int .i64 x.kind, .string (bs x.owner), .int .i64 x.num, .int .i64 x.idx, .string (bs x.text)] 45); have B9 := Lib.hid (HBW.out.trans (hba.mono HBW.out.size)); replace Z1 := Lib.hid (Z1.out.next hba Z1.out.lt); replace Z0 := Lib.hid (Z0.out.next hba Z0.out.lt); replace ZS := Lib.hid (ZS.out.next hba ZS.out.lt); have ZX := Lib.hid (Blk.new wr 45 #[.int .i64 x.kind, .string (bs x.owner), .int .i64 x.num, .int .i64 x.idx, .string (bs x.text)]); clear hba x0 x1 x2 x3 x4; generalize wr.alloc (.cells #[.int .i64 x.kind, .string (bs x.owner), .int .i64 x.num, .int .i64 x.idx, .string (bs x.text)] 45) = w9 at *; obtain ⟨xb, hxb⟩ : ∃ xb, wr.heap.size = xb := ⟨_, rfl⟩; rw [hxb] at ZX ⊢; clear hxb; have H26 := Lib.hid (fun (W : World) (hW : Below w9.heap.size w9 W) => show W.cell? ⟨xb, 0, none⟩ = some (.int .i64 x.kind) ∧ W.cell? ⟨xb, 1, none⟩ = some (.string (bs x.owner)) ∧ W.cell? ⟨xb, 2, none⟩ = some (.int .i64 x.num) ∧ W.cell? ⟨xb, 3, none⟩ = some (.int .i64 x.idx) ∧ W.cell? ⟨xb, 4, none⟩ = some (.string (bs x.text)) ∧ W.cell? ⟨kb, 0, none⟩ = some (.int .i64 k.tick) from ⟨(ZX.out.next hW ZX.out.lt).cell 0, (ZX.out.next hW ZX.out.lt).cell 1, (ZX.out.next hW ZX.out.lt).cell 2, (ZX.out.next hW ZX.out.lt).cell 3, (ZX.out.next hW ZX.out.lt).cell 4, (Z0.out.next hW Z0.out.lt).cell 0⟩); have HDF := Lib.hid (HDF.out x); obtain ⟨vd, hvd⟩ : ∃ vd, vdf a b x sk = vd := ⟨_, rfl⟩; rw [hvd] at HDF; have HVD := Lib.hid hvd; clear hvd
          cases vd with
          | true =>
            refine wp_region_noPanic ?_
            refine wp_region_held_drew (S := (fun (w' : World) => w'.cell? ⟨xb, 0, none⟩ = some (.int .i64 x.kind) ∧ w'.cell? ⟨xb, 1, none⟩ = some (.string (bs x.owner)) ∧ w'.cell? ⟨xb, 2, none⟩ = some (.int .i64 x.num) ∧ w'.cell? ⟨xb, 3, none⟩ = some (.int .i64 x.idx) ∧ w'.cell? ⟨xb, 4, none⟩ = some (.string (bs x.text)) ∧ w'.cell? ⟨kb, 0, none⟩ = some (.int .i64 k.tick))) (by kernel_rfl) ?_ (fun hHeld => ?_)
            · exact H26.out w9 (Below.refl _ _)
            refine tk (v := ?_) 0 rfl (by kernel_rfl) (fun _ _ _ h => h) ?_ hHeld ?_; rotate_left
            · (intro w h; (try dsimp only at h); go_simp; try with_reducible rfl)
            try simp only [Act.put, pB, pC, pD]
            refine tk (v := ?_) 1 rfl (by kernel_rfl) (fun _ _ _ h => h) ?_ hHeld ?_; rotate_left
            · (intro w h; (try dsimp only at h); go_simp; try with_reducible rfl)
            try simp only [Act.put, pB, pC, pD]
            refine tk (v := ?_) 2 rfl (by kernel_rfl) (fun _ _ _ h => h) ?_ hHeld ?_; rotate_left
            · (intro w h; (try dsimp only at h); go_simp; try with_reducible rfl)
            try simp only [Act.put, pB, pC, pD]
            refine tk (v := ?_) 3 rfl (by kernel_rfl) (fun _ _ _ h => h) ?_ hHeld ?_; rotate_left
            · (intro w h; (try dsimp only at h); go_simp; try with_reducible rfl)
            try simp only [Act.put, pB, pC, pD]
            refine tk (v := ?_) 4 rfl (by kernel_rfl) (fun _ _ _ h => h) ?_ hHeld ?_; rotate_left
            · (intro w h; (try dsimp only at h); go_simp; try with_reducible rfl)
            try simp only [Act.put, pB, pC, pD]
            refine wpAnyH_ready (rs := [5]) (by kernel_rfl) (by simp) ?_; refine AllReadyH.cons rfl (fun K hK => ?_) AllReadyH.nil; go_simp; refine (HSL.out _).mono ?_; rintro e w10 ⟨rfl, hb'⟩; have B10 := Lib.hid ((Below.refl w9.heap.size w9).drew.trans hb'); have h10 := H26.out w10 B10.out; clear hb'
            try (go_wp2_with fail)
            refine hK.out _ _ ?_ (fun hNew => ?_)
            · exact h10
            clear hK K hHeld; have hHeld := hNew; clear hNew; try simp only [Act.put, pB, pC, pD]
            refine wpAnyH_ready (rs := [6]) (by kernel_rfl) (by simp) ?_; refine AllReadyH.cons rfl (fun K hK => ?_) AllReadyH.nil; go_simp; refine (HDF.out _ (B9.out.trans (B10.out.mono B9.out.size))).mono ?_; rintro e w11 ⟨rfl, hb'⟩; have B11 := Lib.hid (B10.out.trans (hb'.mono B10.out.size)); have h11 := H26.out w11 B11.out; clear hb'
            try (go_wp2_with fail)
            refine hK.out _ _ ?_ (fun hNew => ?_)
            · exact h11
            clear hK K hHeld; have hHeld := hNew; clear hNew; try simp only [Act.put, pB, pC, pD]
            refine wpAnyH_done (by kernel_rfl) ?_ _; clear hHeld
            try simp only [List.getElem_toArray, List.getElem_cons_zero, List.getElem_cons_succ, Act.put, pB, pC, pD]
            refine NoPanic.normal ?_
            obtain ⟨n0, n1, n2, n3, n4, -⟩ := h11; replace Z1 := Lib.hid (Z1.out.next B11.out Z1.out.lt); replace B9 := Lib.hid (B9.out.trans (B11.out.mono B9.out.size))
            have HJ0 := Lib.hid (show x = pn by
              by_cases h : j = 0
              · exact HX0.out h
              · have h1 := HVD.out
                rw [HX1.out h, HEP.out] at h1
                cases h1)
            have HR2 := Lib.hid (show R = ⟨k, 3, x⟩ by
              have h1 := HVD.out; rw [HJ0.out] at h1; rw [HRR.out, h1, HJ0.out]
              rfl)
            have ZN := Lib.hid (setNz_ (.int .i64 x.kind) (.string (bs x.owner)) (.int .i64 x.num) (.int .i64 x.idx) (.string (bs x.text)) Z1.out); have BN := Lib.hid (lowNz_ (.int .i64 x.kind) (.string (bs x.owner)) (.int .i64 x.num) (.int .i64 x.idx) (.string (bs x.text)) B9.out HRL.out); clear h10; have q0 := Z1.out.cell 0; have q1 := Z1.out.cell 1; have q2 := Z1.out.cell 2; have q3 := Z1.out.cell 3; have q4 := Z1.out.cell 4; have q5 := Z1.out.cell 5; have q6 := Z1.out.cell 6; have q7 := Z1.out.cell 7; have q8 := Z1.out.cell 8; have q9 := Z1.out.cell 9; simp only [qB, qC, qD] at q0 q1 q2 q3 q4 q5 q6 q7 q8 q9; have f0 := Z1.out.frozen 0; have f1 := Z1.out.frozen 1; have f2 := Z1.out.frozen 2; have f3 := Z1.out.frozen 3; have f4 := Z1.out.frozen 4; have f5 := Z1.out.frozen 5; have f6 := Z1.out.frozen 6; have f7 := Z1.out.frozen 7; have f8 := Z1.out.frozen 8; have f9 := Z1.out.frozen 9
            go_upto_region 29 with (fail)
            clear q0 q1 q2 q3 q4 q5 q6 q7 q8 q9 f0 f1 f2 f3 f4 f5 f6 f7 f8 f9 n0 n1 n2 n3 n4; generalize (((((w11.setCell ⟨rb, 5, none⟩ (.int .i64 x.kind)).setCell ⟨rb, 6, none⟩ (.string (bs x.owner))).setCell ⟨rb, 7, none⟩ (.int .i64 x.num)).setCell ⟨rb, 8, none⟩ (.int .i64 x.idx)).setCell ⟨rb, 9, none⟩ (.string (bs x.text))) = w13 at *; have q0 := ZN.out.cell 0; have q1 := ZN.out.cell 1; have q2 := ZN.out.cell 2; have q3 := ZN.out.cell 3; have q4 := ZN.out.cell 4; have q5 := ZN.out.cell 5; have q6 := ZN.out.cell 6; have q7 := ZN.out.cell 7; have q8 := ZN.out.cell 8; have q9 := ZN.out.cell 9; simp only [qB, qC, qD] at q0 q1 q2 q3 q4 q5 q6 q7 q8 q9; have f0 := ZN.out.frozen 0; have f1 := ZN.out.frozen 1; have f2 := ZN.out.frozen 2; have f3 := ZN.out.frozen 3; have f4 := ZN.out.frozen 4; have f5 := ZN.out.frozen 5; have f6 := ZN.out.frozen 6; have f7 := ZN.out.frozen 7; have f8 := ZN.out.frozen 8; have f9 := ZN.out.frozen 9; have ZE := Lib.hid (set10z_ (.int .i64 k.tick) (.int .i64 k.cls) (.int .i64 k.num) (.string (bs k.lin)) (.int .i64 3) (.int .i64 x.kind) (.string (bs x.owner)) (.int .i64 x.num) (.int .i64 x.idx) (.string (bs x.text)) ZN.out); have BE := Lib.hid (low10z_ (.int .i64 k.tick) (.int .i64 k.cls) (.int .i64 k.num) (.string (bs k.lin)) (.int .i64 3) (.int .i64 x.kind) (.string (bs x.owner)) (.int .i64 x.num) (.int .i64 x.idx) (.string (bs x.text)) BN.out HRL.out)
            go_wp2_with fail
            clear q0 q1 q2 q3 q4 q5 q6 q7 q8 q9 f0 f1 f2 f3 f4 f5 f6 f7 f8 f9; have d0 := ZE.out.cell 0; have d1 := ZE.out.cell 1; have d2 := ZE.out.cell 2; have d3 := ZE.out.cell 3; have d4 := ZE.out.cell 4; have d5 := ZE.out.cell 5; have d6 := ZE.out.cell 6; have d7 := ZE.out.cell 7; have d8 := ZE.out.cell 8; have d9 := ZE.out.cell 9; simp only [qB, qC, qD] at d0 d1 d2 d3 d4 d5 d6 d7 d8 d9; generalize ((((((((((w13.setCell ⟨rb, 0, none⟩ (.int .i64 k.tick)).setCell ⟨rb, 1, none⟩ (.int .i64 k.cls)).setCell ⟨rb, 2, none⟩ (.int .i64 k.num)).setCell ⟨rb, 3, none⟩ (.string (bs k.lin))).setCell ⟨rb, 4, none⟩ (.int .i64 3)).setCell ⟨rb, 5, none⟩ (.int .i64 x.kind)).setCell ⟨rb, 6, none⟩ (.string (bs x.owner))).setCell ⟨rb, 7, none⟩ (.int .i64 x.num)).setCell ⟨rb, 8, none⟩ (.int .i64 x.idx)).setCell ⟨rb, 9, none⟩ (.string (bs x.text))) = W9 at *
            exact bodyPost_ret (v := .tuple #[.agg #[.int .i64 k.tick, .int .i64 k.cls, .int .i64 k.num, .string (bs k.lin), .int .i64 3, .int .i64 x.kind, .string (bs x.owner), .int .i64 x.num, .int .i64 x.idx, .string (bs x.text)], .bool true, .bool false]) (by simp [results, Tryz.results10, go_sem, d0, d1, d2, d3, d4, d5, d6, d7, d8, d9]) rfl ⟨by rw [HR2.out] <;> rfl, BE.out⟩
          | false =>
            refine wp_region_noPanic ?_
            refine wp_region_held_drew (S := (fun (w' : World) => w'.cell? ⟨xb, 0, none⟩ = some (.int .i64 x.kind) ∧ w'.cell? ⟨xb, 1, none⟩ = some (.string (bs x.owner)) ∧ w'.cell? ⟨xb, 2, none⟩ = some (.int .i64 x.num) ∧ w'.cell? ⟨xb, 3, none⟩ = some (.int .i64 x.idx) ∧ w'.cell? ⟨xb, 4, none⟩ = some (.string (bs x.text)) ∧ w'.cell? ⟨kb, 0, none⟩ = some (.int .i64 k.tick))) (by kernel_rfl) ?_ (fun hHeld => ?_)
            · exact H26.out w9 (Below.refl _ _)
            refine tk (v := ?_) 0 rfl (by kernel_rfl) (fun _ _ _ h => h) ?_ hHeld ?_; rotate_left
            · (intro w h; (try dsimp only at h); go_simp; try with_reducible rfl)
            try simp only [Act.put, pB, pC, pD]
            refine tk (v := ?_) 1 rfl (by kernel_rfl) (fun _ _ _ h => h) ?_ hHeld ?_; rotate_left
            · (intro w h; (try dsimp only at h); go_simp; try with_reducible rfl)
            try simp only [Act.put, pB, pC, pD]
            refine tk (v := ?_) 2 rfl (by kernel_rfl) (fun _ _ _ h => h) ?_ hHeld ?_; rotate_left
            · (intro w h; (try dsimp only at h); go_simp; try with_reducible rfl)
            try simp only [Act.put, pB, pC, pD]
            refine tk (v := ?_) 3 rfl (by kernel_rfl) (fun _ _ _ h => h) ?_ hHeld ?_; rotate_left
            · (intro w h; (try dsimp only at h); go_simp; try with_reducible rfl)
            try simp only [Act.put, pB, pC, pD]
            refine tk (v := ?_) 4 rfl (by kernel_rfl) (fun _ _ _ h => h) ?_ hHeld ?_; rotate_left
            · (intro w h; (try dsimp only at h); go_simp; try with_reducible rfl)
            try simp only [Act.put, pB, pC, pD]
            refine wpAnyH_ready (rs := [5]) (by kernel_rfl) (by simp) ?_; refine AllReadyH.cons rfl (fun K hK => ?_) AllReadyH.nil; go_simp; refine (HSL.out _).mono ?_; rintro e w10 ⟨rfl, hb'⟩; have B10 := Lib.hid ((Below.refl w9.heap.size w9).drew.trans hb'); have h10 := H26.out w10 B10.out; clear hb'
            try (go_wp2_with fail)
            refine hK.out _ _ ?_ (fun hNew => ?_)
            · exact h10
            clear hK K hHeld; have hHeld := hNew; clear hNew; try simp only [Act.put, pB, pC, pD]
            refine wpAnyH_ready (rs := [6]) (by kernel_rfl) (by simp) ?_; refine AllReadyH.cons rfl (fun K hK => ?_) AllReadyH.nil; go_simp; refine (HDF.out _ (B9.out.trans (B10.out.mono B9.out.size))).mono ?_; rintro e w11 ⟨rfl, hb'⟩; have B11 := Lib.hid (B10.out.trans (hb'.mono B10.out.size)); have h11 := H26.out w11 B11.out; clear hb'
            try (go_wp2_with fail)
            refine hK.out _ _ ?_ (fun hNew => ?_)
            · exact h11
            clear hK K hHeld; have hHeld := hNew; clear hNew; try simp only [Act.put, pB, pC, pD]
            refine wpAnyH_done (by kernel_rfl) ?_ _; clear hHeld
            try simp only [List.getElem_toArray, List.getElem_cons_zero, List.getElem_cons_succ, Act.put, pB, pC, pD]
            refine NoPanic.normal ?_
            replace Z1 := Lib.hid (Z1.out.next B11.out Z1.out.lt); replace Z0 := Lib.hid (Z0.out.next B11.out Z0.out.lt); replace ZS := Lib.hid (ZS.out.next B11.out ZS.out.lt); replace B9 := Lib.hid (B9.out.trans (B11.out.mono B9.out.size))
            have HN2 := Lib.hid (show 0 < j + 1 → vdf a b pn sk = false from fun _ => by
              by_cases h : j = 0
              · rw [← HX0.out h]; exact HVD.out
              · exact HNO.out (by omega))
            clear h10 h11
            go_wp2_with fail
            go_roundw
            case rel => exact ⟨j + 1, by have := HJ2.out; omega, by go_num, HN2.out, Z1.out, Z0.out, ZS.out, B9.out⟩
            case measure => have := HJ2.out; simp [intOf]; omega
        · have j1 : decide ((j : Int) < 2) = false := decide_eq_false (by omega)
          have HR2 := Lib.hid (show R = ⟨k, 3, nm0⟩ by rw [HRR.out, HNO.out (by omega)]; rfl); clear hj2; have q0 := Z1.out.cell 0; have q1 := Z1.out.cell 1; have q2 := Z1.out.cell 2; have q3 := Z1.out.cell 3; have q4 := Z1.out.cell 4; have q5 := Z1.out.cell 5; have q6 := Z1.out.cell 6; have q7 := Z1.out.cell 7; have q8 := Z1.out.cell 8; have q9 := Z1.out.cell 9; simp only [qB, qC, qD] at q0 q1 q2 q3 q4 q5 q6 q7 q8 q9; have f0 := Z1.out.frozen 0; have f1 := Z1.out.frozen 1; have f2 := Z1.out.frozen 2; have f3 := Z1.out.frozen 3; have f4 := Z1.out.frozen 4; have f5 := Z1.out.frozen 5; have f6 := Z1.out.frozen 6; have f7 := Z1.out.frozen 7; have f8 := Z1.out.frozen 8; have f9 := Z1.out.frozen 9; have ZE := Lib.hid (set10z_ (.int .i64 k.tick) (.int .i64 k.cls) (.int .i64 k.num) (.string (bs k.lin)) (.int .i64 3) (.int .i64 0) (.string ⟨#[]⟩) (.int .i64 0) (.int .i64 0) (.string ⟨#[]⟩) Z1.out); have BE := Lib.hid (low10z_ (.int .i64 k.tick) (.int .i64 k.cls) (.int .i64 k.num) (.string (bs k.lin)) (.int .i64 3) (.int .i64 0) (.string ⟨#[]⟩) (.int .i64 0) (.int .i64 0) (.string ⟨#[]⟩) HBW.out HRL.out)
          go_wp2_with fail
          clear q0 q1 q2 q3 q4 q5 q6 q7 q8 q9 f0 f1 f2 f3 f4 f5 f6 f7 f8 f9; have d0 := ZE.out.cell 0; have d1 := ZE.out.cell 1; have d2 := ZE.out.cell 2; have d3 := ZE.out.cell 3; have d4 := ZE.out.cell 4; have d5 := ZE.out.cell 5; have d6 := ZE.out.cell 6; have d7 := ZE.out.cell 7; have d8 := ZE.out.cell 8; have d9 := ZE.out.cell 9; simp only [qB, qC, qD] at d0 d1 d2 d3 d4 d5 d6 d7 d8 d9; generalize ((((((((((wr.setCell ⟨rb, 0, none⟩ (.int .i64 k.tick)).setCell ⟨rb, 1, none⟩ (.int .i64 k.cls)).setCell ⟨rb, 2, none⟩ (.int .i64 k.num)).setCell ⟨rb, 3, none⟩ (.string (bs k.lin))).setCell ⟨rb, 4, none⟩ (.int .i64 3)).setCell ⟨rb, 5, none⟩ (.int .i64 0)).setCell ⟨rb, 6, none⟩ (.string ⟨#[]⟩)).setCell ⟨rb, 7, none⟩ (.int .i64 0)).setCell ⟨rb, 8, none⟩ (.int .i64 0)).setCell ⟨rb, 9, none⟩ (.string ⟨#[]⟩)) = W9 at *
          exact bodyPost_ret (v := .tuple #[.agg #[.int .i64 k.tick, .int .i64 k.cls, .int .i64 k.num, .string (bs k.lin), .int .i64 3, .int .i64 0, .string ⟨#[]⟩, .int .i64 0, .int .i64 0, .string ⟨#[]⟩], .bool true, .bool false]) (by simp [results, Tryz.results10, go_sem, d0, d1, d2, d3, d4, d5, d6, d7, d8, d9]) rfl ⟨by rw [HR2.out] <;> rfl, BE.out⟩
  · obtain ⟨hf1, hf2, hf3⟩ := hfx
    have e1 : decide (fa < 0) = true := decide_eq_true (by omega); have e2 : decide (fb < 0) = false := decide_eq_false (by omega); have e3 : decide (0 ≤ fa) = false := decide_eq_false (by omega); have e4 : decide (0 ≤ fb) = true := decide_eq_true (by omega); have HKD := Lib.hid hf3; clear hf1 hf2 hf3
    unfold kyV at HFA HFB
    unfold rsV kyV
    clear ha hb b0 b1 b2 z0 z1 oa ob
    go_enter Tryz.func10, Tryz.ntmps10
    go_upto_region 1 with (fail)
    generalize ((w.alloc (.cells #[.int .i64 k.tick, .int .i64 k.cls, .int .i64 k.num, .string (bs k.lin)] 35)).alloc (.cells #[.int .i64 0, .int .i64 0, .int .i64 0, .string ⟨#[]⟩, .int .i64 0, .int .i64 0, .string ⟨#[]⟩, .int .i64 0, .int .i64 0, .string ⟨#[]⟩] 47)) = w2 at *; obtain ⟨rb, hrb⟩ : ∃ rb, w.heap.size + 1 = rb := ⟨_, rfl⟩; obtain ⟨kb, hkb⟩ : ∃ kb, w.heap.size = kb := ⟨_, rfl⟩; have HKR := Lib.hid (show kb ≠ rb by omega); have HRL := Lib.hid (show w.heap.size ≤ rb by omega); have HWK := Lib.hid hkb; rw [hrb] at Z1 ⊢; rw [hkb] at Z0 ⊢; clear hrb hkb; have HSS := Lib.hid (fun (W : World) (hW : Below w2.heap.size w2 W) => show W.cell? ⟨kb, 0, none⟩ = some (.int .i64 k.tick) ∧ W.cell? ⟨kb, 1, none⟩ = some (.int .i64 k.cls) ∧ W.cell? ⟨kb, 2, none⟩ = some (.int .i64 k.num) ∧ W.cell? ⟨kb, 3, none⟩ = some (.string (bs k.lin)) from ⟨(Z0.out.next hW Z0.out.lt).cell 0, (Z0.out.next hW Z0.out.lt).cell 1, (Z0.out.next hW Z0.out.lt).cell 2, (Z0.out.next hW Z0.out.lt).cell 3⟩)
    refine wp_region_noPanic ?_
    refine wp_region_held_drew (S := (fun (w' : World) => w'.cell? ⟨kb, 0, none⟩ = some (.int .i64 k.tick) ∧ w'.cell? ⟨kb, 1, none⟩ = some (.int .i64 k.cls) ∧ w'.cell? ⟨kb, 2, none⟩ = some (.int .i64 k.num) ∧ w'.cell? ⟨kb, 3, none⟩ = some (.string (bs k.lin)))) (by kernel_rfl) ?_ (fun hHeld => ?_)
    · exact HSS.out w2 (Below.refl _ _)
    refine tk (v := ?_) 0 rfl (by kernel_rfl) (fun _ _ _ h => h) ?_ hHeld ?_; rotate_left
    · (intro w h; (try dsimp only at h); go_simp; try with_reducible rfl)
    try simp only [Act.put, pB, pC, pD]
    refine tk (v := ?_) 1 rfl (by kernel_rfl) (fun _ _ _ h => h) ?_ hHeld ?_; rotate_left
    · (intro w h; (try dsimp only at h); go_simp; try with_reducible rfl)
    try simp only [Act.put, pB, pC, pD]
    refine tk (v := ?_) 3 rfl (by kernel_rfl) (fun _ _ _ h => h) ?_ hHeld ?_; rotate_left
    · (intro w h; (try dsimp only at h); go_simp; try with_reducible rfl)
    try simp only [Act.put, pB, pC, pD]
    refine tk (v := ?_) 4 rfl (by kernel_rfl) (fun _ _ _ h => h) ?_ hHeld ?_; rotate_left
    · (intro w h; (try dsimp only at h); go_simp; try with_reducible rfl)
    try simp only [Act.put, pB, pC, pD]
    refine wpAnyH_ready (rs := [2]) (by kernel_rfl) (by simp) ?_; refine AllReadyH.cons rfl (fun K hK => ?_) AllReadyH.nil; go_simp; refine (HFA.out _ ((Below.refl w2.heap.size w2).drew)).mono ?_; rintro e w3 ⟨rfl, hb'⟩; have B3 := Lib.hid (((Below.refl w2.heap.size w2).drew).trans (hb'.mono ((Below.refl w2.heap.size w2).drew).size)); have h3 := HSS.out w3 B3.out; clear hb'
    try (go_wp2_with fail)
    refine hK.out _ _ ?_ (fun hNew => ?_)
    · exact h3
    clear hK K hHeld; have hHeld := hNew; clear hNew; try simp only [Act.put, pB, pC, pD]
    refine wpAnyH_ready (rs := [5]) (by kernel_rfl) (by simp) ?_; refine AllReadyH.cons rfl (fun K hK => ?_) AllReadyH.nil; go_simp; refine (HFB.out _ (B3.out)).mono ?_; rintro e w4 ⟨rfl, hb'⟩; have B4 := Lib.hid ((B3.out).trans (hb'.mono (B3.out).size)); have h4 := HSS.out w4 B4.out; clear hb'
    try (go_wp2_with fail)
    refine hK.out _ _ ?_ (fun hNew => ?_)
    · exact h4
    clear hK K hHeld; have hHeld := hNew; clear hNew; try simp only [Act.put, pB, pC, pD]
    refine tk (v := ?_) 6 rfl (by kernel_rfl) (fun _ _ _ h => h) ?_ hHeld ?_; rotate_left
    · (intro w h; (try dsimp only at h); go_simp; try with_reducible rfl)
    try simp only [Act.put, pB, pC, pD]
    refine tk (v := ?_) 7 rfl (by kernel_rfl) (fun _ _ _ h => h) ?_ hHeld ?_; rotate_left
    · (intro w h; (try dsimp only at h); go_simp; try with_reducible rfl)
    try simp only [Act.put, pB, pC, pD]
    refine wpAnyH_done (by kernel_rfl) ?_ _; clear hHeld
    try simp only [List.getElem_toArray, List.getElem_cons_zero, List.getElem_cons_succ, Act.put, pB, pC, pD]
    refine NoPanic.normal ?_
    replace Z0 := Lib.hid (Z0.out.next B4.out Z0.out.lt); replace Z1 := Lib.hid (Z1.out.next B4.out Z1.out.lt); replace B4 := Lib.hid (HB0.out.trans (B4.out.mono HB0.out.size)); obtain ⟨kk0, kk1, kk2, kk3⟩ := h4; clear h3 B3 HSS HFA HFB HB0; have q0 := Z1.out.cell 0; have q1 := Z1.out.cell 1; have q2 := Z1.out.cell 2; have q3 := Z1.out.cell 3; have q4 := Z1.out.cell 4; have q5 := Z1.out.cell 5; have q6 := Z1.out.cell 6; have q7 := Z1.out.cell 7; have q8 := Z1.out.cell 8; have q9 := Z1.out.cell 9; simp only [qB, qC, qD] at q0 q1 q2 q3 q4 q5 q6 q7 q8 q9; have f0 := Z1.out.frozen 0; have f1 := Z1.out.frozen 1; have f2 := Z1.out.frozen 2; have f3 := Z1.out.frozen 3; have f4 := Z1.out.frozen 4; have f5 := Z1.out.frozen 5; have f6 := Z1.out.frozen 6; have f7 := Z1.out.frozen 7; have f8 := Z1.out.frozen 8; have f9 := Z1.out.frozen 9; have ZA := Lib.hid (setKz_ (.int .i64 k.tick) (.int .i64 k.cls) (.int .i64 k.num) (.string (bs k.lin)) Z1.out); have BA := Lib.hid (lowKz_ (.int .i64 k.tick) (.int .i64 k.cls) (.int .i64 k.num) (.string (bs k.lin)) B4.out HRL.out); have ZKA := Lib.hid (kpKz_ (g := rb) (.int .i64 k.tick) (.int .i64 k.cls) (.int .i64 k.num) (.string (bs k.lin)) Z0.out HKR.out); have ZB := Lib.hid (setDz_ (.int .i64 kd) ZA.out); have BB := Lib.hid (lowDz_ (.int .i64 kd) BA.out HRL.out); have ZKB := Lib.hid (kpDz_ (g := rb) (.int .i64 kd) ZKA.out HKR.out); have hkd := HKD.out; subst hkd
    go_upto_region 22 with (fail)
    clear q0 q1 q2 q3 q4 q5 q6 q7 q8 q9 f0 f1 f2 f3 f4 f5 f6 f7 f8 f9 kk0 kk1 kk2 kk3 ZA BA ZKA Z0 Z1 B4 e1 e2 e3 e4; generalize (((((w4.setCell ⟨rb, 0, none⟩ (.int .i64 k.tick)).setCell ⟨rb, 1, none⟩ (.int .i64 k.cls)).setCell ⟨rb, 2, none⟩ (.int .i64 k.num)).setCell ⟨rb, 3, none⟩ (.string (bs k.lin))).setCell ⟨rb, 4, none⟩ (.int .i64 2)) = w6 at *; have q0 := ZB.out.cell 0; have q1 := ZB.out.cell 1; have q2 := ZB.out.cell 2; have q3 := ZB.out.cell 3; have q4 := ZB.out.cell 4; have q5 := ZB.out.cell 5; have q6 := ZB.out.cell 6; have q7 := ZB.out.cell 7; have q8 := ZB.out.cell 8; have q9 := ZB.out.cell 9; simp only [qB, qC, qD] at q0 q1 q2 q3 q4 q5 q6 q7 q8 q9; have f0 := ZB.out.frozen 0; have f1 := ZB.out.frozen 1; have f2 := ZB.out.frozen 2; have f3 := ZB.out.frozen 3; have f4 := ZB.out.frozen 4; have f5 := ZB.out.frozen 5; have f6 := ZB.out.frozen 6; have f7 := ZB.out.frozen 7; have f8 := ZB.out.frozen 8; have f9 := ZB.out.frozen 9; have kk0 := ZKB.out.cell 0; have kk1 := ZKB.out.cell 1; have kk2 := ZKB.out.cell 2; have kk3 := ZKB.out.cell 3; simp only [qB, qC, qD] at kk0 kk1 kk2 kk3
    by_cases hc : k.cls = 0
    · have e1 : (k.cls != 0) = false := by simpa using hc
      have e2 : decide (k.cls = 0) = true := decide_eq_true hc
      have e3 : (k.cls == 0) = true := by simpa using hc
      have HRR := Lib.hid (show R = ⟨k, 2, nm0⟩ by rw [HAL.out, if_pos hc]); clear hc; have ZE := Lib.hid (set10z_ (.int .i64 k.tick) (.int .i64 k.cls) (.int .i64 k.num) (.string (bs k.lin)) (.int .i64 2) (.int .i64 0) (.string ⟨#[]⟩) (.int .i64 0) (.int .i64 0) (.string ⟨#[]⟩) ZB.out); have BE := Lib.hid (low10z_ (.int .i64 k.tick) (.int .i64 k.cls) (.int .i64 k.num) (.string (bs k.lin)) (.int .i64 2) (.int .i64 0) (.string ⟨#[]⟩) (.int .i64 0) (.int .i64 0) (.string ⟨#[]⟩) BB.out HRL.out)
      go_wp2_with fail
      clear kk0 kk1 kk2 kk3; clear q0 q1 q2 q3 q4 q5 q6 q7 q8 q9 f0 f1 f2 f3 f4 f5 f6 f7 f8 f9; have d0 := ZE.out.cell 0; have d1 := ZE.out.cell 1; have d2 := ZE.out.cell 2; have d3 := ZE.out.cell 3; have d4 := ZE.out.cell 4; have d5 := ZE.out.cell 5; have d6 := ZE.out.cell 6; have d7 := ZE.out.cell 7; have d8 := ZE.out.cell 8; have d9 := ZE.out.cell 9; simp only [qB, qC, qD] at d0 d1 d2 d3 d4 d5 d6 d7 d8 d9; generalize ((((((((((w6.setCell ⟨rb, 0, none⟩ (.int .i64 k.tick)).setCell ⟨rb, 1, none⟩ (.int .i64 k.cls)).setCell ⟨rb, 2, none⟩ (.int .i64 k.num)).setCell ⟨rb, 3, none⟩ (.string (bs k.lin))).setCell ⟨rb, 4, none⟩ (.int .i64 2)).setCell ⟨rb, 5, none⟩ (.int .i64 0)).setCell ⟨rb, 6, none⟩ (.string ⟨#[]⟩)).setCell ⟨rb, 7, none⟩ (.int .i64 0)).setCell ⟨rb, 8, none⟩ (.int .i64 0)).setCell ⟨rb, 9, none⟩ (.string ⟨#[]⟩)) = W9 at *
      exact bodyPost_ret (v := .tuple #[.agg #[.int .i64 k.tick, .int .i64 k.cls, .int .i64 k.num, .string (bs k.lin), .int .i64 2, .int .i64 0, .string ⟨#[]⟩, .int .i64 0, .int .i64 0, .string ⟨#[]⟩], .bool true, .bool false]) (by simp [results, Tryz.results10, go_sem, d0, d1, d2, d3, d4, d5, d6, d7, d8, d9]) rfl ⟨by rw [HRR.out] <;> rfl, BE.out⟩
    · have e1 : (k.cls != 0) = true := by simpa using hc
      have e2 : decide (k.cls = 0) = false := decide_eq_false hc
      have e3 : (k.cls == 0) = false := by simpa using hc
      have HRR := Lib.hid (show R = if vdf a b pn sk then ⟨k, 2, pn⟩ else ⟨k, 2, nm0⟩ by rw [HAL.out, if_neg hc]); clear hc q0 q1 q2 q3 q4 q5 q6 q7 q8 q9 f0 f1 f2 f3 f4 f5 f6 f7 f8 f9
      go_upto_region 24 with (first | (go_at_call 16; refine (HOP.out _).mono ?_; rintro e w7 ⟨rfl, hb⟩; have B7 := Lib.hid hb; clear hb; clear kk0 kk1 kk2 kk3) | (go_at_call 33; refine (HOE.out _).mono ?_; rintro e w8 ⟨rfl, hb⟩; have B8 := Lib.hid (B7.out.trans (hb.mono B7.out.size)); clear hb))
      have hba := B8.out.alloc B8.out.size (.cells #[.int .i64 pn.kind, .string (bs pn.owner), .int .i64 pn.num, .int .i64 pn.idx, .string (bs pn.text), .int .i64 en.kind, .string (bs en.owner), .int .i64 en.num, .int .i64 en.idx, .string (bs en.text)] 45); have B9 := Lib.hid (BB.out.trans (hba.mono BB.out.size)); have ZR9 := Lib.hid (ZB.out.next hba ZB.out.lt); have ZK9 := Lib.hid (ZKB.out.next hba ZKB.out.lt); have ZS9 := Lib.hid (Blk.new w8 45 #[.int .i64 pn.kind, .string (bs pn.owner), .int .i64 pn.num, .int .i64 pn.idx, .string (bs pn.text), .int .i64 en.kind, .string (bs en.owner), .int .i64 en.num, .int .i64 en.idx, .string (bs en.text)]); clear hba B7 B8 ZB ZKB BB e1 e2 e3; generalize w8.alloc (.cells #[.int .i64 pn.kind, .string (bs pn.owner), .int .i64 pn.num, .int .i64 pn.idx, .string (bs pn.text), .int .i64 en.kind, .string (bs en.owner), .int .i64 en.num, .int .i64 en.idx, .string (bs en.text)] 45) = w12 at *; obtain ⟨sb, hsb⟩ : ∃ sb, w8.heap.size = sb := ⟨_, rfl⟩; rw [hsb] at ZS9 ⊢; clear hsb; have H0 : Hid (loRel a b pn sk k 2 en w rb kb sb (.int .i64 (0 : Nat)) w12) := Lib.hid ⟨0, by omega, rfl, fun h => absurd h (Nat.lt_irrefl 0), ZR9.out, ZK9.out, ZS9.out, B9.out⟩; clear ZR9 ZK9 ZS9 B9
      go_wp2_with fail
      go_loopw [135] (fun i wr => loRel a b pn sk k 2 en w rb kb sb i wr) (fun i _ => 2 - (intOf i).toNat)
      case atStart => exact H0.out
      case round =>
        clear H0; obtain ⟨j, hj, rfl, hno, hz1, hz0, hzs, hB⟩ := hrel; have HNO := Lib.hid hno; have Z1 := Lib.hid hz1; have Z0 := Lib.hid hz0; have ZS := Lib.hid hzs; have HBW := Lib.hid hB; clear hno hz1 hz0 hzs hB
        by_cases hj2 : j < 2
        · have j1 : decide ((j : Int) < 2) = true := decide_eq_true (by omega)
          have j2 : (0 : Int) ≤ (j : Int) := by omega
          have j3 : (j : Int) < 2 := by omega
          obtain ⟨x, hx, hx0, hx1⟩ : ∃ x, x = (if j = 0 then pn else en) ∧ (j = 0 → x = pn) ∧ (j ≠ 0 → x = en) := ⟨_, rfl, fun h => if_pos h, fun h => if_neg h⟩
          have hcc : wr.cell? ⟨sb, j * 5, none⟩ = some (.int .i64 x.kind) ∧ wr.cell? ⟨sb, j * 5 + 1, none⟩ = some (.string (bs x.owner)) ∧ wr.cell? ⟨sb, j * 5 + 2, none⟩ = some (.int .i64 x.num) ∧ wr.cell? ⟨sb, j * 5 + 3, none⟩ = some (.int .i64 x.idx) ∧ wr.cell? ⟨sb, j * 5 + 4, none⟩ = some (.string (bs x.text)) := by
            have t0 := ZS.out.cell 0; have t1 := ZS.out.cell 1; have t2 := ZS.out.cell 2; have t3 := ZS.out.cell 3; have t4 := ZS.out.cell 4; have t5 := ZS.out.cell 5; have t6 := ZS.out.cell 6; have t7 := ZS.out.cell 7; have t8 := ZS.out.cell 8; have t9 := ZS.out.cell 9
            rcases (show j = 0 ∨ j = 1 by omega) with rfl | rfl
            · rw [hx0 rfl]; exact ⟨t0, t1, t2, t3, t4⟩
            · rw [hx1 (by omega)]; exact ⟨t5, t6, t7, t8, t9⟩
          obtain ⟨x0, x1, x2, x3, x4⟩ := hcc; have HX0 := Lib.hid hx0; have HX1 := Lib.hid hx1; have HJ2 := Lib.hid hj2; clear hx hx0 hx1 hj2
          go_upto_region 26 with (fail)
          have hba := (Below.refl wr.heap.size wr).alloc (Nat.le_refl _) (.cells #[.int .i64 x.kind, .string (bs x.owner), .int .i64 x.num, .int .i64 x.idx, .string (bs x.text)] 45); have B9 := Lib.hid (HBW.out.trans (hba.mono HBW.out.size)); replace Z1 := Lib.hid (Z1.out.next hba Z1.out.lt); replace Z0 := Lib.hid (Z0.out.next hba Z0.out.lt); replace ZS := Lib.hid (ZS.out.next hba ZS.out.lt); have ZX := Lib.hid (Blk.new wr 45 #[.int .i64 x.kind, .string (bs x.owner), .int .i64 x.num, .int .i64 x.idx, .string (bs x.text)]); clear hba x0 x1 x2 x3 x4; generalize wr.alloc (.cells #[.int .i64 x.kind, .string (bs x.owner), .int .i64 x.num, .int .i64 x.idx, .string (bs x.text)] 45) = w9 at *; obtain ⟨xb, hxb⟩ : ∃ xb, wr.heap.size = xb := ⟨_, rfl⟩; rw [hxb] at ZX ⊢; clear hxb; have H26 := Lib.hid (fun (W : World) (hW : Below w9.heap.size w9 W) => show W.cell? ⟨xb, 0, none⟩ = some (.int .i64 x.kind) ∧ W.cell? ⟨xb, 1, none⟩ = some (.string (bs x.owner)) ∧ W.cell? ⟨xb, 2, none⟩ = some (.int .i64 x.num) ∧ W.cell? ⟨xb, 3, none⟩ = some (.int .i64 x.idx) ∧ W.cell? ⟨xb, 4, none⟩ = some (.string (bs x.text)) ∧ W.cell? ⟨kb, 0, none⟩ = some (.int .i64 k.tick) from ⟨(ZX.out.next hW ZX.out.lt).cell 0, (ZX.out.next hW ZX.out.lt).cell 1, (ZX.out.next hW ZX.out.lt).cell 2, (ZX.out.next hW ZX.out.lt).cell 3, (ZX.out.next hW ZX.out.lt).cell 4, (Z0.out.next hW Z0.out.lt).cell 0⟩); have HDF := Lib.hid (HDF.out x); obtain ⟨vd, hvd⟩ : ∃ vd, vdf a b x sk = vd := ⟨_, rfl⟩; rw [hvd] at HDF; have HVD := Lib.hid hvd; clear hvd
          cases vd with
          | true =>
            refine wp_region_noPanic ?_
            refine wp_region_held_drew (S := (fun (w' : World) => w'.cell? ⟨xb, 0, none⟩ = some (.int .i64 x.kind) ∧ w'.cell? ⟨xb, 1, none⟩ = some (.string (bs x.owner)) ∧ w'.cell? ⟨xb, 2, none⟩ = some (.int .i64 x.num) ∧ w'.cell? ⟨xb, 3, none⟩ = some (.int .i64 x.idx) ∧ w'.cell? ⟨xb, 4, none⟩ = some (.string (bs x.text)) ∧ w'.cell? ⟨kb, 0, none⟩ = some (.int .i64 k.tick))) (by kernel_rfl) ?_ (fun hHeld => ?_)
            · exact H26.out w9 (Below.refl _ _)
            refine tk (v := ?_) 0 rfl (by kernel_rfl) (fun _ _ _ h => h) ?_ hHeld ?_; rotate_left
            · (intro w h; (try dsimp only at h); go_simp; try with_reducible rfl)
            try simp only [Act.put, pB, pC, pD]
            refine tk (v := ?_) 1 rfl (by kernel_rfl) (fun _ _ _ h => h) ?_ hHeld ?_; rotate_left
            · (intro w h; (try dsimp only at h); go_simp; try with_reducible rfl)
            try simp only [Act.put, pB, pC, pD]
            refine tk (v := ?_) 2 rfl (by kernel_rfl) (fun _ _ _ h => h) ?_ hHeld ?_; rotate_left
            · (intro w h; (try dsimp only at h); go_simp; try with_reducible rfl)
            try simp only [Act.put, pB, pC, pD]
            refine tk (v := ?_) 3 rfl (by kernel_rfl) (fun _ _ _ h => h) ?_ hHeld ?_; rotate_left
            · (intro w h; (try dsimp only at h); go_simp; try with_reducible rfl)
            try simp only [Act.put, pB, pC, pD]
            refine tk (v := ?_) 4 rfl (by kernel_rfl) (fun _ _ _ h => h) ?_ hHeld ?_; rotate_left
            · (intro w h; (try dsimp only at h); go_simp; try with_reducible rfl)
            try simp only [Act.put, pB, pC, pD]
            refine wpAnyH_ready (rs := [5]) (by kernel_rfl) (by simp) ?_; refine AllReadyH.cons rfl (fun K hK => ?_) AllReadyH.nil; go_simp; refine (HSL.out _).mono ?_; rintro e w10 ⟨rfl, hb'⟩; have B10 := Lib.hid ((Below.refl w9.heap.size w9).drew.trans hb'); have h10 := H26.out w10 B10.out; clear hb'
            try (go_wp2_with fail)
            refine hK.out _ _ ?_ (fun hNew => ?_)
            · exact h10
            clear hK K hHeld; have hHeld := hNew; clear hNew; try simp only [Act.put, pB, pC, pD]
            refine wpAnyH_ready (rs := [6]) (by kernel_rfl) (by simp) ?_; refine AllReadyH.cons rfl (fun K hK => ?_) AllReadyH.nil; go_simp; refine (HDF.out _ (B9.out.trans (B10.out.mono B9.out.size))).mono ?_; rintro e w11 ⟨rfl, hb'⟩; have B11 := Lib.hid (B10.out.trans (hb'.mono B10.out.size)); have h11 := H26.out w11 B11.out; clear hb'
            try (go_wp2_with fail)
            refine hK.out _ _ ?_ (fun hNew => ?_)
            · exact h11
            clear hK K hHeld; have hHeld := hNew; clear hNew; try simp only [Act.put, pB, pC, pD]
            refine wpAnyH_done (by kernel_rfl) ?_ _; clear hHeld
            try simp only [List.getElem_toArray, List.getElem_cons_zero, List.getElem_cons_succ, Act.put, pB, pC, pD]
            refine NoPanic.normal ?_
            obtain ⟨n0, n1, n2, n3, n4, -⟩ := h11; replace Z1 := Lib.hid (Z1.out.next B11.out Z1.out.lt); replace B9 := Lib.hid (B9.out.trans (B11.out.mono B9.out.size))
            have HJ0 := Lib.hid (show x = pn by
              by_cases h : j = 0
              · exact HX0.out h
              · have h1 := HVD.out
                rw [HX1.out h, HEP.out] at h1
                cases h1)
            have HR2 := Lib.hid (show R = ⟨k, 2, x⟩ by
              have h1 := HVD.out; rw [HJ0.out] at h1; rw [HRR.out, h1, HJ0.out]
              rfl)
            have ZN := Lib.hid (setNz_ (.int .i64 x.kind) (.string (bs x.owner)) (.int .i64 x.num) (.int .i64 x.idx) (.string (bs x.text)) Z1.out); have BN := Lib.hid (lowNz_ (.int .i64 x.kind) (.string (bs x.owner)) (.int .i64 x.num) (.int .i64 x.idx) (.string (bs x.text)) B9.out HRL.out); clear h10; have q0 := Z1.out.cell 0; have q1 := Z1.out.cell 1; have q2 := Z1.out.cell 2; have q3 := Z1.out.cell 3; have q4 := Z1.out.cell 4; have q5 := Z1.out.cell 5; have q6 := Z1.out.cell 6; have q7 := Z1.out.cell 7; have q8 := Z1.out.cell 8; have q9 := Z1.out.cell 9; simp only [qB, qC, qD] at q0 q1 q2 q3 q4 q5 q6 q7 q8 q9; have f0 := Z1.out.frozen 0; have f1 := Z1.out.frozen 1; have f2 := Z1.out.frozen 2; have f3 := Z1.out.frozen 3; have f4 := Z1.out.frozen 4; have f5 := Z1.out.frozen 5; have f6 := Z1.out.frozen 6; have f7 := Z1.out.frozen 7; have f8 := Z1.out.frozen 8; have f9 := Z1.out.frozen 9
            go_upto_region 29 with (fail)
            clear q0 q1 q2 q3 q4 q5 q6 q7 q8 q9 f0 f1 f2 f3 f4 f5 f6 f7 f8 f9 n0 n1 n2 n3 n4; generalize (((((w11.setCell ⟨rb, 5, none⟩ (.int .i64 x.kind)).setCell ⟨rb, 6, none⟩ (.string (bs x.owner))).setCell ⟨rb, 7, none⟩ (.int .i64 x.num)).setCell ⟨rb, 8, none⟩ (.int .i64 x.idx)).setCell ⟨rb, 9, none⟩ (.string (bs x.text))) = w13 at *; have q0 := ZN.out.cell 0; have q1 := ZN.out.cell 1; have q2 := ZN.out.cell 2; have q3 := ZN.out.cell 3; have q4 := ZN.out.cell 4; have q5 := ZN.out.cell 5; have q6 := ZN.out.cell 6; have q7 := ZN.out.cell 7; have q8 := ZN.out.cell 8; have q9 := ZN.out.cell 9; simp only [qB, qC, qD] at q0 q1 q2 q3 q4 q5 q6 q7 q8 q9; have f0 := ZN.out.frozen 0; have f1 := ZN.out.frozen 1; have f2 := ZN.out.frozen 2; have f3 := ZN.out.frozen 3; have f4 := ZN.out.frozen 4; have f5 := ZN.out.frozen 5; have f6 := ZN.out.frozen 6; have f7 := ZN.out.frozen 7; have f8 := ZN.out.frozen 8; have f9 := ZN.out.frozen 9; have ZE := Lib.hid (set10z_ (.int .i64 k.tick) (.int .i64 k.cls) (.int .i64 k.num) (.string (bs k.lin)) (.int .i64 2) (.int .i64 x.kind) (.string (bs x.owner)) (.int .i64 x.num) (.int .i64 x.idx) (.string (bs x.text)) ZN.out); have BE := Lib.hid (low10z_ (.int .i64 k.tick) (.int .i64 k.cls) (.int .i64 k.num) (.string (bs k.lin)) (.int .i64 2) (.int .i64 x.kind) (.string (bs x.owner)) (.int .i64 x.num) (.int .i64 x.idx) (.string (bs x.text)) BN.out HRL.out)
            go_wp2_with fail
            clear q0 q1 q2 q3 q4 q5 q6 q7 q8 q9 f0 f1 f2 f3 f4 f5 f6 f7 f8 f9; have d0 := ZE.out.cell 0; have d1 := ZE.out.cell 1; have d2 := ZE.out.cell 2; have d3 := ZE.out.cell 3; have d4 := ZE.out.cell 4; have d5 := ZE.out.cell 5; have d6 := ZE.out.cell 6; have d7 := ZE.out.cell 7; have d8 := ZE.out.cell 8; have d9 := ZE.out.cell 9; simp only [qB, qC, qD] at d0 d1 d2 d3 d4 d5 d6 d7 d8 d9; generalize ((((((((((w13.setCell ⟨rb, 0, none⟩ (.int .i64 k.tick)).setCell ⟨rb, 1, none⟩ (.int .i64 k.cls)).setCell ⟨rb, 2, none⟩ (.int .i64 k.num)).setCell ⟨rb, 3, none⟩ (.string (bs k.lin))).setCell ⟨rb, 4, none⟩ (.int .i64 2)).setCell ⟨rb, 5, none⟩ (.int .i64 x.kind)).setCell ⟨rb, 6, none⟩ (.string (bs x.owner))).setCell ⟨rb, 7, none⟩ (.int .i64 x.num)).setCell ⟨rb, 8, none⟩ (.int .i64 x.idx)).setCell ⟨rb, 9, none⟩ (.string (bs x.text))) = W9 at *
            exact bodyPost_ret (v := .tuple #[.agg #[.int .i64 k.tick, .int .i64 k.cls, .int .i64 k.num, .string (bs k.lin), .int .i64 2, .int .i64 x.kind, .string (bs x.owner), .int .i64 x.num, .int .i64 x.idx, .string (bs x.text)], .bool true, .bool false]) (by simp [results, Tryz.results10, go_sem, d0, d1, d2, d3, d4, d5, d6, d7, d8, d9]) rfl ⟨by rw [HR2.out] <;> rfl, BE.out⟩
          | false =>
            refine wp_region_noPanic ?_
            refine wp_region_held_drew (S := (fun (w' : World) => w'.cell? ⟨xb, 0, none⟩ = some (.int .i64 x.kind) ∧ w'.cell? ⟨xb, 1, none⟩ = some (.string (bs x.owner)) ∧ w'.cell? ⟨xb, 2, none⟩ = some (.int .i64 x.num) ∧ w'.cell? ⟨xb, 3, none⟩ = some (.int .i64 x.idx) ∧ w'.cell? ⟨xb, 4, none⟩ = some (.string (bs x.text)) ∧ w'.cell? ⟨kb, 0, none⟩ = some (.int .i64 k.tick))) (by kernel_rfl) ?_ (fun hHeld => ?_)
            · exact H26.out w9 (Below.refl _ _)
            refine tk (v := ?_) 0 rfl (by kernel_rfl) (fun _ _ _ h => h) ?_ hHeld ?_; rotate_left
            · (intro w h; (try dsimp only at h); go_simp; try with_reducible rfl)
            try simp only [Act.put, pB, pC, pD]
            refine tk (v := ?_) 1 rfl (by kernel_rfl) (fun _ _ _ h => h) ?_ hHeld ?_; rotate_left
            · (intro w h; (try dsimp only at h); go_simp; try with_reducible rfl)
            try simp only [Act.put, pB, pC, pD]
            refine tk (v := ?_) 2 rfl (by kernel_rfl) (fun _ _ _ h => h) ?_ hHeld ?_; rotate_left
            · (intro w h; (try dsimp only at h); go_simp; try with_reducible rfl)
            try simp only [Act.put, pB, pC, pD]
            refine tk (v := ?_) 3 rfl (by kernel_rfl) (fun _ _ _ h => h) ?_ hHeld ?_; rotate_left
            · (intro w h; (try dsimp only at h); go_simp; try with_reducible rfl)
            try simp only [Act.put, pB, pC, pD]
            refine tk (v := ?_) 4 rfl (by kernel_rfl) (fun _ _ _ h => h) ?_ hHeld ?_; rotate_left
            · (intro w h; (try dsimp only at h); go_simp; try with_reducible rfl)
            try simp only [Act.put, pB, pC, pD]
            refine wpAnyH_ready (rs := [5]) (by kernel_rfl) (by simp) ?_; refine AllReadyH.cons rfl (fun K hK => ?_) AllReadyH.nil; go_simp; refine (HSL.out _).mono ?_; rintro e w10 ⟨rfl, hb'⟩; have B10 := Lib.hid ((Below.refl w9.heap.size w9).drew.trans hb'); have h10 := H26.out w10 B10.out; clear hb'
            try (go_wp2_with fail)
            refine hK.out _ _ ?_ (fun hNew => ?_)
            · exact h10
            clear hK K hHeld; have hHeld := hNew; clear hNew; try simp only [Act.put, pB, pC, pD]
            refine wpAnyH_ready (rs := [6]) (by kernel_rfl) (by simp) ?_; refine AllReadyH.cons rfl (fun K hK => ?_) AllReadyH.nil; go_simp; refine (HDF.out _ (B9.out.trans (B10.out.mono B9.out.size))).mono ?_; rintro e w11 ⟨rfl, hb'⟩; have B11 := Lib.hid (B10.out.trans (hb'.mono B10.out.size)); have h11 := H26.out w11 B11.out; clear hb'
            try (go_wp2_with fail)
            refine hK.out _ _ ?_ (fun hNew => ?_)
            · exact h11
            clear hK K hHeld; have hHeld := hNew; clear hNew; try simp only [Act.put, pB, pC, pD]
            refine wpAnyH_done (by kernel_rfl) ?_ _; clear hHeld
            try simp only [List.getElem_toArray, List.getElem_cons_zero, List.getElem_cons_succ, Act.put, pB, pC, pD]
            refine NoPanic.normal ?_
            replace Z1 := Lib.hid (Z1.out.next B11.out Z1.out.lt); replace Z0 := Lib.hid (Z0.out.next B11.out Z0.out.lt); replace ZS := Lib.hid (ZS.out.next B11.out ZS.out.lt); replace B9 := Lib.hid (B9.out.trans (B11.out.mono B9.out.size))
            have HN2 := Lib.hid (show 0 < j + 1 → vdf a b pn sk = false from fun _ => by
              by_cases h : j = 0
              · rw [← HX0.out h]; exact HVD.out
              · exact HNO.out (by omega))
            clear h10 h11
            go_wp2_with fail
            go_roundw
            case rel => exact ⟨j + 1, by have := HJ2.out; omega, by go_num, HN2.out, Z1.out, Z0.out, ZS.out, B9.out⟩
            case measure => have := HJ2.out; simp [intOf]; omega
        · have j1 : decide ((j : Int) < 2) = false := decide_eq_false (by omega)
          have HR2 := Lib.hid (show R = ⟨k, 2, nm0⟩ by rw [HRR.out, HNO.out (by omega)]; rfl); clear hj2; have q0 := Z1.out.cell 0; have q1 := Z1.out.cell 1; have q2 := Z1.out.cell 2; have q3 := Z1.out.cell 3; have q4 := Z1.out.cell 4; have q5 := Z1.out.cell 5; have q6 := Z1.out.cell 6; have q7 := Z1.out.cell 7; have q8 := Z1.out.cell 8; have q9 := Z1.out.cell 9; simp only [qB, qC, qD] at q0 q1 q2 q3 q4 q5 q6 q7 q8 q9; have f0 := Z1.out.frozen 0; have f1 := Z1.out.frozen 1; have f2 := Z1.out.frozen 2; have f3 := Z1.out.frozen 3; have f4 := Z1.out.frozen 4; have f5 := Z1.out.frozen 5; have f6 := Z1.out.frozen 6; have f7 := Z1.out.frozen 7; have f8 := Z1.out.frozen 8; have f9 := Z1.out.frozen 9; have ZE := Lib.hid (set10z_ (.int .i64 k.tick) (.int .i64 k.cls) (.int .i64 k.num) (.string (bs k.lin)) (.int .i64 2) (.int .i64 0) (.string ⟨#[]⟩) (.int .i64 0) (.int .i64 0) (.string ⟨#[]⟩) Z1.out); have BE := Lib.hid (low10z_ (.int .i64 k.tick) (.int .i64 k.cls) (.int .i64 k.num) (.string (bs k.lin)) (.int .i64 2) (.int .i64 0) (.string ⟨#[]⟩) (.int .i64 0) (.int .i64 0) (.string ⟨#[]⟩) HBW.out HRL.out)
          go_wp2_with fail
          clear q0 q1 q2 q3 q4 q5 q6 q7 q8 q9 f0 f1 f2 f3 f4 f5 f6 f7 f8 f9; have d0 := ZE.out.cell 0; have d1 := ZE.out.cell 1; have d2 := ZE.out.cell 2; have d3 := ZE.out.cell 3; have d4 := ZE.out.cell 4; have d5 := ZE.out.cell 5; have d6 := ZE.out.cell 6; have d7 := ZE.out.cell 7; have d8 := ZE.out.cell 8; have d9 := ZE.out.cell 9; simp only [qB, qC, qD] at d0 d1 d2 d3 d4 d5 d6 d7 d8 d9; generalize ((((((((((wr.setCell ⟨rb, 0, none⟩ (.int .i64 k.tick)).setCell ⟨rb, 1, none⟩ (.int .i64 k.cls)).setCell ⟨rb, 2, none⟩ (.int .i64 k.num)).setCell ⟨rb, 3, none⟩ (.string (bs k.lin))).setCell ⟨rb, 4, none⟩ (.int .i64 2)).setCell ⟨rb, 5, none⟩ (.int .i64 0)).setCell ⟨rb, 6, none⟩ (.string ⟨#[]⟩)).setCell ⟨rb, 7, none⟩ (.int .i64 0)).setCell ⟨rb, 8, none⟩ (.int .i64 0)).setCell ⟨rb, 9, none⟩ (.string ⟨#[]⟩)) = W9 at *
          exact bodyPost_ret (v := .tuple #[.agg #[.int .i64 k.tick, .int .i64 k.cls, .int .i64 k.num, .string (bs k.lin), .int .i64 2, .int .i64 0, .string ⟨#[]⟩, .int .i64 0, .int .i64 0, .string ⟨#[]⟩], .bool true, .bool false]) (by simp [results, Tryz.results10, go_sem, d0, d1, d2, d3, d4, d5, d6, d7, d8, d9]) rfl ⟨by rw [HR2.out] <;> rfl, BE.out⟩
end Go.Proofs.YtmjkcanjfjfkfaaGreat
namespace Go.Proofs.YtmjkcanjfjfkfaaGreat
set_option linter.unusedSimpArgs false
set_option linter.unusedVariables false
def stB (l : List Ac) (k : Ky) : S47 := stL (l.take (befK l k))
theorem stB_cases (l : List Ac) (n : Nm) (k : Ky) : (lwr l n k = -1 ∧ stB l k n = none ∧ ∀ j (hj : j < befK l k) (h : j < l.length), wrOf l[j] n = none) ∨
    ∃ (p : Nat) (h : p < l.length) (v : Bs), p < befK l k ∧ lwr l n k = (p : Int) ∧ wrOf l[p] n = some v ∧ stB l k n = some v ∧ ∀ j (hj : j < befK l k) (h : j < l.length), p < j → wrOf l[j] n = none := by
  have hl := befK_le l k
  rcases stL_take (l := l) (n := n) (i := befK l k) hl with ⟨h1, h2⟩ | ⟨p, hp, v, h1, h2, h3, h4⟩
  · refine .inl ⟨h1, h2, fun j hj h => ?_⟩
    rcases wrB_spec l n (befK l k) with ⟨_, g2⟩ | ⟨q, g1, g2, _⟩
    · have := g2 j hj
      rw [hasW_wrOf h] at this
      simpa using this
    · rw [h1] at g2; omega
  · exact .inr ⟨p, by omega, v, hp, h1, h2, h3, fun j hj h hpj => h4 j hj hpj⟩
theorem chOf_val {ds : List De} {l : List Ac} {s : S47} (ht : Tr2 ds s l) {p : Nat} (hp : p < l.length) {n : Nm} {v : Bs} (h : wrOf l[p] n = some v) : chOf l[p] n = ⟨n, v, false⟩ := by
  unfold wrOf at h
  cases hf : l[p].writes.find? fun c => decide (c.name = n) with
  | none => rw [hf] at h; cases h
  | some c =>
    rw [hf] at h
    have hv : c.value = v := by simpa using h
    have hn : c.name = n := by have := List.find?_some hf; simpa using this
    have hm := List.mem_of_find?_eq_some hf; rw [(ht.at_ p hp).1] at hm
    unfold prf at hm
    obtain ⟨m, _, rfl⟩ := List.mem_map.1 hm
    unfold chOf
    rw [hf]
    simp only [Option.getD_some]
    unfold wrC at hv hn ⊢
    simp only at hv hn
    rw [hn] at hv ⊢; rw [hv]
theorem acG_nat {l : List Ac} {p : Nat} (hp : p < l.length) : acG l (p : Int) = l[p] := by
  rw [acG_at (by omega) (by omega)]
  rfl
theorem vdf_iff {ds : List De} {a b : List Ac} {s s' : S47} (ta : Tr2 ds s a) (tb : Tr2 ds s' b) (n : Nm) (k : Ky) : vdf a b n k = true ↔ stB a k n ≠ stB b k n := by
  unfold vdf
  rcases stB_cases a n k with ⟨h1, h2, _⟩ | ⟨p, hp, v, _, h1, hw, h2, _⟩ <;> rcases stB_cases b n k with ⟨g1, g2, _⟩ | ⟨q, hq, v', _, g1, gw, g2, _⟩ <;> rw [h1, g1, h2, g2]
  · simp
  · rw [if_pos (.inl (by omega))]
    simp
  · rw [if_pos (.inr (by omega))]
    simp
  · rw [if_neg (by omega), acG_nat hp, acG_nat hq, chOf_val ta hp hw, chOf_val tb hq gw]
    unfold difC
    simp
theorem org_some {a b : List Ac} {n : Nm} {k : Ky} (h : stB a k n ≠ stB b k n) : ∃ o, orgK a b n k = some o := by
  unfold orgK
  by_cases h1 : 0 ≤ lwr a n k
  · rw [if_pos h1]
    by_cases h2 : 0 ≤ lwr b n k ∧ 0 < cmpK (acG b (lwr b n k)).key (acG a (lwr a n k)).key
    · rw [if_pos h2]; exact ⟨_, rfl⟩
    · rw [if_neg h2]; exact ⟨_, rfl⟩
  · rw [if_neg h1]
    by_cases h2 : 0 ≤ lwr b n k
    · rw [if_pos h2]; exact ⟨_, rfl⟩
    · exfalso
      rcases stB_cases a n k with ⟨e1, e2, _⟩ | ⟨p, _, _, _, e1, _⟩
      · rcases stB_cases b n k with ⟨f1, f2, _⟩ | ⟨q, _, _, _, f1, _⟩
        · rw [e2, f2] at h; exact h rfl
        · omega
      · omega
theorem later_eq {m : List Ac} (hm : KP m) {n : Nm} {k o : Ky} (hok : cmpK o k < 0) {j : Nat} (hj : j < m.length) {v : Bs} (hjk : m[j].key = o) (hjw : wrOf m[j] n = some v)
    (hlate : ∀ (q : Nat) (hq : q < m.length), lwr m n k = (q : Int) → ¬ 0 < cmpK m[q].key o) : stB m k n = some v := by
  have hjb : j < befK m k := by
    rcases Nat.lt_or_ge j (befK m k) with h | h
    · exact h
    · exact absurd (hjk ▸ hok) (befK_hi hm hj h)
  rcases stB_cases m n k with ⟨_, _, h3⟩ | ⟨q, hq, v', hqb, h1, hw, h2, h3⟩
  · rw [h3 j hjb hj] at hjw; cases hjw
  · rcases Nat.lt_trichotomy j q with h | h | h
    · exfalso
      have h4 := hm.lt hq h; rw [hjk] at h4
      exact hlate q hq h1 ((wordK.anti o m[q].key).1 h4)
    · subst h
      rw [hw] at hjw; rw [h2, hjw]
    · rw [h3 j hjb hj h] at hjw; cases hjw
theorem act_at {ds : List De} {l : List Ac} {s : S47} (ht : Tr2 ds s l) {k : Ky} (hk : hasK l k = true) : acG l (befK l k : Nat) = prf (stB l k) k (deedS ds k) ∧ PIn (stB l k) k (deedS ds k) := by
  obtain ⟨h1, h2⟩ := hasK_at hk; obtain ⟨e1, e2, _⟩ := ht.at_ (befK l k) h1; rw [acG_nat h1]; rw [h2] at e1 e2
  exact ⟨e1, e2⟩
theorem rdC_inj {s s' : S47} {n : Nm} : rdC s n = rdC s' n ↔ s n = s' n := by
  unfold rdC
  constructor
  · intro h
    injection h with _ h1 h2
    cases h3 : s n <;> cases h4 : s' n <;> rw [h3, h4] at h1 h2 <;> simp at h1 h2
    rw [h1]
  · intro h; rw [h]
theorem difC_rd {s s' : S47} {n : Nm} : difC (rdC s n) (rdC s' n) = true ↔ s n ≠ s' n := by
  unfold difC rdC
  cases h3 : s n <;> cases h4 : s' n <;> simp
theorem rds_mem {s : S47} {k : Ky} {d : De} (h : PIn s k d) {n : Nm} : n ∈ sortU cmpN (rds s k d) ↔ n ∈ rds s k d := mem_sortU ordN _ (ob_own (rds_ok h).2.2)
theorem prf_reads {s s' : S47} {k : Ky} {d : De} (h : PIn s k d) (h' : PIn s' k d) (hr : (prf s k d).reads = (prf s' k d).reads) : prf s k d = prf s' k d := by
  refine prf_congr h fun n hn => ?_
  have hm : rdC s n ∈ (prf s' k d).reads := by
    rw [← hr]
    exact List.mem_map.2 ⟨n, (rds_mem h).2 hn, rfl⟩
  obtain ⟨m, hm1, hm2⟩ := List.mem_map.1 hm
  have : m = n := by have := congrArg Ch.name hm2; exact this
  subst this
  exact (rdC_inj.1 hm2).symm
theorem rdTo_congr2 {s s' : S47} {k : Ky} {d : De} (h : ∀ n, n ∈ (rdTo s k d 6).names → n ∈ (rdTo s' k d 6).names → s n = s' n) : ∀ m, m ≤ 6 → rdTo s k d m = rdTo s' k d m
  | 0, _ => rfl
  | m + 1, hm => by
    have ih := rdTo_congr2 h m (by omega)
    have hin : ∀ s : S47, ¬ (bitN d.reads m = false ∨ (rdTo s k d m).all = false) → prtN (1 + (m : Nat)) ∈ (rdTo s k d 6).names := fun s hc => by
      refine rdTo_mono s k d (m := m + 1) (m' := 6) hm ?_
      rw [rdTo_succ]
      unfold rd1
      rw [if_neg hc]
      exact addN_mem.2 (.inr rfl)
    by_cases hc : bitN d.reads m = false ∨ (rdTo s k d m).all = false
    · rw [rdTo_succ, rdTo_succ, ← ih]
      unfold rd1
      rw [if_pos hc, if_pos hc]
    · have hx := h _ (hin s hc) (hin s' (by rw [← ih]; exact hc))
      rw [rdTo_succ, rdTo_succ, ← ih]
      unfold rd1
      rw [if_neg hc, if_neg hc, hx]
theorem prf_congr2 {s s' : S47} {k : Ky} {d : De} (h : PIn s k d) (hs : ∀ n, n ∈ rds s k d → n ∈ rds s' k d → s n = s' n) : prf s k d = prf s' k d := by
  have hin : ∀ (s : S47) n, n ∈ (rdA s k d).names → n ∈ rds s k d := fun s n hn => by
    unfold rds
    split
    · exact addN_mem.2 (.inl hn)
    · exact hn
  have h1 : rdA s k d = rdA s' k d := rdTo_congr2 (fun n hn hn' => hs n (hin s n hn) (hin s' n hn')) 6 (Nat.le_refl _)
  have h2 : rds s k d = rds s' k d := by unfold rds; rw [h1]
  exact prf_congr h fun n hn => hs n hn (h2 ▸ hn)
theorem chgN_some {s s' : S47} {k : Ky} {d : De} (h : PIn s k d) (h' : PIn s' k d) (hr : (prf s k d).reads ≠ (prf s' k d).reads) : ∃ n, chgN (prf s k d).reads (prf s' k d).reads = some n := by
  cases hc : chgN (prf s k d).reads (prf s' k d).reads with
  | some n => exact ⟨n, rfl⟩
  | none =>
    exfalso
    unfold chgN at hc
    rw [Option.map_eq_none_iff, List.find?_eq_none] at hc
    refine hr (congrArg Ac.reads (prf_congr2 h fun n hn hn' => ?_))
    by_cases e : s n = s' n
    · exact e
    · exfalso
      refine hc (rdC s n) (List.mem_map.2 ⟨n, (rds_mem h).2 hn, rfl⟩) (List.any_eq_true.2 ⟨rdC s' n, List.mem_map.2 ⟨n, (rds_mem h').2 hn', rfl⟩, ?_⟩)
      rw [Bool.and_eq_true]
      exact ⟨decide_eq_true rfl, difC_rd.2 e⟩
theorem chgN_ne {s s' : S47} {k : Ky} {d : De} (h : PIn s k d) (h' : PIn s' k d) {n : Nm} (hc : chgN (prf s k d).reads (prf s' k d).reads = some n) : s n ≠ s' n ∧ n ∈ objs := by
  unfold chgN at hc
  obtain ⟨c, hf, rfl⟩ := Option.map_eq_some_iff.1 hc; have hm := List.mem_of_find?_eq_some hf; have ha := List.find?_some hf; obtain ⟨n, hn, rfl⟩ := List.mem_map.1 hm; obtain ⟨e, he, h2⟩ := List.any_eq_true.1 ha; obtain ⟨n2, hn2, rfl⟩ := List.mem_map.1 he; rw [Bool.and_eq_true] at h2; have h3 : n2 = n := of_decide_eq_true h2.1; subst h3
  exact ⟨difC_rd.1 h2.2, (rds_ok h).2.2 _ ((rds_mem h).1 hn)⟩
theorem rsn_ok {ds : List De} {a b : List Ac} {s s' : S47} (ta : Tr2 ds s a) (tb : Tr2 ds s' b) (k : Ky) : (rsnE a b k).2 = 0 ∨ rsnE a b k = (rs0, 8) := by
  rcases rsnE_cases a b k with ⟨_, _, e⟩ | ⟨_, _, e⟩ | ⟨_, _, e⟩ | ⟨_, _, _, e⟩ | ⟨h1, h2, h3, h4, _⟩ | ⟨_, _, _, n, _, e⟩
  · exact .inr e
  · rw [e]; exact .inl rfl
  · rw [e]; exact .inl rfl
  · exact .inr e
  · exfalso
    obtain ⟨e1, p1⟩ := act_at ta h1; obtain ⟨e2, p2⟩ := act_at tb h2; rw [e1, e2] at h3 h4; obtain ⟨n, hn⟩ := chgN_some p1 p2 h3; rw [hn] at h4
    cases h4
  · rw [e]; exact .inl rfl
theorem hasK_of {l : List Ac} (h : KP l) {i : Nat} (hi : i < l.length) : hasK l l[i].key = true ∧ befK l l[i].key = i := ⟨(hasK_iff h).2 ⟨_, List.getElem_mem hi, rfl⟩, h.befK_at hi⟩
theorem diff_half {ds : List De} {a b : List Ac} {s s' : S47} (ta : Tr2 ds s a) (tb : Tr2 ds s' b) (pa : KP a) (pb : KP b) {n : Nm} {k o : Ky} (hok : cmpK o k < 0) {p : Nat} (hp : p < a.length) (hpo : a[p].key = o) (hl : lwr a n k = (p : Int))
    (hb : hasK b o = true) (hr : (acG a (befK a o : Nat)).reads = (acG b (befK b o : Nat)).reads) (hlate : ∀ (q : Nat) (hq : q < b.length), lwr b n k = (q : Int) → ¬ 0 < cmpK b[q].key o) : stB a k n = stB b k n := by
  obtain ⟨ha, hbe⟩ := hasK_of pa hp; rw [hpo] at ha hbe; obtain ⟨e1, p1⟩ := act_at ta ha; obtain ⟨e2, p2⟩ := act_at tb hb
  have he : acG a (befK a o : Nat) = acG b (befK b o : Nat) := by
    rw [e1, e2] at hr ⊢
    exact prf_reads p1 p2 hr
  obtain ⟨h1, h2⟩ := hasK_at hb; rw [hbe, acG_nat hp, acG_nat h1] at he
  rcases stB_cases a n k with ⟨g1, _⟩ | ⟨q, hq, v, _, g1, hw, g2, _⟩
  · omega
  · obtain rfl : q = p := by omega
    rw [g2]; rw [he] at hw
    exact (later_eq pb hok h1 h2 hw hlate).symm
theorem diff_late {a b : List Ac} (pa : KP a) (pb : KP b) {n : Nm} {k o : Ky} (ho : orgK a b n k = some o) :
    (∃ (p : Nat) (hp : p < a.length), a[p].key = o ∧ lwr a n k = (p : Int) ∧ ∀ (q : Nat) (hq : q < b.length), lwr b n k = (q : Int) → ¬ 0 < cmpK b[q].key o) ∨
    (∃ (p : Nat) (hp : p < b.length), b[p].key = o ∧ lwr b n k = (p : Int) ∧ ∀ (q : Nat) (hq : q < a.length), lwr a n k = (q : Int) → ¬ 0 < cmpK a[q].key o) := by
  unfold orgK at ho
  have fa := fun h => lwr_spec pa (n := n) (k := k) h
  have fb := fun h => lwr_spec pb (n := n) (k := k) h
  generalize lwr a n k = xa at *; generalize lwr b n k = xb at *
  by_cases hA : 0 ≤ xa
  · obtain ⟨i, hi, i1, i2, i3, i4⟩ := fa hA
    rw [if_pos hA] at ho
    by_cases hB : 0 ≤ xb ∧ 0 < cmpK (acG b xb).key (acG a xa).key
    · obtain ⟨j, hj, j1, j2, j3, j4⟩ := fb hB.1
      have hB2 := hB.2; rw [if_pos hB] at ho; rw [j2, i2] at hB2; rw [j2] at ho
      injection ho with ho
      refine .inr ⟨j, hj, ho, j1, fun q hq e => ?_⟩
      have hqi : q = i := by omega
      subst hqi; rw [← ho]
      intro hc
      have h1 := (wordK.anti a[q].key b[j].key).2 hB2; clear fa fb
      omega
    · rw [if_neg hB, i2] at ho
      injection ho with ho
      refine .inl ⟨i, hi, ho, i1, fun q hq e hc => hB ⟨by omega, ?_⟩⟩
      rw [e, acG_nat hq, i2, ho]
      exact hc
  · rw [if_neg hA] at ho
    by_cases hB : 0 ≤ xb
    · obtain ⟨j, hj, j1, j2, j3, j4⟩ := fb hB
      rw [if_pos hB, j2] at ho
      injection ho with ho
      exact .inr ⟨j, hj, ho, j1, fun q hq e => absurd (show 0 ≤ xa by omega) hA⟩
    · rw [if_neg hB] at ho; cases ho
theorem diff_step {ds : List De} {a b : List Ac} {s s' : S47} (ta : Tr2 ds s a) (tb : Tr2 ds s' b) (pa : KP a) (pb : KP b) {n : Nm} {k o : Ky} (hd : stB a k n ≠ stB b k n) (ho : orgK a b n k = some o) : (rsnE a b o).2 = 0 := by
  rcases rsn_ok ta tb o with h | h
  · exact h
  · exfalso
    obtain ⟨hok, _, hmem⟩ := orgK_lt pa pb ho
    have hcase : (hasK a o = false ∧ hasK b o = false) ∨ (hasK a o = true ∧ hasK b o = true ∧ (acG a (befK a o : Nat)).reads = (acG b (befK b o : Nat)).reads) := by
      rcases rsnE_cases a b o with ⟨h1, h2, e⟩ | ⟨_, _, e⟩ | ⟨_, _, e⟩ | ⟨h1, h2, h3, e⟩ | ⟨_, _, _, _, e⟩ | ⟨_, _, _, n, _, e⟩
      · exact .inl ⟨h1, h2⟩
      · rw [e] at h; exact absurd (congrArg Prod.snd h) (show ¬ (0 : Int) = 8 by decide)
      · rw [e] at h; exact absurd (congrArg Prod.snd h) (show ¬ (0 : Int) = 8 by decide)
      · exact .inr ⟨h1, h2, h3⟩
      · rw [e] at h; exact absurd (congrArg Prod.snd h) (show ¬ (10 : Int) = 8 by decide)
      · rw [e] at h; exact absurd (congrArg Prod.snd h) (show ¬ (0 : Int) = 8 by decide)
    rcases hcase with ⟨h1, h2⟩ | ⟨h1, h2, h3⟩
    · rcases hmem with hm | hm
      · rw [(hasK_iff pa).2 hm] at h1; cases h1
      · rw [(hasK_iff pb).2 hm] at h2; cases h2
    · rcases diff_late pa pb ho with ⟨p, hp, e1, e2, e3⟩ | ⟨p, hp, e1, e2, e3⟩
      · exact hd (diff_half ta tb pa pb hok hp e1 e2 h2 h3 e3)
      · exact hd (diff_half tb ta pb pa hok hp e1 e2 h1 h3.symm e3).symm
theorem rsn_diff {ds : List De} {a b : List Ac} {s s' : S47} (ta : Tr2 ds s a) (tb : Tr2 ds s' b) {k : Ky} (h : (rsnE a b k).2 = 0) (hn : (rsnE a b k).1.name ≠ nm0) : stB a (bkK (rsnE a b k).1) (rsnE a b k).1.name ≠ stB b (bkK (rsnE a b k).1) (rsnE a b k).1.name := by
  have hal : ∀ kd : Int, kd ≠ 1 → (alo a b k kd).name ≠ nm0 → stB a (bkK (alo a b k kd)) (alo a b k kd).name ≠ stB b (bkK (alo a b k kd)) (alo a b k kd).name := fun kd hkd hne => by
    obtain ⟨h1, h2, h3⟩ := alo_key a b k kd; obtain ⟨_, h5, h6⟩ := h3 hne
    unfold bkK
    rw [h2, if_neg hkd, h1, h5]
    exact (vdf_iff ta tb _ _).1 h6
  rcases rsnE_cases a b k with ⟨_, _, e⟩ | ⟨_, _, e⟩ | ⟨_, _, e⟩ | ⟨_, _, _, e⟩ | ⟨_, _, _, _, e⟩ | ⟨h1, h2, _, n, hc, e⟩ <;> rw [e] at h hn ⊢
  · exact absurd h (by decide)
  · exact hal 3 (by decide) hn
  · exact hal 2 (by decide) hn
  · exact absurd h (by decide)
  · exact absurd h (by decide)
  · obtain ⟨e1, p1⟩ := act_at ta h1
    obtain ⟨e2, p2⟩ := act_at tb h2; rw [e1, e2] at hc
    unfold bkK
    exact (chgN_ne p1 p2 hc).1
theorem nm0_ob : nm0 ∉ objs := by decide
theorem rsn_last {ds : List De} {a b : List Ac} {s s' : S47} (ta : Tr2 ds s a) (tb : Tr2 ds s' b) (oa : RunOk a) (ob : RunOk b) {k : Ky} (h : (rsnE a b k).2 = 0) (hn : (rsnE a b k).1.name = nm0) : ((hasK a k = true ∧ hasK b k = false) ∨ (hasK a k = false ∧ hasK b k = true)) ∧ (k.cls = 0 ∨ stB a (sloK k.tick) (prcN k.lin) = stB b (sloK k.tick) (prcN k.lin)) := by
  have hal : ∀ kd : Int, (alo a b k kd).name = nm0 → k.cls = 0 ∨ stB a (sloK k.tick) (prcN k.lin) = stB b (sloK k.tick) (prcN k.lin) := fun kd he => by
    unfold alo at he
    by_cases hc : k.cls = 0
    · exact .inl hc
    · rw [if_neg hc] at he
      by_cases hv : vdf a b (prcN k.lin) (sloK k.tick) = true
      · rw [if_pos hv] at he
        have := congrArg Nm.kind he
        exact absurd this (by show ¬ (1 : Int) = 0; decide)
      · right
        by_cases e : stB a (sloK k.tick) (prcN k.lin) = stB b (sloK k.tick) (prcN k.lin)
        · exact e
        · exact absurd ((vdf_iff ta tb _ _).2 e) hv
  rcases rsnE_cases a b k with ⟨_, _, e⟩ | ⟨h1, h2, e⟩ | ⟨h1, h2, e⟩ | ⟨_, _, _, e⟩ | ⟨_, _, _, _, e⟩ | ⟨h1, h2, _, n, hc, e⟩ <;> rw [e] at h hn
  · exact absurd h (by decide)
  · exact ⟨.inl ⟨h1, h2⟩, hal 3 hn⟩
  · exact ⟨.inr ⟨h1, h2⟩, hal 2 hn⟩
  · exact absurd h (by decide)
  · exact absurd h (by decide)
  · obtain ⟨e1, p1⟩ := act_at ta h1
    obtain ⟨e2, p2⟩ := act_at tb h2; rw [e1, e2] at hc
    exact absurd (hn ▸ (chgN_ne p1 p2 hc).2) nm0_ob
def DecR (l : List Rs) : Prop := ∀ i (h : i + 1 < l.length), cmpK l[i + 1].key (l[i]'(by omega)).key < 0
theorem DecR.snoc {l : List Rs} (h : DecR l) {r : Rs} (hr : l = [] ∨ ∃ l' r', l = l' ++ [r'] ∧ cmpK r.key r'.key < 0) : DecR (l ++ [r]) := by
  intro i hi
  rw [List.length_append, List.length_singleton] at hi
  by_cases hl : i + 1 < l.length
  · rw [List.getElem_append_left hl, List.getElem_append_left (by omega)]
    exact h i hl
  · rcases hr with rfl | ⟨l', r', rfl, hc⟩
    · simp at hi
    · rw [List.length_append, List.length_singleton] at hi hl
      obtain rfl : i = l'.length := by omega
      simp only [List.append_assoc, List.getElem_append_right (Nat.le_refl _), List.getElem_append_right (Nat.le_add_right _ 1)]
      simpa using hc
theorem expF_law {ds : List De} {a b : List Ac} {s s' : S47} (ta : Tr2 ds s a) (tb : Tr2 ds s' b) (oa : RunOk a) (ob : RunOk b) : ∀ (n : Nat) (k : Ky) (out : List Rs), msr a b k < n → (rsnE a b k).2 = 0 → DecR out → (out = [] ∨ ∃ l' r', out = l' ++ [r'] ∧ cmpK k r'.key < 0) →
    (expF a b n k out).2 = 0 ∧ DecR (expF a b n k out).1 ∧ ∃ l' r, (expF a b n k out).1 = l' ++ [r] ∧ (rsnE a b r.key).2 = 0 ∧ (rsnE a b r.key).1.name = nm0
  | 0, k, out, h, _, _, _ => by omega
  | n + 1, k, out, hm, h0, hd, ho => by
    have hk := rsnE_key h0; have hd2 : DecR (out ++ [(rsnE a b k).1]) := hd.snoc (by rw [hk]; exact ho); rw [expF_succ, if_neg (fun h => h h0)]
    unfold expR
    by_cases hn : (rsnE a b k).1.name = nm0
    · rw [if_pos hn]
      exact ⟨rfl, hd2, out, _, rfl, by rw [hk]; exact h0, by rw [hk]; exact hn⟩
    · rw [if_neg hn]
      have hdf := rsn_diff ta tb h0 hn; obtain ⟨o, hoo⟩ := org_some hdf; obtain ⟨g1, g2, _⟩ := org_step oa ob h0 hn hoo; rw [hoo]
      exact expF_law ta tb oa ob n o _ (by omega) (diff_step ta tb oa.pw ob.pw hdf hoo) hd2 (.inr ⟨out, _, rfl, by rw [hk]; exact g1⟩)
end Go.Proofs.YtmjkcanjfjfkfaaGreat
namespace Go.Proofs.YtmjkcanjfjfkfaaGreat
open Go.RowKit
set_option linter.unusedSimpArgs false
set_option linter.unusedVariables false
attribute [local go_sem ↓] Go.wp_at_zero Go.wp_at_succ
open Go.MapKept Go.ChangeMaps
theorem chgN_hit {X Y : List Ch} (hX : ∀ c ∈ X, okCh c = true) (hY : ∀ c ∈ Y, okCh c = true) {x y : Nat} (hx : x < X.length) (hy : y < Y.length) (h0 : ∀ q (hq : q < X.length), q < x → ∀ r (hr : r < Y.length), X[q].name = Y[r].name → X[q] = Y[r]) (hn : X[x].name = Y[y].name) (hne : X[x] ≠ Y[y]) : chgN X Y = some X[x].name := by
  unfold chgN
  have : (X.find? fun c => Y.any fun d => decide (d.name = c.name) && difC c d) = some X[x] := by
    rw [List.find?_eq_some_iff_getElem]
    refine ⟨List.any_eq_true.2 ⟨Y[y], List.getElem_mem hy, ?_⟩, x, hx, rfl, fun q hq => ?_⟩
    · rw [difC_eq (hX _ (List.getElem_mem hx)) (hY _ (List.getElem_mem hy)) hn]
      simp [hn, hne]
    · rw [Bool.not_eq_true', List.any_eq_false]
      intro d hd
      obtain ⟨r, hr, rfl⟩ := List.getElem_of_mem hd
      by_cases h : Y[r].name = X[q].name
      · have := h0 q (by omega) hq r hr h.symm
        rw [difC_eq (hX _ (List.getElem_mem (by omega))) (hY _ (List.getElem_mem hr)) h.symm]
        simp [this]
      · simp [h]
  rw [this]
  rfl
theorem chgN_miss {X Y : List Ch} (hX : ∀ c ∈ X, okCh c = true) (hY : ∀ c ∈ Y, okCh c = true) (h0 : ∀ q (hq : q < X.length) r (hr : r < Y.length), X[q].name = Y[r].name → X[q] = Y[r]) : chgN X Y = none := by
  unfold chgN
  rw [Option.map_eq_none_iff, List.find?_eq_none]
  intro c hc
  obtain ⟨q, hq, rfl⟩ := List.getElem_of_mem hc; rw [Bool.not_eq_true, List.any_eq_false]
  intro d hd
  obtain ⟨r, hr, rfl⟩ := List.getElem_of_mem hd
  by_cases h : Y[r].name = X[q].name
  · have := h0 q hq r hr h.symm
    rw [difC_eq (hX _ (List.getElem_mem hq)) (hY _ (List.getElem_mem hr)) h.symm]
    simp [this]
  · simp [h]
def rxRel (X Y : List Ch) (w : World) (i : Value) (wr : World) : Prop := ∃ x : Nat, x ≤ X.length ∧ i = .int .i64 (x : Int) ∧ (∀ q (hq : q < X.length), q < x → ∀ r (hr : r < Y.length), X[q].name = Y[r].name → X[q] = Y[r]) ∧ Below w.heap.size w wr
def ryRel (Y : List Ch) (x : Ch) (w : World) (i : Value) (wr : World) : Prop := ∃ y : Nat, y ≤ Y.length ∧ i = .int .i64 (y : Int) ∧ (∀ r (hr : r < Y.length), r < y → x.name = Y[r].name → x = Y[r]) ∧ Below w.heap.size w wr
set_option maxRecDepth 100000 in
set_option maxHeartbeats 3000000 in
theorem lreason_two {w : World} {v1 v2 : Value} {a b : List Ac} {k : Ky} (ha : RdAc w v1 a) (hb : RdAc w v2 b) (oa : RunOk a) (ob : RunOk b) (h1 : hasK a k = true) (h2 : hasK b k = true) : Calls Tryz.prog 10 #[v1, v2, kyV k] w fun e w' => e = .returned (.tuple #[rsV (rsnE a b k).1, .bool (decide ((rsnE a b k).2 = 0)), .bool (decide ((rsnE a b k).2 = 10))]) ∧ Below w.heap.size w w' := by
  obtain ⟨A1, c1, rfl, hc1⟩ := RowRd.form ha; obtain ⟨A2, c2, rfl, hc2⟩ := RowRd.form hb; obtain ⟨p, hp⟩ : ∃ p, befK a k = p := ⟨_, rfl⟩; obtain ⟨q, hq⟩ : ∃ q, befK b k = q := ⟨_, rfl⟩
  have hfa : fndI a k = (p : Int) := by rw [fndI_has oa.pw, h1, hp]; rfl
  have hfb : fndI b k = (q : Int) := by rw [fndI_has ob.pw, h2, hq]; rfl
  obtain ⟨hpl, hpk⟩ := hasK_at h1; obtain ⟨hql, hqk⟩ := hasK_at h2
  simp only [hp] at hpl hpk
  simp only [hq] at hql hqk
  have HR := Lib.hid (show rsnE a b k = ((if a[p].reads = b[q].reads then (rs0, 8) else match chgN a[p].reads b[q].reads with
        | some n => (⟨k, 1, n⟩, 0)
        | none => (rs0, 10)) : Rs × Int) by
    unfold rsnE
    rw [if_pos h1, if_pos h2, hp, hq, acG_nat hpl, acG_nat hql]
    rfl)
  have HX := Lib.hid ((ord_nodup (okAc_r (oa.o _ (List.getElem_mem hpl)))).2); have HY := Lib.hid ((ord_nodup (okAc_r (ob.o _ (List.getElem_mem hql)))).2); have hxl := (oa.r _ (List.getElem_mem hpl)).2.2.2.1; have hyl := (ob.r _ (List.getElem_mem hql)).2.2.2.1; obtain ⟨xb, xo, u1, u1', hbe, hxb, hr1, -, -, -, -, -, x4, -⟩ := RdAc.piece ha hpl; subst hbe; obtain ⟨yb, yo, u2, u2', hbe, hyb, hr2, -, -, -, -, -, y4, -⟩ := RdAc.piece hb hql; subst hbe; obtain ⟨U1, c1_, hu, -⟩ := RdP.form hr1; subst hu; obtain ⟨U2, c2_, hu, -⟩ := RdP.form hr2; subst hu; have H7 := Lib.hid (fun (W : World) (hW : Below w.heap.size w W) => show W.cell? ⟨xb, xo + p * 6 + 4, none⟩ = some (.slice U1 a[p].reads.length c1_) ∧ W.cell? ⟨yb, yo + q * 6 + 4, none⟩ = some (.slice U2 b[q].reads.length c2_) from ⟨(hW.cell (p := ⟨xb, xo + p * 6 + 4, none⟩) hxb).trans x4, (hW.cell (p := ⟨yb, yo + q * 6 + 4, none⟩) hyb).trans y4⟩); have HRX := Lib.hid (fun (W : World) (hW : Below w.heap.size w W) => RdP.next hr1 hW); have HRY := Lib.hid (fun (W : World) (hW : Below w.heap.size w W) => RdP.next hr2 hW); have HSM := Lib.hid (fun (W : World) (hW : Below w.heap.size w W) => same_is (RdP.next hr1 hW) (RdP.next hr2 hW) (by omega) (by omega)); obtain ⟨X, hX⟩ : ∃ X, a[p].reads = X := ⟨_, rfl⟩; obtain ⟨Y, hY⟩ : ∃ Y, b[q].reads = Y := ⟨_, rfl⟩; rw [hX, hY] at HR H7 HSM; rw [hX] at HX HRX hxl; rw [hY] at HY HRY hyl; have HXL := Lib.hid hxl; have HYL := Lib.hid hyl; have HPL := Lib.hid hpl; have HQL := Lib.hid hql; clear hX hY hr1 hr2 x4 y4 hp hq hpk hqk hxl hyl h1 h2; have hal := oa.len; have hbl := ob.len; have b0 := Below.refl w.heap.size w; have b1 := b0.alloc b0.size (.cells #[.int .i64 k.tick, .int .i64 k.cls, .int .i64 k.num, .string (bs k.lin)] 35); have b2 := b1.alloc b1.size (.cells #[.int .i64 0, .int .i64 0, .int .i64 0, .string ⟨#[]⟩, .int .i64 0, .int .i64 0, .string ⟨#[]⟩, .int .i64 0, .int .i64 0, .string ⟨#[]⟩] 47); have z0 := ((Blk.new w 35 #[.int .i64 k.tick, .int .i64 k.cls, .int .i64 k.num, .string (bs k.lin)]).alloc (.cells #[.int .i64 0, .int .i64 0, .int .i64 0, .string ⟨#[]⟩, .int .i64 0, .int .i64 0, .string ⟨#[]⟩, .int .i64 0, .int .i64 0, .string ⟨#[]⟩] 47)); have z1 := (Blk.newE (w.alloc (.cells #[.int .i64 k.tick, .int .i64 k.cls, .int .i64 k.num, .string (bs k.lin)] 35)) 47 #[.int .i64 0, .int .i64 0, .int .i64 0, .string ⟨#[]⟩, .int .i64 0, .int .i64 0, .string ⟨#[]⟩, .int .i64 0, .int .i64 0, .string ⟨#[]⟩] (w.heap.size + 1) (by simp)); have HB0 := Lib.hid b2; have Z0 := Lib.hid z0; have Z1 := Lib.hid z1; have HA := Lib.hid (fun (W : World) (hW : Below w.heap.size w W) => ha.next hW); have HB := Lib.hid (fun (W : World) (hW : Below w.heap.size w W) => hb.next hW); have HFA := Lib.hid (fun (W : World) (hW : Below ((w.alloc (.cells #[.int .i64 k.tick, .int .i64 k.cls, .int .i64 k.num, .string (bs k.lin)] 35)).alloc (.cells #[.int .i64 0, .int .i64 0, .int .i64 0, .string ⟨#[]⟩, .int .i64 0, .int .i64 0, .string ⟨#[]⟩, .int .i64 0, .int .i64 0, .string ⟨#[]⟩] 47)).heap.size ((w.alloc (.cells #[.int .i64 k.tick, .int .i64 k.cls, .int .i64 k.num, .string (bs k.lin)] 35)).alloc (.cells #[.int .i64 0, .int .i64 0, .int .i64 0, .string ⟨#[]⟩, .int .i64 0, .int .i64 0, .string ⟨#[]⟩, .int .i64 0, .int .i64 0, .string ⟨#[]⟩] 47)) W) => find_is k ((ha.next b2).next hW) (Nat.le_trans oa.len (by decide)))
  have HFB := Lib.hid (fun (W : World) (hW : Below ((w.alloc (.cells #[.int .i64 k.tick, .int .i64 k.cls, .int .i64 k.num, .string (bs k.lin)] 35)).alloc (.cells #[.int .i64 0, .int .i64 0, .int .i64 0, .string ⟨#[]⟩, .int .i64 0, .int .i64 0, .string ⟨#[]⟩, .int .i64 0, .int .i64 0, .string ⟨#[]⟩] 47)).heap.size ((w.alloc (.cells #[.int .i64 k.tick, .int .i64 k.cls, .int .i64 k.num, .string (bs k.lin)] 35)).alloc (.cells #[.int .i64 0, .int .i64 0, .int .i64 0, .string ⟨#[]⟩, .int .i64 0, .int .i64 0, .string ⟨#[]⟩, .int .i64 0, .int .i64 0, .string ⟨#[]⟩] 47)) W) => find_is k ((hb.next b2).next hW) (Nat.le_trans ob.len (by decide))); have OA := Lib.hid oa; have OB := Lib.hid ob; rw [hfa] at HFA; rw [hfb] at HFB; have e1 : decide ((p : Int) < 0) = false := decide_eq_false (by omega); have e2 : decide (0 ≤ (p : Int)) = true := decide_eq_true (by omega); have e3 : decide ((q : Int) < 0) = false := decide_eq_false (by omega); have e4 : decide (0 ≤ (q : Int)) = true := decide_eq_true (by omega)
  have i1 : (0 : Int) ≤ (p : Int) := by omega
  have i2 : (0 : Int) ≤ (q : Int) := by omega
  have i3 : (p : Int) < (a.length : Int) := by omega
  have i4 : (q : Int) < (b.length : Int) := by omega
  have hXb := HXL.out; have hYb := HYL.out; clear hfa hfb hpl hql hxb hyb
  unfold kyV at HFA HFB
  unfold rsV kyV
  clear ha hb b0 b1 b2 z0 z1 oa ob
  go_enter Tryz.func10, Tryz.ntmps10
  go_upto_region 1 with (fail)
  generalize ((w.alloc (.cells #[.int .i64 k.tick, .int .i64 k.cls, .int .i64 k.num, .string (bs k.lin)] 35)).alloc (.cells #[.int .i64 0, .int .i64 0, .int .i64 0, .string ⟨#[]⟩, .int .i64 0, .int .i64 0, .string ⟨#[]⟩, .int .i64 0, .int .i64 0, .string ⟨#[]⟩] 47)) = w2 at *; obtain ⟨rb, hrb⟩ : ∃ rb, w.heap.size + 1 = rb := ⟨_, rfl⟩; obtain ⟨kb, hkb⟩ : ∃ kb, w.heap.size = kb := ⟨_, rfl⟩; have HKR := Lib.hid (show kb ≠ rb by omega); have HRL := Lib.hid (show w.heap.size ≤ rb by omega); have HWK := Lib.hid hkb; rw [hrb] at Z1 ⊢; rw [hkb] at Z0 ⊢; clear hrb hkb; have HSS := Lib.hid (fun (W : World) (hW : Below w2.heap.size w2 W) => show W.cell? ⟨kb, 0, none⟩ = some (.int .i64 k.tick) ∧ W.cell? ⟨kb, 1, none⟩ = some (.int .i64 k.cls) ∧ W.cell? ⟨kb, 2, none⟩ = some (.int .i64 k.num) ∧ W.cell? ⟨kb, 3, none⟩ = some (.string (bs k.lin)) from ⟨(Z0.out.next hW Z0.out.lt).cell 0, (Z0.out.next hW Z0.out.lt).cell 1, (Z0.out.next hW Z0.out.lt).cell 2, (Z0.out.next hW Z0.out.lt).cell 3⟩)
  refine wp_region_noPanic ?_
  refine wp_region_held_drew (S := (fun (w' : World) => w'.cell? ⟨kb, 0, none⟩ = some (.int .i64 k.tick) ∧ w'.cell? ⟨kb, 1, none⟩ = some (.int .i64 k.cls) ∧ w'.cell? ⟨kb, 2, none⟩ = some (.int .i64 k.num) ∧ w'.cell? ⟨kb, 3, none⟩ = some (.string (bs k.lin)))) (by kernel_rfl) ?_ (fun hHeld => ?_)
  · exact HSS.out w2 (Below.refl _ _)
  refine tk (v := ?_) 0 rfl (by kernel_rfl) (fun _ _ _ h => h) ?_ hHeld ?_; rotate_left
  · (intro w h; (try dsimp only at h); go_simp; try with_reducible rfl)
  try simp only [Act.put, pB, pC, pD]
  refine tk (v := ?_) 1 rfl (by kernel_rfl) (fun _ _ _ h => h) ?_ hHeld ?_; rotate_left
  · (intro w h; (try dsimp only at h); go_simp; try with_reducible rfl)
  try simp only [Act.put, pB, pC, pD]
  refine tk (v := ?_) 3 rfl (by kernel_rfl) (fun _ _ _ h => h) ?_ hHeld ?_; rotate_left
  · (intro w h; (try dsimp only at h); go_simp; try with_reducible rfl)
  try simp only [Act.put, pB, pC, pD]
  refine tk (v := ?_) 4 rfl (by kernel_rfl) (fun _ _ _ h => h) ?_ hHeld ?_; rotate_left
  · (intro w h; (try dsimp only at h); go_simp; try with_reducible rfl)
  try simp only [Act.put, pB, pC, pD]
  refine wpAnyH_ready (rs := [2]) (by kernel_rfl) (by simp) ?_; refine AllReadyH.cons rfl (fun K hK => ?_) AllReadyH.nil; go_simp; refine (HFA.out _ ((Below.refl w2.heap.size w2).drew)).mono ?_; rintro e w3 ⟨rfl, hb'⟩; have B3 := Lib.hid (((Below.refl w2.heap.size w2).drew).trans (hb'.mono ((Below.refl w2.heap.size w2).drew).size)); have h3 := HSS.out w3 B3.out; clear hb'
  try (go_wp2_with fail)
  refine hK.out _ _ ?_ (fun hNew => ?_)
  · exact h3
  clear hK K hHeld; have hHeld := hNew; clear hNew; try simp only [Act.put, pB, pC, pD]
  refine wpAnyH_ready (rs := [5]) (by kernel_rfl) (by simp) ?_; refine AllReadyH.cons rfl (fun K hK => ?_) AllReadyH.nil; go_simp; refine (HFB.out _ (B3.out)).mono ?_; rintro e w4 ⟨rfl, hb'⟩; have B4 := Lib.hid ((B3.out).trans (hb'.mono (B3.out).size)); have h4 := HSS.out w4 B4.out; clear hb'
  try (go_wp2_with fail)
  refine hK.out _ _ ?_ (fun hNew => ?_)
  · exact h4
  clear hK K hHeld; have hHeld := hNew; clear hNew; try simp only [Act.put, pB, pC, pD]
  refine tk (v := ?_) 6 rfl (by kernel_rfl) (fun _ _ _ h => h) ?_ hHeld ?_; rotate_left
  · (intro w h; (try dsimp only at h); go_simp; try with_reducible rfl)
  try simp only [Act.put, pB, pC, pD]
  refine tk (v := ?_) 7 rfl (by kernel_rfl) (fun _ _ _ h => h) ?_ hHeld ?_; rotate_left
  · (intro w h; (try dsimp only at h); go_simp; try with_reducible rfl)
  try simp only [Act.put, pB, pC, pD]
  refine wpAnyH_done (by kernel_rfl) ?_ _; clear hHeld
  try simp only [List.getElem_toArray, List.getElem_cons_zero, List.getElem_cons_succ, Act.put, pB, pC, pD]
  refine NoPanic.normal ?_
  replace Z0 := Lib.hid (Z0.out.next B4.out Z0.out.lt); replace Z1 := Lib.hid (Z1.out.next B4.out Z1.out.lt); replace B4 := Lib.hid (HB0.out.trans (B4.out.mono HB0.out.size)); obtain ⟨kk0, kk1, kk2, kk3⟩ := h4; clear h3 B3 HSS HFA HFB HB0; have q0 := Z1.out.cell 0; have q1 := Z1.out.cell 1; have q2 := Z1.out.cell 2; have q3 := Z1.out.cell 3; have q4 := Z1.out.cell 4; have q5 := Z1.out.cell 5; have q6 := Z1.out.cell 6; have q7 := Z1.out.cell 7; have q8 := Z1.out.cell 8; have q9 := Z1.out.cell 9; simp only [qB, qC, qD] at q0 q1 q2 q3 q4 q5 q6 q7 q8 q9; have f0 := Z1.out.frozen 0; have f1 := Z1.out.frozen 1; have f2 := Z1.out.frozen 2; have f3 := Z1.out.frozen 3; have f4 := Z1.out.frozen 4; have f5 := Z1.out.frozen 5; have f6 := Z1.out.frozen 6; have f7 := Z1.out.frozen 7; have f8 := Z1.out.frozen 8; have f9 := Z1.out.frozen 9; have ZA := Lib.hid (setKz_ (.int .i64 k.tick) (.int .i64 k.cls) (.int .i64 k.num) (.string (bs k.lin)) Z1.out); have B5 := Lib.hid (lowKz_ (.int .i64 k.tick) (.int .i64 k.cls) (.int .i64 k.num) (.string (bs k.lin)) B4.out HRL.out)
  go_upto_region 7 with (fail)
  clear q0 q1 q2 q3 q4 q5 q6 q7 q8 q9 f0 f1 f2 f3 f4 f5 f6 f7 f8 f9 kk0 kk1 kk2 kk3 e1 e2 e3 e4; generalize ((((w4.setCell ⟨rb, 0, none⟩ (.int .i64 k.tick)).setCell ⟨rb, 1, none⟩ (.int .i64 k.cls)).setCell ⟨rb, 2, none⟩ (.int .i64 k.num)).setCell ⟨rb, 3, none⟩ (.string (bs k.lin))) = w5 at *
  by_cases hXY : X = Y
  · have hsm : ∀ W, Below w.heap.size w W → _ := HSM.out
    rw [show decide (X = Y) = true from decide_eq_true hXY] at HSM; have HR2 := Lib.hid (show rsnE a b k = (rs0, 8) by rw [HR.out, if_pos hXY]); clear hXY hsm
    refine wp_region_noPanic ?_
    refine wp_region_held_drew (S := (fun (w' : World) => w'.cell? ⟨xb, xo + p * 6 + 4, none⟩ = some (.slice U1 X.length c1_) ∧ w'.cell? ⟨yb, yo + q * 6 + 4, none⟩ = some (.slice U2 Y.length c2_))) (by kernel_rfl) ?_ (fun hHeld => ?_)
    · exact H7.out w5 B5.out
    refine tk (v := ?_) 0 rfl (by kernel_rfl) (fun _ _ _ h => h) ?_ hHeld ?_; rotate_left
    · (intro w h; (try dsimp only at h); go_simp; try with_reducible rfl)
    try simp only [Act.put, pB, pC, pD]
    refine tk (v := ?_) 1 rfl (by kernel_rfl) (fun _ _ _ h => h) ?_ hHeld ?_; rotate_left
    · (intro w h; (try dsimp only at h); go_simp; try with_reducible rfl)
    try simp only [Act.put, pB, pC, pD]
    refine tk (v := ?_) 2 rfl (by kernel_rfl) (fun _ _ _ h => h) ?_ hHeld ?_; rotate_left
    · (intro w h; (try dsimp only at h); go_simp; try with_reducible rfl)
    try simp only [Act.put, pB, pC, pD]
    refine tk (v := ?_) 3 rfl (by kernel_rfl) (fun _ _ _ h => h) ?_ hHeld ?_; rotate_left
    · (intro w h; (try dsimp only at h); go_simp; try with_reducible rfl)
    try simp only [Act.put, pB, pC, pD]
    refine tk (v := ?_) 4 rfl (by kernel_rfl) (fun _ _ _ h => h) ?_ hHeld ?_; rotate_left
    · (intro w h; (try dsimp only at h); go_simp; try with_reducible rfl)
    try simp only [Act.put, pB, pC, pD]
    refine tk (v := ?_) 5 rfl (by kernel_rfl) (fun _ _ _ h => h) ?_ hHeld ?_; rotate_left
    · (intro w h; (try dsimp only at h); go_simp; try with_reducible rfl)
    try simp only [Act.put, pB, pC, pD]
    refine tk (v := ?_) 6 rfl (by kernel_rfl) (fun _ _ _ h => h) ?_ hHeld ?_; rotate_left
    · (intro w h; (try dsimp only at h); go_simp; try with_reducible rfl)
    try simp only [Act.put, pB, pC, pD]
    refine tk (v := ?_) 7 rfl (by kernel_rfl) (fun _ _ _ h => h) ?_ hHeld ?_; rotate_left
    · (intro w h; (try dsimp only at h); go_simp; try with_reducible rfl)
    try simp only [Act.put, pB, pC, pD]
    refine tk (v := ?_) 8 rfl (by kernel_rfl) (fun _ _ _ h => h) ?_ hHeld ?_; rotate_left
    · (intro w h; (try dsimp only at h); go_simp; try with_reducible rfl)
    try simp only [Act.put, pB, pC, pD]
    refine tk (v := ?_) 9 rfl (by kernel_rfl) (fun _ _ _ h => h) ?_ hHeld ?_; rotate_left
    · (intro w h; (try dsimp only at h); go_simp; try with_reducible rfl)
    try simp only [Act.put, pB, pC, pD]
    refine wpAnyH_ready (rs := [10]) (by kernel_rfl) (by simp) ?_; refine AllReadyH.cons rfl (fun K hK => ?_) AllReadyH.nil; go_simp; refine (HSM.out _ (B5.out.trans ((Below.refl w5.heap.size w5).drew.mono B5.out.size))).mono ?_; rintro e w6 ⟨rfl, hb'⟩; have B6 := Lib.hid ((Below.refl w5.heap.size w5).drew.trans hb'); have h6 := H7.out w6 (B5.out.trans (B6.out.mono B5.out.size)); clear hb'
    try (go_wp2_with fail)
    refine hK.out _ _ ?_ (fun hNew => ?_)
    · exact h6
    clear hK K hHeld; have hHeld := hNew; clear hNew; try simp only [Act.put, pB, pC, pD]
    refine wpAnyH_done (by kernel_rfl) ?_ _; clear hHeld
    try simp only [List.getElem_toArray, List.getElem_cons_zero, List.getElem_cons_succ, Act.put, pB, pC, pD]
    refine NoPanic.normal ?_
    have ZB := Lib.hid (ZA.out.next B6.out ZA.out.lt); have BB := Lib.hid (B5.out.trans (B6.out.mono B5.out.size)); clear h6; have q0 := ZB.out.cell 0; have q1 := ZB.out.cell 1; have q2 := ZB.out.cell 2; have q3 := ZB.out.cell 3; have q4 := ZB.out.cell 4; have q5 := ZB.out.cell 5; have q6 := ZB.out.cell 6; have q7 := ZB.out.cell 7; have q8 := ZB.out.cell 8; have q9 := ZB.out.cell 9; simp only [qB, qC, qD] at q0 q1 q2 q3 q4 q5 q6 q7 q8 q9; have f0 := ZB.out.frozen 0; have f1 := ZB.out.frozen 1; have f2 := ZB.out.frozen 2; have f3 := ZB.out.frozen 3; have f4 := ZB.out.frozen 4; have f5 := ZB.out.frozen 5; have f6 := ZB.out.frozen 6; have f7 := ZB.out.frozen 7; have f8 := ZB.out.frozen 8; have f9 := ZB.out.frozen 9; have ZE := Lib.hid (set10z_ (.int .i64 0) (.int .i64 0) (.int .i64 0) (.string ⟨#[]⟩) (.int .i64 0) (.int .i64 0) (.string ⟨#[]⟩) (.int .i64 0) (.int .i64 0) (.string ⟨#[]⟩) ZB.out); have BE := Lib.hid (low10z_ (.int .i64 0) (.int .i64 0) (.int .i64 0) (.string ⟨#[]⟩) (.int .i64 0) (.int .i64 0) (.string ⟨#[]⟩) (.int .i64 0) (.int .i64 0) (.string ⟨#[]⟩) BB.out HRL.out)
    go_wp2_with fail
    clear q0 q1 q2 q3 q4 q5 q6 q7 q8 q9 f0 f1 f2 f3 f4 f5 f6 f7 f8 f9; have d0 := ZE.out.cell 0; have d1 := ZE.out.cell 1; have d2 := ZE.out.cell 2; have d3 := ZE.out.cell 3; have d4 := ZE.out.cell 4; have d5 := ZE.out.cell 5; have d6 := ZE.out.cell 6; have d7 := ZE.out.cell 7; have d8 := ZE.out.cell 8; have d9 := ZE.out.cell 9; simp only [qB, qC, qD] at d0 d1 d2 d3 d4 d5 d6 d7 d8 d9; generalize ((((((((((w6.setCell ⟨rb, 0, none⟩ (.int .i64 0)).setCell ⟨rb, 1, none⟩ (.int .i64 0)).setCell ⟨rb, 2, none⟩ (.int .i64 0)).setCell ⟨rb, 3, none⟩ (.string ⟨#[]⟩)).setCell ⟨rb, 4, none⟩ (.int .i64 0)).setCell ⟨rb, 5, none⟩ (.int .i64 0)).setCell ⟨rb, 6, none⟩ (.string ⟨#[]⟩)).setCell ⟨rb, 7, none⟩ (.int .i64 0)).setCell ⟨rb, 8, none⟩ (.int .i64 0)).setCell ⟨rb, 9, none⟩ (.string ⟨#[]⟩)) = W9 at *
    exact bodyPost_ret (v := .tuple #[.agg #[.int .i64 0, .int .i64 0, .int .i64 0, .string ⟨#[]⟩, .int .i64 0, .int .i64 0, .string ⟨#[]⟩, .int .i64 0, .int .i64 0, .string ⟨#[]⟩], .bool false, .bool false]) (by simp [results, Tryz.results10, go_sem, d0, d1, d2, d3, d4, d5, d6, d7, d8, d9]) rfl ⟨by rw [HR2.out]; rfl, BE.out⟩
  · rw [show decide (X = Y) = false from decide_eq_false hXY] at HSM
    have HR2 := Lib.hid (show rsnE a b k = ((match chgN X Y with | some n => (⟨k, 1, n⟩, 0) | none => (rs0, 10)) : Rs × Int) by rw [HR.out, if_neg hXY]); clear hXY
    refine wp_region_noPanic ?_
    refine wp_region_held_drew (S := (fun (w' : World) => w'.cell? ⟨xb, xo + p * 6 + 4, none⟩ = some (.slice U1 X.length c1_) ∧ w'.cell? ⟨yb, yo + q * 6 + 4, none⟩ = some (.slice U2 Y.length c2_))) (by kernel_rfl) ?_ (fun hHeld => ?_)
    · exact H7.out w5 B5.out
    refine tk (v := ?_) 0 rfl (by kernel_rfl) (fun _ _ _ h => h) ?_ hHeld ?_; rotate_left
    · (intro w h; (try dsimp only at h); go_simp; try with_reducible rfl)
    try simp only [Act.put, pB, pC, pD]
    refine tk (v := ?_) 1 rfl (by kernel_rfl) (fun _ _ _ h => h) ?_ hHeld ?_; rotate_left
    · (intro w h; (try dsimp only at h); go_simp; try with_reducible rfl)
    try simp only [Act.put, pB, pC, pD]
    refine tk (v := ?_) 2 rfl (by kernel_rfl) (fun _ _ _ h => h) ?_ hHeld ?_; rotate_left
    · (intro w h; (try dsimp only at h); go_simp; try with_reducible rfl)
    try simp only [Act.put, pB, pC, pD]
    refine tk (v := ?_) 3 rfl (by kernel_rfl) (fun _ _ _ h => h) ?_ hHeld ?_; rotate_left
    · (intro w h; (try dsimp only at h); go_simp; try with_reducible rfl)
    try simp only [Act.put, pB, pC, pD]
    refine tk (v := ?_) 4 rfl (by kernel_rfl) (fun _ _ _ h => h) ?_ hHeld ?_; rotate_left
    · (intro w h; (try dsimp only at h); go_simp; try with_reducible rfl)
    try simp only [Act.put, pB, pC, pD]
    refine tk (v := ?_) 5 rfl (by kernel_rfl) (fun _ _ _ h => h) ?_ hHeld ?_; rotate_left
    · (intro w h; (try dsimp only at h); go_simp; try with_reducible rfl)
    try simp only [Act.put, pB, pC, pD]
    refine tk (v := ?_) 6 rfl (by kernel_rfl) (fun _ _ _ h => h) ?_ hHeld ?_; rotate_left
    · (intro w h; (try dsimp only at h); go_simp; try with_reducible rfl)
    try simp only [Act.put, pB, pC, pD]
    refine tk (v := ?_) 7 rfl (by kernel_rfl) (fun _ _ _ h => h) ?_ hHeld ?_; rotate_left
    · (intro w h; (try dsimp only at h); go_simp; try with_reducible rfl)
    try simp only [Act.put, pB, pC, pD]
    refine tk (v := ?_) 8 rfl (by kernel_rfl) (fun _ _ _ h => h) ?_ hHeld ?_; rotate_left
    · (intro w h; (try dsimp only at h); go_simp; try with_reducible rfl)
    try simp only [Act.put, pB, pC, pD]
    refine tk (v := ?_) 9 rfl (by kernel_rfl) (fun _ _ _ h => h) ?_ hHeld ?_; rotate_left
    · (intro w h; (try dsimp only at h); go_simp; try with_reducible rfl)
    try simp only [Act.put, pB, pC, pD]
    refine wpAnyH_ready (rs := [10]) (by kernel_rfl) (by simp) ?_; refine AllReadyH.cons rfl (fun K hK => ?_) AllReadyH.nil; go_simp; refine (HSM.out _ (B5.out.trans ((Below.refl w5.heap.size w5).drew.mono B5.out.size))).mono ?_; rintro e w6 ⟨rfl, hb'⟩; have B6 := Lib.hid ((Below.refl w5.heap.size w5).drew.trans hb'); have h6 := H7.out w6 (B5.out.trans (B6.out.mono B5.out.size)); clear hb'
    try (go_wp2_with fail)
    refine hK.out _ _ ?_ (fun hNew => ?_)
    · exact h6
    clear hK K hHeld; have hHeld := hNew; clear hNew; try simp only [Act.put, pB, pC, pD]
    refine wpAnyH_done (by kernel_rfl) ?_ _; clear hHeld
    try simp only [List.getElem_toArray, List.getElem_cons_zero, List.getElem_cons_succ, Act.put, pB, pC, pD]
    refine NoPanic.normal ?_
    have ZB := Lib.hid (ZA.out.next B6.out ZA.out.lt); have BB := Lib.hid (B5.out.trans (B6.out.mono B5.out.size)); have ZC := Lib.hid (setDz_ (.int .i64 1) ZB.out); have BC := Lib.hid (lowDz_ (.int .i64 1) BB.out HRL.out); clear h6; have q0 := ZB.out.cell 0; have q1 := ZB.out.cell 1; have q2 := ZB.out.cell 2; have q3 := ZB.out.cell 3; have q4 := ZB.out.cell 4; have q5 := ZB.out.cell 5; have q6 := ZB.out.cell 6; have q7 := ZB.out.cell 7; have q8 := ZB.out.cell 8; have q9 := ZB.out.cell 9; simp only [qB, qC, qD] at q0 q1 q2 q3 q4 q5 q6 q7 q8 q9; have f0 := ZB.out.frozen 0; have f1 := ZB.out.frozen 1; have f2 := ZB.out.frozen 2; have f3 := ZB.out.frozen 3; have f4 := ZB.out.frozen 4; have f5 := ZB.out.frozen 5; have f6 := ZB.out.frozen 6; have f7 := ZB.out.frozen 7; have f8 := ZB.out.frozen 8; have f9 := ZB.out.frozen 9
    go_upto_region 11 with (fail)
    clear q0 q1 q2 q3 q4 q5 q6 q7 q8 q9 f0 f1 f2 f3 f4 f5 f6 f7 f8 f9; generalize (w6.setCell ⟨rb, 4, none⟩ (.int .i64 1)) = w7 at *; have HB7 := Lib.hid (fun (W : World) (hW : Below w7.heap.size w7 W) => show Below w.heap.size w W from BC.out.trans (hW.mono BC.out.size)); have H0 : Hid (rxRel X Y w7 (.int .i64 (0 : Nat)) w7) := Lib.hid ⟨0, Nat.zero_le _, rfl, fun q _ h => absurd h (Nat.not_lt_zero _), Below.refl _ _⟩
    go_wp2_with fail
    go_loopw [11] (fun i wr => rxRel X Y w7 i wr) (fun i _ => X.length - (intOf i).toNat)
    case atStart => exact H0.out
    case round =>
      clear H0; obtain ⟨x, hx, rfl, hno, hB⟩ := hrel; have HNO := Lib.hid hno; have HBX := Lib.hid hB; clear hno hB; obtain ⟨t0, -⟩ := H7.out wr (HB7.out wr HBX.out)
      by_cases hxl : x < X.length
      · have j1 : decide ((x : Int) < (X.length : Int)) = true := decide_eq_true (by omega)
        have j2 : (0 : Int) ≤ (x : Int) := by omega
        have j3 : (x : Int) < (X.length : Int) := by omega
        obtain ⟨c, hc⟩ : ∃ c, X[x] = c := ⟨_, rfl⟩; have HC := Lib.hid hc; have HXX := Lib.hid hxl; have H1 : Hid (ryRel Y c w7 (.int .i64 (0 : Nat)) wr) := Lib.hid ⟨0, Nat.zero_le _, rfl, fun q _ h => absurd h (Nat.not_lt_zero _), HBX.out⟩; clear hc hx
        go_upto_region 13 with (fail)
        clear t0 j1
        go_wp2_with fail
        go_loopw [12] (fun i wr => ryRel Y c w7 i wr) (fun i _ => Y.length - (intOf i).toNat)
        case atStart => exact H1.out
        case round =>
          clear H1; obtain ⟨y, hy, rfl, hno, hB⟩ := hrel; have HNY := Lib.hid hno; have HBY := Lib.hid hB; clear hno hB; obtain ⟨t0, t1⟩ := H7.out wr (HB7.out wr HBY.out)
          by_cases hyl : y < Y.length
          · have k1 : decide ((y : Int) < (Y.length : Int)) = true := decide_eq_true (by omega)
            have k2 : (0 : Int) ≤ (y : Int) := by omega
            have k3 : (y : Int) < (Y.length : Int) := by omega
            obtain ⟨cb, co, hbe, hcb, v0, v1, v2, v3, v4, v5, v6⟩ := RdCh.piece (HRX.out wr (HB7.out wr HBY.out)) HXX.out; subst hbe; obtain ⟨db, do_, hbe, hdb, z0, z1, z2, z3, z4, z5, z6⟩ := RdCh.piece (HRY.out wr (HB7.out wr HBY.out)) hyl; subst hbe; obtain ⟨d, hd⟩ : ∃ d, Y[y] = d := ⟨_, rfl⟩; have HD := Lib.hid hd; have HYY := Lib.hid hyl; rw [HC.out] at v0 v1 v2 v3 v4 v5 v6; rw [hd] at z0 z1 z2 z3 z4 z5 z6; clear hd hcb hdb hy
            by_cases hn : c.name = d.name
            · have he := fun W => eqlNm c.name d.name true (by simp [hn]) W
              unfold nmV nmA at he
              by_cases hcd : c = d
              · have hg := fun W => neqCh c d true (by simp [hcd]) W
                unfold chV at hg
                have HN2 := Lib.hid (show ∀ r (hr : r < Y.length), r < y + 1 → c.name = Y[r].name → c = Y[r] from fun r hr hry => by
                  rcases Nat.lt_succ_iff_lt_or_eq.1 hry with h | rfl
                  · exact HNY.out r hr h
                  · intro _; rw [HD.out]; exact hcd)
                clear hn hcd
                go_upto_region 16 with (fail)
                go_wp2_with fail
                go_quiet (fail)
                have hdr := below_drewN (Below.refl wr.heap.size wr) nq; have BW := Lib.hid (HBY.out.trans (hdr.mono HBY.out.size)); clear hdr he hg z0 z1 z2 z3 z4 z5 z6 v0 v1 v2 v3 v4 v5 v6 t0 t1; generalize World.drewN wr nq = w8 at *
                go_wp2_with fail
                go_roundw
                case rel => exact ⟨y + 1, HYY.out, by go_num, HN2.out, BW.out⟩
                case measure => have := HYY.out; simp [intOf]; omega
              · have hg := fun W => neqCh c d false (by simp [hcd]) W
                unfold chV at hg
                have HCH := Lib.hid (chgN_hit HX.out HY.out HXX.out HYY.out HNO.out (by rw [HC.out, HD.out]; exact hn) (by rw [HC.out, HD.out]; exact hcd)); have HR3 := Lib.hid (show rsnE a b k = (⟨k, 1, c.name⟩, 0) by rw [HR2.out, HCH.out, HC.out]); clear hn hcd
                go_upto_region 16 with (fail)
                go_wp2_with fail
                go_quiet (fail)
                have hdr := below_drewN (Below.refl wr.heap.size wr) nq; have BW := Lib.hid (HBY.out.trans (hdr.mono HBY.out.size)); have ZD := Lib.hid (ZC.out.next BW.out ZC.out.lt); have BD := Lib.hid (HB7.out _ BW.out); clear hdr he hg z0 z1 z2 z3 z4 z5 z6 t1; have t0' : (World.drewN wr nq).cell? ⟨xb, xo + p * 6 + 4, none⟩ = some (.slice (some ⟨cb, co, none⟩) X.length c1_) := t0; have v0' : (World.drewN wr nq).cell? ⟨cb, co + x * 7, none⟩ = some (.int .i64 c.name.kind) := v0; have v1' : (World.drewN wr nq).cell? ⟨cb, co + x * 7 + 1, none⟩ = some (.string (bs c.name.owner)) := v1; have v2' : (World.drewN wr nq).cell? ⟨cb, co + x * 7 + 2, none⟩ = some (.int .i64 c.name.num) := v2; have v3' : (World.drewN wr nq).cell? ⟨cb, co + x * 7 + 3, none⟩ = some (.int .i64 c.name.idx) := v3; have v4' : (World.drewN wr nq).cell? ⟨cb, co + x * 7 + 4, none⟩ = some (.string (bs c.name.text)) := v4; clear t0 v0 v1 v2 v3 v4 v5 v6; generalize World.drewN wr nq = w8 at *; obtain ⟨n, hn⟩ : ∃ n, c.name = n := ⟨_, rfl⟩; rw [hn] at HR3 v0' v1' v2' v3' v4'; have ZN := Lib.hid (setNz_ (.int .i64 n.kind) (.string (bs n.owner)) (.int .i64 n.num) (.int .i64 n.idx) (.string (bs n.text)) ZD.out); have BN := Lib.hid (lowNz_ (.int .i64 n.kind) (.string (bs n.owner)) (.int .i64 n.num) (.int .i64 n.idx) (.string (bs n.text)) BD.out HRL.out); have q0 := ZD.out.cell 0; have q1 := ZD.out.cell 1; have q2 := ZD.out.cell 2; have q3 := ZD.out.cell 3; have q4 := ZD.out.cell 4; have q5 := ZD.out.cell 5; have q6 := ZD.out.cell 6; have q7 := ZD.out.cell 7; have q8 := ZD.out.cell 8; have q9 := ZD.out.cell 9; simp only [qB, qC, qD] at q0 q1 q2 q3 q4 q5 q6 q7 q8 q9; have f0 := ZD.out.frozen 0; have f1 := ZD.out.frozen 1; have f2 := ZD.out.frozen 2; have f3 := ZD.out.frozen 3; have f4 := ZD.out.frozen 4; have f5 := ZD.out.frozen 5; have f6 := ZD.out.frozen 6; have f7 := ZD.out.frozen 7; have f8 := ZD.out.frozen 8; have f9 := ZD.out.frozen 9
                go_upto_region 18 with (fail)
                clear q0 q1 q2 q3 q4 q5 q6 q7 q8 q9 f0 f1 f2 f3 f4 f5 f6 f7 f8 f9 t0' v0' v1' v2' v3' v4'; generalize (((((w8.setCell ⟨rb, 5, none⟩ (.int .i64 n.kind)).setCell ⟨rb, 6, none⟩ (.string (bs n.owner))).setCell ⟨rb, 7, none⟩ (.int .i64 n.num)).setCell ⟨rb, 8, none⟩ (.int .i64 n.idx)).setCell ⟨rb, 9, none⟩ (.string (bs n.text))) = w9 at *; have q0 := ZN.out.cell 0; have q1 := ZN.out.cell 1; have q2 := ZN.out.cell 2; have q3 := ZN.out.cell 3; have q4 := ZN.out.cell 4; have q5 := ZN.out.cell 5; have q6 := ZN.out.cell 6; have q7 := ZN.out.cell 7; have q8 := ZN.out.cell 8; have q9 := ZN.out.cell 9; simp only [qB, qC, qD] at q0 q1 q2 q3 q4 q5 q6 q7 q8 q9; have f0 := ZN.out.frozen 0; have f1 := ZN.out.frozen 1; have f2 := ZN.out.frozen 2; have f3 := ZN.out.frozen 3; have f4 := ZN.out.frozen 4; have f5 := ZN.out.frozen 5; have f6 := ZN.out.frozen 6; have f7 := ZN.out.frozen 7; have f8 := ZN.out.frozen 8; have f9 := ZN.out.frozen 9; have ZE := Lib.hid (set10z_ (.int .i64 k.tick) (.int .i64 k.cls) (.int .i64 k.num) (.string (bs k.lin)) (.int .i64 1) (.int .i64 n.kind) (.string (bs n.owner)) (.int .i64 n.num) (.int .i64 n.idx) (.string (bs n.text)) ZN.out); have BE := Lib.hid (low10z_ (.int .i64 k.tick) (.int .i64 k.cls) (.int .i64 k.num) (.string (bs k.lin)) (.int .i64 1) (.int .i64 n.kind) (.string (bs n.owner)) (.int .i64 n.num) (.int .i64 n.idx) (.string (bs n.text)) BN.out HRL.out)
                go_wp2_with fail
                clear q0 q1 q2 q3 q4 q5 q6 q7 q8 q9 f0 f1 f2 f3 f4 f5 f6 f7 f8 f9; have d0 := ZE.out.cell 0; have d1 := ZE.out.cell 1; have d2 := ZE.out.cell 2; have d3 := ZE.out.cell 3; have d4 := ZE.out.cell 4; have d5 := ZE.out.cell 5; have d6 := ZE.out.cell 6; have d7 := ZE.out.cell 7; have d8 := ZE.out.cell 8; have d9 := ZE.out.cell 9; simp only [qB, qC, qD] at d0 d1 d2 d3 d4 d5 d6 d7 d8 d9; generalize ((((((((((w9.setCell ⟨rb, 0, none⟩ (.int .i64 k.tick)).setCell ⟨rb, 1, none⟩ (.int .i64 k.cls)).setCell ⟨rb, 2, none⟩ (.int .i64 k.num)).setCell ⟨rb, 3, none⟩ (.string (bs k.lin))).setCell ⟨rb, 4, none⟩ (.int .i64 1)).setCell ⟨rb, 5, none⟩ (.int .i64 n.kind)).setCell ⟨rb, 6, none⟩ (.string (bs n.owner))).setCell ⟨rb, 7, none⟩ (.int .i64 n.num)).setCell ⟨rb, 8, none⟩ (.int .i64 n.idx)).setCell ⟨rb, 9, none⟩ (.string (bs n.text))) = W10 at *
                exact bodyPost_ret (v := .tuple #[.agg #[.int .i64 k.tick, .int .i64 k.cls, .int .i64 k.num, .string (bs k.lin), .int .i64 1, .int .i64 n.kind, .string (bs n.owner), .int .i64 n.num, .int .i64 n.idx, .string (bs n.text)], .bool true, .bool false]) (by simp [results, Tryz.results10, go_sem, d0, d1, d2, d3, d4, d5, d6, d7, d8, d9]) rfl ⟨by rw [HR3.out]; rfl, BE.out⟩
            · have he := fun W => eqlNm c.name d.name false (by simp [hn]) W
              unfold nmV nmA at he
              have HN2 := Lib.hid (show ∀ r (hr : r < Y.length), r < y + 1 → c.name = Y[r].name → c = Y[r] from fun r hr hry => by
                rcases Nat.lt_succ_iff_lt_or_eq.1 hry with h | rfl
                · exact HNY.out r hr h
                · intro hq; rw [HD.out] at hq; exact absurd hq hn)
              clear hn
              go_upto_region 16 with (fail)
              go_wp2_with fail
              go_quiet (fail)
              have hdr := below_drewN (Below.refl wr.heap.size wr) nq; have BW := Lib.hid (HBY.out.trans (hdr.mono HBY.out.size)); clear hdr he z0 z1 z2 z3 z4 z5 z6 v0 v1 v2 v3 v4 v5 v6 t0 t1; generalize World.drewN wr nq = w8 at *
              go_wp2_with fail
              go_roundw
              case rel => exact ⟨y + 1, HYY.out, by go_num, HN2.out, BW.out⟩
              case measure => have := HYY.out; simp [intOf]; omega
          · have k1 : decide ((y : Int) < (Y.length : Int)) = false := decide_eq_false (by omega)
            have HN2 := Lib.hid (show ∀ q (hq : q < X.length), q < x + 1 → ∀ r (hr : r < Y.length), X[q].name = Y[r].name → X[q] = Y[r] from fun q hq hqx r hr => by
              rcases Nat.lt_succ_iff_lt_or_eq.1 hqx with h | rfl
              · exact HNO.out q hq h r hr
              · rw [HC.out]; exact HNY.out r hr (by omega))
            go_wp2_with fail
            exact ⟨⟨x + 1, HXX.out, by go_num, HN2.out, HBY.out⟩, by have := HXX.out; simp [intOf]; omega⟩
      · have j1 : decide ((x : Int) < (X.length : Int)) = false := decide_eq_false (by omega)
        have HR3 := Lib.hid (show rsnE a b k = (rs0, 10) by rw [HR2.out, chgN_miss HX.out HY.out fun q hq r hr => HNO.out q hq (by omega) r hr]); have ZD := Lib.hid (ZC.out.next HBX.out ZC.out.lt); have BD := Lib.hid (HB7.out _ HBX.out); clear hx; have q0 := ZD.out.cell 0; have q1 := ZD.out.cell 1; have q2 := ZD.out.cell 2; have q3 := ZD.out.cell 3; have q4 := ZD.out.cell 4; have q5 := ZD.out.cell 5; have q6 := ZD.out.cell 6; have q7 := ZD.out.cell 7; have q8 := ZD.out.cell 8; have q9 := ZD.out.cell 9; simp only [qB, qC, qD] at q0 q1 q2 q3 q4 q5 q6 q7 q8 q9; have f0 := ZD.out.frozen 0; have f1 := ZD.out.frozen 1; have f2 := ZD.out.frozen 2; have f3 := ZD.out.frozen 3; have f4 := ZD.out.frozen 4; have f5 := ZD.out.frozen 5; have f6 := ZD.out.frozen 6; have f7 := ZD.out.frozen 7; have f8 := ZD.out.frozen 8; have f9 := ZD.out.frozen 9; have ZE := Lib.hid (set10z_ (.int .i64 0) (.int .i64 0) (.int .i64 0) (.string ⟨#[]⟩) (.int .i64 0) (.int .i64 0) (.string ⟨#[]⟩) (.int .i64 0) (.int .i64 0) (.string ⟨#[]⟩) ZD.out); have BE := Lib.hid (low10z_ (.int .i64 0) (.int .i64 0) (.int .i64 0) (.string ⟨#[]⟩) (.int .i64 0) (.int .i64 0) (.string ⟨#[]⟩) (.int .i64 0) (.int .i64 0) (.string ⟨#[]⟩) BD.out HRL.out)
        go_wp2_with fail
        clear q0 q1 q2 q3 q4 q5 q6 q7 q8 q9 f0 f1 f2 f3 f4 f5 f6 f7 f8 f9; have d0 := ZE.out.cell 0; have d1 := ZE.out.cell 1; have d2 := ZE.out.cell 2; have d3 := ZE.out.cell 3; have d4 := ZE.out.cell 4; have d5 := ZE.out.cell 5; have d6 := ZE.out.cell 6; have d7 := ZE.out.cell 7; have d8 := ZE.out.cell 8; have d9 := ZE.out.cell 9; simp only [qB, qC, qD] at d0 d1 d2 d3 d4 d5 d6 d7 d8 d9; generalize ((((((((((wr.setCell ⟨rb, 0, none⟩ (.int .i64 0)).setCell ⟨rb, 1, none⟩ (.int .i64 0)).setCell ⟨rb, 2, none⟩ (.int .i64 0)).setCell ⟨rb, 3, none⟩ (.string ⟨#[]⟩)).setCell ⟨rb, 4, none⟩ (.int .i64 0)).setCell ⟨rb, 5, none⟩ (.int .i64 0)).setCell ⟨rb, 6, none⟩ (.string ⟨#[]⟩)).setCell ⟨rb, 7, none⟩ (.int .i64 0)).setCell ⟨rb, 8, none⟩ (.int .i64 0)).setCell ⟨rb, 9, none⟩ (.string ⟨#[]⟩)) = W9 at *
        exact bodyPost_ret (v := .tuple #[.agg #[.int .i64 0, .int .i64 0, .int .i64 0, .string ⟨#[]⟩, .int .i64 0, .int .i64 0, .string ⟨#[]⟩, .int .i64 0, .int .i64 0, .string ⟨#[]⟩], .bool false, .bool true]) (by simp [results, Tryz.results10, go_sem, d0, d1, d2, d3, d4, d5, d6, d7, d8, d9]) rfl ⟨by rw [HR3.out]; rfl, BE.out⟩
theorem lreason_is {w : World} {v1 v2 : Value} {a b : List Ac} {k : Ky} (ha : RdAc w v1 a) (hb : RdAc w v2 b) (oa : RunOk a) (ob : RunOk b) (hk : k.lin ∈ lin5) : Calls Tryz.prog 10 #[v1, v2, kyV k] w fun e w' => e = .returned (.tuple #[rsV (rsnE a b k).1, .bool (decide ((rsnE a b k).2 = 0)), .bool (decide ((rsnE a b k).2 = 10))]) ∧ Below w.heap.size w w' := by
  cases h1 : hasK a k <;> cases h2 : hasK b k
  · have : rsnE a b k = (rs0, 8) := by simp [rsnE, h1, h2]
    rw [this]
    exact lreason_no ha hb oa ob h1 h2
  · have : rsnE a b k = (alo a b k 2, 0) := by simp [rsnE, h1, h2]
    rw [this]
    exact lreason_one ha hb oa ob hk (.inr ⟨h1, h2, rfl⟩)
  · have : rsnE a b k = (alo a b k 3, 0) := by simp [rsnE, h1, h2]
    rw [this]
    exact lreason_one ha hb oa ob hk (.inl ⟨h1, h2, rfl⟩)
  · exact lreason_two ha hb oa ob h1 h2
theorem rsnE_err (a b : List Ac) (k : Ky) : (rsnE a b k).2 = 0 ∨ (rsnE a b k).2 = 8 ∨ (rsnE a b k).2 = 10 := by
  rcases rsnE_cases a b k with ⟨_, _, e⟩ | ⟨_, _, e⟩ | ⟨_, _, e⟩ | ⟨_, _, _, e⟩ | ⟨_, _, _, _, e⟩ | ⟨_, _, _, n, _, e⟩ <;> rw [e]
  · exact .inr (.inl rfl)
  · exact .inl rfl
  · exact .inl rfl
  · exact .inr (.inl rfl)
  · exact .inr (.inr rfl)
  · exact .inl rfl
theorem org_lst (a b : List Ac) (n : Nm) (k : Ky) : orgK a b n k = if 0 ≤ lwr a n k then (if 0 ≤ lwr b n k ∧ 0 < cmpK (lstK b n k) (lstK a n k) then some (lstK b n k) else some (lstK a n k)) else if 0 ≤ lwr b n k then some (lstK b n k) else none := by
  unfold orgK lstK
  by_cases h1 : 0 ≤ lwr a n k <;> by_cases h2 : 0 ≤ lwr b n k <;> simp [h1, h2]
theorem lstK_r {l : List Ac} (ol : RunOk l) {n : Nm} {k : Ky} (h : 0 ≤ lwr l n k) : (lstK l n k).lin ∈ lin5 := by
  obtain ⟨i, hi, _, h2, _, _⟩ := lwr_spec ol.pw h
  unfold lstK
  rw [if_pos h, h2]
  exact (ol.r _ (List.getElem_mem hi)).1.2.1
def xeRel (a b : List Ac) (k0 : Ky) (w : World) (kb B : Nat) (v : Value) (wr : World) : Prop := ∃ (n : Nat) (k : Ky) (out : List Rs), OwnP 47 10 rsC wr B v out ∧ expA a b k0 = expF a b n k out ∧ msr a b k < n ∧ out.length + n ≤ 72 ∧ k.lin ∈ lin5 ∧ Blk wr kb 35 #[.int .i64 k.tick, .int .i64 k.cls, .int .i64 k.num, .string (bs k.lin)] ∧ Below w.heap.size w wr ∧ B ≤ wr.heap.size
set_option maxRecDepth 100000 in
set_option maxHeartbeats 3000000 in
theorem lexplain_is {w : World} {v1 v2 : Value} {a b : List Ac} {k0 : Ky} (ha : RdAc w v1 a) (hb0 : RdAc w v2 b) (oa : RunOk a) (ob : RunOk b) (hk : k0.lin ∈ lin5) :
    Calls Tryz.prog 8 #[v1, v2, kyV k0] w fun e w' => ∃ v, e = .returned (.tuple #[v, .int .i64 (expA a b k0).2]) ∧ RdRs w' v (expA a b k0).1 ∧ Below w.heap.size w w' := by
  obtain ⟨A1, c1, rfl, hc1⟩ := RowRd.form ha; obtain ⟨A2, c2, rfl, hc2⟩ := RowRd.form hb0; have hal := oa.len; have hbl := ob.len; have b0 := Below.refl w.heap.size w; have b1 := b0.alloc b0.size (.cells #[.int .i64 k0.tick, .int .i64 k0.cls, .int .i64 k0.num, .string (bs k0.lin)] 35); have z0 := (Blk.new w 35 #[.int .i64 k0.tick, .int .i64 k0.cls, .int .i64 k0.num, .string (bs k0.lin)]); have HRS := Lib.hid (fun (k : Ky) (hk : k.lin ∈ lin5) (W : World) (hW : Below w.heap.size w W) => lreason_is (k := k) (ha.next hW) (hb0.next hW) oa ob hk); have HLA := Lib.hid (fun (n : Nm) (k : Ky) (hk : k.lin ∈ lin5) (W : World) (hW : Below w.heap.size w W) => last_is n (ha.next hW) oa hk); have HLB := Lib.hid (fun (n : Nm) (k : Ky) (hk : k.lin ∈ lin5) (W : World) (hW : Below w.heap.size w W) => last_is n (hb0.next hW) ob hk)
  unfold rsV kyV at HRS
  unfold nmV nmA kyV chV at HLA HLB
  have OA := Lib.hid oa; have OB := Lib.hid ob
  have hm0 : msr a b k0 ≤ 70 := by have h1 := befK_le a k0; have h2 := befK_le b k0; unfold msr; omega
  have H0 : Hid (xeRel a b k0 w w.heap.size (w.alloc (.cells #[.int .i64 k0.tick, .int .i64 k0.cls, .int .i64 k0.num, .string (bs k0.lin)] 35)).heap.size (.slice none 0 0) (w.alloc (.cells #[.int .i64 k0.tick, .int .i64 k0.cls, .int .i64 k0.num, .string (bs k0.lin)] 35))) := Lib.hid ⟨msr a b k0 + 1, k0, [], OwnP.nil, rfl, by omega, by simp only [List.length_nil]; omega, hk, z0, b1, Nat.le_refl _⟩; have HKB := Lib.hid (show w.heap.size < (w.alloc (.cells #[.int .i64 k0.tick, .int .i64 k0.cls, .int .i64 k0.num, .string (bs k0.lin)] 35)).heap.size from z0.lt); have HBS := Lib.hid (show w.heap.size ≤ (w.alloc (.cells #[.int .i64 k0.tick, .int .i64 k0.cls, .int .i64 k0.num, .string (bs k0.lin)] 35)).heap.size from b1.size)
  unfold kyV
  clear ha hb0 b0 b1 z0 oa ob hm0 hk
  go_enter Tryz.func8, Tryz.ntmps8
  go_upto_region 1 with (fail)
  generalize (w.alloc (.cells #[.int .i64 k0.tick, .int .i64 k0.cls, .int .i64 k0.num, .string (bs k0.lin)] 35)) = w1 at *; obtain ⟨kb, hkb⟩ : ∃ kb, w.heap.size = kb := ⟨_, rfl⟩; have HWK := Lib.hid hkb; have H0' : Hid (xeRel a b k0 w kb w1.heap.size (.slice none 0 0) w1) := Lib.hid (hkb ▸ H0.out); have HKB' : Hid (kb < w1.heap.size) := Lib.hid (hkb ▸ HKB.out); have HBS' : Hid (kb ≤ w1.heap.size) := Lib.hid (hkb ▸ HBS.out); have HWL := Lib.hid (show w.heap.size ≤ kb by omega); rw [hkb]; clear hkb H0 HKB HBS; obtain ⟨B, hB⟩ : ∃ B, w1.heap.size = B := ⟨_, rfl⟩; rw [hB] at H0' HKB' HBS'; have HWB := Lib.hid (show w.heap.size ≤ B by have := HBS'.out; have := HWL.out; omega); clear hB
  go_wp2_with fail
  go_loopw [8] (fun v wr => xeRel a b k0 w kb B v wr) (fun v _ => 200 - lenV v)
  case atStart => exact H0'.out
  case round =>
    clear H0'; obtain ⟨n, k, out, how, hex, hms, hle, hkl, hz, hB, hS⟩ := hrel; obtain ⟨A3, cc3, rfl, hc3⟩ := own_len how; have OW := Lib.hid how; have HEX := Lib.hid hex; have HMS := Lib.hid hms; have HLE := Lib.hid hle; have HKL := Lib.hid hkl; have Z := Lib.hid hz; have HB := Lib.hid hB; have HS := Lib.hid hS; have HOLT := Lib.hid (fun g hg => own_lt OW.out (g := g) hg); have HRR := Lib.hid (fun W hW => HRS.out k hkl W hW); have HER := Lib.hid (rsnE_err a b k); have HR0 := Lib.hid (show (rsnE a b k).2 = 0 → _ from fun h => And.intro (rsnE_key h) (And.intro (rsnE_r OA.out OB.out h).2.1 (fun hn o ho => org_step OA.out OB.out (o := o) h hn ho))); have HBL := Lib.hid (fun h => bkK_lin OA.out OB.out (k := k) h); obtain ⟨n, rfl⟩ : ∃ m, n = m + 1 := ⟨n - 1, by omega⟩; have HEF := Lib.hid (expF_succ a b n k out); obtain ⟨y, hy⟩ : ∃ y, (rsnE a b k).1 = y := ⟨_, rfl⟩; obtain ⟨er, her⟩ : ∃ er, (rsnE a b k).2 = er := ⟨_, rfl⟩; rw [hy, her] at HRR HR0 HEF HBL; rw [her] at HER; clear how hex hms hle hkl hz hB hS hy her hc3; have kk0 := Z.out.cell 0; have kk1 := Z.out.cell 1; have kk2 := Z.out.cell 2; have kk3 := Z.out.cell 3; simp only [qB, qC, qD] at kk0 kk1 kk2 kk3
    have hxs : Hid (er = 0 ∨ (er ≠ 0 ∧ (er = 10 ∨ 0 < out.length)) ∨ (er = 8 ∧ out.length = 0)) := Lib.hid (by
      rcases HER.out with h | h | h
      · exact .inl h
      · rcases Nat.eq_zero_or_pos out.length with h2 | h2
        · exact .inr (.inr ⟨h, h2⟩)
        · exact .inr (.inl ⟨by omega, .inr h2⟩)
      · exact .inr (.inl ⟨by omega, .inl h⟩))
    have hba : ∀ w4 : World, Below wr.heap.size wr w4 → Below wr.heap.size wr (w4.alloc (.cells #[.int .i64 y.key.tick, .int .i64 y.key.cls, .int .i64 y.key.num, .string (bs y.key.lin), .int .i64 y.kind, .int .i64 y.name.kind, .string (bs y.name.owner), .int .i64 y.name.num, .int .i64 y.name.idx, .string (bs y.name.text)] 47)) := fun w4 hb => hb.alloc hb.size _
    have HBA := Lib.hid hba; clear hba
    rcases hxs.out with he | he | he <;> clear hxs
    · subst he
      have e1 : decide ((0 : Int) = 0) = true := rfl; have e2 : decide ((0 : Int) = 10) = false := rfl; rw [e1, e2] at HRR; clear e1 e2; obtain ⟨g1, g2, g3⟩ := HR0.out rfl; have HYK := Lib.hid g1; have HKL5 := Lib.hid g2; have HST := Lib.hid g3; have HBL2 := Lib.hid (HBL.out rfl); have HEF2 := Lib.hid (show expA a b k0 = expR a b n y (out ++ [y]) by rw [HEX.out, HEF.out, if_neg (fun h => h rfl)]); clear g1 g2 g3 HBL HER HEF HR0
      go_upto_region 3 with (go_at_call 10; refine (HRR.out _ HB.out).mono ?_; rintro e w4 ⟨rfl, hb⟩; have B4 := Lib.hid hb; clear hb; clear kk0 kk1 kk2 kk3)
      have Z5 := Lib.hid (Z.out.next (HBA.out w4 B4.out) Z.out.lt); have B5 := Lib.hid (HB.out.trans ((HBA.out w4 B4.out).mono HB.out.size)); have O5 := Lib.hid (own_next OW.out (HBA.out w4 B4.out)); have ZR := Lib.hid (Blk.new w4 47 #[.int .i64 y.key.tick, .int .i64 y.key.cls, .int .i64 y.key.num, .string (bs y.key.lin), .int .i64 y.kind, .int .i64 y.name.kind, .string (bs y.name.owner), .int .i64 y.name.num, .int .i64 y.name.idx, .string (bs y.name.text)]); have HS5 := Lib.hid (Nat.le_trans HS.out (HBA.out w4 B4.out).size); have HRB := Lib.hid (show wr.heap.size ≤ w4.heap.size from B4.out.size); have HRS4 := Lib.hid (show B ≤ w4.heap.size from Nat.le_trans HS.out B4.out.size); clear B4; generalize w4.alloc (.cells #[.int .i64 y.key.tick, .int .i64 y.key.cls, .int .i64 y.key.num, .string (bs y.key.lin), .int .i64 y.kind, .int .i64 y.name.kind, .string (bs y.name.owner), .int .i64 y.name.num, .int .i64 y.name.idx, .string (bs y.name.text)] 47) = w5 at *; obtain ⟨rb, hrb⟩ : ∃ rb, w4.heap.size = rb := ⟨_, rfl⟩; rw [hrb] at ZR HRB HRS4 ⊢; clear hrb; have c0 := ZR.out.cell 0; have c1 := ZR.out.cell 1; have c2 := ZR.out.cell 2; have c3 := ZR.out.cell 3; have c4 := ZR.out.cell 4; have c5 := ZR.out.cell 5; have c6 := ZR.out.cell 6; have c7 := ZR.out.cell 7; have c8 := ZR.out.cell 8; have c9 := ZR.out.cell 9; simp only [qB, qC, qD] at c0 c1 c2 c3 c4 c5 c6 c7 c8 c9; obtain ⟨i0, hi, hz0, hz1, hz2⟩ := info_parts infoRs; have hbl := (Below.refl w5.heap.size w5).alloc (Nat.le_refl _) (.cells #[.int .i64 y.key.tick, .int .i64 y.key.cls, .int .i64 y.key.num, .string (bs y.key.lin), .int .i64 y.kind, .int .i64 y.name.kind, .string (bs y.name.owner), .int .i64 y.name.num, .int .i64 y.name.idx, .string (bs y.name.text)] 47); have hws := HS5.out; have hle := HLE.out
      go_upto_region 8 with (at_builtin; refine wpList_append_w _ rfl _ _ _ rfl B 47 i0 _ 10 104 Tryz.underlying39 hi hz0 hz1 hz2 rfl (by omega) (.slice A3 out.length cc3) out.length (out.flatMap rsC) rfl (own_next O5.out hbl) (.slice (some ⟨w5.heap.size, 0, none⟩) 1 1) 1 [.int .i64 y.key.tick, .int .i64 y.key.cls, .int .i64 y.key.num, .string (bs y.key.lin), .int .i64 y.kind, .int .i64 y.name.kind, .string (bs y.name.owner), .int .i64 y.name.num, .int .i64 y.name.idx, .string (bs y.name.text)] (by rfl) (Rd.of_own (own_new w5 0 47 10 [.int .i64 y.key.tick, .int .i64 y.key.cls, .int .i64 y.key.num, .string (bs y.key.lin), .int .i64 y.kind, .int .i64 y.name.kind, .string (bs y.name.owner), .int .i64 y.name.num, .int .i64 y.name.idx, .string (bs y.name.text)] rfl (Nat.zero_le _))) (by omega) (by rfl) (by simp [Value.oneCell']) (by unfold maxLen; omega) (by omega) (by simp; omega) ?_; intro v8 w6 hown hg hat; have O6 := Lib.hid (OwnP.snoc hown); have Z6 := Lib.hid ((Z5.out.next hbl Z5.out.lt).grown hg (fun e => by have := own_ge (own_next O5.out hbl) e.symm; have := HKB'.out; omega)); have ZR6 := Lib.hid ((ZR.out.next hbl ZR.out.lt).grown hg (fun e => by have := HOLT.out _ e.symm; have := HRB.out; omega)); have B6 := Lib.hid (Below.grown (B5.out.trans (hbl.mono B5.out.size)) hg (B5.out.trans (hbl.mono B5.out.size)).size (fun r hr => Nat.le_trans HWB.out (own_ge (own_next O5.out hbl) hr))); have HS6 := Lib.hid (Nat.le_trans hws (Nat.le_trans hbl.size hg.size)); clear hown hg hat)
      clear c0 c1 c2 c3 c4 c5 c6 c7 c8 c9 i0 hi hz0 hz1 hz2 hbl hws hle O5 ZR Z5 B5 HS5 OW Z HB HS; have HY2 := Lib.hid (show (out ++ [y]).length + n ≤ 72 by rw [List.length_append]; have := HLE.out; simp only [List.length_singleton]; omega)
      have HLV := Lib.hid (show 200 - lenV v8 < 200 - lenV (.slice A3 out.length cc3) by
        obtain ⟨A9, c9, rfl, _⟩ := own_len O6.out; have := HLE.out
        simp [lenV]
        omega)
      have c0 := ZR6.out.cell 0; have c1 := ZR6.out.cell 1; have c2 := ZR6.out.cell 2; have c3 := ZR6.out.cell 3; have c4 := ZR6.out.cell 4; have c5 := ZR6.out.cell 5; have c6 := ZR6.out.cell 6; have c7 := ZR6.out.cell 7; have c8 := ZR6.out.cell 8; have c9 := ZR6.out.cell 9; simp only [qB, qC, qD] at c0 c1 c2 c3 c4 c5 c6 c7 c8 c9
      by_cases hn : y.name = nm0
      · have he : ∀ W, (binOp .eql 45 (.agg #[.int .i64 y.name.kind, .string (bs y.name.owner), .int .i64 y.name.num, .int .i64 y.name.idx, .string (bs y.name.text)]) (.agg #[.int .i64 0, .string ⟨#[]⟩, .int .i64 0, .int .i64 0, .string ⟨#[]⟩])).run Tryz.prog W = .ok (.bool true) W := fun W => eqlNm y.name nm0 true (by simp [hn]) W
        have HE := Lib.hid (show expA a b k0 = (out ++ [y], 0) by rw [HEF2.out]; unfold expR; rw [if_pos hn]); clear hn
        go_wp2_with fail
        go_ret2
        exact ⟨_, by rw [HE.out]; rfl, by rw [HE.out]; exact Rd.of_own O6.out, B6.out⟩
      · have he : ∀ W, (binOp .eql 45 (.agg #[.int .i64 y.name.kind, .string (bs y.name.owner), .int .i64 y.name.num, .int .i64 y.name.idx, .string (bs y.name.text)]) (.agg #[.int .i64 0, .string ⟨#[]⟩, .int .i64 0, .int .i64 0, .string ⟨#[]⟩])).run Tryz.prog W = .ok (.bool false) W := fun W => eqlNm y.name nm0 false (by simp [hn]) W
        have HN := Lib.hid hn; have HEF3 := Lib.hid (show expA a b k0 = match orgK a b y.name (bkK y) with | none => ([], 10) | some o => expF a b n o (out ++ [y]) by rw [HEF2.out]; unfold expR; rw [if_neg hn]; rfl); have HST2 := Lib.hid (HST.out hn); clear hn HST HEF2; obtain ⟨kz, hkz⟩ : ∃ kz, bkK y = kz := ⟨_, rfl⟩; rw [hkz] at HEF3 HST2 HBL2; have HKZ := Lib.hid hkz; have HLA2 := Lib.hid (fun W hW => HLA.out y.name kz HBL2.out W hW); have HLB2 := Lib.hid (fun W hW => HLB.out y.name kz HBL2.out W hW); have HGA := Lib.hid (fun (h : 0 ≤ lwr a y.name kz) => lstK_r OA.out (n := y.name) (k := kz) h); have HGB := Lib.hid (fun (h : 0 ≤ lwr b y.name kz) => lstK_r OB.out (n := y.name) (k := kz) h); rw [org_lst] at HEF3 HST2; obtain ⟨ca, hca⟩ : ∃ ca, lstC a y.name kz = ca := ⟨_, rfl⟩; obtain ⟨cb, hcb⟩ : ∃ cb, lstC b y.name kz = cb := ⟨_, rfl⟩; obtain ⟨ga, hga⟩ : ∃ ga, lstK a y.name kz = ga := ⟨_, rfl⟩; obtain ⟨gb, hgb⟩ : ∃ gb, lstK b y.name kz = gb := ⟨_, rfl⟩; obtain ⟨pa, hpa⟩ : ∃ pa, decide (0 ≤ lwr a y.name kz) = pa := ⟨_, rfl⟩; obtain ⟨pb, hpb⟩ : ∃ pb, decide (0 ≤ lwr b y.name kz) = pb := ⟨_, rfl⟩
        have hqa : (0 ≤ lwr a y.name kz) = (pa = true) := by rw [← hpa]; simp
        have hqb : (0 ≤ lwr b y.name kz) = (pb = true) := by rw [← hpb]; simp
        simp only [hqa, hqb] at HEF3 HST2 HGA HGB
        rw [hca, hga, hpa] at HLA2; rw [hcb, hgb, hpb] at HLB2; rw [hga, hgb] at HEF3 HST2; rw [hga] at HGA; rw [hgb] at HGB; clear hca hcb hga hgb hpa hpb hqa hqb hkz; have kk0 := Z6.out.cell 0; have kk1 := Z6.out.cell 1; have kk2 := Z6.out.cell 2; have kk3 := Z6.out.cell 3; simp only [qB, qC, qD] at kk0 kk1 kk2 kk3
        go_upto_region 11 with (fail)
        clear kk0 kk1 kk2 kk3; have O6b := Lib.hid (fun g hg => own_lt O6.out (g := g) hg); have B6a := Lib.hid B6.out.size; have Z6a := Lib.hid Z6.out.lt; have ZR6a := Lib.hid ZR6.out.lt; have HS6a := Lib.hid HS6.out; have hbk := (Below.refl w6.heap.size w6).alloc (Nat.le_refl _) (.cells #[.int .i64 k.tick, .int .i64 k.cls, .int .i64 k.num, .string (bs k.lin)] 35); replace Z6 := Lib.hid (Z6.out.next hbk Z6.out.lt); replace ZR6 := Lib.hid (ZR6.out.next hbk ZR6.out.lt); replace O6 := Lib.hid (own_next O6.out hbk); have HLT7 := Lib.hid (fun g hg => own_lt O6.out (g := g) hg)
        have HOL6 := Lib.hid (show ∀ g, v8.ownBlock = some g → g ≠ w6.heap.size from fun g hg e => by
          have := O6b.out g hg
          omega)
        replace B6 := Lib.hid (B6.out.trans (hbk.mono B6.out.size)); replace HS6 := Lib.hid (Nat.le_trans HS6.out hbk.size); have ZT := Lib.hid (Blk.new w6 35 #[.int .i64 k.tick, .int .i64 k.cls, .int .i64 k.num, .string (bs k.lin)]); have HTW := Lib.hid (show w.heap.size ≤ w6.heap.size from B6a.out); have HTK := Lib.hid (show kb ≠ w6.heap.size from Nat.ne_of_lt Z6a.out); have HTR := Lib.hid (show rb ≠ w6.heap.size from Nat.ne_of_lt ZR6a.out); have HTB := Lib.hid (show B ≤ w6.heap.size from HS6a.out); clear hbk he c0 c1 c2 c3 c4 c5 c6 c7 c8 c9 HLT7; generalize w6.alloc (.cells #[.int .i64 k.tick, .int .i64 k.cls, .int .i64 k.num, .string (bs k.lin)] 35) = w7 at *; obtain ⟨tb, htb⟩ : ∃ tb, w6.heap.size = tb := ⟨_, rfl⟩; rw [htb] at ZT HOL6 HTW HTK HTR HTB ⊢; clear htb O6b B6a Z6a ZR6a HS6a; have c0 := ZR6.out.cell 0; have c1 := ZR6.out.cell 1; have c2 := ZR6.out.cell 2; have c3 := ZR6.out.cell 3; have c4 := ZR6.out.cell 4; have c5 := ZR6.out.cell 5; have c6 := ZR6.out.cell 6; have c7 := ZR6.out.cell 7; have c8 := ZR6.out.cell 8; have c9 := ZR6.out.cell 9; simp only [qB, qC, qD] at c0 c1 c2 c3 c4 c5 c6 c7 c8 c9
        by_cases hkd : y.kind = 1
        · have e0 : (y.kind != 1) = false := by rw [hkd]; rfl
          have e0' : decide (y.kind = 1) = true := decide_eq_true hkd; have HKE := Lib.hid (show k = kz by rw [← HKZ.out, ← HYK.out]; unfold bkK; rw [if_pos hkd]); have T8 := Lib.hid (show Blk w7 tb 35 #[.int .i64 kz.tick, .int .i64 kz.cls, .int .i64 kz.num, .string (bs kz.lin)] by rw [← HKE.out]; exact ZT.out); have Z8 := Z6; have R8 := ZR6; have O8 := O6; have B8 := B6; have S8 := HS6; clear hkd ZT Z6 ZR6 O6 B6 HS6
          go_upto_region 13 with (fail)
          clear e0 e0'; have t0 := T8.out.cell 0; have t1 := T8.out.cell 1; have t2 := T8.out.cell 2; have t3 := T8.out.cell 3; simp only [qB, qC, qD] at t0 t1 t2 t3
          go_upto_region 14 with (go_at_call 30; refine (HLA2.out _ B8.out).mono ?_; rintro e w9 ⟨rfl, hb⟩; replace Z8 := Lib.hid (Z8.out.next hb Z8.out.lt); replace R8 := Lib.hid (R8.out.next hb R8.out.lt); replace T8 := Lib.hid (T8.out.next hb T8.out.lt); replace O8 := Lib.hid (own_next O8.out hb); replace B8 := Lib.hid (B8.out.trans (hb.mono B8.out.size)); replace S8 := Lib.hid (Nat.le_trans S8.out hb.size); clear hb; clear c0 c1 c2 c3 c4 c5 c6 c7 c8 c9 t0 t1 t2 t3)
          have hb1 := (Below.refl w9.heap.size w9).alloc (Nat.le_refl _) (.cells #[.int .i64 ca.name.kind, .string (bs ca.name.owner), .int .i64 ca.name.num, .int .i64 ca.name.idx, .string (bs ca.name.text), .string (bs ca.value), .bool ca.absent] 92); have hb2 := hb1.alloc hb1.size (.cells #[.int .i64 ga.tick, .int .i64 ga.cls, .int .i64 ga.num, .string (bs ga.lin)] 35); replace Z8 := Lib.hid (Z8.out.next hb2 Z8.out.lt); replace R8 := Lib.hid (R8.out.next hb2 R8.out.lt); replace T8 := Lib.hid (T8.out.next hb2 T8.out.lt); replace O8 := Lib.hid (own_next O8.out hb2); replace B8 := Lib.hid (B8.out.trans (hb2.mono B8.out.size)); replace S8 := Lib.hid (Nat.le_trans S8.out hb2.size); have ZA := Lib.hid (Blk.newE (w9.alloc (.cells #[.int .i64 ca.name.kind, .string (bs ca.name.owner), .int .i64 ca.name.num, .int .i64 ca.name.idx, .string (bs ca.name.text), .string (bs ca.value), .bool ca.absent] 92)) 35 #[.int .i64 ga.tick, .int .i64 ga.cls, .int .i64 ga.num, .string (bs ga.lin)] (w9.heap.size + 1) (by simp)); clear hb1 hb2; generalize ((w9.alloc (.cells #[.int .i64 ca.name.kind, .string (bs ca.name.owner), .int .i64 ca.name.num, .int .i64 ca.name.idx, .string (bs ca.name.text), .string (bs ca.value), .bool ca.absent] 92)).alloc (.cells #[.int .i64 ga.tick, .int .i64 ga.cls, .int .i64 ga.num, .string (bs ga.lin)] 35)) = w10 at *; obtain ⟨ZAb, hZA⟩ : ∃ x, w9.heap.size + 1 = x := ⟨_, rfl⟩; rw [hZA] at ZA ⊢; clear hZA; have c0 := R8.out.cell 0; have c1 := R8.out.cell 1; have c2 := R8.out.cell 2; have c3 := R8.out.cell 3; have c4 := R8.out.cell 4; have c5 := R8.out.cell 5; have c6 := R8.out.cell 6; have c7 := R8.out.cell 7; have c8 := R8.out.cell 8; have c9 := R8.out.cell 9; simp only [qB, qC, qD] at c0 c1 c2 c3 c4 c5 c6 c7 c8 c9; have t0 := T8.out.cell 0; have t1 := T8.out.cell 1; have t2 := T8.out.cell 2; have t3 := T8.out.cell 3; simp only [qB, qC, qD] at t0 t1 t2 t3
          go_upto_region 16 with (go_at_call 30; refine (HLB2.out _ B8.out).mono ?_; rintro e w11 ⟨rfl, hb⟩; replace Z8 := Lib.hid (Z8.out.next hb Z8.out.lt); replace R8 := Lib.hid (R8.out.next hb R8.out.lt); replace T8 := Lib.hid (T8.out.next hb T8.out.lt); replace ZA := Lib.hid (ZA.out.next hb ZA.out.lt); replace O8 := Lib.hid (own_next O8.out hb); replace B8 := Lib.hid (B8.out.trans (hb.mono B8.out.size)); replace S8 := Lib.hid (Nat.le_trans S8.out hb.size); clear hb; clear c0 c1 c2 c3 c4 c5 c6 c7 c8 c9 t0 t1 t2 t3)
          have hb1 := (Below.refl w11.heap.size w11).alloc (Nat.le_refl _) (.cells #[.int .i64 cb.name.kind, .string (bs cb.name.owner), .int .i64 cb.name.num, .int .i64 cb.name.idx, .string (bs cb.name.text), .string (bs cb.value), .bool cb.absent] 92); have hb2 := hb1.alloc hb1.size (.cells #[.int .i64 gb.tick, .int .i64 gb.cls, .int .i64 gb.num, .string (bs gb.lin)] 35); replace Z8 := Lib.hid (Z8.out.next hb2 Z8.out.lt); replace R8 := Lib.hid (R8.out.next hb2 R8.out.lt); replace T8 := Lib.hid (T8.out.next hb2 T8.out.lt); replace ZA := Lib.hid (ZA.out.next hb2 ZA.out.lt); replace O8 := Lib.hid (own_next O8.out hb2); replace B8 := Lib.hid (B8.out.trans (hb2.mono B8.out.size)); replace S8 := Lib.hid (Nat.le_trans S8.out hb2.size); have ZB := Lib.hid (Blk.newE (w11.alloc (.cells #[.int .i64 cb.name.kind, .string (bs cb.name.owner), .int .i64 cb.name.num, .int .i64 cb.name.idx, .string (bs cb.name.text), .string (bs cb.value), .bool cb.absent] 92)) 35 #[.int .i64 gb.tick, .int .i64 gb.cls, .int .i64 gb.num, .string (bs gb.lin)] (w11.heap.size + 1) (by simp)); clear hb1 hb2; generalize ((w11.alloc (.cells #[.int .i64 cb.name.kind, .string (bs cb.name.owner), .int .i64 cb.name.num, .int .i64 cb.name.idx, .string (bs cb.name.text), .string (bs cb.value), .bool cb.absent] 92)).alloc (.cells #[.int .i64 gb.tick, .int .i64 gb.cls, .int .i64 gb.num, .string (bs gb.lin)] 35)) = w12 at *; obtain ⟨ZBb, hZB⟩ : ∃ x, w11.heap.size + 1 = x := ⟨_, rfl⟩; rw [hZB] at ZB ⊢; clear hZB
          cases pa with
          | false =>
            cases pb with
            | false =>
              have HE := Lib.hid (show expA a b k0 = ([], 10) by rw [HEF3.out]; simp)
              go_wp2_with fail
              go_ret2
              exact ⟨_, by rw [HE.out]; rfl, by rw [HE.out]; exact RdP.nil, B8.out⟩
            | true =>
              have HE := Lib.hid (show expA a b k0 = expF a b n gb (out ++ [y]) by rw [HEF3.out]; simp); have HO : Hid (∀ (α : Type) (f : Option Ky → α), f (if true = true then some gb else none) = f (some gb)) := Lib.hid (fun _ _ => rfl); have HSTO := Lib.hid (HST2.out gb (by simp)); have HLT := Lib.hid (show msr a b gb < n by have := HSTO.out.2.1; have := HMS.out; omega); have HLG := Lib.hid (show gb.lin ∈ lin5 from HSTO.out.2.2.2.1); have g0 := ZB.out.cell 0; have g1 := ZB.out.cell 1; have g2 := ZB.out.cell 2; have g3 := ZB.out.cell 3; simp only [qB, qC, qD] at g0 g1 g2 g3; have q0 := Z8.out.cell 0; have q1 := Z8.out.cell 1; have q2 := Z8.out.cell 2; have q3 := Z8.out.cell 3; simp only [qB, qC, qD] at q0 q1 q2 q3; have f0 := Z8.out.frozen 0; have f1 := Z8.out.frozen 1; have f2 := Z8.out.frozen 2; have f3 := Z8.out.frozen 3; have ZE := Lib.hid (set4z_ (.int .i64 gb.tick) (.int .i64 gb.cls) (.int .i64 gb.num) (.string (bs gb.lin)) Z8.out); have BE := Lib.hid (low4z_ (.int .i64 gb.tick) (.int .i64 gb.cls) (.int .i64 gb.num) (.string (bs gb.lin)) B8.out HWL.out); have OE := Lib.hid (own_same O8.out fun z hz => own4_ (g := kb) (.int .i64 gb.tick) (.int .i64 gb.cls) (.int .i64 gb.num) (.string (bs gb.lin)) w12 (fun e => by have := own_ge O8.out (e ▸ hz); have := HKB'.out; omega)); have SE := Lib.hid (show B ≤ ((((w12.setCell ⟨kb, 0, none⟩ (.int .i64 gb.tick)).setCell ⟨kb, 1, none⟩ (.int .i64 gb.cls)).setCell ⟨kb, 2, none⟩ (.int .i64 gb.num)).setCell ⟨kb, 3, none⟩ (.string (bs gb.lin))).heap.size from Nat.le_trans S8.out (low4z_ (g := kb) (.int .i64 gb.tick) (.int .i64 gb.cls) (.int .i64 gb.num) (.string (bs gb.lin)) (Below.refl 0 w12) (Nat.zero_le _)).size)
              go_wp2_with fail
              clear g0 g1 g2 g3 q0 q1 q2 q3 f0 f1 f2 f3; generalize ((((w12.setCell ⟨kb, 0, none⟩ (.int .i64 gb.tick)).setCell ⟨kb, 1, none⟩ (.int .i64 gb.cls)).setCell ⟨kb, 2, none⟩ (.int .i64 gb.num)).setCell ⟨kb, 3, none⟩ (.string (bs gb.lin))) = W9 at *
              go_roundw
              case rel => exact ⟨n, gb, out ++ [y], OE.out, HE.out, HLT.out, HY2.out, HLG.out, ZE.out, BE.out, SE.out⟩
              case measure => exact HLV.out
          | true =>
            cases pb with
            | false =>
              have HE := Lib.hid (show expA a b k0 = expF a b n ga (out ++ [y]) by rw [HEF3.out]; simp); have HO : Hid (∀ (α : Type) (f : Option Ky → α), f (if true = true then some ga else none) = f (some ga)) := Lib.hid (fun _ _ => rfl); have HSTO := Lib.hid (HST2.out ga (by simp)); have HLT := Lib.hid (show msr a b ga < n by have := HSTO.out.2.1; have := HMS.out; omega); have HLG := Lib.hid (show ga.lin ∈ lin5 from HSTO.out.2.2.2.1); have g0 := ZA.out.cell 0; have g1 := ZA.out.cell 1; have g2 := ZA.out.cell 2; have g3 := ZA.out.cell 3; simp only [qB, qC, qD] at g0 g1 g2 g3; have q0 := Z8.out.cell 0; have q1 := Z8.out.cell 1; have q2 := Z8.out.cell 2; have q3 := Z8.out.cell 3; simp only [qB, qC, qD] at q0 q1 q2 q3; have f0 := Z8.out.frozen 0; have f1 := Z8.out.frozen 1; have f2 := Z8.out.frozen 2; have f3 := Z8.out.frozen 3; have ZE := Lib.hid (set4z_ (.int .i64 ga.tick) (.int .i64 ga.cls) (.int .i64 ga.num) (.string (bs ga.lin)) Z8.out); have BE := Lib.hid (low4z_ (.int .i64 ga.tick) (.int .i64 ga.cls) (.int .i64 ga.num) (.string (bs ga.lin)) B8.out HWL.out); have OE := Lib.hid (own_same O8.out fun z hz => own4_ (g := kb) (.int .i64 ga.tick) (.int .i64 ga.cls) (.int .i64 ga.num) (.string (bs ga.lin)) w12 (fun e => by have := own_ge O8.out (e ▸ hz); have := HKB'.out; omega)); have SE := Lib.hid (show B ≤ ((((w12.setCell ⟨kb, 0, none⟩ (.int .i64 ga.tick)).setCell ⟨kb, 1, none⟩ (.int .i64 ga.cls)).setCell ⟨kb, 2, none⟩ (.int .i64 ga.num)).setCell ⟨kb, 3, none⟩ (.string (bs ga.lin))).heap.size from Nat.le_trans S8.out (low4z_ (g := kb) (.int .i64 ga.tick) (.int .i64 ga.cls) (.int .i64 ga.num) (.string (bs ga.lin)) (Below.refl 0 w12) (Nat.zero_le _)).size)
              go_wp2_with fail
              clear g0 g1 g2 g3 q0 q1 q2 q3 f0 f1 f2 f3; generalize ((((w12.setCell ⟨kb, 0, none⟩ (.int .i64 ga.tick)).setCell ⟨kb, 1, none⟩ (.int .i64 ga.cls)).setCell ⟨kb, 2, none⟩ (.int .i64 ga.num)).setCell ⟨kb, 3, none⟩ (.string (bs ga.lin))) = W9 at *
              go_roundw
              case rel => exact ⟨n, ga, out ++ [y], OE.out, HE.out, HLT.out, HY2.out, HLG.out, ZE.out, BE.out, SE.out⟩
              case measure => exact HLV.out
            | true =>
              have HLGA := Lib.hid HGA.out; have HLGB := Lib.hid HGB.out; have HKC := Lib.hid (fun W => key_compare gb ga W (HLGB.out rfl) (HLGA.out rfl))
              unfold kyV at HKC
              obtain ⟨cm, hcm⟩ : ∃ cm, cmpK gb ga = cm := ⟨_, rfl⟩; rw [hcm] at HKC HEF3 HST2; clear hcm; have g0 := ZA.out.cell 0; have g1 := ZA.out.cell 1; have g2 := ZA.out.cell 2; have g3 := ZA.out.cell 3; simp only [qB, qC, qD] at g0 g1 g2 g3; have u0 := ZB.out.cell 0; have u1 := ZB.out.cell 1; have u2 := ZB.out.cell 2; have u3 := ZB.out.cell 3; simp only [qB, qC, qD] at u0 u1 u2 u3
              by_cases hc : 0 < cm
              · have e1 : decide (0 < cm) = true := decide_eq_true hc
                have HE := Lib.hid (show expA a b k0 = expF a b n gb (out ++ [y]) by rw [HEF3.out]; simp [hc]); have HO : Hid (∀ (α : Type) (f : Option Ky → α), f (if true = true then some gb else none) = f (some gb)) := Lib.hid (fun _ _ => rfl); have HSTO := Lib.hid (HST2.out gb (by simp [hc])); have HLT := Lib.hid (show msr a b gb < n by have := HSTO.out.2.1; have := HMS.out; omega); have HLG := Lib.hid (show gb.lin ∈ lin5 from HSTO.out.2.2.2.1); clear hc
                go_upto_region 19 with (go_at_call 11; refine (HKC.out _).mono ?_; rintro e w13 ⟨rfl, hb⟩; replace Z8 := Lib.hid (Z8.out.next hb Z8.out.lt); replace ZA := Lib.hid (ZA.out.next hb ZA.out.lt); replace ZB := Lib.hid (ZB.out.next hb ZB.out.lt); replace O8 := Lib.hid (own_next O8.out hb); replace B8 := Lib.hid (B8.out.trans (hb.mono B8.out.size)); replace S8 := Lib.hid (Nat.le_trans S8.out hb.size); clear hb; clear g0 g1 g2 g3 u0 u1 u2 u3)
                have g0 := ZB.out.cell 0; have g1 := ZB.out.cell 1; have g2 := ZB.out.cell 2; have g3 := ZB.out.cell 3; simp only [qB, qC, qD] at g0 g1 g2 g3; have q0 := Z8.out.cell 0; have q1 := Z8.out.cell 1; have q2 := Z8.out.cell 2; have q3 := Z8.out.cell 3; simp only [qB, qC, qD] at q0 q1 q2 q3; have f0 := Z8.out.frozen 0; have f1 := Z8.out.frozen 1; have f2 := Z8.out.frozen 2; have f3 := Z8.out.frozen 3; have ZE := Lib.hid (set4z_ (.int .i64 gb.tick) (.int .i64 gb.cls) (.int .i64 gb.num) (.string (bs gb.lin)) Z8.out); have BE := Lib.hid (low4z_ (.int .i64 gb.tick) (.int .i64 gb.cls) (.int .i64 gb.num) (.string (bs gb.lin)) B8.out HWL.out); have OE := Lib.hid (own_same O8.out fun z hz => own4_ (g := kb) (.int .i64 gb.tick) (.int .i64 gb.cls) (.int .i64 gb.num) (.string (bs gb.lin)) w13 (fun e => by have := own_ge O8.out (e ▸ hz); have := HKB'.out; omega)); have SE := Lib.hid (show B ≤ ((((w13.setCell ⟨kb, 0, none⟩ (.int .i64 gb.tick)).setCell ⟨kb, 1, none⟩ (.int .i64 gb.cls)).setCell ⟨kb, 2, none⟩ (.int .i64 gb.num)).setCell ⟨kb, 3, none⟩ (.string (bs gb.lin))).heap.size from Nat.le_trans S8.out (low4z_ (g := kb) (.int .i64 gb.tick) (.int .i64 gb.cls) (.int .i64 gb.num) (.string (bs gb.lin)) (Below.refl 0 w13) (Nat.zero_le _)).size)
                go_wp2_with fail
                clear g0 g1 g2 g3 q0 q1 q2 q3 f0 f1 f2 f3; generalize ((((w13.setCell ⟨kb, 0, none⟩ (.int .i64 gb.tick)).setCell ⟨kb, 1, none⟩ (.int .i64 gb.cls)).setCell ⟨kb, 2, none⟩ (.int .i64 gb.num)).setCell ⟨kb, 3, none⟩ (.string (bs gb.lin))) = W9 at *
                go_roundw
                case rel => exact ⟨n, gb, out ++ [y], OE.out, HE.out, HLT.out, HY2.out, HLG.out, ZE.out, BE.out, SE.out⟩
                case measure => exact HLV.out
              · have e1 : decide (0 < cm) = false := decide_eq_false hc
                have HE := Lib.hid (show expA a b k0 = expF a b n ga (out ++ [y]) by rw [HEF3.out]; simp [hc]); have HO : Hid (∀ (α : Type) (f : Option Ky → α), f (if true = true then some ga else none) = f (some ga)) := Lib.hid (fun _ _ => rfl); have HSTO := Lib.hid (HST2.out ga (by simp [hc])); have HLT := Lib.hid (show msr a b ga < n by have := HSTO.out.2.1; have := HMS.out; omega); have HLG := Lib.hid (show ga.lin ∈ lin5 from HSTO.out.2.2.2.1); clear hc
                go_upto_region 15 with (go_at_call 11; refine (HKC.out _).mono ?_; rintro e w13 ⟨rfl, hb⟩; replace Z8 := Lib.hid (Z8.out.next hb Z8.out.lt); replace ZA := Lib.hid (ZA.out.next hb ZA.out.lt); replace ZB := Lib.hid (ZB.out.next hb ZB.out.lt); replace O8 := Lib.hid (own_next O8.out hb); replace B8 := Lib.hid (B8.out.trans (hb.mono B8.out.size)); replace S8 := Lib.hid (Nat.le_trans S8.out hb.size); clear hb; clear g0 g1 g2 g3 u0 u1 u2 u3)
                have g0 := ZA.out.cell 0; have g1 := ZA.out.cell 1; have g2 := ZA.out.cell 2; have g3 := ZA.out.cell 3; simp only [qB, qC, qD] at g0 g1 g2 g3; have q0 := Z8.out.cell 0; have q1 := Z8.out.cell 1; have q2 := Z8.out.cell 2; have q3 := Z8.out.cell 3; simp only [qB, qC, qD] at q0 q1 q2 q3; have f0 := Z8.out.frozen 0; have f1 := Z8.out.frozen 1; have f2 := Z8.out.frozen 2; have f3 := Z8.out.frozen 3; have ZE := Lib.hid (set4z_ (.int .i64 ga.tick) (.int .i64 ga.cls) (.int .i64 ga.num) (.string (bs ga.lin)) Z8.out); have BE := Lib.hid (low4z_ (.int .i64 ga.tick) (.int .i64 ga.cls) (.int .i64 ga.num) (.string (bs ga.lin)) B8.out HWL.out); have OE := Lib.hid (own_same O8.out fun z hz => own4_ (g := kb) (.int .i64 ga.tick) (.int .i64 ga.cls) (.int .i64 ga.num) (.string (bs ga.lin)) w13 (fun e => by have := own_ge O8.out (e ▸ hz); have := HKB'.out; omega)); have SE := Lib.hid (show B ≤ ((((w13.setCell ⟨kb, 0, none⟩ (.int .i64 ga.tick)).setCell ⟨kb, 1, none⟩ (.int .i64 ga.cls)).setCell ⟨kb, 2, none⟩ (.int .i64 ga.num)).setCell ⟨kb, 3, none⟩ (.string (bs ga.lin))).heap.size from Nat.le_trans S8.out (low4z_ (g := kb) (.int .i64 ga.tick) (.int .i64 ga.cls) (.int .i64 ga.num) (.string (bs ga.lin)) (Below.refl 0 w13) (Nat.zero_le _)).size)
                go_wp2_with fail
                clear g0 g1 g2 g3 q0 q1 q2 q3 f0 f1 f2 f3; generalize ((((w13.setCell ⟨kb, 0, none⟩ (.int .i64 ga.tick)).setCell ⟨kb, 1, none⟩ (.int .i64 ga.cls)).setCell ⟨kb, 2, none⟩ (.int .i64 ga.num)).setCell ⟨kb, 3, none⟩ (.string (bs ga.lin))) = W9 at *
                go_roundw
                case rel => exact ⟨n, ga, out ++ [y], OE.out, HE.out, HLT.out, HY2.out, HLG.out, ZE.out, BE.out, SE.out⟩
                case measure => exact HLV.out
        · have e0 : (y.kind != 1) = true := by simpa using hkd
          have e0' : decide (y.kind = 1) = false := decide_eq_false hkd; have HSL := Lib.hid (fun W => slots_is W k.tick); rw [show sloK k.tick = kz by rw [← HKZ.out, ← HYK.out]; unfold bkK; rw [if_neg hkd]] at HSL
          unfold kyV at HSL
          clear hkd; have kk0 := Z6.out.cell 0; have kk1 := Z6.out.cell 1; have kk2 := Z6.out.cell 2; have kk3 := Z6.out.cell 3; simp only [qB, qC, qD] at kk0 kk1 kk2 kk3
          go_upto_region 13 with (go_at_call 29; refine (HSL.out _).mono ?_; rintro e w3 ⟨rfl, hb⟩; have Z9 := Lib.hid (Z6.out.next hb Z6.out.lt); have R9 := Lib.hid (ZR6.out.next hb ZR6.out.lt); have ZT9 := Lib.hid (ZT.out.next hb ZT.out.lt); have O9 := Lib.hid (own_next O6.out hb); have B9 := Lib.hid (B6.out.trans (hb.mono B6.out.size)); have S9 := Lib.hid (Nat.le_trans HS6.out hb.size); clear hb; clear c0 c1 c2 c3 c4 c5 c6 c7 c8 c9 kk0 kk1 kk2 kk3; have q0 := ZT9.out.cell 0; have q1 := ZT9.out.cell 1; have q2 := ZT9.out.cell 2; have q3 := ZT9.out.cell 3; (simp only [qB, qC, qD] at q0 q1 q2 q3); have f0 := ZT9.out.frozen 0; have f1 := ZT9.out.frozen 1; have f2 := ZT9.out.frozen 2; have f3 := ZT9.out.frozen 3)
          clear e0 e0' q0 q1 q2 q3 f0 f1 f2 f3; have T8 := Lib.hid (set4z_ (.int .i64 kz.tick) (.int .i64 kz.cls) (.int .i64 kz.num) (.string (bs kz.lin)) ZT9.out); have Z8 := Lib.hid (kp4_ (g := tb) (.int .i64 kz.tick) (.int .i64 kz.cls) (.int .i64 kz.num) (.string (bs kz.lin)) Z9.out HTK.out); have R8 := Lib.hid (kp4_ (g := tb) (.int .i64 kz.tick) (.int .i64 kz.cls) (.int .i64 kz.num) (.string (bs kz.lin)) R9.out HTR.out); have B8 := Lib.hid (low4z_ (.int .i64 kz.tick) (.int .i64 kz.cls) (.int .i64 kz.num) (.string (bs kz.lin)) B9.out HTW.out); have O8 := Lib.hid (own_same O9.out fun z hz => own4_ (g := tb) (.int .i64 kz.tick) (.int .i64 kz.cls) (.int .i64 kz.num) (.string (bs kz.lin)) w3 (HOL6.out z hz)); have S8 := Lib.hid (show B ≤ ((((w3.setCell ⟨tb, 0, none⟩ (.int .i64 kz.tick)).setCell ⟨tb, 1, none⟩ (.int .i64 kz.cls)).setCell ⟨tb, 2, none⟩ (.int .i64 kz.num)).setCell ⟨tb, 3, none⟩ (.string (bs kz.lin))).heap.size from Nat.le_trans S9.out (low4z_ (g := tb) (.int .i64 kz.tick) (.int .i64 kz.cls) (.int .i64 kz.num) (.string (bs kz.lin)) (Below.refl 0 w3) (Nat.zero_le _)).size); clear ZT ZT9 Z9 R9 O9 B9 S9 Z6 ZR6 O6 B6 HS6; generalize ((((w3.setCell ⟨tb, 0, none⟩ (.int .i64 kz.tick)).setCell ⟨tb, 1, none⟩ (.int .i64 kz.cls)).setCell ⟨tb, 2, none⟩ (.int .i64 kz.num)).setCell ⟨tb, 3, none⟩ (.string (bs kz.lin))) = w8 at *; have c0 := R8.out.cell 0; have c1 := R8.out.cell 1; have c2 := R8.out.cell 2; have c3 := R8.out.cell 3; have c4 := R8.out.cell 4; have c5 := R8.out.cell 5; have c6 := R8.out.cell 6; have c7 := R8.out.cell 7; have c8 := R8.out.cell 8; have c9 := R8.out.cell 9; simp only [qB, qC, qD] at c0 c1 c2 c3 c4 c5 c6 c7 c8 c9; have t0 := T8.out.cell 0; have t1 := T8.out.cell 1; have t2 := T8.out.cell 2; have t3 := T8.out.cell 3; simp only [qB, qC, qD] at t0 t1 t2 t3
          go_upto_region 14 with (go_at_call 30; refine (HLA2.out _ B8.out).mono ?_; rintro e w9 ⟨rfl, hb⟩; replace Z8 := Lib.hid (Z8.out.next hb Z8.out.lt); replace R8 := Lib.hid (R8.out.next hb R8.out.lt); replace T8 := Lib.hid (T8.out.next hb T8.out.lt); replace O8 := Lib.hid (own_next O8.out hb); replace B8 := Lib.hid (B8.out.trans (hb.mono B8.out.size)); replace S8 := Lib.hid (Nat.le_trans S8.out hb.size); clear hb; clear c0 c1 c2 c3 c4 c5 c6 c7 c8 c9 t0 t1 t2 t3)
          have hb1 := (Below.refl w9.heap.size w9).alloc (Nat.le_refl _) (.cells #[.int .i64 ca.name.kind, .string (bs ca.name.owner), .int .i64 ca.name.num, .int .i64 ca.name.idx, .string (bs ca.name.text), .string (bs ca.value), .bool ca.absent] 92); have hb2 := hb1.alloc hb1.size (.cells #[.int .i64 ga.tick, .int .i64 ga.cls, .int .i64 ga.num, .string (bs ga.lin)] 35); replace Z8 := Lib.hid (Z8.out.next hb2 Z8.out.lt); replace R8 := Lib.hid (R8.out.next hb2 R8.out.lt); replace T8 := Lib.hid (T8.out.next hb2 T8.out.lt); replace O8 := Lib.hid (own_next O8.out hb2); replace B8 := Lib.hid (B8.out.trans (hb2.mono B8.out.size)); replace S8 := Lib.hid (Nat.le_trans S8.out hb2.size); have ZA := Lib.hid (Blk.newE (w9.alloc (.cells #[.int .i64 ca.name.kind, .string (bs ca.name.owner), .int .i64 ca.name.num, .int .i64 ca.name.idx, .string (bs ca.name.text), .string (bs ca.value), .bool ca.absent] 92)) 35 #[.int .i64 ga.tick, .int .i64 ga.cls, .int .i64 ga.num, .string (bs ga.lin)] (w9.heap.size + 1) (by simp)); clear hb1 hb2; generalize ((w9.alloc (.cells #[.int .i64 ca.name.kind, .string (bs ca.name.owner), .int .i64 ca.name.num, .int .i64 ca.name.idx, .string (bs ca.name.text), .string (bs ca.value), .bool ca.absent] 92)).alloc (.cells #[.int .i64 ga.tick, .int .i64 ga.cls, .int .i64 ga.num, .string (bs ga.lin)] 35)) = w10 at *; obtain ⟨ZAb, hZA⟩ : ∃ x, w9.heap.size + 1 = x := ⟨_, rfl⟩; rw [hZA] at ZA ⊢; clear hZA; have c0 := R8.out.cell 0; have c1 := R8.out.cell 1; have c2 := R8.out.cell 2; have c3 := R8.out.cell 3; have c4 := R8.out.cell 4; have c5 := R8.out.cell 5; have c6 := R8.out.cell 6; have c7 := R8.out.cell 7; have c8 := R8.out.cell 8; have c9 := R8.out.cell 9; simp only [qB, qC, qD] at c0 c1 c2 c3 c4 c5 c6 c7 c8 c9; have t0 := T8.out.cell 0; have t1 := T8.out.cell 1; have t2 := T8.out.cell 2; have t3 := T8.out.cell 3; simp only [qB, qC, qD] at t0 t1 t2 t3
          go_upto_region 16 with (go_at_call 30; refine (HLB2.out _ B8.out).mono ?_; rintro e w11 ⟨rfl, hb⟩; replace Z8 := Lib.hid (Z8.out.next hb Z8.out.lt); replace R8 := Lib.hid (R8.out.next hb R8.out.lt); replace T8 := Lib.hid (T8.out.next hb T8.out.lt); replace ZA := Lib.hid (ZA.out.next hb ZA.out.lt); replace O8 := Lib.hid (own_next O8.out hb); replace B8 := Lib.hid (B8.out.trans (hb.mono B8.out.size)); replace S8 := Lib.hid (Nat.le_trans S8.out hb.size); clear hb; clear c0 c1 c2 c3 c4 c5 c6 c7 c8 c9 t0 t1 t2 t3)
          have hb1 := (Below.refl w11.heap.size w11).alloc (Nat.le_refl _) (.cells #[.int .i64 cb.name.kind, .string (bs cb.name.owner), .int .i64 cb.name.num, .int .i64 cb.name.idx, .string (bs cb.name.text), .string (bs cb.value), .bool cb.absent] 92); have hb2 := hb1.alloc hb1.size (.cells #[.int .i64 gb.tick, .int .i64 gb.cls, .int .i64 gb.num, .string (bs gb.lin)] 35); replace Z8 := Lib.hid (Z8.out.next hb2 Z8.out.lt); replace R8 := Lib.hid (R8.out.next hb2 R8.out.lt); replace T8 := Lib.hid (T8.out.next hb2 T8.out.lt); replace ZA := Lib.hid (ZA.out.next hb2 ZA.out.lt); replace O8 := Lib.hid (own_next O8.out hb2); replace B8 := Lib.hid (B8.out.trans (hb2.mono B8.out.size)); replace S8 := Lib.hid (Nat.le_trans S8.out hb2.size); have ZB := Lib.hid (Blk.newE (w11.alloc (.cells #[.int .i64 cb.name.kind, .string (bs cb.name.owner), .int .i64 cb.name.num, .int .i64 cb.name.idx, .string (bs cb.name.text), .string (bs cb.value), .bool cb.absent] 92)) 35 #[.int .i64 gb.tick, .int .i64 gb.cls, .int .i64 gb.num, .string (bs gb.lin)] (w11.heap.size + 1) (by simp)); clear hb1 hb2; generalize ((w11.alloc (.cells #[.int .i64 cb.name.kind, .string (bs cb.name.owner), .int .i64 cb.name.num, .int .i64 cb.name.idx, .string (bs cb.name.text), .string (bs cb.value), .bool cb.absent] 92)).alloc (.cells #[.int .i64 gb.tick, .int .i64 gb.cls, .int .i64 gb.num, .string (bs gb.lin)] 35)) = w12 at *; obtain ⟨ZBb, hZB⟩ : ∃ x, w11.heap.size + 1 = x := ⟨_, rfl⟩; rw [hZB] at ZB ⊢; clear hZB
          cases pa with
          | false =>
            cases pb with
            | false =>
              have HE := Lib.hid (show expA a b k0 = ([], 10) by rw [HEF3.out]; simp)
              go_wp2_with fail
              go_ret2
              exact ⟨_, by rw [HE.out]; rfl, by rw [HE.out]; exact RdP.nil, B8.out⟩
            | true =>
              have HE := Lib.hid (show expA a b k0 = expF a b n gb (out ++ [y]) by rw [HEF3.out]; simp); have HO : Hid (∀ (α : Type) (f : Option Ky → α), f (if true = true then some gb else none) = f (some gb)) := Lib.hid (fun _ _ => rfl); have HSTO := Lib.hid (HST2.out gb (by simp)); have HLT := Lib.hid (show msr a b gb < n by have := HSTO.out.2.1; have := HMS.out; omega); have HLG := Lib.hid (show gb.lin ∈ lin5 from HSTO.out.2.2.2.1); have g0 := ZB.out.cell 0; have g1 := ZB.out.cell 1; have g2 := ZB.out.cell 2; have g3 := ZB.out.cell 3; simp only [qB, qC, qD] at g0 g1 g2 g3; have q0 := Z8.out.cell 0; have q1 := Z8.out.cell 1; have q2 := Z8.out.cell 2; have q3 := Z8.out.cell 3; simp only [qB, qC, qD] at q0 q1 q2 q3; have f0 := Z8.out.frozen 0; have f1 := Z8.out.frozen 1; have f2 := Z8.out.frozen 2; have f3 := Z8.out.frozen 3; have ZE := Lib.hid (set4z_ (.int .i64 gb.tick) (.int .i64 gb.cls) (.int .i64 gb.num) (.string (bs gb.lin)) Z8.out); have BE := Lib.hid (low4z_ (.int .i64 gb.tick) (.int .i64 gb.cls) (.int .i64 gb.num) (.string (bs gb.lin)) B8.out HWL.out); have OE := Lib.hid (own_same O8.out fun z hz => own4_ (g := kb) (.int .i64 gb.tick) (.int .i64 gb.cls) (.int .i64 gb.num) (.string (bs gb.lin)) w12 (fun e => by have := own_ge O8.out (e ▸ hz); have := HKB'.out; omega)); have SE := Lib.hid (show B ≤ ((((w12.setCell ⟨kb, 0, none⟩ (.int .i64 gb.tick)).setCell ⟨kb, 1, none⟩ (.int .i64 gb.cls)).setCell ⟨kb, 2, none⟩ (.int .i64 gb.num)).setCell ⟨kb, 3, none⟩ (.string (bs gb.lin))).heap.size from Nat.le_trans S8.out (low4z_ (g := kb) (.int .i64 gb.tick) (.int .i64 gb.cls) (.int .i64 gb.num) (.string (bs gb.lin)) (Below.refl 0 w12) (Nat.zero_le _)).size)
              go_wp2_with fail
              clear g0 g1 g2 g3 q0 q1 q2 q3 f0 f1 f2 f3; generalize ((((w12.setCell ⟨kb, 0, none⟩ (.int .i64 gb.tick)).setCell ⟨kb, 1, none⟩ (.int .i64 gb.cls)).setCell ⟨kb, 2, none⟩ (.int .i64 gb.num)).setCell ⟨kb, 3, none⟩ (.string (bs gb.lin))) = W9 at *
              go_roundw
              case rel => exact ⟨n, gb, out ++ [y], OE.out, HE.out, HLT.out, HY2.out, HLG.out, ZE.out, BE.out, SE.out⟩
              case measure => exact HLV.out
          | true =>
            cases pb with
            | false =>
              have HE := Lib.hid (show expA a b k0 = expF a b n ga (out ++ [y]) by rw [HEF3.out]; simp); have HO : Hid (∀ (α : Type) (f : Option Ky → α), f (if true = true then some ga else none) = f (some ga)) := Lib.hid (fun _ _ => rfl); have HSTO := Lib.hid (HST2.out ga (by simp)); have HLT := Lib.hid (show msr a b ga < n by have := HSTO.out.2.1; have := HMS.out; omega); have HLG := Lib.hid (show ga.lin ∈ lin5 from HSTO.out.2.2.2.1); have g0 := ZA.out.cell 0; have g1 := ZA.out.cell 1; have g2 := ZA.out.cell 2; have g3 := ZA.out.cell 3; simp only [qB, qC, qD] at g0 g1 g2 g3; have q0 := Z8.out.cell 0; have q1 := Z8.out.cell 1; have q2 := Z8.out.cell 2; have q3 := Z8.out.cell 3; simp only [qB, qC, qD] at q0 q1 q2 q3; have f0 := Z8.out.frozen 0; have f1 := Z8.out.frozen 1; have f2 := Z8.out.frozen 2; have f3 := Z8.out.frozen 3; have ZE := Lib.hid (set4z_ (.int .i64 ga.tick) (.int .i64 ga.cls) (.int .i64 ga.num) (.string (bs ga.lin)) Z8.out); have BE := Lib.hid (low4z_ (.int .i64 ga.tick) (.int .i64 ga.cls) (.int .i64 ga.num) (.string (bs ga.lin)) B8.out HWL.out); have OE := Lib.hid (own_same O8.out fun z hz => own4_ (g := kb) (.int .i64 ga.tick) (.int .i64 ga.cls) (.int .i64 ga.num) (.string (bs ga.lin)) w12 (fun e => by have := own_ge O8.out (e ▸ hz); have := HKB'.out; omega)); have SE := Lib.hid (show B ≤ ((((w12.setCell ⟨kb, 0, none⟩ (.int .i64 ga.tick)).setCell ⟨kb, 1, none⟩ (.int .i64 ga.cls)).setCell ⟨kb, 2, none⟩ (.int .i64 ga.num)).setCell ⟨kb, 3, none⟩ (.string (bs ga.lin))).heap.size from Nat.le_trans S8.out (low4z_ (g := kb) (.int .i64 ga.tick) (.int .i64 ga.cls) (.int .i64 ga.num) (.string (bs ga.lin)) (Below.refl 0 w12) (Nat.zero_le _)).size)
              go_wp2_with fail
              clear g0 g1 g2 g3 q0 q1 q2 q3 f0 f1 f2 f3; generalize ((((w12.setCell ⟨kb, 0, none⟩ (.int .i64 ga.tick)).setCell ⟨kb, 1, none⟩ (.int .i64 ga.cls)).setCell ⟨kb, 2, none⟩ (.int .i64 ga.num)).setCell ⟨kb, 3, none⟩ (.string (bs ga.lin))) = W9 at *
              go_roundw
              case rel => exact ⟨n, ga, out ++ [y], OE.out, HE.out, HLT.out, HY2.out, HLG.out, ZE.out, BE.out, SE.out⟩
              case measure => exact HLV.out
            | true =>
              have HLGA := Lib.hid HGA.out; have HLGB := Lib.hid HGB.out; have HKC := Lib.hid (fun W => key_compare gb ga W (HLGB.out rfl) (HLGA.out rfl))
              unfold kyV at HKC
              obtain ⟨cm, hcm⟩ : ∃ cm, cmpK gb ga = cm := ⟨_, rfl⟩; rw [hcm] at HKC HEF3 HST2; clear hcm; have g0 := ZA.out.cell 0; have g1 := ZA.out.cell 1; have g2 := ZA.out.cell 2; have g3 := ZA.out.cell 3; simp only [qB, qC, qD] at g0 g1 g2 g3; have u0 := ZB.out.cell 0; have u1 := ZB.out.cell 1; have u2 := ZB.out.cell 2; have u3 := ZB.out.cell 3; simp only [qB, qC, qD] at u0 u1 u2 u3
              by_cases hc : 0 < cm
              · have e1 : decide (0 < cm) = true := decide_eq_true hc
                have HE := Lib.hid (show expA a b k0 = expF a b n gb (out ++ [y]) by rw [HEF3.out]; simp [hc]); have HO : Hid (∀ (α : Type) (f : Option Ky → α), f (if true = true then some gb else none) = f (some gb)) := Lib.hid (fun _ _ => rfl); have HSTO := Lib.hid (HST2.out gb (by simp [hc])); have HLT := Lib.hid (show msr a b gb < n by have := HSTO.out.2.1; have := HMS.out; omega); have HLG := Lib.hid (show gb.lin ∈ lin5 from HSTO.out.2.2.2.1); clear hc
                go_upto_region 19 with (go_at_call 11; refine (HKC.out _).mono ?_; rintro e w13 ⟨rfl, hb⟩; replace Z8 := Lib.hid (Z8.out.next hb Z8.out.lt); replace ZA := Lib.hid (ZA.out.next hb ZA.out.lt); replace ZB := Lib.hid (ZB.out.next hb ZB.out.lt); replace O8 := Lib.hid (own_next O8.out hb); replace B8 := Lib.hid (B8.out.trans (hb.mono B8.out.size)); replace S8 := Lib.hid (Nat.le_trans S8.out hb.size); clear hb; clear g0 g1 g2 g3 u0 u1 u2 u3)
                have g0 := ZB.out.cell 0; have g1 := ZB.out.cell 1; have g2 := ZB.out.cell 2; have g3 := ZB.out.cell 3; simp only [qB, qC, qD] at g0 g1 g2 g3; have q0 := Z8.out.cell 0; have q1 := Z8.out.cell 1; have q2 := Z8.out.cell 2; have q3 := Z8.out.cell 3; simp only [qB, qC, qD] at q0 q1 q2 q3; have f0 := Z8.out.frozen 0; have f1 := Z8.out.frozen 1; have f2 := Z8.out.frozen 2; have f3 := Z8.out.frozen 3; have ZE := Lib.hid (set4z_ (.int .i64 gb.tick) (.int .i64 gb.cls) (.int .i64 gb.num) (.string (bs gb.lin)) Z8.out); have BE := Lib.hid (low4z_ (.int .i64 gb.tick) (.int .i64 gb.cls) (.int .i64 gb.num) (.string (bs gb.lin)) B8.out HWL.out); have OE := Lib.hid (own_same O8.out fun z hz => own4_ (g := kb) (.int .i64 gb.tick) (.int .i64 gb.cls) (.int .i64 gb.num) (.string (bs gb.lin)) w13 (fun e => by have := own_ge O8.out (e ▸ hz); have := HKB'.out; omega)); have SE := Lib.hid (show B ≤ ((((w13.setCell ⟨kb, 0, none⟩ (.int .i64 gb.tick)).setCell ⟨kb, 1, none⟩ (.int .i64 gb.cls)).setCell ⟨kb, 2, none⟩ (.int .i64 gb.num)).setCell ⟨kb, 3, none⟩ (.string (bs gb.lin))).heap.size from Nat.le_trans S8.out (low4z_ (g := kb) (.int .i64 gb.tick) (.int .i64 gb.cls) (.int .i64 gb.num) (.string (bs gb.lin)) (Below.refl 0 w13) (Nat.zero_le _)).size)
                go_wp2_with fail
                clear g0 g1 g2 g3 q0 q1 q2 q3 f0 f1 f2 f3; generalize ((((w13.setCell ⟨kb, 0, none⟩ (.int .i64 gb.tick)).setCell ⟨kb, 1, none⟩ (.int .i64 gb.cls)).setCell ⟨kb, 2, none⟩ (.int .i64 gb.num)).setCell ⟨kb, 3, none⟩ (.string (bs gb.lin))) = W9 at *
                go_roundw
                case rel => exact ⟨n, gb, out ++ [y], OE.out, HE.out, HLT.out, HY2.out, HLG.out, ZE.out, BE.out, SE.out⟩
                case measure => exact HLV.out
              · have e1 : decide (0 < cm) = false := decide_eq_false hc
                have HE := Lib.hid (show expA a b k0 = expF a b n ga (out ++ [y]) by rw [HEF3.out]; simp [hc]); have HO : Hid (∀ (α : Type) (f : Option Ky → α), f (if true = true then some ga else none) = f (some ga)) := Lib.hid (fun _ _ => rfl); have HSTO := Lib.hid (HST2.out ga (by simp [hc])); have HLT := Lib.hid (show msr a b ga < n by have := HSTO.out.2.1; have := HMS.out; omega); have HLG := Lib.hid (show ga.lin ∈ lin5 from HSTO.out.2.2.2.1); clear hc
                go_upto_region 15 with (go_at_call 11; refine (HKC.out _).mono ?_; rintro e w13 ⟨rfl, hb⟩; replace Z8 := Lib.hid (Z8.out.next hb Z8.out.lt); replace ZA := Lib.hid (ZA.out.next hb ZA.out.lt); replace ZB := Lib.hid (ZB.out.next hb ZB.out.lt); replace O8 := Lib.hid (own_next O8.out hb); replace B8 := Lib.hid (B8.out.trans (hb.mono B8.out.size)); replace S8 := Lib.hid (Nat.le_trans S8.out hb.size); clear hb; clear g0 g1 g2 g3 u0 u1 u2 u3)
                have g0 := ZA.out.cell 0; have g1 := ZA.out.cell 1; have g2 := ZA.out.cell 2; have g3 := ZA.out.cell 3; simp only [qB, qC, qD] at g0 g1 g2 g3; have q0 := Z8.out.cell 0; have q1 := Z8.out.cell 1; have q2 := Z8.out.cell 2; have q3 := Z8.out.cell 3; simp only [qB, qC, qD] at q0 q1 q2 q3; have f0 := Z8.out.frozen 0; have f1 := Z8.out.frozen 1; have f2 := Z8.out.frozen 2; have f3 := Z8.out.frozen 3; have ZE := Lib.hid (set4z_ (.int .i64 ga.tick) (.int .i64 ga.cls) (.int .i64 ga.num) (.string (bs ga.lin)) Z8.out); have BE := Lib.hid (low4z_ (.int .i64 ga.tick) (.int .i64 ga.cls) (.int .i64 ga.num) (.string (bs ga.lin)) B8.out HWL.out); have OE := Lib.hid (own_same O8.out fun z hz => own4_ (g := kb) (.int .i64 ga.tick) (.int .i64 ga.cls) (.int .i64 ga.num) (.string (bs ga.lin)) w13 (fun e => by have := own_ge O8.out (e ▸ hz); have := HKB'.out; omega)); have SE := Lib.hid (show B ≤ ((((w13.setCell ⟨kb, 0, none⟩ (.int .i64 ga.tick)).setCell ⟨kb, 1, none⟩ (.int .i64 ga.cls)).setCell ⟨kb, 2, none⟩ (.int .i64 ga.num)).setCell ⟨kb, 3, none⟩ (.string (bs ga.lin))).heap.size from Nat.le_trans S8.out (low4z_ (g := kb) (.int .i64 ga.tick) (.int .i64 ga.cls) (.int .i64 ga.num) (.string (bs ga.lin)) (Below.refl 0 w13) (Nat.zero_le _)).size)
                go_wp2_with fail
                clear g0 g1 g2 g3 q0 q1 q2 q3 f0 f1 f2 f3; generalize ((((w13.setCell ⟨kb, 0, none⟩ (.int .i64 ga.tick)).setCell ⟨kb, 1, none⟩ (.int .i64 ga.cls)).setCell ⟨kb, 2, none⟩ (.int .i64 ga.num)).setCell ⟨kb, 3, none⟩ (.string (bs ga.lin))) = W9 at *
                go_roundw
                case rel => exact ⟨n, ga, out ++ [y], OE.out, HE.out, HLT.out, HY2.out, HLG.out, ZE.out, BE.out, SE.out⟩
                case measure => exact HLV.out
    · have HE := Lib.hid (show expA a b k0 = ([], 10) by
        rw [HEX.out, HEF.out, if_pos he.1]
        split
        · rename_i ho
          rcases he.2 with h | h
          · rw [h]
          · rw [ho] at h; exact absurd h (Nat.lt_irrefl 0)
        · rfl)
      have e1 : decide (er = 0) = false := decide_eq_false he.1; rw [e1] at HRR; clear e1
      by_cases he2 : er = 10
      · have e2 : decide (er = 10) = true := decide_eq_true he2
        rw [e2] at HRR; clear e2 he he2
        go_upto_region 3 with (go_at_call 10; refine (HRR.out _ HB.out).mono ?_; rintro e w4 ⟨rfl, hb⟩; have B4 := Lib.hid hb; clear hb; clear kk0 kk1 kk2 kk3)
        have Z5 := Lib.hid (Z.out.next (HBA.out w4 B4.out) Z.out.lt); have B5 := Lib.hid (HB.out.trans ((HBA.out w4 B4.out).mono HB.out.size)); have O5 := Lib.hid (own_next OW.out (HBA.out w4 B4.out)); have ZR := Lib.hid (Blk.new w4 47 #[.int .i64 y.key.tick, .int .i64 y.key.cls, .int .i64 y.key.num, .string (bs y.key.lin), .int .i64 y.kind, .int .i64 y.name.kind, .string (bs y.name.owner), .int .i64 y.name.num, .int .i64 y.name.idx, .string (bs y.name.text)]); have HS5 := Lib.hid (Nat.le_trans HS.out (HBA.out w4 B4.out).size); have HRB := Lib.hid (show wr.heap.size ≤ w4.heap.size from B4.out.size); have HRS4 := Lib.hid (show B ≤ w4.heap.size from Nat.le_trans HS.out B4.out.size); clear B4; generalize w4.alloc (.cells #[.int .i64 y.key.tick, .int .i64 y.key.cls, .int .i64 y.key.num, .string (bs y.key.lin), .int .i64 y.kind, .int .i64 y.name.kind, .string (bs y.name.owner), .int .i64 y.name.num, .int .i64 y.name.idx, .string (bs y.name.text)] 47) = w5 at *; obtain ⟨rb, hrb⟩ : ∃ rb, w4.heap.size = rb := ⟨_, rfl⟩; rw [hrb] at ZR HRB HRS4 ⊢; clear hrb
        go_wp2_with fail
        go_ret2
        exact ⟨_, by rw [HE.out]; rfl, by rw [HE.out]; exact RdP.nil, B5.out⟩
      · have e2 : decide (er = 10) = false := decide_eq_false he2
        rw [e2] at HRR
        have hp0 : 0 < out.length := by
          rcases he.2 with h | h
          · exact absurd h he2
          · exact h
        have e3 : decide ((0 : Int) < (out.length : Int)) = true := decide_eq_true (by omega); clear e2 he he2
        go_upto_region 3 with (go_at_call 10; refine (HRR.out _ HB.out).mono ?_; rintro e w4 ⟨rfl, hb⟩; have B4 := Lib.hid hb; clear hb; clear kk0 kk1 kk2 kk3)
        have Z5 := Lib.hid (Z.out.next (HBA.out w4 B4.out) Z.out.lt); have B5 := Lib.hid (HB.out.trans ((HBA.out w4 B4.out).mono HB.out.size)); have O5 := Lib.hid (own_next OW.out (HBA.out w4 B4.out)); have ZR := Lib.hid (Blk.new w4 47 #[.int .i64 y.key.tick, .int .i64 y.key.cls, .int .i64 y.key.num, .string (bs y.key.lin), .int .i64 y.kind, .int .i64 y.name.kind, .string (bs y.name.owner), .int .i64 y.name.num, .int .i64 y.name.idx, .string (bs y.name.text)]); have HS5 := Lib.hid (Nat.le_trans HS.out (HBA.out w4 B4.out).size); have HRB := Lib.hid (show wr.heap.size ≤ w4.heap.size from B4.out.size); have HRS4 := Lib.hid (show B ≤ w4.heap.size from Nat.le_trans HS.out B4.out.size); clear B4; generalize w4.alloc (.cells #[.int .i64 y.key.tick, .int .i64 y.key.cls, .int .i64 y.key.num, .string (bs y.key.lin), .int .i64 y.kind, .int .i64 y.name.kind, .string (bs y.name.owner), .int .i64 y.name.num, .int .i64 y.name.idx, .string (bs y.name.text)] 47) = w5 at *; obtain ⟨rb, hrb⟩ : ∃ rb, w4.heap.size = rb := ⟨_, rfl⟩; rw [hrb] at ZR HRB HRS4 ⊢; clear hrb
        go_wp2_with fail
        go_ret2
        exact ⟨_, by rw [HE.out]; rfl, by rw [HE.out]; exact RdP.nil, B5.out⟩
    · obtain ⟨he, hol⟩ := he
      subst he
      have HE := Lib.hid (show expA a b k0 = ([], 8) by
        rw [HEX.out, HEF.out, if_pos (by decide), if_pos (List.length_eq_zero_iff.1 hol)])
      have e1 : decide ((8 : Int) = 0) = false := rfl; have e2 : decide ((8 : Int) = 10) = false := rfl; have e3 : decide ((0 : Int) < (out.length : Int)) = false := decide_eq_false (by omega); rw [e1, e2] at HRR
      have hn0 : ¬ 0 < out.length := by omega
      clear e1 e2 hol
      go_upto_region 3 with (go_at_call 10; refine (HRR.out _ HB.out).mono ?_; rintro e w4 ⟨rfl, hb⟩; have B4 := Lib.hid hb; clear hb; clear kk0 kk1 kk2 kk3)
      have Z5 := Lib.hid (Z.out.next (HBA.out w4 B4.out) Z.out.lt); have B5 := Lib.hid (HB.out.trans ((HBA.out w4 B4.out).mono HB.out.size)); have O5 := Lib.hid (own_next OW.out (HBA.out w4 B4.out)); have ZR := Lib.hid (Blk.new w4 47 #[.int .i64 y.key.tick, .int .i64 y.key.cls, .int .i64 y.key.num, .string (bs y.key.lin), .int .i64 y.kind, .int .i64 y.name.kind, .string (bs y.name.owner), .int .i64 y.name.num, .int .i64 y.name.idx, .string (bs y.name.text)]); have HS5 := Lib.hid (Nat.le_trans HS.out (HBA.out w4 B4.out).size); have HRB := Lib.hid (show wr.heap.size ≤ w4.heap.size from B4.out.size); have HRS4 := Lib.hid (show B ≤ w4.heap.size from Nat.le_trans HS.out B4.out.size); clear B4; generalize w4.alloc (.cells #[.int .i64 y.key.tick, .int .i64 y.key.cls, .int .i64 y.key.num, .string (bs y.key.lin), .int .i64 y.kind, .int .i64 y.name.kind, .string (bs y.name.owner), .int .i64 y.name.num, .int .i64 y.name.idx, .string (bs y.name.text)] 47) = w5 at *; obtain ⟨rb, hrb⟩ : ∃ rb, w4.heap.size = rb := ⟨_, rfl⟩; rw [hrb] at ZR HRB HRS4 ⊢; clear hrb
      go_wp2_with fail
      go_ret2
      exact ⟨_, by rw [HE.out]; rfl, by rw [HE.out]; exact RdP.nil, B5.out⟩
end Go.Proofs.YtmjkcanjfjfkfaaGreat
namespace Go.Proofs.YtmjkcanjfjfkfaaGreat
set_option linter.unusedSimpArgs false
set_option linter.unusedVariables false
def inD (ds : List De) (ins i : Nat) : Bool := match ds[i]? with
  | none => false
  | some d => decide (d.who % 4 = 0) && !bitN ins i
theorem inF_app (ds : List De) (ins t : Nat) (st : S47 × List Ac) (i : Nat) : ∃ L, (inF ds ins t st i).2 = st.2 ++ L ∧ L.map Ac.key = ([i].filter (inD ds ins)).map (kyI t) := by
  unfold inF
  cases hi : ds[i]? with
  | none => exact ⟨[], by simp, by simp [inD, hi]⟩
  | some d =>
    simp only
    by_cases hc : d.who % 4 = 0 ∧ bitN ins i = false
    · rw [if_pos hc]
      exact ⟨[prf st.1 (kyI t i) d], rfl, by simp [inD, hi, hc.1, hc.2, prf]⟩
    · rw [if_neg hc]
      refine ⟨[], by simp, ?_⟩
      have : inD ds ins i = false := by
        unfold inD
        rw [hi]
        simp only
        by_cases h1 : d.who % 4 = 0
        · have h2 : bitN ins i = true := by
            cases hb : bitN ins i with
            | true => rfl
            | false => exact absurd ⟨h1, hb⟩ hc
          rw [h2]; simp
        · rw [decide_eq_false h1]; rfl
      simp [this]
theorem ins_app (ds : List De) (ins t : Nat) : ∀ (pl : List Nat) (st : S47 × List Ac), ∃ L, (pl.foldl (inF ds ins t) st).2 = st.2 ++ L ∧ L.map Ac.key = (pl.filter (inD ds ins)).map (kyI t)
  | [], st => ⟨[], by simp, rfl⟩
  | i :: pl, st => by
    obtain ⟨L, h1, h2⟩ := inF_app ds ins t st i; obtain ⟨L', h3, h4⟩ := ins_app ds ins t pl (inF ds ins t st i)
    refine ⟨L ++ L', by rw [List.foldl_cons, h3, h1, List.append_assoc], ?_⟩
    rw [List.map_append, h2, h4, ← List.map_append, ← List.filter_append]
    rfl
theorem prF_app (ds : List De) (p : Nat → Bool) (t : Nat) (pl : List Nat) (st : S47 × List Ac) (n : Nat) : ∃ L, (prF ds p t pl st n).2 = st.2 ++ L ∧ L.map Ac.key = ([n].filter fun n => (fstD ds n p pl).isSome).map (kyP t) := by
  unfold prF
  cases hf : fstD ds n p pl with
  | none => exact ⟨[], by simp, by simp [hf]⟩
  | some d => exact ⟨[prf st.1 (kyP t n) d], rfl, by simp [hf, prf]⟩
theorem prs_app (ds : List De) (p : Nat → Bool) (t : Nat) (pl : List Nat) : ∀ (ns : List Nat) (st : S47 × List Ac), ∃ L, (ns.foldl (prF ds p t pl) st).2 = st.2 ++ L ∧ L.map Ac.key = (ns.filter fun n => (fstD ds n p pl).isSome).map (kyP t)
  | [], st => ⟨[], by simp, rfl⟩
  | n :: ns, st => by
    obtain ⟨L, h1, h2⟩ := prF_app ds p t pl st n; obtain ⟨L', h3, h4⟩ := prs_app ds p t pl ns (prF ds p t pl st n)
    refine ⟨L ++ L', by rw [List.foldl_cons, h3, h1, List.append_assoc], ?_⟩
    rw [List.map_append, h2, h4, ← List.map_append, ← List.filter_append]
    rfl
def sI (ds : List De) (ins prs t : Nat) : S47 × List Ac := (places ds.length t).foldl (inF ds ins t) (runTo ds ins prs t)
def pT (ds : List De) (ins prs t : Nat) : Nat → Bool := fun n => thr (sI ds ins prs t).1 n && !bitN prs n
def tkI (ds : List De) (ins t : Nat) : List Ky := ((places ds.length t).filter (inD ds ins)).map (kyI t)
def tkP (ds : List De) (ins prs t : Nat) : List Ky := ([1, 2, 3].filter fun n => (fstD ds n (pT ds ins prs t) (places ds.length t)).isSome).map (kyP t)
theorem sI_app (ds : List De) (ins prs t : Nat) : ∃ L, (sI ds ins prs t).2 = (runTo ds ins prs t).2 ++ L ∧ L.map Ac.key = tkI ds ins t := ins_app ds ins t _ _
theorem run_app (ds : List De) (ins prs t : Nat) : ∃ L, (runTo ds ins prs (t + 1)).2 = (sI ds ins prs t).2 ++ L ∧ L.map Ac.key = tkP ds ins prs t := by
  rw [runTo_succ]
  exact prs_app ds (pT ds ins prs t) t (places ds.length t) [1, 2, 3] (sI ds ins prs t)
theorem tkI_mem {ds : List De} {ins t : Nat} {k : Ky} : k ∈ tkI ds ins t ↔ ∃ i, i ∈ places ds.length t ∧ inD ds ins i = true ∧ k = kyI t i := by
  unfold tkI
  rw [List.mem_map]
  constructor
  · rintro ⟨i, hi, rfl⟩
    obtain ⟨h1, h2⟩ := List.mem_filter.1 hi
    exact ⟨i, h1, h2, rfl⟩
  · rintro ⟨i, h1, h2, rfl⟩
    exact ⟨i, List.mem_filter.2 ⟨h1, h2⟩, rfl⟩
theorem tkP_mem {ds : List De} {ins prs t : Nat} {k : Ky} : k ∈ tkP ds ins prs t ↔ ∃ n, (1 ≤ n ∧ n ≤ 3) ∧ (fstD ds n (pT ds ins prs t) (places ds.length t)).isSome = true ∧ k = kyP t n := by
  unfold tkP
  rw [List.mem_map]
  constructor
  · rintro ⟨n, hn, rfl⟩
    obtain ⟨h1, h2⟩ := List.mem_filter.1 hn
    refine ⟨n, ?_, h2, rfl⟩
    simp at h1
    omega
  · rintro ⟨n, h1, h2, rfl⟩
    refine ⟨n, List.mem_filter.2 ⟨?_, h2⟩, rfl⟩
    simp
    omega
theorem run_mem (ds : List De) (ins prs : Nat) {k : Ky} : ∀ m, k ∈ (runTo ds ins prs m).2.map Ac.key ↔ ∃ t, t < m ∧ (k ∈ tkI ds ins t ∨ k ∈ tkP ds ins prs t)
  | 0 => by
    constructor
    · intro h; cases h
    · rintro ⟨t, h, _⟩; omega
  | m + 1 => by
    obtain ⟨L, h1, h2⟩ := run_app ds ins prs m; obtain ⟨L', h3, h4⟩ := sI_app ds ins prs m; rw [h1, h3, List.map_append, List.map_append, h2, h4, List.mem_append, List.mem_append, run_mem ds ins prs m]
    constructor
    · rintro ((⟨t, h, g⟩ | h) | h)
      · exact ⟨t, by omega, g⟩
      · exact ⟨m, by omega, .inl h⟩
      · exact ⟨m, by omega, .inr h⟩
    · rintro ⟨t, h, g⟩
      rcases Nat.lt_or_ge t m with ht | ht
      · exact .inl (.inl ⟨t, ht, g⟩)
      · obtain rfl : t = m := by omega
        rcases g with g | g
        · exact .inl (.inr g)
        · exact .inr g
theorem run_later (ds : List De) (ins prs t : Nat) : ∀ m, t + 1 ≤ m → ∃ L, (runTo ds ins prs m).2 = (sI ds ins prs t).2 ++ L ∧ ∀ k ∈ L.map Ac.key, (k.tick = (t : Int) ∧ k.cls = 2) ∨ (t : Int) < k.tick
  | 0, h => by omega
  | m + 1, h => by
    obtain ⟨L, h1, h2⟩ := run_app ds ins prs m
    have hP : ∀ k ∈ L.map Ac.key, k.tick = (m : Int) ∧ k.cls = 2 := fun k hk => by
      rw [h2] at hk; obtain ⟨n, _, _, rfl⟩ := tkP_mem.1 hk
      exact ⟨rfl, rfl⟩
    rcases Nat.eq_or_lt_of_le h with e | hlt
    · obtain rfl : t = m := by omega
      exact ⟨L, h1, fun k hk => .inl (hP k hk)⟩
    · obtain ⟨L0, g1, g2⟩ := run_later ds ins prs t m (by omega)
      obtain ⟨L', h3, h4⟩ := sI_app ds ins prs m
      refine ⟨L0 ++ (L' ++ L), by rw [h1, h3, g1]; simp only [List.append_assoc], fun k hk => ?_⟩
      rw [List.map_append, List.map_append, List.mem_append, List.mem_append] at hk
      rcases hk with hk | hk | hk
      · exact g2 k hk
      · rw [h4] at hk
        obtain ⟨i, _, _, rfl⟩ := tkI_mem.1 hk
        right
        show (t : Int) < (m : Int)
        omega
      · have := hP k hk
        right
        rw [this.1]
        omega
theorem sI_early (ds : List De) (ins prs t : Nat) {k : Ky} (hk : k ∈ (sI ds ins prs t).2.map Ac.key) : k.tick < (t : Int) ∨ (k.tick = (t : Int) ∧ k.cls = 0) := by
  obtain ⟨L', h3, h4⟩ := sI_app ds ins prs t; rw [h3, List.map_append, List.mem_append, h4] at hk
  rcases hk with hk | hk
  · left
    obtain ⟨u, hu, g⟩ := (run_mem ds ins prs t).1 hk
    rcases g with g | g
    · obtain ⟨i, _, _, rfl⟩ := tkI_mem.1 g
      show (u : Int) < t
      omega
    · obtain ⟨n, _, _, rfl⟩ := tkP_mem.1 g
      show (u : Int) < t
      omega
  · obtain ⟨i, _, _, rfl⟩ := tkI_mem.1 hk
    exact .inr ⟨rfl, rfl⟩
theorem slo_early {k : Ky} {t : Int} (h : k.tick < t ∨ (k.tick = t ∧ k.cls = 0)) : cmpK k (sloK t) < 0 := by
  unfold cmpK sloK
  rw [or4_neg]
  rcases h with h | ⟨h1, h2⟩
  · exact .inl (cmpI_lt.2 h)
  · refine .inr ⟨cmpI_eq.2 h1, .inl (cmpI_lt.2 ?_)⟩
    rw [h2]
    show (0 : Int) < 1
    decide
theorem slo_late {k : Ky} {t : Int} (h : (k.tick = t ∧ k.cls = 2) ∨ t < k.tick) : ¬ cmpK k (sloK t) < 0 := by
  unfold cmpK sloK
  rw [or4_neg]
  intro hc
  rcases hc with hc | ⟨hc, hd⟩
  · have := cmpI_lt.1 hc
    simp only at this
    omega
  · have h1 := cmpI_eq.1 hc
    simp only at h1
    rcases h with ⟨_, h3⟩ | h
    · rcases hd with hd | ⟨hd, _⟩
      · have := cmpI_lt.1 hd
        simp only at this
        omega
      · have := cmpI_eq.1 hd
        simp only at this
        omega
    · omega
theorem stB_slo {ds : List De} (hd : DeOk ds) (ins prs : Nat) {t : Nat} (ht : t < ticks ds) : stB (runS ds ins prs) (sloK t) = (sI ds ins prs t).1 := by
  obtain ⟨L, h1, h2⟩ := run_later ds ins prs t (ticks ds) ht; have hl : runS ds ins prs = (sI ds ins prs t).2 ++ L := h1; have htk := ticks_le ds; have htr : Tr2 ds (sI ds ins prs t).1 (sI ds ins prs t).2 := tr2_in hd (by omega) _ _ (tr2_to hd ins prs t (by omega))
  have hb : befK (runS ds ins prs) (sloK t) = (sI ds ins prs t).2.length := by
    refine befK_eq (runS_pw hd ins prs) (by rw [hl, List.length_append]; omega) (fun i h hi => ?_) (fun i h hi => ?_)
    · refine slo_early (sI_early ds ins prs t ?_)
      simp only [hl, List.getElem_append_left hi]
      exact List.mem_map.2 ⟨_, List.getElem_mem hi, rfl⟩
    · refine slo_late (h2 _ ?_)
      simp only [hl, List.getElem_append_right hi]
      exact List.mem_map.2 ⟨_, List.getElem_mem _, rfl⟩
  unfold stB
  rw [hb, hl, List.take_left', htr.st]
  rfl
theorem hasK_run {ds : List De} (hd : DeOk ds) (ins prs : Nat) {k : Ky} : hasK (runS ds ins prs) k = true ↔ ∃ t, t < ticks ds ∧ (k ∈ tkI ds ins t ∨ k ∈ tkP ds ins prs t) := by
  rw [hasK_iff (runS_pw hd ins prs), ← run_mem ds ins prs (ticks ds), List.mem_map]
  rfl
theorem fstD_congr {ds : List De} {n : Nat} {p p' : Nat → Bool} (h : p n = p' n) : ∀ pl : List Nat, fstD ds n p pl = fstD ds n p' pl
  | [] => rfl
  | i :: pl => by
    unfold fstD
    rw [h, fstD_congr h pl]
theorem places_lt {N t i : Nat} (h : i ∈ places N t) : i < 20 ∧ i < N := by
  unfold places at h
  obtain ⟨j, hj, rfl⟩ := List.mem_map.1 h; have := List.mem_range.1 hj
  omega
def TakenK (i1 p1 i2 p2 : Nat) (k : Ky) : Prop := (k.cls = 0 ∧ ∃ i : Nat, i < 20 ∧ k.num = (i : Int) + 1 ∧ bitN i1 i ≠ bitN i2 i) ∨ (k.cls = 2 ∧ ∃ n : Nat, 1 ≤ n ∧ n ≤ 3 ∧ k.lin = whoS n ∧ bitN p1 n ≠ bitN p2 n)
theorem taken_half {ds : List De} (hd : DeOk ds) {i1 p1 i2 p2 : Nat} {k : Ky} (h1 : hasK (runS ds i1 p1) k = true) (h2 : hasK (runS ds i2 p2) k = false)
    (hs : k.cls = 0 ∨ stB (runS ds i1 p1) (sloK k.tick) (prcN k.lin) = stB (runS ds i2 p2) (sloK k.tick) (prcN k.lin)) : TakenK i1 p1 i2 p2 k := by
  have hno : ∀ t, t < ticks ds → k ∈ tkI ds i2 t ∨ k ∈ tkP ds i2 p2 t → False := fun t ht h => by
    rw [(hasK_run hd i2 p2).2 ⟨t, ht, h⟩] at h2
    cases h2
  obtain ⟨t, ht, h | h⟩ := (hasK_run hd i1 p1).1 h1
  · left
    obtain ⟨i, hi, hin, rfl⟩ := tkI_mem.1 h
    refine ⟨rfl, i, (places_lt hi).1, rfl, fun e => hno t ht (.inl (tkI_mem.2 ⟨i, hi, ?_, rfl⟩))⟩
    unfold inD at hin ⊢
    rw [← e]
    exact hin
  · right
    obtain ⟨n, hn, hso, rfl⟩ := tkP_mem.1 h
    refine ⟨rfl, n, hn.1, hn.2, rfl, fun e => hno t ht (.inr (tkP_mem.2 ⟨n, hn, ?_, rfl⟩))⟩
    rw [← hso]
    congr 1
    refine fstD_congr ?_ _
    rcases hs with hs | hs
    · exact absurd hs (by show ¬ (2 : Int) = 0; decide)
    · have hs2 : stB (runS ds i1 p1) (sloK (t : Int)) (prcN (whoS n)) = stB (runS ds i2 p2) (sloK (t : Int)) (prcN (whoS n)) := hs
      rw [stB_slo hd i1 p1 ht, stB_slo hd i2 p2 ht] at hs2
      unfold pT thr
      rw [hs2, e]
theorem TakenK.symm {i1 p1 i2 p2 : Nat} {k : Ky} (h : TakenK i1 p1 i2 p2 k) : TakenK i2 p2 i1 p1 k := by
  rcases h with ⟨h1, i, h2, h3, h4⟩ | ⟨h1, n, h2, h3, h4, h5⟩
  · exact .inl ⟨h1, i, h2, h3, fun e => h4 e.symm⟩
  · exact .inr ⟨h1, n, h2, h3, h4, fun e => h5 e.symm⟩
theorem runS_ok {ds : List De} (hd : DeOk ds) (ins prs : Nat) : RunOk (runS ds ins prs) := by
  obtain ⟨_, h2, h3, h4⟩ := runS_good hd ins prs
  exact ⟨runS_pw hd ins prs, h4, h2, h3⟩
theorem expA_law {ds : List De} (hd : DeOk ds) (i1 p1 i2 p2 : Nat) (k : Ky) :
    ((rsnE (runS ds i1 p1) (runS ds i2 p2) k).2 ≠ 0 ∧ expA (runS ds i1 p1) (runS ds i2 p2) k = ([], 8)) ∨
    ((rsnE (runS ds i1 p1) (runS ds i2 p2) k).2 = 0 ∧ (expA (runS ds i1 p1) (runS ds i2 p2) k).2 = 0 ∧ DecR (expA (runS ds i1 p1) (runS ds i2 p2) k).1 ∧ ∃ l' r, (expA (runS ds i1 p1) (runS ds i2 p2) k).1 = l' ++ [r] ∧ TakenK i1 p1 i2 p2 r.key) := by
  have ta := runS_tr2 hd i1 p1; have tb := runS_tr2 hd i2 p2; have oa := runS_ok hd i1 p1; have ob := runS_ok hd i2 p2
  rcases rsn_ok ta tb k with h | h
  · right
    obtain ⟨g1, g2, l', r, g3, g4, g5⟩ := expF_law ta tb oa ob (msr (runS ds i1 p1) (runS ds i2 p2) k + 1) k [] (Nat.lt_succ_self _) h (fun i hi => by simp at hi) (.inl rfl)
    refine ⟨h, g1, g2, l', r, g3, ?_⟩
    obtain ⟨q1, q2⟩ := rsn_last ta tb oa ob g4 g5
    rcases q1 with ⟨a1, a2⟩ | ⟨a1, a2⟩
    · exact taken_half hd a1 a2 q2
    · exact (taken_half hd a2 a1 (q2.imp id Eq.symm)).symm
  · left
    rw [h]
    refine ⟨by decide, ?_⟩
    unfold expA
    rw [expF_succ, if_pos (by rw [h]; decide), h]
    rfl
end Go.Proofs.YtmjkcanjfjfkfaaGreat
namespace Go.Proofs.YtmjkcanjfjfkfaaGreat
open Go.RowKit
set_option linter.unusedSimpArgs false
set_option linter.unusedVariables false
theorem RowW.app {α β : Type} {N : World → β → α → Prop} {w : World} {l l' : List α} {vs vs' : List β} (h : RowW N w l vs) (h' : RowW N w l' vs') : RowW N w (l ++ l') (vs ++ vs') := by
  refine ⟨by rw [List.length_append, List.length_append, h.1, h'.1], fun i x v h1 h2 => ?_⟩
  by_cases hi : i < l.length
  · rw [List.getElem?_append_left hi] at h1
    rw [List.getElem?_append_left (by rw [h.1]; exact hi)] at h2
    exact h.2 i x v h1 h2
  · rw [List.getElem?_append_right (by omega)] at h1
    rw [List.getElem?_append_right (by rw [h.1]; omega), h.1] at h2
    exact h'.2 _ x v h1 h2
theorem rowC_app {α β : Type} (f : α → β → List Value) : ∀ (l : List α) (vs : List β) (l' : List α) (vs' : List β), vs.length = l.length → rowC f (l ++ l') (vs ++ vs') = rowC f l vs ++ rowC f l' vs'
  | [], [], l', vs', _ => rfl
  | x :: l, v :: vs, l', vs', h => by
    simp only [List.cons_append, rowC, List.append_assoc]
    rw [rowC_app f l vs l' vs' (by simpa using h)]
  | [], _ :: _, _, _, h => by simp at h
  | _ :: _, [], _, _, h => by simp at h
theorem rowC_size {w : World} : ∀ {l : List Ac} {us : List (Value × Value)}, RowW NAc w l us → (rowC acC l us).length = l.length * 6 ∧ ∀ u ∈ rowC acC l us, u.oneCell' = true
  | [], [], _ => ⟨rfl, fun u hu => by cases hu⟩
  | a :: l, u :: us, h => by
    obtain ⟨hn1, hn2⟩ : NAc w u a := h.2 0 a u rfl rfl; obtain ⟨h1, h2⟩ := rowC_size (w := w) (l := l) (us := us) ⟨by simpa using h.1, fun i x v h3 h4 => h.2 (i + 1) x v (by simpa using h3) (by simpa using h4)⟩; obtain ⟨A1, c1, e1, _⟩ := RdP.form hn1; obtain ⟨A2, c2, e2, _⟩ := RdP.form hn2
    constructor
    · simp only [rowC, List.length_append, h1, List.length_cons, acC_len]
      omega
    · intro x hx
      simp only [rowC] at hx
      rcases List.mem_append.1 hx with hx | hx
      · unfold acC at hx
        rw [e1, e2] at hx
        simp only [List.mem_cons, List.not_mem_nil, or_false] at hx
        rcases hx with rfl | rfl | rfl | rfl | rfl | rfl <;> rfl
      · exact h2 x hx
  | [], _ :: _, h => by have := h.1; simp at this
  | _ :: _, [], h => by have := h.1; simp at this
theorem RowW.nx {w w' : World} {l : List Ac} {us : List (Value × Value)} (h : RowW NAc w l us) (hb : Below w.heap.size w w') : RowW NAc w' l us := h.imp fun _ _ => NAc.next hb
theorem own_set {w : World} {base : Nat} {e : TypeId} {size g n cap : Nat} {xs : List Value} (h : w.ownsRow base e size (.slice (some ⟨g, 0, none⟩) n cap) n xs) {j : Nat} (hj : j < n * size) (y : Value) : (w.setCell ⟨g, j, none⟩ y).ownsRow base e size (.slice (some ⟨g, 0, none⟩) n cap) n (xs.set j y) := by
  obtain ⟨h1, h2⟩ := h
  rcases h2 with ⟨h2, _⟩ | ⟨g', cap', cur, hv, h3, h4, h5, h6, h7, h8⟩
  · simp at h2
  · simp only [Value.slice.injEq, Option.some.injEq, Addr.mk.injEq, true_and, and_true] at hv
    obtain ⟨rfl, rfl⟩ := hv; have hb : Blk w g e cur := h4; have hs : Blk (w.setCell ⟨g, j, none⟩ y) g e (cur.setIfInBounds j y) := hb.set_ j y
    refine ⟨by rw [List.length_set]; exact h1, .inr ⟨g, cap, cur.setIfInBounds j y, rfl, h3, hs, h5, h6, by simpa using h7, ?_⟩⟩
    rw [← h8]
    simp only [Array.toList_setIfInBounds, List.take_set]
theorem own_block {w : World} {base : Nat} {e : TypeId} {size n cap : Nat} {ao : Option Addr} {xs : List Value} (h : w.ownsRow base e size (.slice ao n cap) n xs) (hn : 0 < n) : ∃ g, ao = some ⟨g, 0, none⟩ ∧ base ≤ g ∧ g < w.heap.size ∧ ∀ j, w.frozen? ⟨g, j, none⟩ = false := by
  rcases h.2 with ⟨_, h2⟩ | ⟨g, cap', cur, hv, h3, h4, _⟩
  · omega
  · injection hv with hv _ _
    have hb : Blk w g e cur := h4
    exact ⟨g, hv, h3, hb.lt, fun j => hb.frozen j⟩
theorem set_midR {A R C : List Value} {j : Nat} (hj : j < R.length) (v : Value) : (A ++ (R ++ C)).set (A.length + j) v = A ++ (R.set j v ++ C) := by
  rw [List.set_append_right _ _ (by omega), List.set_append_left _ _ (by omega)]
  congr 3
  omega
theorem flat_at (l : List Rs) {i : Nat} (hi : i < l.length) : l.flatMap rsC = (l.take i).flatMap rsC ++ (rsC l[i] ++ (l.drop (i + 1)).flatMap rsC) := by
  have : l = l.take i ++ l[i] :: l.drop (i + 1) := by rw [← List.drop_eq_getElem_cons hi, List.take_append_drop]
  conv => lhs; rw [this]
  rw [List.flatMap_append, List.flatMap_cons]
theorem flat_lenR (l : List Rs) : (l.flatMap rsC).length = l.length * 10 := by
  induction l with
  | nil => rfl
  | cons x l ih => rw [List.flatMap_cons, List.length_append, ih, rsC_len, List.length_cons]; omega
theorem flat_set (l : List Rs) {i : Nat} (hi : i < l.length) (r : Rs) : (l.set i r).flatMap rsC = (l.take i).flatMap rsC ++ (rsC r ++ (l.drop (i + 1)).flatMap rsC) := by
  rw [flat_at (l.set i r) (i := i) (by simpa using hi), List.take_set_of_le (Nat.le_refl _), List.drop_set_of_lt (by omega)]
  simp
theorem rs_one (l : List Rs) : ∀ u ∈ l.flatMap rsC, u.oneCell' = true := fun u hu => by
  obtain ⟨x, _, hx⟩ := List.mem_flatMap.1 hu
  unfold rsC at hx
  simp only [List.mem_cons, List.not_mem_nil, or_false] at hx
  rcases hx with rfl | rfl | rfl | rfl | rfl | rfl | rfl | rfl | rfl | rfl <;> rfl
theorem rs_set (l : List Rs) {i : Nat} (hi : i < l.length) {j : Nat} (hj : j < 10) (v : Value) (r : Rs) (hr : (rsC l[i]).set j v = rsC r) : (l.flatMap rsC).set (i * 10 + j) v = (l.set i r).flatMap rsC := by
  rw [flat_at l hi, flat_set l hi]
  have hl : ((l.take i).flatMap rsC).length = i * 10 := by rw [flat_lenR, List.length_take, Nat.min_eq_left (by omega)]
  rw [show i * 10 + j = ((l.take i).flatMap rsC).length + j by rw [hl], set_midR (by rw [rsC_len]; exact hj), hr]
theorem Rd.front {e : TypeId} {w : World} {A : Option Addr} {n c : Nat} {xs : List Value} (h : Rd e w (.slice A n c) n xs) {k : Nat} (hk : k ≤ n) (m : Nat) : Rd e w (.slice A k c) k (xs.take m) := by
  obtain ⟨A', c', hv, hc, hm, h0⟩ := h
  cases hv
  refine ⟨_, _, rfl, by omega, hm, ?_⟩
  rcases h0 with ⟨h1, h2⟩ | ⟨b, o, cs, fr, hA, hb, hx⟩
  · exact .inl ⟨by omega, by rw [h2]; simp⟩
  · refine .inr ⟨b, o, cs, fr, hA, hb, fun j u hu => hx j u ?_⟩
    rw [List.getElem?_take] at hu
    split at hu
    · exact hu
    · cases hu
theorem RdRs.front {w : World} {A : Option Addr} {c : Nat} {R : List Rs} (h : RdRs w (.slice A R.length c) R) {k : Nat} (hk : k ≤ R.length) : RdRs w (.slice A k c) (R.take k) := by
  have h1 : Rd 47 w (.slice A R.length c) R.length (R.flatMap rsC) := h; have h2 := Rd.front h1 hk (k * 10)
  have h3 : (R.flatMap rsC).take (k * 10) = (R.take k).flatMap rsC := by
    conv => lhs; rw [← List.take_append_drop k R]
    rw [List.flatMap_append, List.take_left']; rw [flat_lenR, List.length_take, Nat.min_eq_left hk]
  rw [h3] at h2
  have h4 : (R.take k).length = k := by rw [List.length_take, Nat.min_eq_left hk]
  show Rd 47 w (.slice A k c) (R.take k).length ((R.take k).flatMap rsC)
  rw [h4]
  exact h2
theorem rs_set5 (l : List Rs) {i : Nat} (hi : i < l.length) (n : Nm) : (((((l.flatMap rsC).set (i * 10 + 5) (.int .i64 n.kind)).set (i * 10 + 6) (.string (bs n.owner))).set (i * 10 + 7) (.int .i64 n.num)).set (i * 10 + 8) (.int .i64 n.idx)).set (i * 10 + 9) (.string (bs n.text)) = (l.set i ⟨l[i].key, l[i].kind, n⟩).flatMap rsC := by
  rw [flat_at l hi, flat_set l hi]
  have hl : ((l.take i).flatMap rsC).length = i * 10 := by rw [flat_lenR, List.length_take, Nat.min_eq_left (by omega)]
  rw [← hl, set_midR (by rw [rsC_len]; omega), set_midR (by simp [rsC_len]), set_midR (by simp [rsC_len]), set_midR (by simp [rsC_len]), set_midR (by simp [rsC_len])]
  rfl
theorem expF_pre (a b : List Ac) : ∀ (n : Nat) (k : Ky) (out : List Rs), (expF a b n k out).2 = 0 → ∃ t, (expF a b n k out).1 = out ++ t
  | 0, k, out, h => by simp [expF] at h
  | n + 1, k, out, h => by
    rw [expF] at h ⊢
    split at h
    · rename_i hc
      simp only at h
      split at h
      · exact absurd h hc
      · cases h
    · rename_i hc
      rw [if_neg hc]
      split at h
      · rename_i hn
        rw [if_pos hn]
        exact ⟨_, rfl⟩
      · rename_i hn
        rw [if_neg hn]
        split at h
        · cases h
        · rename_i o ho
          obtain ⟨t, ht⟩ := expF_pre a b n o _ h
          exact ⟨(rsnE a b k).1 :: t, by rw [ht]; simp⟩
theorem expA_first {a b : List Ac} {k : Ky} (h : (expA a b k).2 = 0) : ∃ t, (expA a b k).1 = (rsnE a b k).1 :: t ∧ (rsnE a b k).1.key = k := by
  unfold expA at h ⊢
  rw [expF_succ] at h ⊢
  split at h
  · rename_i hc
    simp only [if_true] at h
    exact absurd h hc
  · rename_i hc
    rw [if_neg hc]; have h0 : (rsnE a b k).2 = 0 := Decidable.not_not.1 hc
    unfold expR at h ⊢
    split at h
    · rename_i hn
      rw [if_pos hn]
      exact ⟨[], rfl, rsnE_key h0⟩
    · rename_i hn
      rw [if_neg hn]
      split at h
      · cases h
      · rename_i o ho
        obtain ⟨t, ht⟩ := expF_pre a b _ o _ h
        exact ⟨t, ht, rsnE_key h0⟩
theorem ver_self {a b : List Ac} {k : Ky} (h : (expA a b k).2 = 0) : verL a b (expA a b k).1 = true := by
  obtain ⟨t, h1, h2⟩ := expA_first h; rw [h1]
  show (decide ((expA a b (rsnE a b k).1.key).2 = 0) && decide ((expA a b (rsnE a b k).1.key).1 = (rsnE a b k).1 :: t)) = true
  rw [h2, h1, h]
  simp
theorem expF_lin {a b : List Ac} (oa : RunOk a) (ob : RunOk b) : ∀ (n : Nat) (k : Ky) (out : List Rs), (∀ r ∈ out, r.key.lin ∈ lin5) → ∀ r ∈ (expF a b n k out).1, r.key.lin ∈ lin5
  | 0, k, out, h => by simp [expF]
  | n + 1, k, out, h => by
    rw [expF_succ]
    split
    · intro r hr; cases hr
    · rename_i hc
      have h0 : (rsnE a b k).2 = 0 := Decidable.not_not.1 hc
      have h2 : ∀ r ∈ out ++ [(rsnE a b k).1], r.key.lin ∈ lin5 := fun r hr => by
        rcases List.mem_append.1 hr with hr | hr
        · exact h r hr
        · rw [List.mem_singleton] at hr
          subst hr; rw [rsnE_key h0]
          exact (rsnE_r oa ob h0).2.1
      unfold expR
      split
      · exact h2
      · split
        · intro r hr; cases hr
        · exact expF_lin oa ob n _ _ h2
theorem expA_lin {a b : List Ac} (oa : RunOk a) (ob : RunOk b) (k : Ky) : ∀ r ∈ (expA a b k).1, r.key.lin ∈ lin5 := expF_lin oa ob _ k [] (fun r hr => by cases hr)
end Go.Proofs.YtmjkcanjfjfkfaaGreat
namespace Go.Proofs.YtmjkcanjfjfkfaaGreat
open Go.RowKit Go.Deep
set_option linter.unusedSimpArgs false
set_option linter.unusedVariables false
section
variable {H : Type} {enc : TypeId × Value → H} {P : Program} {w : World} {base : Nat} {spare : Nat → Bool} {held : Bool}
theorem field_sub {t : TypeId} {fs : Array Field} {n : Nat} {cs : List Value} {y : DataW H × List MemPlace} (ht : P.underlying t = some (.struct fs)) (h : DataW.trod enc P w base spare held n t cs = some y)
    (i : Nat) (f : Field) (hf : fs[i]? = some f) : ∃ m x, DataW.trod enc P w base spare held m f.type ((cs.drop f.offset).take (P.cellsOf f.type)) = some x := by
  obtain ⟨xs, m, _, _, _, hl, hall⟩ := DataW.trod_struct ht h; have h2 := hall i f hf
  have hi : i < xs.length := by rw [hl]; exact (Array.getElem?_eq_some_iff.1 hf).1
  rw [List.getElem?_eq_getElem hi] at h2
  exact ⟨m, _, h2⟩
theorem arr_get {t e : TypeId} {k n : Nat} {cs : List Value} {y : DataW H × List MemPlace} (ht : P.underlying t = some (.array k e)) (h : DataW.trod enc P w base spare held n t cs = some y) (h1 : P.cellsOf e = 1)
    (i : Nat) (hi : i < k) (u : Value) (hu : cs[i]? = some u) : ∃ m x, DataW.trod enc P w base spare held m e [u] = some x := by
  obtain ⟨xs, m, _, _, _, hl, hall⟩ := DataW.trod_array ht h; have h2 := hall i hi; rw [h1, Nat.mul_one, drop_one hu] at h2; rw [List.getElem?_eq_getElem (by rw [hl]; exact hi)] at h2
  exact ⟨m, _, h2⟩
end
theorem list4 {α : Type} {cs : List α} (h : cs.length = 4) : ∃ a b c d, cs = [a, b, c, d] := by
  match cs, h with
  | [a, b, c, d], _ => exact ⟨a, b, c, d, rfl⟩
theorem list3 {α : Type} {cs : List α} (h : cs.length = 3) : ∃ a b c, cs = [a, b, c] := by
  match cs, h with
  | [a, b, c], _ => exact ⟨a, b, c, rfl⟩
theorem c1_u32 : Tryz.prog.cellsOf 25 = 1 := by kernel_rfl
theorem c4_taken : Tryz.prog.cellsOf 29 = 4 := by kernel_rfl
theorem c2_a : Tryz.prog.cellsOf 26 = 2 := by kernel_rfl
theorem c2_b : Tryz.prog.cellsOf 27 = 2 := by kernel_rfl
theorem c3_c : Tryz.prog.cellsOf 53 = 3 := by kernel_rfl
section
variable {H : Type} {enc : TypeId × Value → H} {w : World} {base : Nat} {spare : Nat → Bool} {held : Bool}
theorem open_u32 {n : Nat} {u : Value} {x : DataW H × List MemPlace} (h : DataW.trod enc Tryz.prog w base spare held n 25 [u] = some x) : ∃ k : Int, u = .int .u32 k ∧ 0 ≤ k ∧ k < 4294967296 := by
  obtain ⟨k, h1, _, h2⟩ := DataW.trod_int Tryz.underlying25 h
  injection h1 with h1
  simp only [Lit.wf, Bool.and_eq_true, decide_eq_true_eq] at h2
  have e1 : IntKind.min .u32 = 0 := by decide
  have e2 : IntKind.max .u32 = 4294967295 := by decide
  rw [e1, e2] at h2
  exact ⟨k, h1, h2.1, by omega⟩
set_option maxRecDepth 100000 in
theorem open_Taken {r : Reach} {b0 : Nat} {v : Value} {d : DataW H} {p : List MemPlace} (hv : Value.okWide Tryz.prog w r b0 29 v) (h : DataW.Trod enc Tryz.prog w base spare held 29 v d p) : ∃ (a b c d : Nat), v = .agg #[.int .u32 a, .int .u32 b, .int .u8 c, .int .u8 d] ∧ a < 4294967296 ∧ b < 4294967296 ∧ c < 256 ∧ d < 256 := by
  obtain ⟨cs, rfl, hsz⟩ := Go.WideShapes.okWide_struct Tryz.underlying29 hv
  obtain ⟨c0, c1, c2, c3, rfl⟩ : ∃ c0 c1 c2 c3, cs = #[c0, c1, c2, c3] := by
    obtain ⟨l⟩ := cs; obtain ⟨a, b, c, d, rfl⟩ := list4 (show l.length = 4 from hsz.trans c4_taken)
    exact ⟨a, b, c, d, rfl⟩
  obtain ⟨n, hf⟩ := h
  have hf' : DataW.trod enc Tryz.prog w base spare held n 29 [c0, c1, c2, c3] = some (d, p) := by simpa [Value.cells] using hf
  obtain ⟨m0, x0, f0⟩ := field_sub Tryz.underlying29 hf' 0 _ rfl; obtain ⟨m1, x1, f1⟩ := field_sub Tryz.underlying29 hf' 1 _ rfl; replace f0 : DataW.trod enc Tryz.prog w base spare held m0 26 (([c0, c1, c2, c3].drop 0).take (Tryz.prog.cellsOf 26)) = some x0 := f0; replace f1 : DataW.trod enc Tryz.prog w base spare held m1 27 (([c0, c1, c2, c3].drop 2).take (Tryz.prog.cellsOf 27)) = some x1 := f1; rw [c2_a] at f0; rw [c2_b] at f1; obtain ⟨_, _, g0⟩ := arr_get Tryz.underlying26 f0 c1_u32 0 (by decide) c0 rfl; obtain ⟨_, _, g1⟩ := arr_get Tryz.underlying26 f0 c1_u32 1 (by decide) c1 rfl; obtain ⟨_, _, g2⟩ := arr_get Tryz.underlying27 f1 c1_u8 0 (by decide) c2 rfl; obtain ⟨_, _, g3⟩ := arr_get Tryz.underlying27 f1 c1_u8 1 (by decide) c3 rfl; obtain ⟨k0, rfl, h0, h0'⟩ := open_u32 g0; obtain ⟨k1, rfl, h1, h1'⟩ := open_u32 g1; obtain ⟨k2, rfl, h2, h2'⟩ := open_u8 g2; obtain ⟨k3, rfl, h3, h3'⟩ := open_u8 g3
  refine ⟨k0.toNat, k1.toNat, k2.toNat, k3.toNat, ?_, by omega, by omega, by omega, by omega⟩
  rw [Int.toNat_of_nonneg h0, Int.toNat_of_nonneg h1, Int.toNat_of_nonneg h2, Int.toNat_of_nonneg h3]
theorem okWide_arr {P : Program} {r : Reach} {b0 : Nat} {t e : TypeId} {k : Nat} {w : World} {v : Value} (ht : P.underlying t = some (.array k e)) (h : Value.okWide P w r b0 t v) : ∃ cs, v = .agg cs ∧ cs.size = P.cellsOf t := by
  simp only [Value.okWide, ht] at h
  obtain ⟨cs, h1, h2, _⟩ := h
  exact ⟨cs, h1, h2⟩
set_option maxRecDepth 100000 in
theorem open_three {r : Reach} {b0 : Nat} {v : Value} {d : DataW H} {p : List MemPlace} (hv : Value.okWide Tryz.prog w r b0 53 v) (h : DataW.Trod enc Tryz.prog w base spare held 53 v d p) : ∃ (a b c : Nat), v = .agg #[.int .u8 a, .int .u8 b, .int .u8 c] ∧ a < 256 ∧ b < 256 ∧ c < 256 := by
  obtain ⟨cs, rfl, hsz⟩ := okWide_arr Tryz.underlying53 hv
  obtain ⟨c0, c1, c2, rfl⟩ : ∃ c0 c1 c2, cs = #[c0, c1, c2] := by
    obtain ⟨l⟩ := cs; obtain ⟨a, b, c, rfl⟩ := list3 (show l.length = 3 from hsz.trans c3_c)
    exact ⟨a, b, c, rfl⟩
  obtain ⟨n, hf⟩ := h
  have hf' : DataW.trod enc Tryz.prog w base spare held n 53 [c0, c1, c2] = some (d, p) := by simpa [Value.cells] using hf
  obtain ⟨_, _, g0⟩ := arr_get Tryz.underlying53 hf' c1_u8 0 (by decide) c0 rfl; obtain ⟨_, _, g1⟩ := arr_get Tryz.underlying53 hf' c1_u8 1 (by decide) c1 rfl; obtain ⟨_, _, g2⟩ := arr_get Tryz.underlying53 hf' c1_u8 2 (by decide) c2 rfl; obtain ⟨k0, rfl, h0, h0'⟩ := open_u8 g0; obtain ⟨k1, rfl, h1, h1'⟩ := open_u8 g1; obtain ⟨k2, rfl, h2, h2'⟩ := open_u8 g2
  refine ⟨k0.toNat, k1.toNat, k2.toNat, ?_, by omega, by omega, by omega⟩
  rw [Int.toNat_of_nonneg h0, Int.toNat_of_nonneg h1, Int.toNat_of_nonneg h2]
end
end Go.Proofs.YtmjkcanjfjfkfaaGreat
