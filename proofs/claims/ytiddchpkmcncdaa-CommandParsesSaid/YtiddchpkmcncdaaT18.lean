/- Walks of layer 41: the reference's Parse. -/
import Derived.Test.YtiddchpkmcncdaaG9
import Derived.Test.YtiddchpkmcncdaaG8
namespace Go.Proofs.Ytiddchpkmcncdaa
open Go.RowKit
set_option linter.unusedSimpArgs false
set_option linter.unusedVariables false
theorem permitted_b (n : Int) (w : World) (b : Bool) (h : perI n = b) : Calls Try.prog 42 #[.int .u8 n] w fun e w' => e = .returned (.bool b) ∧ w = w' := by subst h; exact permitted_any n w
theorem info101r : (Try.prog.info? 101).map (fun i => (i.zero, i.size, i.bytes)) = some (some (.agg #[.int .i64 0, .slice none 0 0]), 2, 32) := by kernel_rfl
set_option maxRecDepth 100000 in
set_option maxHeartbeats 4000000 in
theorem PrR_long (s : ByteArray) (w : World) (hs : s.size ≤ 90000) (h : 1024 < s.size) : Calls Try.prog 14 #[.string s] w (QrP w (parS s.data.toList)) := by
  have HP := Lib.hid (show parS s.data.toList = .err 0 5 by unfold parS; rw [if_pos (by simpa using h)])
  go_enter Try.func14, Try.ntmps14
  go_wp2
  refine bodyPost_ret (v := .tuple #[.agg #[.slice none 0 0, .bool false], .int .i64 0, .int .i64 5]) (by simp [results, Try.results14, go_sem]) rfl ?_
  rw [HP.out]
  exact ⟨(Below.refl _ _).alloc (Nat.le_refl _) _, rfl⟩
set_option maxRecDepth 100000 in
set_option maxHeartbeats 4000000 in
theorem PrR_byte (s : ByteArray) (w : World) (h : ¬ 1024 < s.size) (hb : badS s.data.toList < s.size) : Calls Try.prog 14 #[.string s] w (QrP w (parS s.data.toList)) := by
  have HP := Lib.hid (show parS s.data.toList = .err (badS s.data.toList) 6 by unfold parS; rw [if_neg (by simpa using h), if_pos (by simpa using hb)])
  obtain ⟨q, hq⟩ : ∃ q, badS s.data.toList = q := ⟨_, rfl⟩
  rw [hq] at HP hb
  have HQ := Lib.hid hq
  clear hq
  go_enter Try.func14, Try.ntmps14
  go_wp2
  go_loop [5] (fun i => ∃ k : Nat, k ≤ s.size ∧ i = .int .i64 k ∧ (∀ j, j < k → perI (bt s j) = true)) (fun i => s.size - (intOf i).toNat)
  case atStart => exact ⟨0, Nat.zero_le _, rfl, fun j h => by omega⟩
  case round =>
    obtain ⟨k, hk, rfl, hj⟩ := hrel
    have HJ := Lib.hid hj
    clear hj
    by_cases hlt : k < s.size
    · have hbt := bt_of s k hlt
      cases hp : perI (bt s k) with
      | true =>
        have HPP := Lib.hid hp
        clear hp
        go_wp2_with (go_at_call 42; refine (permitted_b _ _ true HPP.out).mono ?_; rintro e w' ⟨rfl, rfl⟩)
        go_round
        case rel => exact ⟨k + 1, by omega, by go_num, fun j hj => (by by_cases e : j = k; (subst e; exact HPP.out); exact HJ.out j (by omega))⟩
        case measure => simp [intOf]; omega
      | false =>
        obtain rfl : q = k := HQ.out.symm.trans (tw_at _ s.data.toList k (by simpa using Nat.le_of_lt hlt) HJ.out (.inr hp))
        have HPP := Lib.hid hp
        clear hp
        go_wp2_with (go_at_call 42; refine (permitted_b _ _ false HPP.out).mono ?_; rintro e w' ⟨rfl, rfl⟩)
        refine bodyPost_ret (v := .tuple #[.agg #[.slice none 0 0, .bool false], .int .i64 (q : Int), .int .i64 6]) (by simp [results, Try.results14, go_sem]) rfl ?_
        rw [HP.out]
        exact ⟨(Below.refl _ _).alloc (Nat.le_refl _) _, rfl⟩
    · exfalso
      have := tw_at (fun b => perI (n8 b)) s.data.toList s.size (by simp) (fun j hj => HJ.out j (by omega)) (.inl (by simp))
      have h2 := HQ.out
      unfold badS at h2
      omega
set_option maxRecDepth 100000 in
set_option maxHeartbeats 4000000 in
theorem PrR_scan (s : ByteArray) (w : World) (h : ¬ 1024 < s.size) (hb : ¬ badS s.data.toList < s.size) (q : Nat) (er : Int) (ht : toksP s 0 = .err q er) : Calls Try.prog 14 #[.string s] w (QrP w (parS s.data.toList)) := by
  have HP := Lib.hid (show parS s.data.toList = .err q er by unfold parS; rw [if_neg (by simpa using h), if_neg (by simpa using hb), ← toksP_S, ht])
  have HALL := Lib.hid (all_per s hb)
  have HTK := Lib.hid (tokens_any (w.alloc (.cells #[.slice none 0 0, .bool false] 30)) s (by omega))
  rw [ht] at HTK
  have hne : er ≠ 0 := by rw [toksP_S] at ht; exact toks_err _ _ _ _ _ ht
  have e1 : (er == 0) = false := beq_false_of_ne hne
  have e2 : (er != 0) = true := by rw [bne, e1]; rfl
  clear hb ht hne
  go_enter Try.func14, Try.ntmps14
  go_wp2
  go_loop [5] (fun i => ∃ k : Nat, k ≤ s.size ∧ i = .int .i64 k) (fun i => s.size - (intOf i).toNat)
  case atStart => exact ⟨0, Nat.zero_le _, rfl⟩
  case round =>
    obtain ⟨k, hk, rfl⟩ := hrel
    by_cases hlt : k < s.size
    · have hbt := bt_of s k hlt
      have HPP := Lib.hid (HALL.out k hlt)
      go_wp2_with (go_at_call 42; refine (permitted_b _ _ true HPP.out).mono ?_; rintro e w' ⟨rfl, rfl⟩)
      go_round
      case rel => exact ⟨k + 1, by omega, by go_num⟩
      case measure => simp [intOf]; omega
    · obtain rfl : k = s.size := by omega
      clear hlt hk
      go_upto_region 10 with (go_at_call 43; refine HTK.out.mono ?_; rintro e w1 ⟨v1, rfl, kb⟩; have HB := Lib.hid (((Below.refl w.heap.size w).alloc (Nat.le_refl _) (.cells #[.slice none 0 0, .bool false] 30)).trans (kb.mono (by simp))); have bz := (Blk.new w 30 #[.slice none 0 0, .bool false]).next kb (by simp); have r0 := bz.cell 0; have r1 := bz.cell 1; have fr0 := bz.frozen 0; have fr1 := bz.frozen 1; have BZ := Lib.hid bz; clear bz; simp only [List.getElem?_toArray, List.getElem?_cons_zero, List.getElem?_cons_succ] at r0 r1)
      go_wp2
      have bz2 := blk_cast ((BZ.out.set_ 0 (.slice none 0 0)).set_ 1 (.bool false)) rfl
      have pz := (HB.out.setCell (p := ⟨w.heap.size, 0, none⟩) (Nat.le_refl _) (.slice none 0 0)).setCell (p := ⟨w.heap.size, 1, none⟩) (Nat.le_refl _) (.bool false)
      generalize ((w1.setCell ⟨w.heap.size, 0, none⟩ (.slice none 0 0)).setCell ⟨w.heap.size, 1, none⟩ (.bool false)) = wz at bz2 pz ⊢
      have z0 := bz2.cell 0
      have z1 := bz2.cell 1
      simp at z0 z1
      refine bodyPost_ret (v := .tuple #[.agg #[.slice none 0 0, .bool false], .int .i64 (q : Int), .int .i64 er]) (by simp [results, Try.results14, go_sem, z0, z1]) rfl ?_
      rw [HP.out]
      exact ⟨pz, rfl⟩
set_option maxRecDepth 100000 in
set_option maxHeartbeats 4000000 in
theorem PrR_empty (s : ByteArray) (w : World) (h : ¬ 1024 < s.size) (hb : ¬ badS s.data.toList < s.size) (ht : toksP s 0 = .ok []) : Calls Try.prog 14 #[.string s] w (QrP w (parS s.data.toList)) := by
  have HP := Lib.hid (show parS s.data.toList = .ok ⟨[], false⟩ by unfold parS; rw [if_neg (by simpa using h), if_neg (by simpa using hb), ← toksP_S, ht])
  have HALL := Lib.hid (all_per s hb)
  have HTK := Lib.hid (tokens_any (w.alloc (.cells #[.slice none 0 0, .bool false] 30)) s (by omega))
  rw [ht] at HTK
  clear hb ht
  go_enter Try.func14, Try.ntmps14
  go_wp2
  go_loop [5] (fun i => ∃ k : Nat, k ≤ s.size ∧ i = .int .i64 k) (fun i => s.size - (intOf i).toNat)
  case atStart => exact ⟨0, Nat.zero_le _, rfl⟩
  case round =>
    obtain ⟨k, hk, rfl⟩ := hrel
    by_cases hlt : k < s.size
    · have hbt := bt_of s k hlt
      have HPP := Lib.hid (HALL.out k hlt)
      go_wp2_with (go_at_call 42; refine (permitted_b _ _ true HPP.out).mono ?_; rintro e w' ⟨rfl, rfl⟩)
      go_round
      case rel => exact ⟨k + 1, by omega, by go_num⟩
      case measure => simp [intOf]; omega
    · obtain rfl : k = s.size := by omega
      clear hlt hk
      go_upto_region 13 with (go_at_call 43; refine HTK.out.mono ?_; rintro e w1 ⟨v1, rfl, hrd, kb⟩; obtain ⟨A1, k1, rfl, _⟩ := RowRd.form hrd; have hb2 := kb.alloc kb.size (.cells #[.slice none 0 0, .bool false] 30); have HB := Lib.hid (((Below.refl w.heap.size w).alloc (Nat.le_refl _) (.cells #[.slice none 0 0, .bool false] 30)).trans (hb2.mono (by simp))); have bz := (Blk.new w 30 #[.slice none 0 0, .bool false]).next hb2 (by simp); have r0 := bz.cell 0; have r1 := bz.cell 1; have fr0 := bz.frozen 0; have fr1 := bz.frozen 1; have BZ := Lib.hid bz; clear bz hb2 hrd kb; simp only [List.getElem?_toArray, List.getElem?_cons_zero, List.getElem?_cons_succ] at r0 r1)
      have l0 : (w1.alloc (.cells #[.slice none 0 0, .bool false] 30)).cell? ⟨w1.heap.size, 0, none⟩ = some (.slice none 0 0) := (Blk.new w1 30 #[.slice none 0 0, .bool false]).cell 0
      have l1 : (w1.alloc (.cells #[.slice none 0 0, .bool false] 30)).cell? ⟨w1.heap.size, 1, none⟩ = some (.bool false) := (Blk.new w1 30 #[.slice none 0 0, .bool false]).cell 1
      generalize (w1.alloc (.cells #[.slice none 0 0, .bool false] 30)) = w2 at *
      go_wp2
      have bz2 := blk_cast ((BZ.out.set_ 0 (.slice none 0 0)).set_ 1 (.bool false)) rfl
      have pz := (HB.out.setCell (p := ⟨w.heap.size, 0, none⟩) (Nat.le_refl _) (.slice none 0 0)).setCell (p := ⟨w.heap.size, 1, none⟩) (Nat.le_refl _) (.bool false)
      generalize ((w2.setCell ⟨w.heap.size, 0, none⟩ (.slice none 0 0)).setCell ⟨w.heap.size, 1, none⟩ (.bool false)) = wz at bz2 pz ⊢
      have z0 := bz2.cell 0
      have z1 := bz2.cell 1
      simp at z0 z1
      refine bodyPost_ret (v := .tuple #[.agg #[.slice none 0 0, .bool false], .int .i64 0, .int .i64 0]) (by simp [results, Try.results14, go_sem, z0, z1]) rfl ?_
      rw [HP.out]
      exact ⟨pz, _, rfl, RowRd.nil⟩
set_option maxRecDepth 100000 in
set_option maxHeartbeats 16000000 in
theorem PrR_line (h44 : Said44) (s : ByteArray) (w : World) (h : ¬ 1024 < s.size) (hb : ¬ badS s.data.toList < s.size) (t : Tk) (ts : List Tk) (ht : toksP s 0 = .ok (t :: ts)) : Calls Try.prog 14 #[.string s] w (QrP w (parS s.data.toList)) := by
  obtain ⟨jq, hjq, hjq0, hjq1, hjq2⟩ := info_parts info101r
  have HP := Lib.hid (show parS s.data.toList = linS s.size 16 (t :: ts) 0 [] by unfold parS; rw [if_neg (by simpa using h), if_neg (by simpa using hb), ← toksP_S, ht]; simp)
  have HALL := Lib.hid (all_per s hb)
  have HTK := Lib.hid (tokens_any (w.alloc (.cells #[.slice none 0 0, .bool false] 30)) s (by omega))
  rw [ht] at HTK
  have ht1 := toks_ok 100000 s.data.toList 0 0 (t :: ts) (by simp; omega) (by rw [← toksP_S]; exact ht)
  have ht2 := toks_op s.data.toList 0 0 (t :: ts) (by rw [← toksP_S]; exact ht)
  have HOK := Lib.hid (show ∀ u ∈ t :: ts, TkOk 100000 u ∧ OpOk u from fun u hu => ⟨ht1.1 u hu, ht2 u hu⟩)
  have hln : (t :: ts).length ≤ 90000 := by have := ht1.2; simp at this ⊢; omega
  obtain ⟨r, hrr⟩ : ∃ r, r = linS s.size 16 (t :: ts) 0 [] := ⟨_, rfl⟩
  rw [← hrr] at HP
  have HRR := Lib.hid hrr
  clear hrr
  clear hb ht ht1 ht2
  go_enter Try.func14, Try.ntmps14
  go_wp2
  go_loop [5] (fun i => ∃ k : Nat, k ≤ s.size ∧ i = .int .i64 k) (fun i => s.size - (intOf i).toNat)
  case atStart => exact ⟨0, Nat.zero_le _, rfl⟩
  case round =>
    obtain ⟨k, hk, rfl⟩ := hrel
    by_cases hlt : k < s.size
    · have hbt := bt_of s k hlt
      have HPP := Lib.hid (HALL.out k hlt)
      go_wp2_with (go_at_call 42; refine (permitted_b _ _ true HPP.out).mono ?_; rintro e w' ⟨rfl, rfl⟩)
      go_round
      case rel => exact ⟨k + 1, by omega, by go_num⟩
      case measure => simp [intOf]; omega
    · obtain rfl : k = s.size := by omega
      clear hlt hk
      go_upto_region 15 with (go_at_call 43; refine HTK.out.mono ?_; rintro e w1 ⟨v1, rfl, hrd, kb⟩; have hpr := QrS.new (en := s.size) (w0 := w) (((Below.refl w.heap.size w).alloc (Nat.le_refl _) (.cells #[.slice none 0 0, .bool false] 30)).trans (kb.mono (by simp))) ((Blk.new w 30 #[.slice none 0 0, .bool false]).next kb (by simp)) hrd; obtain ⟨A1, k1, rfl, _⟩ := RowRd.form hrd; have HPR := Lib.hid hpr; clear hpr hrd kb)
      have H0 := Lib.hid (show PrRel w w1.heap.size s.size r 16 (.int .i64 0) _ from ⟨_, t :: ts, [], 0, HPR.out, rfl, rfl, by decide, hln, HOK.out, HRR.out⟩)
      clear HPR HOK HRR
      generalize ((w1.alloc (.cells #[.slice none 0 0, .bool false] 30)).alloc (.cells #[.slice A1 (t :: ts).length k1, .int .i64 (s.size : Int)] 96)) = w2 at *
      generalize w1.heap.size = B at *
      generalize s.size = en at *
      go_wp2
      go_loopg [11] 16 (fun gk v11 wr => PrRel w B en r gk v11 wr)
      case atStart => exact H0.out
      case round =>
        clear H0
        obtain ⟨v, ts, a, wh, hs, rfl, hgk, hg0, hl, ht, hr⟩ := hrel
        obtain ⟨m, rfl⟩ : ∃ m, gk = m + 1 := ⟨gk - 1, by omega⟩
        have HPI := Lib.hid (h44 wr v ts en hs.2.2.2.2.2 (by omega) (fun t h => (ht t h).1))
        have HS := Lib.hid hs
        obtain ⟨Ga, ca, y0, y1, fy0, fy1, x0, x1, fx0, fx1, c0, c1, fc0, fc1⟩ := hs.cells
        obtain ⟨rs, hrs⟩ : ∃ rs, pipS en 8 ts [] = rs := ⟨_, rfl⟩
        rw [hrs] at HPI
        cases rs with
        | err p er =>
          have HR2 := Lib.hid (HP.out.trans (hr.trans (lin_bad en m ts wh a p er hrs)))
          clear hs hr ht hrs
          go_upto_region 17 with (go_at_call 44; refine HPI.out.mono ?_; rintro e w2' ⟨Av, nv, kv, rfl, hne, kb⟩)
          have e1 : (er == 0) = false := beq_false_of_ne hne
          have e2 : (er != 0) = true := by rw [bne, e1]; rfl
          have HSb := Lib.hid (HS.out.next (kb.alloc kb.size (.cells #[.slice Av nv kv, .int .i64 (en : Int)] 96)))
          clear HS y0 y1 fy0 fy1 x0 x1 fx0 fx1 c0 c1 fc0 fc1 kb hne HPI
          generalize (w2'.alloc (.cells #[.slice Av nv kv, .int .i64 (en : Int)] 96)) = wb at *
          obtain ⟨Ga, ca, y0, y1, fy0, fy1, x0, x1, fx0, fx1, c0, c1, fc0, fc1⟩ := HSb.out.cells
          go_wp2
          obtain ⟨bz, pz⟩ := HSb.out.bad
          generalize ((wb.setCell ⟨w.heap.size, 0, none⟩ (.slice none 0 0)).setCell ⟨w.heap.size, 1, none⟩ (.bool false)) = wz at bz pz ⊢
          have z0 := bz.cell 0
          have z1 := bz.cell 1
          simp at z0 z1
          go_wp2
          refine bodyPost_ret (v := .tuple #[.agg #[.slice none 0 0, .bool false], .int .i64 (p : Int), .int .i64 er]) (by simp [results, Try.results14, go_sem, z0, z1]) rfl ?_
          rw [HR2.out]
          exact ⟨pz, rfl⟩
        | ok ct =>
          obtain ⟨q, ts1⟩ := ct
          have hsuf := pipS_sufx en 8 ts [] q ts1 hrs
          have hl1 : ts1.length ≤ 90000 := Nat.le_trans hsuf.length_le hl
          have HT1 := Lib.hid (show ∀ t ∈ ts1, TkOk 100000 t ∧ OpOk t from fun t h => ht t (hsuf.subset h))
          obtain ⟨va, hb0, ra⟩ := hs.2.2.2.1
          obtain ⟨vs, hvs, hown⟩ := ra
          obtain ⟨Ga, ca, rfl, hca⟩ := own_len hown
          have HVS := Lib.hid hvs
          have HO := Lib.hid hown
          have HB0 := Lib.hid hb0
          have HRS := Lib.hid hrs
          have HR := Lib.hid (HP.out.trans hr)
          have hwz : w.heap.size ≤ wr.heap.size := hs.1.size
          clear hs hr ht hrs hsuf hvs hown hb0 y0 y1 fy0 fy1 x0 x1 fx0 fx1 c0 c1 fc0 fc1
          have x0 := HS.out.2.2.2.2.1.cell 0
          have x1 := HS.out.2.2.2.2.1.cell 1
          simp only [List.getElem?_toArray, List.getElem?_cons_zero, List.getElem?_cons_succ] at x0 x1
          go_upto_region 19 with (go_at_call 44; refine HPI.out.mono ?_; rintro e w1' ⟨v6, v1, rfl, hq6, hrd, kb⟩; obtain ⟨A1, k1, rfl, hk1⟩ := RowRd.form hrd; obtain ⟨A6, k6, rfl, hk6⟩ := RowRd.form hq6)
          have hBb := kb.alloc kb.size (.cells #[.slice A1 ts1.length k1, .int .i64 (en : Int)] 96)
          have hq := (Below.refl w1'.heap.size w1').alloc (Nat.le_refl _) (.cells #[.slice A1 ts1.length k1, .int .i64 (en : Int)] 96)
          have HSb := Lib.hid (HS.out.next hBb)
          have HNP := Lib.hid (show NPp 51 39 112 109 _ (.slice A6 q.length k6) ⟨wh, q⟩ from NPp.next (q := ⟨wh, q⟩) hq6 hq)
          have HRD := Lib.hid (hrd.next hq)
          have HT := Lib.hid (Blk.new w1' 96 #[.slice A1 ts1.length k1, .int .i64 (en : Int)])
          have HVSb := Lib.hid (RowW.imp HVS.out (fun v x h => NPp.next h hBb))
          have HOb := Lib.hid (own_next HO.out hBb)
          have HBb := Lib.hid (HB0.out.next hBb HB0.out.lt)
          clear HS x0 x1 kb hBb hq hq6 hrd HPI HVS HO HB0
          generalize (w1'.alloc (.cells #[.slice A1 ts1.length k1, .int .i64 (en : Int)] 96)) = wb at *
          generalize w1'.heap.size = tb at *
          have y0 := HBb.out.cell 0
          have fy0 := HBb.out.frozen 0
          simp only [List.getElem?_toArray, List.getElem?_cons_zero] at y0
          have hbz : w.heap.size ≤ wb.heap.size := HSb.out.1.size
          have HBn := Lib.hid ((Below.refl wb.heap.size wb).alloc (Nat.le_refl _) (.cells #[.int .i64 wh, .slice A6 q.length k6] 101))
          have HNU := Lib.hid (HNP.out.next HBn.out)
          have HRDn := Lib.hid (HRD.out.next HBn.out)
          have HTn := Lib.hid (HT.out.next HBn.out HT.out.lt)
          have HNEa := Lib.hid (own_blk_ne (HOb.out.alloc (.cells #[.int .i64 wh, .slice A6 q.length k6] 101)) HTn.out (by decide))
          have HPU := Lib.hid (fun (v' : Value) (w1 : World) (hk : (wb.alloc (.cells #[.int .i64 wh, .slice A6 q.length k6] 101)).grownBy w1 (.slice Ga a.length ca : Value).ownBlock) (ho : w1.ownsRow w.heap.size 101 2 v' (a.length + 1) (rowC plV a vs ++ [.int .i64 wh, .slice A6 q.length k6])) => LnB.push (l := ⟨a, false⟩) (x := ⟨wh, q⟩) (by decide) (by decide) (by decide) (by decide) (by decide) (by decide) (by decide) (by decide) (by decide) HBb.out HVSb.out HOb.out HBn.out hk ho HNU.out)
          go_upto_region 20 with (at_builtin; refine wpList_append_lies _ rfl _ _ _ rfl w.heap.size 101 jq _ 2 32 Try.underlying28 hjq hjq0 hjq1 hjq2 rfl (by omega) _ a.length (rowC plV a vs) (by rfl) (HOb.out.alloc _) ⟨wb.heap.size, 0, none⟩ 1 1 [.int .i64 wh, .slice A6 q.length k6] rfl rfl (World.news_of_block (cs := #[.int .i64 wh, .slice A6 q.length k6]) (t := 101) (fr := (0, 0)) (heap_alloc_new wb _)) (by simp [Value.oneCell']) (by omega) (by unfold maxLen; omega) (by omega) (by simp; omega) (wb.heap.size + 1) (by simp) ?_; intro gg cap w3 hown3 hgrow3 hat hlt3; have HP3 := Lib.hid (HPU.out _ _ hgrow3 hown3); have HG3 := Lib.hid hgrow3; have y0 := HP3.out.2.cell 0; have fy0 := HP3.out.2.frozen 0; simp only [List.getElem?_toArray, List.getElem?_cons_zero] at y0; clear hown3 hgrow3 hat hlt3)
          have hsc := QrS.push HSb.out HOb.out HBn.out HG3.out HP3.out.2 HP3.out.1
          have K3 : Kept [101] (wb.alloc (.cells #[.int .i64 wh, .slice A6 q.length k6] 101)) w3 := Kept.of_own [101] (own_next HOb.out HBn.out) HG3.out rfl
          have K4 : Kept [30] w3 (w3.setCell ⟨B, 0, none⟩ _) := Kept.of_blk [30] HP3.out.2 (only_setCell (p := ⟨B, 0, none⟩) (World.grownBy.refl _ _) (.inl rfl) (.slice (some ⟨gg, 0, none⟩) (a.length + 1) cap)) rfl
          have hRc := (HRDn.out.keep K3 rfl rfl).keep K4 rfl rfl
          have hTc := (HTn.out.keep K3 rfl).keep K4 rfl
          clear HSb HVSb HOb HBn HNU HNP HRD HRDn HT HTn HNEa HPU HP3 HG3 K3 K4 y0 fy0 HBb
          generalize (w3.setCell ⟨B, 0, none⟩ (.slice (some ⟨gg, 0, none⟩) (a.length + 1) cap)) = wd at *
          have HSd := Lib.hid hsc
          have HSe := Lib.hid (hsc.box hRc)
          obtain ⟨Ga, ca, y0, y1, fy0, fy1, x0, x1, fx0, fx1, c0, c1, fc0, fc1⟩ := hsc.cells
          have t0 : wd.cell? ⟨tb, 0, none⟩ = some (.slice A1 ts1.length k1) := hTc.cell 0
          have t1 : wd.cell? ⟨tb, 1, none⟩ = some (.int .i64 (en : Int)) := hTc.cell 1
          clear hsc hRc hTc
          go_upto_region 21 with (fail)
          clear HSd t0 t1 y0 y1 fy0 fy1 x0 x1 fx0 fx1 c0 c1 fc0 fc1
          generalize ((wd.setCell ⟨B + 1, 0, none⟩ (.slice A1 ts1.length k1)).setCell ⟨B + 1, 1, none⟩ (.int .i64 (en : Int))) = we at *
          obtain ⟨Ga, ca, y0, y1, fy0, fy1, x0, x1, fx0, fx1, c0, c1, fc0, fc1⟩ := HSe.out.cells
          simp only [List.length_append, List.length_cons, List.length_nil, Nat.zero_add] at y0
          cases ts1 with
          | nil =>
            have HR2 := Lib.hid (HR.out.trans (lin_end en m ts wh a q [] HRS.out (by simp [hdT]) (by simp [hdT]) (by simp [hdT]) (by simp [hdT])))
            go_upto_region 29 with (go_at_call 45; refine (next_ref _ _ ([]) en HSe.out.2.2.2.2.2).mono ?_; rintro e wf ⟨rfl, kf⟩; rw [show bs (nextS []) = ⟨#[]⟩ from rfl]; have HSf := Lib.hid (HSe.out.next kf); clear y0 y1 fy0 fy1 x0 x1 fx0 fx1 c0 c1 fc0 fc1; obtain ⟨Ga, ca, y0, y1, fy0, fy1, x0, x1, fx0, fx1, c0, c1, fc0, fc1⟩ := HSf.out.cells; simp only [List.length_append, List.length_cons, List.length_nil, Nat.zero_add] at y0)
            clear HSe
            go_wp2
            obtain ⟨bz, pz⟩ := HSf.out.done y0
            generalize ((wf.setCell ⟨w.heap.size, 0, none⟩ _).setCell ⟨w.heap.size, 1, none⟩ (.bool false)) = wz at bz pz ⊢
            have z0 := bz.cell 0
            have z1 := bz.cell 1
            simp at z0 z1
            go_wp2
            refine bodyPost_ret (v := .tuple #[.agg #[_, .bool false], .int .i64 0, .int .i64 0]) (by simp [results, Try.results14, go_sem, z0, z1]; rfl) rfl ?_
            rw [HR2.out]
            exact pz
          | cons t1 r1 =>
            have hh := pipS_head en 8 ts [] q t1 r1 HRS.out
            have ht1 := HT1.out t1 (List.mem_cons_self ..)
            rcases head_op ht1.2 ht1.1 hh.1 hh.2.1 hh.2.2 with hsep | h38
            · have e1 : (0 : Int) < (r1.length : Int) + 1 := by omega
              by_cases hm : m = 0
              · subst hm
                have HR2 := Lib.hid (HR.out.trans (lin_full en ts wh a q t1 r1 HRS.out hsep))
                have e16 : ((a.length : Int) + 1 == 16) = true := by rw [beq_iff_eq]; omega
                rcases hsep with ho | ho | ho
                · have HN := Lib.hid (show bs (nextS (t1 :: r1)) = ⟨#[59]⟩ by rw [show nextS (t1 :: r1) = t1.op from rfl, ho]; rfl)
                  clear ho
                  go_upto_region 38 with (go_at_call 45; refine (next_ref _ _ (t1 :: r1) en HSe.out.2.2.2.2.2).mono ?_; rintro e wf ⟨rfl, kf⟩; rw [HN.out]; have HSf := Lib.hid (HSe.out.next kf); clear y0 y1 fy0 fy1 x0 x1 fx0 fx1 c0 c1 fc0 fc1; obtain ⟨Ga, ca, y0, y1, fy0, fy1, x0, x1, fx0, fx1, c0, c1, fc0, fc1⟩ := HSf.out.cells; simp only [List.length_append, List.length_cons, List.length_nil, Nat.zero_add] at y0)
                  clear HSe
                  go_wp2_with (go_at_call 47; refine (place_ref _ _ (t1 :: r1) en HSf.out.2.2.2.2.2).mono ?_; rintro e wg ⟨rfl, kp⟩; have HSg := Lib.hid (HSf.out.next kp); obtain ⟨Ga, ca, y0, y1, fy0, fy1, x0, x1, fx0, fx1, c0, c1, fc0, fc1⟩ := HSg.out.cells)
                  obtain ⟨bz, pz⟩ := HSg.out.bad
                  generalize ((wg.setCell ⟨w.heap.size, 0, none⟩ (.slice none 0 0)).setCell ⟨w.heap.size, 1, none⟩ (.bool false)) = wz at bz pz ⊢
                  have z0 := bz.cell 0
                  have z1 := bz.cell 1
                  simp at z0 z1
                  go_wp2
                  refine bodyPost_ret (v := .tuple #[.agg #[.slice none 0 0, .bool false], .int .i64 ((placeS en (t1 :: r1) : Nat) : Int), .int .i64 9]) (by simp [results, Try.results14, go_sem, z0, z1]) rfl ?_
                  rw [HR2.out]
                  exact ⟨pz, rfl⟩
                · have HN := Lib.hid (show bs (nextS (t1 :: r1)) = ⟨#[38, 38]⟩ by rw [show nextS (t1 :: r1) = t1.op from rfl, ho]; rfl)
                  clear ho
                  go_upto_region 38 with (go_at_call 45; refine (next_ref _ _ (t1 :: r1) en HSe.out.2.2.2.2.2).mono ?_; rintro e wf ⟨rfl, kf⟩; rw [HN.out]; have HSf := Lib.hid (HSe.out.next kf); clear y0 y1 fy0 fy1 x0 x1 fx0 fx1 c0 c1 fc0 fc1; obtain ⟨Ga, ca, y0, y1, fy0, fy1, x0, x1, fx0, fx1, c0, c1, fc0, fc1⟩ := HSf.out.cells; simp only [List.length_append, List.length_cons, List.length_nil, Nat.zero_add] at y0)
                  clear HSe
                  go_wp2_with (go_at_call 47; refine (place_ref _ _ (t1 :: r1) en HSf.out.2.2.2.2.2).mono ?_; rintro e wg ⟨rfl, kp⟩; have HSg := Lib.hid (HSf.out.next kp); obtain ⟨Ga, ca, y0, y1, fy0, fy1, x0, x1, fx0, fx1, c0, c1, fc0, fc1⟩ := HSg.out.cells)
                  obtain ⟨bz, pz⟩ := HSg.out.bad
                  generalize ((wg.setCell ⟨w.heap.size, 0, none⟩ (.slice none 0 0)).setCell ⟨w.heap.size, 1, none⟩ (.bool false)) = wz at bz pz ⊢
                  have z0 := bz.cell 0
                  have z1 := bz.cell 1
                  simp at z0 z1
                  go_wp2
                  refine bodyPost_ret (v := .tuple #[.agg #[.slice none 0 0, .bool false], .int .i64 ((placeS en (t1 :: r1) : Nat) : Int), .int .i64 9]) (by simp [results, Try.results14, go_sem, z0, z1]) rfl ?_
                  rw [HR2.out]
                  exact ⟨pz, rfl⟩
                · have HN := Lib.hid (show bs (nextS (t1 :: r1)) = ⟨#[124, 124]⟩ by rw [show nextS (t1 :: r1) = t1.op from rfl, ho]; rfl)
                  clear ho
                  go_upto_region 38 with (go_at_call 45; refine (next_ref _ _ (t1 :: r1) en HSe.out.2.2.2.2.2).mono ?_; rintro e wf ⟨rfl, kf⟩; rw [HN.out]; have HSf := Lib.hid (HSe.out.next kf); clear y0 y1 fy0 fy1 x0 x1 fx0 fx1 c0 c1 fc0 fc1; obtain ⟨Ga, ca, y0, y1, fy0, fy1, x0, x1, fx0, fx1, c0, c1, fc0, fc1⟩ := HSf.out.cells; simp only [List.length_append, List.length_cons, List.length_nil, Nat.zero_add] at y0)
                  clear HSe
                  go_wp2_with (go_at_call 47; refine (place_ref _ _ (t1 :: r1) en HSf.out.2.2.2.2.2).mono ?_; rintro e wg ⟨rfl, kp⟩; have HSg := Lib.hid (HSf.out.next kp); obtain ⟨Ga, ca, y0, y1, fy0, fy1, x0, x1, fx0, fx1, c0, c1, fc0, fc1⟩ := HSg.out.cells)
                  obtain ⟨bz, pz⟩ := HSg.out.bad
                  generalize ((wg.setCell ⟨w.heap.size, 0, none⟩ (.slice none 0 0)).setCell ⟨w.heap.size, 1, none⟩ (.bool false)) = wz at bz pz ⊢
                  have z0 := bz.cell 0
                  have z1 := bz.cell 1
                  simp at z0 z1
                  go_wp2
                  refine bodyPost_ret (v := .tuple #[.agg #[.slice none 0 0, .bool false], .int .i64 ((placeS en (t1 :: r1) : Nat) : Int), .int .i64 9]) (by simp [results, Try.results14, go_sem, z0, z1]) rfl ?_
                  rw [HR2.out]
                  exact ⟨pz, rfl⟩
              · have HR2 := Lib.hid (HR.out.trans (lin_more en m ts wh a q t1 r1 HRS.out hsep hm))
                have e16 : ((a.length : Int) + 1 == 16) = false := beq_false_of_ne (by omega)
                rcases hsep with ho | ho | ho
                · have HN := Lib.hid (show bs (nextS (t1 :: r1)) = ⟨#[59]⟩ by rw [show nextS (t1 :: r1) = t1.op from rfl, ho]; rfl)
                  rw [show whOf t1.op = 0 by rw [ho]; rfl] at HR2
                  clear ho
                  go_upto_region 39 with (go_at_call 45; refine (next_ref _ _ (t1 :: r1) en HSe.out.2.2.2.2.2).mono ?_; rintro e wf ⟨rfl, kf⟩; rw [HN.out]; have HSf := Lib.hid (HSe.out.next kf); clear y0 y1 fy0 fy1 x0 x1 fx0 fx1 c0 c1 fc0 fc1; obtain ⟨Ga, ca, y0, y1, fy0, fy1, x0, x1, fx0, fx1, c0, c1, fc0, fc1⟩ := HSf.out.cells; simp only [List.length_append, List.length_cons, List.length_nil, Nat.zero_add] at y0)
                  clear HSe
                  go_wp2_with (go_at_call 46; refine (rest_ref _ _ t1 r1 en HSf.out.2.2.2.2.2 (by simp at hl1; omega)).mono ?_; rintro e wg ⟨v3, rfl, hv3, kg⟩; obtain ⟨A3, k3, rfl, hk3⟩ := RowRd.form hv3; have HSg := Lib.hid (HSf.out.next kg); have HSh := Lib.hid (HSg.out.box hv3); clear y0 y1 fy0 fy1 x0 x1 fx0 fx1 c0 c1 fc0 fc1; obtain ⟨Ga, ca, y0, y1, fy0, fy1, x0, x1, fx0, fx1, c0, c1, fc0, fc1⟩ := HSg.out.cells)
                  go_roundg m
                  case rel => exact ⟨_, r1, a ++ [⟨wh, q⟩], 0, HSh.out, rfl, by simp; omega, by omega, by simp at hl1; omega, fun t h => HT1.out t (List.mem_cons_of_mem _ h), HP.out.symm.trans HR2.out⟩
                  case measure => omega
                · have HN := Lib.hid (show bs (nextS (t1 :: r1)) = ⟨#[38, 38]⟩ by rw [show nextS (t1 :: r1) = t1.op from rfl, ho]; rfl)
                  rw [show whOf t1.op = 1 by rw [ho]; rfl] at HR2
                  clear ho
                  go_upto_region 39 with (go_at_call 45; refine (next_ref _ _ (t1 :: r1) en HSe.out.2.2.2.2.2).mono ?_; rintro e wf ⟨rfl, kf⟩; rw [HN.out]; have HSf := Lib.hid (HSe.out.next kf); clear y0 y1 fy0 fy1 x0 x1 fx0 fx1 c0 c1 fc0 fc1; obtain ⟨Ga, ca, y0, y1, fy0, fy1, x0, x1, fx0, fx1, c0, c1, fc0, fc1⟩ := HSf.out.cells; simp only [List.length_append, List.length_cons, List.length_nil, Nat.zero_add] at y0)
                  clear HSe
                  go_wp2_with (go_at_call 46; refine (rest_ref _ _ t1 r1 en HSf.out.2.2.2.2.2 (by simp at hl1; omega)).mono ?_; rintro e wg ⟨v3, rfl, hv3, kg⟩; obtain ⟨A3, k3, rfl, hk3⟩ := RowRd.form hv3; have HSg := Lib.hid (HSf.out.next kg); have HSh := Lib.hid (HSg.out.box hv3); clear y0 y1 fy0 fy1 x0 x1 fx0 fx1 c0 c1 fc0 fc1; obtain ⟨Ga, ca, y0, y1, fy0, fy1, x0, x1, fx0, fx1, c0, c1, fc0, fc1⟩ := HSg.out.cells)
                  go_roundg m
                  case rel => exact ⟨_, r1, a ++ [⟨wh, q⟩], 1, HSh.out, rfl, by simp; omega, by omega, by simp at hl1; omega, fun t h => HT1.out t (List.mem_cons_of_mem _ h), HP.out.symm.trans HR2.out⟩
                  case measure => omega
                · have HN := Lib.hid (show bs (nextS (t1 :: r1)) = ⟨#[124, 124]⟩ by rw [show nextS (t1 :: r1) = t1.op from rfl, ho]; rfl)
                  rw [show whOf t1.op = 2 by rw [ho]; rfl] at HR2
                  clear ho
                  go_upto_region 39 with (go_at_call 45; refine (next_ref _ _ (t1 :: r1) en HSe.out.2.2.2.2.2).mono ?_; rintro e wf ⟨rfl, kf⟩; rw [HN.out]; have HSf := Lib.hid (HSe.out.next kf); clear y0 y1 fy0 fy1 x0 x1 fx0 fx1 c0 c1 fc0 fc1; obtain ⟨Ga, ca, y0, y1, fy0, fy1, x0, x1, fx0, fx1, c0, c1, fc0, fc1⟩ := HSf.out.cells; simp only [List.length_append, List.length_cons, List.length_nil, Nat.zero_add] at y0)
                  clear HSe
                  go_wp2_with (go_at_call 46; refine (rest_ref _ _ t1 r1 en HSf.out.2.2.2.2.2 (by simp at hl1; omega)).mono ?_; rintro e wg ⟨v3, rfl, hv3, kg⟩; obtain ⟨A3, k3, rfl, hk3⟩ := RowRd.form hv3; have HSg := Lib.hid (HSf.out.next kg); have HSh := Lib.hid (HSg.out.box hv3); clear y0 y1 fy0 fy1 x0 x1 fx0 fx1 c0 c1 fc0 fc1; obtain ⟨Ga, ca, y0, y1, fy0, fy1, x0, x1, fx0, fx1, c0, c1, fc0, fc1⟩ := HSg.out.cells)
                  go_roundg m
                  case rel => exact ⟨_, r1, a ++ [⟨wh, q⟩], 2, HSh.out, rfl, by simp; omega, by omega, by simp at hl1; omega, fun t h => HT1.out t (List.mem_cons_of_mem _ h), HP.out.symm.trans HR2.out⟩
                  case measure => omega
            · have HN := Lib.hid (show bs (nextS (t1 :: r1)) = ⟨#[38]⟩ by rw [show nextS (t1 :: r1) = t1.op from rfl, h38]; rfl)
              cases r1 with
              | nil =>
                have HR2 := Lib.hid (HR.out.trans (lin_bg en m ts wh a q t1 HRS.out h38))
                go_upto_region 24 with (go_at_call 45; refine (next_ref _ _ (t1 :: []) en HSe.out.2.2.2.2.2).mono ?_; rintro e wf ⟨rfl, kf⟩; rw [HN.out]; have HSf := Lib.hid (HSe.out.next kf); clear y0 y1 fy0 fy1 x0 x1 fx0 fx1 c0 c1 fc0 fc1; obtain ⟨Ga, ca, y0, y1, fy0, fy1, x0, x1, fx0, fx1, c0, c1, fc0, fc1⟩ := HSf.out.cells; simp only [List.length_append, List.length_cons, List.length_nil, Nat.zero_add] at y0)
                have HSf' := Lib.hid HSf.out.back
                clear HSe HSf y0 y1 fy0 fy1 x0 x1 fx0 fx1 c0 c1 fc0 fc1
                generalize (wf.setCell ⟨B, 1, none⟩ (.bool true)) = wf' at *
                obtain ⟨Ga, ca, y0, y1, fy0, fy1, x0, x1, fx0, fx1, c0, c1, fc0, fc1⟩ := HSf'.out.cells
                simp only [List.length_append, List.length_cons, List.length_nil, Nat.zero_add] at y0
                go_upto_region 26 with (go_at_call 46; refine (rest_ref _ _ t1 [] en HSf'.out.2.2.2.2.2 (by first | (simp; done) | (simp at hl1 ⊢; omega))).mono ?_; rintro e wg ⟨v3, rfl, hv3, kg⟩; obtain ⟨A3, k3, rfl, hk3⟩ := RowRd.form hv3; have HSg := Lib.hid (HSf'.out.next kg); have HSh := Lib.hid (HSg.out.box hv3); obtain ⟨Ga, ca, y0, y1, fy0, fy1, x0, x1, fx0, fx1, c0, c1, fc0, fc1⟩ := HSg.out.cells; simp only [List.length_append, List.length_cons, List.length_nil, Nat.zero_add] at y0)
                clear HSf' HSg y0 y1 fy0 fy1 x0 x1 fx0 fx1 c0 c1 fc0 fc1 hv3
                generalize ((wg.setCell ⟨B + 1, 0, none⟩ (.slice A3 ([] : List Tk).length k3)).setCell ⟨B + 1, 1, none⟩ (.int .i64 (en : Int))) = wh' at *
                obtain ⟨Ga, ca, y0, y1, fy0, fy1, x0, x1, fx0, fx1, c0, c1, fc0, fc1⟩ := HSh.out.cells
                simp only [List.length_append, List.length_cons, List.length_nil, Nat.zero_add] at y0 x0
                go_wp2
                obtain ⟨bz, pz⟩ := HSh.out.done y0
                generalize ((wh'.setCell ⟨w.heap.size, 0, none⟩ _).setCell ⟨w.heap.size, 1, none⟩ (.bool true)) = wz at bz pz ⊢
                have z0 := bz.cell 0
                have z1 := bz.cell 1
                simp at z0 z1
                go_wp2
                refine bodyPost_ret (v := .tuple #[.agg #[_, .bool true], .int .i64 0, .int .i64 0]) (by simp [results, Try.results14, go_sem, z0, z1]; rfl) rfl ?_
                rw [HR2.out]
                exact pz
              | cons u r2 =>
                have HR2 := Lib.hid (HR.out.trans (lin_bgno en m ts wh a q t1 u r2 HRS.out h38))
                go_upto_region 24 with (go_at_call 45; refine (next_ref _ _ (t1 :: u :: r2) en HSe.out.2.2.2.2.2).mono ?_; rintro e wf ⟨rfl, kf⟩; rw [HN.out]; have HSf := Lib.hid (HSe.out.next kf); clear y0 y1 fy0 fy1 x0 x1 fx0 fx1 c0 c1 fc0 fc1; obtain ⟨Ga, ca, y0, y1, fy0, fy1, x0, x1, fx0, fx1, c0, c1, fc0, fc1⟩ := HSf.out.cells; simp only [List.length_append, List.length_cons, List.length_nil, Nat.zero_add] at y0)
                have HSf' := Lib.hid HSf.out.back
                clear HSe HSf y0 y1 fy0 fy1 x0 x1 fx0 fx1 c0 c1 fc0 fc1
                generalize (wf.setCell ⟨B, 1, none⟩ (.bool true)) = wf' at *
                obtain ⟨Ga, ca, y0, y1, fy0, fy1, x0, x1, fx0, fx1, c0, c1, fc0, fc1⟩ := HSf'.out.cells
                simp only [List.length_append, List.length_cons, List.length_nil, Nat.zero_add] at y0
                go_upto_region 26 with (go_at_call 46; refine (rest_ref _ _ t1 (u :: r2) en HSf'.out.2.2.2.2.2 (by first | (simp; done) | (simp at hl1 ⊢; omega))).mono ?_; rintro e wg ⟨v3, rfl, hv3, kg⟩; obtain ⟨A3, k3, rfl, hk3⟩ := RowRd.form hv3; have HSg := Lib.hid (HSf'.out.next kg); have HSh := Lib.hid (HSg.out.box hv3); obtain ⟨Ga, ca, y0, y1, fy0, fy1, x0, x1, fx0, fx1, c0, c1, fc0, fc1⟩ := HSg.out.cells; simp only [List.length_append, List.length_cons, List.length_nil, Nat.zero_add] at y0)
                clear HSf' HSg y0 y1 fy0 fy1 x0 x1 fx0 fx1 c0 c1 fc0 fc1 hv3
                generalize ((wg.setCell ⟨B + 1, 0, none⟩ (.slice A3 (u :: r2).length k3)).setCell ⟨B + 1, 1, none⟩ (.int .i64 (en : Int))) = wh' at *
                obtain ⟨Ga, ca, y0, y1, fy0, fy1, x0, x1, fx0, fx1, c0, c1, fc0, fc1⟩ := HSh.out.cells
                simp only [List.length_append, List.length_cons, List.length_nil, Nat.zero_add] at y0 x0
                have e1 : (0 : Int) < (r2.length : Int) + 1 := by omega
                go_wp2_with (go_at_call 47; refine (place_ref _ _ (u :: r2) en HSh.out.2.2.2.2.2).mono ?_; rintro e wi ⟨rfl, kp⟩; have HSi := Lib.hid (HSh.out.next kp); obtain ⟨Ga, ca, y0, y1, fy0, fy1, x0, x1, fx0, fx1, c0, c1, fc0, fc1⟩ := HSi.out.cells)
                obtain ⟨bz, pz⟩ := HSi.out.bad
                generalize ((wi.setCell ⟨w.heap.size, 0, none⟩ (.slice none 0 0)).setCell ⟨w.heap.size, 1, none⟩ (.bool false)) = wz at bz pz ⊢
                have z0 := bz.cell 0
                have z1 := bz.cell 1
                simp at z0 z1
                go_wp2
                refine bodyPost_ret (v := .tuple #[.agg #[.slice none 0 0, .bool false], .int .i64 ((placeS en (u :: r2) : Nat) : Int), .int .i64 30]) (by simp [results, Try.results14, go_sem, z0, z1]) rfl ?_
                rw [HR2.out]
                exact ⟨pz, rfl⟩
theorem Parse_ref (h44 : Said44) (s : ByteArray) (w : World) (hs : s.size ≤ 90000) : Calls Try.prog 14 #[.string s] w (QrP w (parS s.data.toList)) := by
  by_cases h : 1024 < s.size
  · exact PrR_long s w hs h
  by_cases hb : badS s.data.toList < s.size
  · exact PrR_byte s w h hb
  cases ht : toksP s 0 with
  | err q e => exact PrR_scan s w h hb q e ht
  | ok l =>
    cases l with
    | nil => exact PrR_empty s w h hb ht
    | cons t ts => exact PrR_line h44 s w h hb t ts ht
end Go.Proofs.Ytiddchpkmcncdaa
