/- The law LexerSame, walked. -/
import Derived.Test.YtdhfkokinnmfhaaDoorL4a
namespace Go.Proofs.YtdhfkokinnmfhaaDoor
open Go.RowKit
set_option linter.unusedSimpArgs false
set_option linter.unusedVariables false
theorem wrap_ne (v : Int) : v ≠ wrap64 (v + 1) := by unfold wrap64; omega
theorem sameT_value (a b : Tk) (h : a.value ≠ b.value) : sameT a b = false := by unfold sameT; rw [decide_eq_false h]; simp
theorem row_set {w : World} {g : Nat} {s : ByteArray} {L : List (Att × Nat)} {cur : Array Value} (hT : Toks w g s L) (hn : 0 < L.length) (v : Int) (hcur : w.heap[g]? = some (.cells cur 35)) :
    TkRow (w.setCell ⟨g, 2, none⟩ (.int .i64 v)) g L.length (fun i => if i = 0 then { tkF s L 0 with value := v } else tkF s L i) := by
  have hr := hT.row
  have key : ∀ o, o ≠ 2 → (w.setCell ⟨g, 2, none⟩ (.int .i64 v)).cell? ⟨g, o, none⟩ = w.cell? ⟨g, o, none⟩ := fun o ho => by
    simp [World.cell?, World.setCell, Array.getElem?_modify, hcur]
    rw [Array.getElem?_setIfInBounds, if_neg (fun e => ho e.symm)]
  have key2 : (w.setCell ⟨g, 2, none⟩ (.int .i64 v)).cell? ⟨g, 2, none⟩ = some (.int .i64 v) := by
    have h2 := (hr.2 0 hn).2.2.1
    have h2' : cur[2]? = some (.int .i64 (tkF s L 0).value) := by
      have : w.cell? ⟨g, 2, none⟩ = cur[2]? := by simp [World.cell?, hcur]
      rw [← this]; exact h2
    have hlt : 2 < cur.size := (Array.getElem?_eq_some_iff.1 h2').1
    simp [World.cell?, World.setCell, Array.getElem?_modify, hcur]
    rw [Array.getElem?_setIfInBounds, if_pos rfl, if_pos hlt]
  refine ⟨by simpa [World.setCell] using hr.1, fun i hi => ?_⟩
  obtain ⟨h0, h1, h2, h3, h4, h5⟩ := hr.2 i hi
  by_cases hi0 : i = 0
  · subst hi0
    simp only [if_true]
    exact ⟨(key _ (by omega)).trans h0, (key _ (by omega)).trans h1, key2, (key _ (by omega)).trans h3, (key _ (by omega)).trans h4, (key _ (by omega)).trans h5⟩
  · simp only [if_neg hi0]
    exact ⟨(key _ (by omega)).trans h0, (key _ (by omega)).trans h1, (key _ (by omega)).trans h2, (key _ (by omega)).trans h3, (key _ (by omega)).trans h4, (key _ (by omega)).trans h5⟩
theorem addr_add (g j : Nat) : (⟨g, 0, none⟩ : Addr).add j = ⟨g, j, none⟩ := by
  unfold Addr.add
  split
  · rename_i h; subst h; rfl
  · simp
theorem toksC_one' (s : ByteArray) (L : List (Att × Nat)) (u : Value) (h : u ∈ toksC s L) : u.oneCell' = true := by
  unfold toksC at h
  rw [List.mem_flatMap] at h
  obtain ⟨t, _, ht⟩ := h
  simp [tokC] at ht
  rcases ht with rfl | rfl | rfl | rfl | rfl | rfl <;> rfl
set_option maxRecDepth 100000 in
set_option maxHeartbeats 1000000 in
theorem sameL_err1 (s t : ByteArray) (w : World) (ho : EscAt w) (hs : s.size ≤ maxLen) (ht : t.size ≤ maxLen) (p : Nat) (off er : Int) (hS : scanS (cutS s) = .err p off er) :
    Calls Tryd.prog 7 #[.string s, .string t] w fun e w' => e = .returned (.bool true) ∧ Below w.heap.size w w' := by
  have he : (er != 0) = true := by rw [bne_iff_ne]; exact (scanS_err _ _ _ _ hS).1
  have hz := cutS_size s
  have hz' := cutS_size t
  have HS := Lib.hid hS
  clear hS
  go_enter Tryd.func7, Tryd.ntmps7
  go_wp2_with (go_at_call 10; refine (cut_any s _ hs).mono ?_; rintro e w' ⟨rfl, rfl⟩)
  refine (scan_no _ _ p off er ho (by omega) HS.out).mono ?_
  rintro e w1 ⟨rfl, k1⟩
  go_wp2_with (go_at_call 10; refine (cut_any t _ ht).mono ?_; rintro e w' ⟨rfl, rfl⟩)
  cases hT : scanS (cutS t) with
  | err p' off' er' =>
    have HT := Lib.hid hT
    clear hT
    refine (scan_no _ _ p' off' er' (ho.next k1) (by omega) HT.out).mono ?_
    rintro e w2 ⟨rfl, k2⟩
    go_wp2_with fail
    refine (known_any _ (ho.next (bnext k1 k2))).mono ?_
    rintro e w3 ⟨rfl, k3⟩
    go_wp2_with fail
    refine (known_any _ (ho.next (bnext (bnext k1 k2) k3))).mono ?_
    rintro e w4 ⟨rfl, k4⟩
    have B4 := bnext (bnext (bnext k1 k2) k3) k4
    go_wp2
    go_ret
    exact ⟨rfl, B4⟩
  | ok l =>
    have HT := Lib.hid hT
    clear hT
    refine (scan_ok _ _ l (ho.next k1) (by omega) HT.out).mono ?_
    rintro e w2 ⟨g, cap, rfl, _, _, _, k2⟩
    go_wp2_with fail
    refine (known_any _ (ho.next (bnext k1 k2))).mono ?_
    rintro e w3 ⟨rfl, k3⟩
    go_wp2_with fail
    refine (known_any _ (ho.next (bnext (bnext k1 k2) k3))).mono ?_
    rintro e w4 ⟨rfl, k4⟩
    have B4 := bnext (bnext (bnext k1 k2) k3) k4
    go_wp2
    go_ret
    exact ⟨rfl, B4⟩
set_option maxRecDepth 100000 in
set_option maxHeartbeats 1000000 in
theorem sameL_err2 (s t : ByteArray) (w : World) (ho : EscAt w) (hs : s.size ≤ maxLen) (ht : t.size ≤ maxLen) (l : List (Att × Nat)) (hS : scanS (cutS s) = .ok l) (p : Nat) (off er : Int) (hT : scanS (cutS t) = .err p off er) :
    Calls Tryd.prog 7 #[.string s, .string t] w fun e w' => e = .returned (.bool true) ∧ Below w.heap.size w w' := by
  have he : (er != 0) = true := by rw [bne_iff_ne]; exact (scanS_err _ _ _ _ hT).1
  have hz := cutS_size s
  have hz' := cutS_size t
  have HS := Lib.hid hS
  have HT := Lib.hid hT
  clear hS hT
  go_enter Tryd.func7, Tryd.ntmps7
  go_wp2_with (go_at_call 10; refine (cut_any s _ hs).mono ?_; rintro e w' ⟨rfl, rfl⟩)
  refine (scan_ok _ _ l ho (by omega) HS.out).mono ?_
  rintro e w1 ⟨g, cap, rfl, _, _, _, k1⟩
  go_wp2_with (go_at_call 10; refine (cut_any t _ ht).mono ?_; rintro e w' ⟨rfl, rfl⟩)
  refine (scan_no _ _ p off er (ho.next k1) (by omega) HT.out).mono ?_
  rintro e w2 ⟨rfl, k2⟩
  go_wp2_with fail
  refine (known_any _ (ho.next (bnext k1 k2))).mono ?_
  rintro e w3 ⟨rfl, k3⟩
  go_wp2_with fail
  refine (known_any _ (ho.next (bnext (bnext k1 k2) k3))).mono ?_
  rintro e w4 ⟨rfl, k4⟩
  have B4 := bnext (bnext (bnext k1 k2) k3) k4
  go_wp2
  go_ret
  exact ⟨rfl, B4⟩
set_option maxRecDepth 100000 in
set_option maxHeartbeats 800000 in
theorem sameL_len (s t : ByteArray) (w : World) (ho : EscAt w) (hs : s.size ≤ maxLen) (ht : t.size ≤ maxLen) (la lb : List (Att × Nat)) (hS : scanS (cutS s) = .ok la) (hT : scanS (cutS t) = .ok lb) (hne : la.length ≠ lb.length) :
    Calls Tryd.prog 7 #[.string s, .string t] w fun e w' => e = .returned (.bool true) ∧ Below w.heap.size w w' := by
  obtain ⟨i0, hi, hz0, hz1, hzb⟩ := info_parts info35
  have hz := cutS_size s
  have hz' := cutS_size t
  have hla := scan_len _ _ hS
  have hlb := scan_len _ _ hT
  have HS := Lib.hid hS
  have HT := Lib.hid hT
  clear hS hT
  generalize hta : cutS s = ta at *
  generalize htb : cutS t = tb at *
  have HTA := Lib.hid hta
  have HTB := Lib.hid htb
  clear hta htb
  go_enter Tryd.func7, Tryd.ntmps7
  go_wp2_with (go_at_call 10; refine (cut_any s _ hs).mono ?_; rintro e w' ⟨rfl, rfl⟩; rw [HTA.out])
  refine (scan_ok _ _ la ho (by omega) HS.out).mono ?_
  rintro e w1 ⟨ga, capa, rfl, hA0, _, hca, k1⟩
  go_wp2_with (go_at_call 10; refine (cut_any t _ ht).mono ?_; rintro e w' ⟨rfl, rfl⟩; rw [HTB.out])
  refine (scan_ok _ _ lb (ho.next k1) (by omega) HT.out).mono ?_
  rintro e w2 ⟨gb, capb, rfl, hB0, _, hcb, k2⟩
  go_wp2_with fail
  refine (known_any _ (ho.next (bnext k1 k2))).mono ?_
  rintro e w3 ⟨rfl, k3⟩
  have B3 := bnext (bnext k1 k2) k3
  have hA := (hA0.next k2).next k3
  have hBt := hB0.next k3
  clear hA0 hB0 k1 k2 k3
  generalize hn : la.length + 1 = n at *
  generalize hm : lb.length + 1 = m at *
  have HN := Lib.hid hn
  have hm2 : m ≤ 1501 := by omega
  have hnm : ((n : Int) == (m : Int)) = false := by rw [beq_eq_false_iff_ne]; omega
  have hnm2 : n ≠ m := by omega
  have hn2 : n ≤ 1501 := by omega
  have hn1 : 1 ≤ n := by omega
  have HNM := Lib.hid hnm2
  clear hn hm hne hnm2
  obtain ⟨La, hLa⟩ : ∃ La, La = la ++ [(endA, ta.size)] := ⟨_, rfl⟩
  rw [← hLa] at hA
  have HLa := Lib.hid hLa
  have HLL := Lib.hid (show La.length = n by rw [hLa, ← HN.out]; simp)
  clear hLa
  obtain ⟨wr, hwr⟩ : ∃ wr, wr = w3 := ⟨_, rfl⟩
  have hb : Below w3.heap.size w3 wr := by rw [hwr]; exact Below.refl _ _
  rw [← hwr]
  clear hwr
  go_wp2
  refine wp_loop_rounds 1 ?_; rw [rounds_succ]
  have hTa := hA.next hb
  have hTb := hBt.next hb
  have hga := hTa.1
  have hgb := hTb.1
  have HOWN0 := Lib.hid (own_empty wr)
  have HTL := Lib.hid (show (toksC ta La).length = n * 6 by rw [toksC_len, HLL.out])
  have HBW := Lib.hid hb
  clear hb
  go_wp2_with (at_builtin; refine wpList_append_own _ rfl _ _ 23 rfl wr.heap.size 35 i0 (.agg #[.int .i64 0, .string ⟨#[]⟩, .int .i64 0, .string ⟨#[]⟩, .int .i64 0, .int .i64 0]) 6 64 Tryd.underlying23 hi hz0 hz1 hzb rfl (by decide) _ _ _ rfl HOWN0.out ⟨ga, 0, none⟩ n capa (toksC ta La) rfl HTL.out ?c1 ?c2 ?c3 ?c4 ?c5 ?_)
  case c1 => exact fun j u hj => by rw [addr_add]; exact toks_cells (hTa.next ((Below.refl _ _).alloc (Nat.le_refl _) _)) j u hj
  case c2 => exact fun u hu => toksC_one' _ _ u hu
  case c3 => unfold maxLen; omega
  case c4 => omega
  case c5 => simp
  intro v' w2 hown2 hg2 _
  have hB2 : Below wr.heap.size wr w2 := ((Below.refl _ _).alloc (Nat.le_refl _) _).grown hg2 (by simp) (fun g hg => by simp [Value.ownBlock] at hg; omega)
  clear hg2
  obtain ⟨_, ⟨_, h0⟩ | ⟨gc, cc, cur, rfl, hgc, hcur, hcc, hcm, hcs, hcx⟩⟩ := id hown2
  · omega
  have HTC := Lib.hid (toks_of hown2 (by rw [HLL.out]; exact hn1))
  have HTA2 := Lib.hid (hTa.next hB2)
  have HTB2 := Lib.hid (hTb.next hB2)
  have hlc := sc_lt hcur
  have HCUR := Lib.hid hcur
  have HGC := Lib.hid hgc
  obtain ⟨t0, ht0⟩ : ∃ t0, La[0]? = some t0 := ⟨_, List.getElem?_eq_getElem (by rw [HLL.out]; exact hn1)⟩
  have hv0 : w2.cell? ⟨gc, 2, none⟩ = some (.int .i64 t0.1.value) := (HTC.out.2 0 t0 ht0).2.2.1
  have hfz : w2.frozen? ⟨gc, 2, none⟩ = false := by simp [World.frozen?, hcur]
  generalize hvv : t0.1.value = v0 at *
  have HVV := Lib.hid hvv
  have HT0 := Lib.hid ht0
  have HTAW := Lib.hid hTa
  have HTBW := Lib.hid hTb
  clear hown2 hcur hcs hcx hcm hgc hvv ht0 hTa hTb
  have hB3 : Below wr.heap.size wr (w2.setCell ⟨gc, 2, none⟩ (.int .i64 (wrap64 (v0 + 1)))) := hB2.setCell HGC.out _
  have HRA : Hid (TkRow (w2.setCell ⟨gc, 2, none⟩ (.int .i64 (wrap64 (v0 + 1)))) ga n (tkF ta La)) := by
    have := (HTAW.out.next hB3).row
    rwa [HLL.out] at this
  have HRB : True := trivial
  have HRC : Hid (TkRow (w2.setCell ⟨gc, 2, none⟩ (.int .i64 (wrap64 (v0 + 1)))) gc n (fun i => if i = 0 then { tkF ta La 0 with value := wrap64 (v0 + 1) } else tkF ta La i)) := by
    have := row_set HTC.out (by rw [HLL.out]; exact hn1) (wrap64 (v0 + 1)) HCUR.out
    rwa [HLL.out] at this
  have HDIF := Lib.hid (show sameT (tkF ta La 0) { tkF ta La 0 with value := wrap64 (v0 + 1) } = false by
    have e : (tkF ta La 0).value = v0 := by
      unfold tkF
      rw [List.getD_eq_getElem?_getD, HT0.out]
      exact HVV.out
    exact sameT_value _ _ (show (tkF ta La 0).value ≠ wrap64 (v0 + 1) by rw [e]; exact wrap_ne v0))
  have hcap1 : n ≤ capa := hca
  go_wp2_with fail
  generalize hW3 : w2.setCell ⟨gc, 2, none⟩ (.int .i64 (wrap64 (v0 + 1))) = W3 at *
  clear hW3 hB2 hv0 hfz HTC HTA2 HTB2
  refine (same_no _ _ n m _ _ _ HNM.out (by omega) (by omega)).mono ?_
  rintro e w4 ⟨rfl, k4⟩
  go_wp2_with fail
  refine (same_eq ga ga n capa capa (tkF ta La) (tkF ta La) _ (by omega) (HRA.out.next k4) (HRA.out.next k4) true (.inl ⟨rfl, fun i _ => sameT_refl _⟩)).mono ?_
  rintro e w5 ⟨rfl, k5⟩
  go_wp2_with fail
  refine (same_eq ga gc n capa cc (tkF ta La) _ _ (by omega) ((HRA.out.next k4).next k5) ((HRC.out.next k4).next k5) false (.inr ⟨rfl, 0, hn1, HDIF.out⟩)).mono ?_
  rintro e w6 ⟨rfl, k6⟩
  have B6 := bnext (bnext B3 HBW.out) (bnext (bnext (bnext hB3 k4) k5) k6)
  clear k4 k5 k6 hB3
  by_cases hc1 : capa = 1
  · subst hc1
    go_wp2_with fail
    refine (same_no _ _ _ _ _ _ _ (by omega) (by omega) (by omega)).mono ?_
    rintro e w7 ⟨rfl, k7⟩
    go_wp2
    go_ret
    exact ⟨rfl, bnext B6 k7⟩
  · go_wp2_with fail
    refine (same_no _ _ _ _ _ _ _ (by omega) (by omega) (by omega)).mono ?_
    rintro e w7 ⟨rfl, k7⟩
    go_wp2
    go_ret
    exact ⟨rfl, bnext B6 k7⟩
set_option maxRecDepth 100000 in
set_option maxHeartbeats 8000000 in
theorem sameL_eq (s t : ByteArray) (w : World) (ho : EscAt w) (hs : s.size ≤ maxLen) (ht : t.size ≤ maxLen) (la lb : List (Att × Nat)) (hS : scanS (cutS s) = .ok la) (hT : scanS (cutS t) = .ok lb) (hne : la.length = lb.length) :
    Calls Tryd.prog 7 #[.string s, .string t] w fun e w' => e = .returned (.bool true) ∧ Below w.heap.size w w' := by
  obtain ⟨i0, hi, hz0, hz1, hzb⟩ := info_parts info35
  have hz := cutS_size s
  have hz' := cutS_size t
  have hla := scan_len _ _ hS
  have hlb := scan_len _ _ hT
  have HS := Lib.hid hS
  have HT := Lib.hid hT
  clear hS hT
  generalize hta : cutS s = ta at *
  generalize htb : cutS t = tb at *
  have HTA := Lib.hid hta
  have HTB := Lib.hid htb
  clear hta htb
  have HNE := Lib.hid hne
  clear hne
  go_enter Tryd.func7, Tryd.ntmps7
  go_wp2_with (go_at_call 10; refine (cut_any s _ hs).mono ?_; rintro e w' ⟨rfl, rfl⟩; rw [HTA.out])
  refine (scan_ok _ _ la ho (by omega) HS.out).mono ?_
  rintro e w1 ⟨ga, capa, rfl, hA0, _, hca, k1⟩
  go_wp2_with (go_at_call 10; refine (cut_any t _ ht).mono ?_; rintro e w' ⟨rfl, rfl⟩; rw [HTB.out])
  refine (scan_ok _ _ lb (ho.next k1) (by omega) HT.out).mono ?_
  rintro e w2 ⟨gb, capb, rfl, hB0, _, hcb, k2⟩
  rw [← HNE.out]
  rw [← HNE.out] at hcb
  go_wp2_with fail
  refine (known_any _ (ho.next (bnext k1 k2))).mono ?_
  rintro e w3 ⟨rfl, k3⟩
  have B3 := bnext (bnext k1 k2) k3
  have hA := (hA0.next k2).next k3
  have hBt := hB0.next k3
  clear hA0 hB0 k1 k2 k3
  obtain ⟨La, hLa⟩ : ∃ La, La = la ++ [(endA, ta.size)] := ⟨_, rfl⟩
  obtain ⟨Lb, hLb⟩ : ∃ Lb, Lb = lb ++ [(endA, tb.size)] := ⟨_, rfl⟩
  rw [← hLa] at hA
  rw [← hLb] at hBt
  generalize hn : la.length + 1 = n at *
  have HLL := Lib.hid (show La.length = n by rw [hLa, ← hn]; simp)
  have HLB := Lib.hid (show Lb.length = n by rw [hLb, ← hn, HNE.out]; simp)
  have hn2 : n ≤ 1501 := by omega
  have hn1 : 1 ≤ n := by omega
  clear hn hLa hLb hla hlb
  go_wp2
  go_loopw [13, 14] (fun b i wr => ∃ (k : Nat) (B : Bool), k ≤ n ∧ i = .int .i64 k ∧ b = .bool B ∧ ((B = true ∧ ∀ j, j < k → sameT (tkF ta La j) (tkF tb Lb j) = true) ∨ (B = false ∧ ∃ j, j < n ∧ sameT (tkF ta La j) (tkF tb Lb j) = false)) ∧ Below w3.heap.size w3 wr) (fun _ i _ => n - (intOf i).toNat)
  case atStart => exact ⟨0, true, Nat.zero_le _, rfl, rfl, .inl ⟨rfl, fun j h => by omega⟩, Below.refl _ _⟩
  case round =>
    obtain ⟨k, B, hk, rfl, rfl, hrel, hb⟩ := hrel
    rcases hrel with ⟨rfl, hall⟩ | ⟨rfl, hex⟩
    · have HALL := Lib.hid hall
      clear hall
      by_cases hlt : k < n
      · have hra := (hA.next hb).row
        rw [HLL.out] at hra
        have hrb := (hBt.next hb).row
        rw [HLB.out] at hrb
        obtain ⟨c0, c1, c2, c3, _, _⟩ := hra.2 k hlt
        obtain ⟨d0, d1, d2, d3, _, _⟩ := hrb.2 k hlt
        clear hra hrb
        have P0 : (0 : Int) ≤ (k : Int) := by omega
        have P1 : (k : Int) < (n : Int) := by omega
        rcases hfk : tkF ta La k with ⟨a1, a2, a3, a4, a5, a6⟩
        rcases hhk : tkF tb Lb k with ⟨b1, b2, b3, b4, b5, b6⟩
        rw [hfk] at c0 c1 c2 c3
        rw [hhk] at d0 d1 d2 d3
        have HSS := Lib.hid (show sameT (tkF ta La k) (tkF tb Lb k) = sameT ⟨a1, a2, a3, a4, a5, a6⟩ ⟨b1, b2, b3, b4, b5, b6⟩ by rw [hfk, hhk])
        clear hfk hhk
        simp only at c0 c1 c2 c3 d0 d1 d2 d3
        by_cases e1 : a1 = b1
        · subst e1
          cases e2 : (a2.toList == b2.toList) with
          | false =>
            have HSF := Lib.hid (show sameT (tkF ta La k) (tkF tb Lb k) = false by rw [HSS.out]; unfold sameT; rw [← str_beq, e2]; simp)
            go_wp2
            go_quiet (fail)
            go_wp2
            go_roundw
            case rel => exact ⟨k + 1, false, by omega, by go_num, rfl, .inr ⟨rfl, k, hlt, HSF.out⟩, below_drewN hb _⟩
            case measure => simp [intOf]; omega
          | true =>
            by_cases e3 : a3 = b3
            · subst e3
              cases e4 : (a4.toList == b4.toList) with
              | false =>
                have HSF := Lib.hid (show sameT (tkF ta La k) (tkF tb Lb k) = false by rw [HSS.out]; unfold sameT; simp only []; rw [← str_beq a4, e4]; simp)
                go_wp2
                go_quiet (fail)
                go_wp2
                go_roundw
                case rel => exact ⟨k + 1, false, by omega, by go_num, rfl, .inr ⟨rfl, k, hlt, HSF.out⟩, below_drewN hb _⟩
                case measure => simp [intOf]; omega
              | true =>
                have HST := Lib.hid (show sameT (tkF ta La k) (tkF tb Lb k) = true by rw [HSS.out]; unfold sameT; simp only []; rw [← str_beq a4, ← str_beq a2, e2, e4]; simp)
                go_wp2
                go_quiet (fail)
                go_wp2
                go_roundw
                case rel => exact ⟨k + 1, true, by omega, by go_num, rfl, .inl ⟨rfl, fun j hj => (by by_cases e : j = k; (subst e; exact HST.out); exact HALL.out j (by omega))⟩, below_drewN hb _⟩
                case measure => simp [intOf]; omega
            · have HSF := Lib.hid (show sameT (tkF ta La k) (tkF tb Lb k) = false by rw [HSS.out]; exact sameT_value _ _ e3)
              have e3' : (a3 == b3) = false := by simpa using e3
              clear e3
              go_wp2
              go_quiet (fail)
              go_wp2
              go_roundw
              case rel => exact ⟨k + 1, false, by omega, by go_num, rfl, .inr ⟨rfl, k, hlt, HSF.out⟩, below_drewN hb _⟩
              case measure => simp [intOf]; omega
        · have HSF := Lib.hid (show sameT (tkF ta La k) (tkF tb Lb k) = false by rw [HSS.out]; unfold sameT; simp only []; rw [decide_eq_false e1]; simp)
          have e1' : (a1 == b1) = false := by simpa using e1
          clear e1
          go_wp2
          go_quiet (fail)
          go_wp2
          go_roundw
          case rel => exact ⟨k + 1, false, by omega, by go_num, rfl, .inr ⟨rfl, k, hlt, HSF.out⟩, below_drewN hb _⟩
          case measure => simp [intOf]; omega
      · have HB := Lib.hid (show ∀ i, i < n → sameT (tkF ta La i) (tkF tb Lb i) = true from fun i hi => HALL.out i (by omega))
        clear HALL
        have hTa := hA.next hb
        have hTb := hBt.next hb
        have hga := hTa.1
        have hgb := hTb.1
        have HOWN0 := Lib.hid (own_empty wr)
        have HTL := Lib.hid (show (toksC ta La).length = n * 6 by rw [toksC_len, HLL.out])
        have HBW := Lib.hid hb
        clear hb
        go_wp2_with (at_builtin; refine wpList_append_own _ rfl _ _ 23 rfl wr.heap.size 35 i0 (.agg #[.int .i64 0, .string ⟨#[]⟩, .int .i64 0, .string ⟨#[]⟩, .int .i64 0, .int .i64 0]) 6 64 Tryd.underlying23 hi hz0 hz1 hzb rfl (by decide) _ _ _ rfl HOWN0.out ⟨ga, 0, none⟩ n capa (toksC ta La) rfl HTL.out ?c1 ?c2 ?c3 ?c4 ?c5 ?_)
        case c1 => exact fun j u hj => by rw [addr_add]; exact toks_cells (hTa.next ((Below.refl _ _).alloc (Nat.le_refl _) _)) j u hj
        case c2 => exact fun u hu => toksC_one' _ _ u hu
        case c3 => unfold maxLen; omega
        case c4 => omega
        case c5 => simp
        intro v' w2 hown2 hg2 _
        have hB2 : Below wr.heap.size wr w2 := ((Below.refl _ _).alloc (Nat.le_refl _) _).grown hg2 (by simp) (fun g hg => by simp [Value.ownBlock] at hg; omega)
        clear hg2
        obtain ⟨_, ⟨_, h0⟩ | ⟨gc, cc, cur, rfl, hgc, hcur, hcc, hcm, hcs, hcx⟩⟩ := id hown2
        · omega
        have HTC := Lib.hid (toks_of hown2 (by rw [HLL.out]; exact hn1))
        have HTA2 := Lib.hid (hTa.next hB2)
        have HTB2 := Lib.hid (hTb.next hB2)
        have hlc := sc_lt hcur
        have HCUR := Lib.hid hcur
        have HGC := Lib.hid hgc
        obtain ⟨t0, ht0⟩ : ∃ t0, La[0]? = some t0 := ⟨_, List.getElem?_eq_getElem (by rw [HLL.out]; exact hn1)⟩
        have hv0 : w2.cell? ⟨gc, 2, none⟩ = some (.int .i64 t0.1.value) := (HTC.out.2 0 t0 ht0).2.2.1
        have hfz : w2.frozen? ⟨gc, 2, none⟩ = false := by simp [World.frozen?, hcur]
        generalize hvv : t0.1.value = v0 at *
        have HVV := Lib.hid hvv
        have HT0 := Lib.hid ht0
        have HTAW := Lib.hid hTa
        have HTBW := Lib.hid hTb
        clear hown2 hcur hcs hcx hcm hgc hvv ht0 hTa hTb
        have hB3 : Below wr.heap.size wr (w2.setCell ⟨gc, 2, none⟩ (.int .i64 (wrap64 (v0 + 1)))) := hB2.setCell HGC.out _
        have HRA : Hid (TkRow (w2.setCell ⟨gc, 2, none⟩ (.int .i64 (wrap64 (v0 + 1)))) ga n (tkF ta La)) := by
          have := (HTAW.out.next hB3).row
          rwa [HLL.out] at this
        have HRB : Hid (TkRow (w2.setCell ⟨gc, 2, none⟩ (.int .i64 (wrap64 (v0 + 1)))) gb n (tkF tb Lb)) := by
          have := (HTBW.out.next hB3).row
          rwa [HLB.out] at this
        have HRC : Hid (TkRow (w2.setCell ⟨gc, 2, none⟩ (.int .i64 (wrap64 (v0 + 1)))) gc n (fun i => if i = 0 then { tkF ta La 0 with value := wrap64 (v0 + 1) } else tkF ta La i)) := by
          have := row_set HTC.out (by rw [HLL.out]; exact hn1) (wrap64 (v0 + 1)) HCUR.out
          rwa [HLL.out] at this
        have HDIF := Lib.hid (show sameT (tkF ta La 0) { tkF ta La 0 with value := wrap64 (v0 + 1) } = false by
          have e : (tkF ta La 0).value = v0 := by
            unfold tkF
            rw [List.getD_eq_getElem?_getD, HT0.out]
            exact HVV.out
          exact sameT_value _ _ (show (tkF ta La 0).value ≠ wrap64 (v0 + 1) by rw [e]; exact wrap_ne v0))
        have hcap1 : n ≤ capa := hca
        go_wp2_with fail
        generalize hW3 : w2.setCell ⟨gc, 2, none⟩ (.int .i64 (wrap64 (v0 + 1))) = W3 at *
        clear hW3 hB2 hv0 hfz HTC HTA2 HTB2
        refine (same_eq ga gb n _ _ (tkF ta La) (tkF tb Lb) _ (by omega) HRA.out HRB.out true (.inl ⟨rfl, HB.out⟩)).mono ?_
        rintro e w4 ⟨rfl, k4⟩
        go_wp2_with fail
        refine (same_eq ga ga n capa capa (tkF ta La) (tkF ta La) _ (by omega) (HRA.out.next k4) (HRA.out.next k4) true (.inl ⟨rfl, fun i _ => sameT_refl _⟩)).mono ?_
        rintro e w5 ⟨rfl, k5⟩
        go_wp2_with fail
        refine (same_eq ga gc n capa cc (tkF ta La) _ _ (by omega) ((HRA.out.next k4).next k5) ((HRC.out.next k4).next k5) false (.inr ⟨rfl, 0, hn1, HDIF.out⟩)).mono ?_
        rintro e w6 ⟨rfl, k6⟩
        have B6 := bnext (bnext B3 HBW.out) (bnext (bnext (bnext hB3 k4) k5) k6)
        clear k4 k5 k6 hB3
        by_cases hc1 : capa = 1
        · subst hc1
          go_wp2_with fail
          refine (same_no _ _ _ _ _ _ _ (by omega) (by omega) (by omega)).mono ?_
          rintro e w7 ⟨rfl, k7⟩
          go_wp2
          go_ret
          exact ⟨rfl, bnext B6 k7⟩
        · go_wp2_with fail
          refine (same_no _ _ _ _ _ _ _ (by omega) (by omega) (by omega)).mono ?_
          rintro e w7 ⟨rfl, k7⟩
          go_wp2
          go_ret
          exact ⟨rfl, bnext B6 k7⟩
    · have HB := Lib.hid hex
      clear hex
      by_cases hlt : k < n
      all_goals
        have hTa := hA.next hb
        have hTb := hBt.next hb
        have hga := hTa.1
        have hgb := hTb.1
        have HOWN0 := Lib.hid (own_empty wr)
        have HTL := Lib.hid (show (toksC ta La).length = n * 6 by rw [toksC_len, HLL.out])
        have HBW := Lib.hid hb
        clear hb
        go_wp2_with (at_builtin; refine wpList_append_own _ rfl _ _ 23 rfl wr.heap.size 35 i0 (.agg #[.int .i64 0, .string ⟨#[]⟩, .int .i64 0, .string ⟨#[]⟩, .int .i64 0, .int .i64 0]) 6 64 Tryd.underlying23 hi hz0 hz1 hzb rfl (by decide) _ _ _ rfl HOWN0.out ⟨ga, 0, none⟩ n capa (toksC ta La) rfl HTL.out ?c1 ?c2 ?c3 ?c4 ?c5 ?_)
        case c1 => exact fun j u hj => by rw [addr_add]; exact toks_cells (hTa.next ((Below.refl _ _).alloc (Nat.le_refl _) _)) j u hj
        case c2 => exact fun u hu => toksC_one' _ _ u hu
        case c3 => unfold maxLen; omega
        case c4 => omega
        case c5 => simp
        intro v' w2 hown2 hg2 _
        have hB2 : Below wr.heap.size wr w2 := ((Below.refl _ _).alloc (Nat.le_refl _) _).grown hg2 (by simp) (fun g hg => by simp [Value.ownBlock] at hg; omega)
        clear hg2
        obtain ⟨_, ⟨_, h0⟩ | ⟨gc, cc, cur, rfl, hgc, hcur, hcc, hcm, hcs, hcx⟩⟩ := id hown2
        · omega
        have HTC := Lib.hid (toks_of hown2 (by rw [HLL.out]; exact hn1))
        have HTA2 := Lib.hid (hTa.next hB2)
        have HTB2 := Lib.hid (hTb.next hB2)
        have hlc := sc_lt hcur
        have HCUR := Lib.hid hcur
        have HGC := Lib.hid hgc
        obtain ⟨t0, ht0⟩ : ∃ t0, La[0]? = some t0 := ⟨_, List.getElem?_eq_getElem (by rw [HLL.out]; exact hn1)⟩
        have hv0 : w2.cell? ⟨gc, 2, none⟩ = some (.int .i64 t0.1.value) := (HTC.out.2 0 t0 ht0).2.2.1
        have hfz : w2.frozen? ⟨gc, 2, none⟩ = false := by simp [World.frozen?, hcur]
        generalize hvv : t0.1.value = v0 at *
        have HVV := Lib.hid hvv
        have HT0 := Lib.hid ht0
        have HTAW := Lib.hid hTa
        have HTBW := Lib.hid hTb
        clear hown2 hcur hcs hcx hcm hgc hvv ht0 hTa hTb
        have hB3 : Below wr.heap.size wr (w2.setCell ⟨gc, 2, none⟩ (.int .i64 (wrap64 (v0 + 1)))) := hB2.setCell HGC.out _
        have HRA : Hid (TkRow (w2.setCell ⟨gc, 2, none⟩ (.int .i64 (wrap64 (v0 + 1)))) ga n (tkF ta La)) := by
          have := (HTAW.out.next hB3).row
          rwa [HLL.out] at this
        have HRB : Hid (TkRow (w2.setCell ⟨gc, 2, none⟩ (.int .i64 (wrap64 (v0 + 1)))) gb n (tkF tb Lb)) := by
          have := (HTBW.out.next hB3).row
          rwa [HLB.out] at this
        have HRC : Hid (TkRow (w2.setCell ⟨gc, 2, none⟩ (.int .i64 (wrap64 (v0 + 1)))) gc n (fun i => if i = 0 then { tkF ta La 0 with value := wrap64 (v0 + 1) } else tkF ta La i)) := by
          have := row_set HTC.out (by rw [HLL.out]; exact hn1) (wrap64 (v0 + 1)) HCUR.out
          rwa [HLL.out] at this
        have HDIF := Lib.hid (show sameT (tkF ta La 0) { tkF ta La 0 with value := wrap64 (v0 + 1) } = false by
          have e : (tkF ta La 0).value = v0 := by
            unfold tkF
            rw [List.getD_eq_getElem?_getD, HT0.out]
            exact HVV.out
          exact sameT_value _ _ (show (tkF ta La 0).value ≠ wrap64 (v0 + 1) by rw [e]; exact wrap_ne v0))
        have hcap1 : n ≤ capa := hca
        go_wp2_with fail
        generalize hW3 : w2.setCell ⟨gc, 2, none⟩ (.int .i64 (wrap64 (v0 + 1))) = W3 at *
        clear hW3 hB2 hv0 hfz HTC HTA2 HTB2
        refine (same_eq ga gb n _ _ (tkF ta La) (tkF tb Lb) _ (by omega) HRA.out HRB.out false (.inr ⟨rfl, HB.out⟩)).mono ?_
        rintro e w4 ⟨rfl, k4⟩
        go_wp2_with fail
        refine (same_eq ga ga n capa capa (tkF ta La) (tkF ta La) _ (by omega) (HRA.out.next k4) (HRA.out.next k4) true (.inl ⟨rfl, fun i _ => sameT_refl _⟩)).mono ?_
        rintro e w5 ⟨rfl, k5⟩
        go_wp2_with fail
        refine (same_eq ga gc n capa cc (tkF ta La) _ _ (by omega) ((HRA.out.next k4).next k5) ((HRC.out.next k4).next k5) false (.inr ⟨rfl, 0, hn1, HDIF.out⟩)).mono ?_
        rintro e w6 ⟨rfl, k6⟩
        have B6 := bnext (bnext B3 HBW.out) (bnext (bnext (bnext hB3 k4) k5) k6)
        clear k4 k5 k6 hB3
        by_cases hc1 : capa = 1
        · subst hc1
          go_wp2_with fail
          refine (same_no _ _ _ _ _ _ _ (by omega) (by omega) (by omega)).mono ?_
          rintro e w7 ⟨rfl, k7⟩
          go_wp2
          go_ret
          exact ⟨rfl, bnext B6 k7⟩
        · go_wp2_with fail
          refine (same_no _ _ _ _ _ _ _ (by omega) (by omega) (by omega)).mono ?_
          rintro e w7 ⟨rfl, k7⟩
          go_wp2
          go_ret
          exact ⟨rfl, bnext B6 k7⟩
theorem sameL_walk (s t : ByteArray) (w : World) (ho : EscAt w) (hs : s.size ≤ maxLen) (ht : t.size ≤ maxLen) :
    Calls Tryd.prog 7 #[.string s, .string t] w fun e w' => e = .returned (.bool true) ∧ Below w.heap.size w w' := by
  cases hS : scanS (cutS s) with
  | err p off er => exact sameL_err1 s t w ho hs ht p off er hS
  | ok la =>
    cases hT : scanS (cutS t) with
    | err p off er => exact sameL_err2 s t w ho hs ht la hS p off er hT
    | ok lb =>
      by_cases h : la.length = lb.length
      · exact sameL_eq s t w ho hs ht la lb hS hT h
      · exact sameL_len s t w ho hs ht la lb hS hT h
end Go.Proofs.YtdhfkokinnmfhaaDoor
