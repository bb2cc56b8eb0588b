/- Walks of layer 41: Expand of the reference. -/
import Derived.Test.YtiddchpkmcncdaaX32
namespace Go.Proofs.Ytiddchpkmcncdaa
open Go.RowKit
set_option linter.unusedSimpArgs false
set_option linter.unusedVariables false
def ExOk (t : Ex) : Prop := t.bg = false → t.tx = []
theorem ExOk.zero : ExOk ex0 := fun _ => rfl
theorem ExOk.add (t : Ex) (s : Bs) : ExOk (addE t s) := fun h => by cases h
theorem ExOk.fin (t : Ex) : ExOk (endE t) := fun _ => rfl
theorem endE_no {t : Ex} (h : ExOk t) (hb : t.bg = false) : endE t = t := by
  obtain ⟨o, x, b⟩ := t
  cases hb
  have := h rfl
  simp only at this
  subst this
  rfl
theorem ExOk.C {t : Ex} (h : ExOk t) (b : UInt8) : ExOk (expC t b) := by
  unfold expC
  split
  · exact ExOk.fin t
  · exact ExOk.add t _
/-- The texts held in slots. -/
def RxS (w : World) (t : Ex) (v5 v6 v7 : Value) (wr : World) : Prop :=
  v6 = .string (bs t.tx) ∧ v7 = .bool t.bg ∧ Below w.heap.size w wr ∧ wr.ownsRow w.heap.size 9 1 v5 t.out.length (stC t.out) ∧ ExOk t
def RxRel (w : World) (val : Bs → Bs) (ps : Wd) (gk : Nat) (v5 v6 v7 i : Value) (wr : World) : Prop :=
  ∃ k, i = .int .i64 ((k : Nat) : Int) ∧ k ≤ ps.length ∧ gk + k = ps.length + 1 ∧ RxS w ((ps.take k).foldl (expP val) ex0) v5 v6 v7 wr
def RyRel (w : World) (s : Bs) (t : Ex) (gk : Nat) (v5 v6 v7 i : Value) (wr : World) : Prop :=
  ∃ j, i = .int .i64 ((j : Nat) : Int) ∧ j ≤ s.length ∧ gk + j = s.length + 1 ∧ RxS w ((s.take j).foldl expC t) v5 v6 v7 wr
theorem stC_snoc (l : List Bs) (t : Bs) : stC (l ++ [t]) = stC l ++ [.string (bs t)] := by simp [stC]
theorem catx (a b : Bs) (N M : Nat) (ha : (bs a).size ≤ N) (hb : (bs b).size ≤ M) (h : N + M ≤ 4000000000000000000) : ∃ X, a ++ b = X ∧ bs a ++ bs b = bs X ∧ (bs X).size ≤ N + M := by
  refine ⟨_, rfl, (bs_app _ _).symm, ?_⟩
  rw [bs_size] at ha hb ⊢
  rw [List.length_append]; omega
theorem RxS.push {w wr w1 : World} {t : Ex} {v5 v' : Value} {o : Obj} (hb : Below w.heap.size w wr) (ho : wr.ownsRow w.heap.size 9 1 v5 t.out.length (stC t.out)) (hg : (wr.alloc o).grownBy w1 v5.ownBlock)
    (hown : w1.ownsRow w.heap.size 9 1 v' (t.out.length + 1) (stC t.out ++ [.string (bs t.tx)])) (hbg : t.bg = true) : RxS w (endE t) v' (.string ⟨#[]⟩) (.bool false) w1 := by
  refine ⟨rfl, rfl, below_own (hb.alloc hb.size o) (ho.alloc o) hg (Nat.le_refl _) (by have := hb.size; simp; omega), ?_, ExOk.fin t⟩
  unfold endE
  rw [hbg]
  simp only [if_true, List.length_append, List.length_cons, List.length_nil, stC_snoc]
  exact hown
set_option maxRecDepth 100000 in
set_option maxHeartbeats 8000000 in
theorem rExpand_any (w : World) (v vv : Value) (ps : Wd) (vs : Vl) (h : Rd 51 w v ps.length (pcC ps)) (hv : Rd 56 w vv vs.length (vlC vs)) (hl : ps.length ≤ 1000) (hlv : vs.length ≤ 1000) (hpl : ∀ p ∈ ps, p.text.length ≤ 1000 ∧ (valOf vs p.text).length ≤ 1000) :
    Calls Try.prog 33 #[v, vv] w (ExpP w (expS (valOf vs) ps)) := by
  obtain ⟨i0, hi, hz0, hz1, hz2⟩ := info_parts info9
  obtain ⟨A, c, rfl, hc⟩ := Rd.form h
  obtain ⟨B, d, rfl, _⟩ := Rd.form hv
  have HC := Lib.hid (fun (k : Nat) (hk : k < ps.length) => (show ∃ b o, A = some ⟨b, o, none⟩ ∧ b < w.heap.size ∧ w.cell? ⟨b, o + k * 3, none⟩ = some (.string (bs ps[k].text)) ∧ w.cell? ⟨b, o + k * 3 + 1, none⟩ = some (.bool ps[k].var) ∧ w.cell? ⟨b, o + k * 3 + 2, none⟩ = some (.bool ps[k].quo) from by
    obtain ⟨b, o, c', hv', _, hb, hx⟩ := Rd.piece h (by omega)
    injection hv' with hA
    exact ⟨b, o, hA, hb, hx k hk⟩))
  have HV := Lib.hid hv
  have HPL := Lib.hid hpl
  have HM := Lib.hid (show ∀ k, exM ((ps.take k).foldl (expP (valOf vs)) ex0) ≤ 1000000 from fun k => by
    have h1 := exM_all (valOf vs) 1000 (ps.take k) ex0 (fun p hp => hpl p (List.mem_of_mem_take hp))
    have h2 : (ps.take k).length ≤ 1000 := by rw [List.length_take]; omega
    have h3 : 1000 * (ps.take k).length ≤ 1000 * 1000 := Nat.mul_le_mul_left _ h2
    have h4 : exM ex0 = 0 := rfl
    omega)
  clear h hv hpl
  go_enter Try.func33, Try.ntmps33
  go_wp2
  go_loopg [5, 6, 7, 8] (ps.length + 1) (fun gk v5 v6 v7 i wr => RxRel w (valOf vs) ps gk v5 v6 v7 i wr)
  case atStart => exact ⟨0, rfl, Nat.zero_le _, by omega, rfl, rfl, Below.refl _ _, World.ownsRow_nil _ _ _ _, ExOk.zero⟩
  case round =>
    obtain ⟨k, rfl, hk, hgk, rfl, rfl, hb, ho, hok⟩ := hrel
    have hm := HM.out k
    have HB := Lib.hid hb
    by_cases hlt : k < ps.length
    · obtain ⟨b, o, rfl, hb0, p0, p1, p2⟩ := HC.out k hlt
      have hpt := HPL.out ps[k] (List.getElem_mem hlt)
      have HNX := Lib.hid (fold_next (expP (valOf vs)) ps ex0 k hlt)
      obtain ⟨p, hp⟩ : ∃ p, ps[k] = p := ⟨_, rfl⟩
      rw [hp] at p0 p1 p2 hpt HNX
      obtain ⟨t, ht⟩ : ∃ t, (ps.take k).foldl (expP (valOf vs)) ex0 = t := ⟨_, rfl⟩
      rw [ht] at HNX hm ho hok ⊢
      clear hp ht
      have HO := Lib.hid ho
      have HOK := Lib.hid hok
      have hbr : b < wr.heap.size := Nat.lt_of_lt_of_le hb0 hb.size
      have e0 := ((bcell hb).1 b _ hb0).trans p0
      have e1 := ((bcell hb).1 b _ hb0).trans p1
      have e2 := ((bcell hb).1 b _ hb0).trans p2
      have i1 : (0 : Int) ≤ (k : Int) := by omega
      have i2 : (k : Int) < (ps.length : Int) := by omega
      have hzt : (bs t.tx).size ≤ 1000000 := by rw [bs_size]; unfold exM at hm; omega
      have hzp : (bs p.text).size ≤ 1000 := by rw [bs_size]; exact hpt.1
      have HVR := Lib.hid (Rd.next HV.out hb)
      clear p0 p1 p2 ho hok hb
      cases hvr : p.var with
      | false =>
        rw [hvr] at e1
        have HE := Lib.hid (show expP (valOf vs) t p = addE t p.text by unfold expP; rw [if_pos hvr])
        obtain ⟨X, hX, hXb, hXz⟩ := catx t.tx p.text 1000000 1000 hzt hzp (by omega)
        have HX := Lib.hid hXb
        have HXX := Lib.hid hX
        clear hvr hXb hX
        go_wp2
        go_roundg (gk - 1)
        case rel =>
          rw [HX.out]
          refine ⟨k + 1, by go_num, by omega, by omega, ?_⟩
          rw [HNX.out, HE.out]
          exact ⟨by unfold addE; rw [HXX.out], rfl, HB.out, HO.out, ExOk.add t _⟩
        case measure => omega
      | true =>
        rw [hvr] at e1
        obtain ⟨S, hS⟩ : ∃ S, valOf vs p.text = S := ⟨_, rfl⟩
        have HS := Lib.hid hS
        have hSl : S.length ≤ 1000 := by rw [← hS]; exact hpt.2
        have hzs : (bs S).size ≤ 1000 := by rw [bs_size]; exact hSl
        clear hS
        cases hqr : p.quo with
        | true =>
          rw [hqr] at e2
          have HE := Lib.hid (show expP (valOf vs) t p = addE t S by unfold expP; rw [if_neg (by rw [hvr]; simp), if_pos hqr, HS.out])
          obtain ⟨X, hX, hXb, hXz⟩ := catx t.tx S 1000000 1000 hzt hzs (by omega)
          have HX := Lib.hid hXb
          have HXX := Lib.hid hX
          clear hvr hqr hXb hX
          go_wp2_with (go_at_call 62; refine (Of_any _ _ vs p.text HVR.out (by omega)).mono ?_; rintro e w' ⟨rfl, rfl⟩; rw [HS.out])
          go_roundg (gk - 1)
          case rel =>
            rw [HX.out]
            refine ⟨k + 1, by go_num, by omega, by omega, ?_⟩
            rw [HNX.out, HE.out]
            exact ⟨by unfold addE; rw [HXX.out], rfl, HB.out, HO.out, ExOk.add t _⟩
          case measure => omega
        | false =>
          rw [hqr] at e2
          have HE := Lib.hid (show expP (valOf vs) t p = S.foldl expC t by unfold expP; rw [if_neg (by rw [hvr]; simp), if_neg (by rw [hqr]; simp), HS.out])
          have HMJ := Lib.hid (show ∀ j, exM ((S.take j).foldl expC t) ≤ 1001000 from fun j => by
            have h1 := exM_fold (S.take j) t
            have h2 : (S.take j).length ≤ 1000 := by rw [List.length_take]; omega
            omega)
          clear hvr hqr hm
          go_wp2_with (go_at_call 62; refine (Of_any _ _ vs p.text HVR.out (by omega)).mono ?_; rintro e w' ⟨rfl, rfl⟩; rw [HS.out])
          obtain ⟨wo, rfl⟩ : ∃ wo : World, wo = wr := ⟨_, rfl⟩
          obtain ⟨gk0, rfl⟩ : ∃ gk0 : Nat, gk0 = gk := ⟨_, rfl⟩
          clear e0 e1 e2 hbr
          go_loopg [5, 6, 7, 10] (S.length + 1) (fun gk v5 v6 v7 i wr => RyRel w S t gk v5 v6 v7 i wr)
          case atStart => exact ⟨0, rfl, Nat.zero_le _, by omega, rfl, rfl, HB.out, HO.out, HOK.out⟩
          case round =>
            obtain ⟨j, rfl, hj, hgj, rfl, rfl, hb, ho, hok⟩ := hrel
            have hm := HMJ.out j
            by_cases hjl : j < S.length
            · have HNJ := Lib.hid (foldC_next S t j hjl)
              obtain ⟨u, hu⟩ : ∃ u, (S.take j).foldl expC t = u := ⟨_, rfl⟩
              rw [hu] at HNJ hm ho hok ⊢
              clear hu
              have HOJ := Lib.hid ho
              have HOKJ := Lib.hid hok
              have HBJ := Lib.hid hb
              have hs0 := hb.size
              have hju : j < (bs S).size := by rw [bs_size]; exact hjl
              have hbk := bt_of (bs S) j hju
              have HBT := Lib.hid (bt_getD S j)
              have HX1 := Lib.hid (ext_one S j hjl)
              have i3 : (0 : Int) ≤ (j : Int) := by omega
              have i4 : (j : Int) < ((bs S).size : Int) := by omega
              have hzu : (bs u.tx).size ≤ 1001000 := by rw [bs_size]; unfold exM at hm; omega
              have z1 : ((bs S).extract j (j + 1)).size ≤ 1 := by rw [HX1.out, bs_size]; simp
              have hul : u.out.length ≤ 1001000 := by unfold exM at hm; omega
              clear ho hok hb hm
              cases hsp : sepB (S.getD j 0) with
              | true =>
                have HE2 := Lib.hid (show expC u (S.getD j 0) = endE u by unfold expC; rw [if_pos hsp])
                have hor : bt (bs S) j = 32 ∨ bt (bs S) j = 9 ∨ bt (bs S) j = 10 := by
                  rw [HBT.out]
                  unfold sepB at hsp
                  simp only [Bool.or_eq_true, decide_eq_true_eq] at hsp
                  rcases hsp with (h | h) | h
                  · exact .inl h
                  · exact .inr (.inl h)
                  · exact .inr (.inr h)
                clear hsp
                cases hub : u.bg with
                | true =>
                  have HUB := Lib.hid hub
                  obtain ⟨G, gc, hG, _⟩ := own_len HOJ.out
                  rcases hor with h | h | h
                  all_goals
                    rw [h] at hbk
                    clear h
                    subst hG
                    go_wp2_with (at_builtin; refine wpList_append_lies _ rfl _ _ _ rfl w.heap.size 9 i0 _ 1 16 Try.underlying59 hi hz0 hz1 hz2 rfl (by omega) (.slice G u.out.length gc) u.out.length (stC u.out) rfl (HOJ.out.alloc _) ⟨wr.heap.size, 0, none⟩ 1 1 [.string (bs u.tx)] rfl rfl (World.news_of_block (cs := #[.string (bs u.tx)]) (t := 9) (fr := (0, 0)) (heap_alloc_new wr _)) (by simp [Value.oneCell']) (by omega) (by unfold maxLen; omega) (by omega) (by simp; omega) (wr.heap.size + 1) (by simp) ?_; intro gz cap w4 hown4 hgrow4 hat4 hlt4)
                    go_roundg (gk - 1)
                    case rel =>
                      refine ⟨j + 1, by go_num, by omega, by omega, ?_⟩
                      rw [HNJ.out, HE2.out]
                      exact RxS.push HBJ.out HOJ.out hgrow4 hown4 HUB.out
                    case measure => omega
                | false =>
                  have HUB := Lib.hid hub
                  have HEN := Lib.hid (endE_no HOKJ.out hub)
                  rcases hor with h | h | h
                  all_goals
                    rw [h] at hbk
                    clear h
                    go_wp2
                    go_roundg (gk - 1)
                    case rel =>
                      refine ⟨j + 1, by go_num, by omega, by omega, ?_⟩
                      rw [HNJ.out, HE2.out, HEN.out]
                      exact ⟨rfl, by rw [HUB.out], HBJ.out, HOJ.out, HOKJ.out⟩
                    case measure => omega
              | false =>
                have HE2 := Lib.hid (show expC u (S.getD j 0) = addE u [S.getD j 0] by unfold expC; rw [if_neg (by rw [hsp]; simp)])
                have hne : bt (bs S) j ≠ 32 ∧ bt (bs S) j ≠ 9 ∧ bt (bs S) j ≠ 10 := by
                  rw [HBT.out]
                  unfold sepB at hsp
                  simp only [Bool.or_eq_false_iff, decide_eq_false_iff_not] at hsp
                  exact ⟨hsp.1.1, hsp.1.2, hsp.2⟩
                have t1 : (bt (bs S) j == 32) = false := beq_false_of_ne hne.1
                have t2 : (bt (bs S) j == 9) = false := beq_false_of_ne hne.2.1
                have t3 : (bt (bs S) j == 10) = false := beq_false_of_ne hne.2.2
                have u1 : (bt (bs S) j != 32) = true := by simpa using hne.1
                have u2 : (bt (bs S) j != 9) = true := by simpa using hne.2.1
                have u3 : (bt (bs S) j != 10) = true := by simpa using hne.2.2
                clear hsp hne
                go_wp2
                go_roundg (gk - 1)
                case rel =>
                  refine ⟨j + 1, by go_num, by omega, by omega, ?_⟩
                  rw [HNJ.out, HE2.out]
                  exact ⟨by unfold addE; rw [HX1.out, ← bs_app], rfl, HBJ.out, HOJ.out, ExOk.add u _⟩
                case measure => omega
            · obtain rfl : j = S.length := by omega
              have HZ := Lib.hid (show (S.take S.length).foldl expC t = (ps.take (k + 1)).foldl (expP (valOf vs)) ex0 by rw [List.take_length, HNX.out, HE.out])
              rw [HZ.out] at ho hok ⊢
              obtain ⟨tz, htz⟩ : ∃ tz, (ps.take (k + 1)).foldl (expP (valOf vs)) ex0 = tz := ⟨_, rfl⟩
              rw [htz] at ho hok ⊢
              have HTZ := Lib.hid htz
              have HOZ := Lib.hid ho
              have HOKZ := Lib.hid hok
              have HBZ := Lib.hid hb
              clear ho hok hb hm htz
              go_wp2
              go_roundg (gk0 - 1)
              case rel =>
                refine ⟨k + 1, by go_num, by omega, by omega, ?_⟩
                rw [HTZ.out]
                exact ⟨rfl, rfl, HBZ.out, HOZ.out, HOKZ.out⟩
              case measure => omega
    · obtain rfl : k = ps.length := by omega
      rw [List.take_length] at hm ho hok ⊢
      obtain ⟨t, ht⟩ : ∃ t, ps.foldl (expP (valOf vs)) ex0 = t := ⟨_, rfl⟩
      have HES := Lib.hid (show expS (valOf vs) ps = (endE t).out by unfold expS; rw [← ht]; rfl)
      rw [ht] at hm ho hok ⊢
      have HO := Lib.hid ho
      have HOK := Lib.hid hok
      have hs0 := hb.size
      have hul : t.out.length ≤ 1000000 := by unfold exM at hm; omega
      have hzt : (bs t.tx).size ≤ 1000000 := by rw [bs_size]; unfold exM at hm; omega
      clear ht hm hok hb
      cases hub : t.bg with
      | true =>
        have HUB := Lib.hid hub
        obtain ⟨G, gc, hG, _⟩ := own_len ho
        clear ho hub
        subst hG
        go_wp2_with (at_builtin; refine wpList_append_lies _ rfl _ _ _ rfl w.heap.size 9 i0 _ 1 16 Try.underlying59 hi hz0 hz1 hz2 rfl (by omega) (.slice G t.out.length gc) t.out.length (stC t.out) rfl (HO.out.alloc _) ⟨wr.heap.size, 0, none⟩ 1 1 [.string (bs t.tx)] rfl rfl (World.news_of_block (cs := #[.string (bs t.tx)]) (t := 9) (fr := (0, 0)) (heap_alloc_new wr _)) (by simp [Value.oneCell']) (by omega) (by unfold maxLen; omega) (by omega) (by simp; omega) (wr.heap.size + 1) (by simp) ?_; intro gz cap w4 hown4 hgrow4 hat4 hlt4)
        go_ret
        have HP := RxS.push HB.out HO.out hgrow4 hown4 HUB.out
        have HQ := Rd.of_own HP.2.2.2.1
        rw [← HES.out] at HQ
        exact ⟨_, rfl, HQ, HP.2.2.1⟩
      | false =>
        have HEN := Lib.hid (endE_no HOK.out hub)
        clear hub
        go_wp2
        go_ret
        have HQ := Rd.of_own ho
        refine ⟨_, rfl, ?_, HB.out⟩
        rw [HES.out, HEN.out]
        exact HQ
end Go.Proofs.Ytiddchpkmcncdaa
