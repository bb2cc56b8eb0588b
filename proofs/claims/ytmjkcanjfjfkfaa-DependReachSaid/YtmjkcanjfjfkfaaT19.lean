/- Walks of layer 47: Graph.Closed. -/
import Derived.Test.YtmjkcanjfjfkfaaT18
namespace Go.Proofs.Ytmjkcanjfjfkfaa
open Go.RowKit
set_option linter.unusedSimpArgs false
set_option linter.unusedVariables false
attribute [local go_sem ↓] Go.wp_at_zero Go.wp_at_succ
open Go.MapKept Go.ChangeMaps
theorem vis_allL (p : VP) (l : List Ac) (B : Nat) (WB : World) (tv tb : Nat) (hg : GAt p.W0 B p.g l) (hl : l.length ≤ 100) (hr : ∀ a ∈ l, a.reads.length ≤ 10) (hN : p.N = l.length) (hsu : p.succ = fun i => sucC ((lnkD l).getD i.toNat [])) (how : p.own = prK (l.map Ac.key)) (hrg : ∀ i : Int, 0 ≤ i ∧ i < (p.N : Int) → ∀ x ∈ p.succ i, 0 ≤ x ∧ x < (p.N : Int)) (hJ0 : p.J = JL p.W0 WB p.B1 tv tb) (hnx : p.nx = .func (.func 51) #[] #[ptrV p.gb, ptrV tv]) : ∀ n, VisSaid p n
  | 0 => visitL p p.gb tv (by omega) hnx (fun w w' t h hk => by rw [hJ0] at h ⊢; exact h.keep hk) 0 (fun h => absurd h (by omega))
  | n + 1 => visitL p p.gb tv (by omega) hnx (fun w w' t h hk => by rw [hJ0] at h ⊢; exact h.keep hk) (n + 1) fun _ => nextL p WB tv tb l B hg hl hr hN hsu how hrg hJ0 n (vis_allL p l B WB tv tb hg hl hr hN hsu how hrg hJ0 hnx n)
theorem trn_succ {ks : List Ky} {k : Nat} (hk : k < ks.length) (m : Bs) : trn (ks.take (k + 1)) m = if ks[k].cls = 0 ∨ ks[k].lin ≠ m then trn (ks.take k) m else trn (ks.take k) m ++ [(k : Int)] := by
  unfold trn
  rw [List.length_take, List.length_take, Nat.min_eq_left (by omega), Nat.min_eq_left (by omega), List.range_succ, List.filter_append, List.map_append]
  have h1 : ((List.range k).filter fun (i : Nat) => prK (ks.take (k + 1)) (i : Int) == some m) = (List.range k).filter fun (i : Nat) => prK (ks.take k) (i : Int) == some m := by
    apply List.filter_congr
    intro i hi
    rw [List.mem_range] at hi
    unfold prK
    rw [Int.toNat_natCast, List.getElem?_take, List.getElem?_take, if_pos (by omega), if_pos hi]
  have h2 : prK (ks.take (k + 1)) (k : Int) = if ks[k].cls = 0 then none else some ks[k].lin := by
    unfold prK
    rw [Int.toNat_natCast, List.getElem?_take, if_pos (by omega), List.getElem?_eq_getElem hk]
  rw [h1, List.filter_cons, List.filter_nil, h2]
  by_cases hc : ks[k].cls = 0
  · rw [if_pos hc, show ((none : Option Bs) == some m) = false from rfl]
    simp [hc]
  · rw [if_neg hc]
    by_cases hm : ks[k].lin = m
    · rw [show ((some ks[k].lin : Option Bs) == some m) = true by simp [hm]]
      simp [hc, hm]
    · rw [show ((some ks[k].lin : Option Bs) == some m) = false by simp [hm]]
      simp [hm]
theorem grt_bd {xs : List Int} {N : Nat} (h : ∀ x ∈ xs, 0 ≤ x ∧ x < (N : Int)) : ∃ L : Nat, grtS xs = (L : Int) - 1 ∧ L ≤ N := by
  obtain ⟨h1, h2, h3⟩ := fold_max xs (-1)
  refine ⟨(grtS xs + 1).toNat, ?_, ?_⟩ <;> (unfold grtS; rcases h3 with e | e)
  · omega
  · have := h _ e; omega
  · omega
  · have := h _ e; omega
def ctRel (ks : List Ky) (L : Nat) (w : World) (g tv tb : Nat) (i : Value) (wr : World) : Prop := ∃ k : Nat, k ≤ L ∧ i = .int .i64 (k : Int) ∧ MapRowsS 3 1 inC wr (fun i => w.heap.size ≤ i) tb (trn (ks.take k)) ∧ Blk wr tv 108 #[.map (some tb)] ∧ Blk wr w.heap.size 28 #[ptrV g] ∧ Below w.heap.size w wr
set_option maxRecDepth 100000 in
set_option maxHeartbeats 4000000 in
theorem closed_is {w : World} {B g : Nat} {l : List Ac} {v : Value} {xs : List Int} (hg : GAt w B g l) (hx : RdA w v xs) (hl : l.length ≤ 100) (hr : ∀ a ∈ l, a.reads.length ≤ 10) (hxl : xs.length ≤ 1000000) : Calls Try.prog 30 #[.pointer (some ⟨g, 0, none⟩), v] w fun e w' => ∃ v', e = .returned (.tuple #[v', .int .i64 (chk2 l.length xs)]) ∧ RdIn w' v' (if chk2 l.length xs = 0 then seaS (stpC l) (prK (l.map Ac.key)) l.length (trn ((l.map Ac.key).take (grtS xs + 1).toNat)) xs else []) ∧ Below w.heap.size w w' := by
  obtain ⟨A, c, rfl, hc⟩ := RdA.form hx
  have ha := (Below.refl w.heap.size w).alloc (Nat.le_refl _) (.cells #[ptrV g] 28)
  have zb := Blk.new w 28 #[ptrV g]
  have y0 := zb.cell 0
  simp only [List.getElem?_toArray, List.getElem?_cons_zero] at y0
  have ZB := Lib.hid zb
  have HA := Lib.hid ha
  have HC := Lib.hid (gcheckA_is (hg.next ha) (RdA.next hx ha) (by omega) hxl)
  have HX := Lib.hid hx
  have HG := Lib.hid hg
  have HR := Lib.hid hr
  obtain ⟨q, hq⟩ : ∃ q, chk2 l.length xs = q := ⟨_, rfl⟩
  rw [hq] at HC ⊢
  have HQ := Lib.hid hq
  clear hg hx ha hr zb hq
  by_cases h0 : q = 0
  · have e0 : (q != 0) = false := by rw [h0]; rfl
    have HQ0 := Lib.hid h0
    have HRG := Lib.hid (chk2_rg (HQ.out.trans h0))
    obtain ⟨L, hL, hLN⟩ := grt_bd HRG.out
    have HGR := Lib.hid hL
    have hmm := @run_makeMap Try.prog
    rw [if_pos h0, show (grtS xs + 1).toNat = L by omega]
    obtain ⟨ks, hks⟩ : ∃ ks, l.map Ac.key = ks := ⟨_, rfl⟩
    have HKS := Lib.hid hks
    have HKN := Lib.hid (show ks.length = l.length by rw [← hks, List.length_map])
    obtain ⟨Ak, ck, gk0, gk1⟩ := HG.out.keyrow
    rw [hks] at gk1 ⊢
    have HKR := Lib.hid gk1
    have HGK := Lib.hid (fun (W : World) (hW : Below w.heap.size w W) => (hW.cell (p := ⟨g, 0, none⟩) HG.out.lt).trans gk0)
    clear h0 hL hks gk0 gk1
    go_enter Try.func30, Try.ntmps30
    go_wp2_with fail
    go_at_call 37
    refine HC.out.mono ?_
    rintro e w1 ⟨rfl, hb1⟩
    have HB1 := Lib.hid (HA.out.trans (hb1.mono HA.out.size))
    have Z1 := Lib.hid (ZB.out.next hb1 ZB.out.lt)
    have hal := ((Below.refl w1.heap.size w1).alloc (Nat.le_refl _) (.map #[] 0)).alloc (by simp) (.cells #[.map (some w1.heap.size)] 108)
    have HAL := Lib.hid (HB1.out.trans (hal.mono HB1.out.size))
    have Z3 := Lib.hid (Z1.out.next hal Z1.out.lt)
    have T3 := Lib.hid (show Blk ((w1.alloc (.map #[] 0)).alloc (.cells #[.map (some w1.heap.size)] 108)) (w1.heap.size + 1) 108 #[.map (some w1.heap.size)] from Blk.newE _ _ _ _ (by simp))
    have R3 := Lib.hid (show MapRowsS 3 1 inC ((w1.alloc (.map #[] 0)).alloc (.cells #[.map (some w1.heap.size)] 108)) (fun i => w.heap.size ≤ i) w1.heap.size (trn (ks.take 0)) from by
      have h1 : MapRowsS 3 1 inC (w1.alloc (.map #[] 0)) (fun i => w.heap.size ≤ i) w1.heap.size (fun _ => []) := MapRowsS.new w1 _ HB1.out.size
      exact (h1.next ((Below.refl _ _).alloc (Nat.le_refl _) _)).data fun n => by simp [trn])
    clear hb1 y0 HC hal
    go_upto_region 5 with (fail)
    generalize (w1.alloc (.map #[] 0)).alloc (.cells #[.map (some w1.heap.size)] 108) = w3 at *
    obtain ⟨tv, htv⟩ : ∃ tv, w1.heap.size + 1 = tv := ⟨_, rfl⟩
    rw [htv] at T3 ⊢
    obtain ⟨tb, htb⟩ : ∃ tb, w1.heap.size = tb := ⟨_, rfl⟩
    rw [htb] at T3 R3 ⊢
    clear htv htb hmm
    have H0 : Hid (ctRel ks L w g tv tb (.int .i64 (0 : Nat)) w3) := Lib.hid ⟨0, Nat.zero_le _, rfl, R3.out, T3.out, Z3.out, HAL.out⟩
    have HGT := Lib.hid (greatest_is (RdA.next HX.out HAL.out) hxl (fun x hx => ⟨(HRG.out x hx).1, by have := (HRG.out x hx).2; omega⟩))
    clear T3 R3 Z3
    go_wp2_with fail
    go_at_call 50
    refine HGT.out.mono ?_
    rintro e w' ⟨rfl, rfl⟩
    rw [HGR.out]
    clear HGT
    have e4 : IntKind.i64.wrap ((L : Int) - 1 + 1) = (L : Int) := by rw [Int.sub_add_cancel]; exact IntWalk.i64_in _ (by omega)
    go_upto_region 6 with (fail)
    clear e4
    go_loopw [20] (fun i wr => ctRel ks L w g tv tb i wr) (fun i _ => L - (intOf i).toNat)
    case atStart => exact H0.out
    case round =>
      clear H0
      obtain ⟨k, hkL, rfl, hrw, htv, hzb, hB⟩ := hrel
      have HRW := Lib.hid hrw
      have HTV := Lib.hid htv
      have HZB := Lib.hid hzb
      have HB := Lib.hid hB
      clear hrw htv hzb hB
      by_cases hk : k < L
      · have j1 : decide ((k : Int) < (L : Int)) = true := decide_eq_true (by omega)
        have j2 : (0 : Int) ≤ (k : Int) := by omega
        have j3 : (k : Int) < (l.length : Int) := by omega
        have HKL := Lib.hid hk
        have hkk : k < ks.length := by rw [HKN.out]; omega
        obtain ⟨kb, ko, rfl, hkb, v0, v1, v2, v3⟩ := RdKy.piece (RdP.next HKR.out HB.out) hkk
        have z0 := HGK.out wr HB.out
        have y0 := HZB.out.cell 0
        simp only [List.getElem?_toArray, List.getElem?_cons_zero] at y0
        have HT1 := Lib.hid (trn_succ hkk)
        obtain ⟨ky, hky⟩ : ∃ ky, ks[k] = ky := ⟨_, rfl⟩
        rw [hky] at v0 v1 v2 v3 HT1
        clear hky hkk
        go_upto_region 9 with (fail)
        have hba := (Below.refl wr.heap.size wr).alloc (Nat.le_refl _) (.cells #[.int .i64 ky.tick, .int .i64 ky.cls, .int .i64 ky.num, .string (bs ky.lin)] 56)
        have HRW6 := Lib.hid (HRW.out.next hba)
        have HTV6 := Lib.hid (HTV.out.next hba HTV.out.lt)
        have HZB6 := Lib.hid (HZB.out.next hba HZB.out.lt)
        have HB6 := Lib.hid (HB.out.trans (hba.mono HB.out.size))
        have ZX := Lib.hid (Blk.new wr 56 #[.int .i64 ky.tick, .int .i64 ky.cls, .int .i64 ky.num, .string (bs ky.lin)])
        clear v0 v1 v2 v3 z0 y0 hba hkb HRW HTV HZB HB
        generalize wr.alloc (.cells #[.int .i64 ky.tick, .int .i64 ky.cls, .int .i64 ky.num, .string (bs ky.lin)] 56) = W17 at *
        obtain ⟨cb, hcb⟩ : ∃ cb, wr.heap.size = cb := ⟨_, rfl⟩
        rw [hcb] at ZX ⊢
        clear hcb
        have x1 := ZX.out.cell 1
        have x3 := ZX.out.cell 3
        have x2 := HTV6.out.cell 0
        simp only [List.getElem?_toArray, List.getElem?_cons_zero, List.getElem?_cons_succ] at x1 x2 x3
        by_cases hcl : ky.cls = 0
        · have j7 : (ky.cls != 0) = false := by rw [hcl]; rfl
          have HT2 := Lib.hid (show ∀ m, trn (ks.take k) m = trn (ks.take (k + 1)) m by intro m; rw [HT1.out m, if_pos (.inl hcl)])
          clear hcl
          go_wp2_with fail
          go_roundw
          case rel => exact ⟨k + 1, HKL.out, by go_num, HRW6.out.data HT2.out, HTV6.out, HZB6.out, HB6.out⟩
          case measure => simp [intOf]; omega
        · have j7 : (ky.cls != 0) = true := by rw [bne_iff_ne]; exact hcl
          have HT2 := Lib.hid (show ∀ m, (if m = ky.lin then trn (ks.take k) ky.lin ++ [(k : Int)] else trn (ks.take k) m) = trn (ks.take (k + 1)) m by
            intro m
            rw [HT1.out m]
            by_cases e : m = ky.lin
            · rw [if_pos e, if_neg (by rintro (h | h); exact hcl h; exact h e.symm), e]
            · rw [if_neg e, if_pos (.inr (fun h => e h.symm))])
          obtain ⟨ents, v, hma, hve, hof, hback⟩ := HRW6.out.at_ ky.lin
          obtain ⟨At, ct, hvs, hct⟩ := own_len hof.1
          subst hvs
          obtain ⟨tl, htl⟩ : ∃ tl, trn (ks.take k) ky.lin = tl := ⟨_, rfl⟩
          have htll : tl.length ≤ 100 := by rw [← htl]; have := trn_len (ks.take k) ky.lin; rw [List.length_take] at this; omega
          have HLOOK : Hid (∀ w' : World, w'.heap[tb]? = W17.heap[tb]? → (Instr.lookup 108 (.map (some tb)) (.string (bs ky.lin)) false).run Try.prog w' = .ok (.slice At (trn (ks.take k) ky.lin).length ct) w') := Lib.hid fun w' e => by
            have := map_lookS (hma.same e) ky.lin Try.underlying108 (show (zeroValue 36).run Try.prog w' = .ok (.slice none 0 0) w' by kernel_rfl)
            rw [← hve] at this
            exact this
          have hal := ((Below.refl W17.heap.size W17).alloc (Nat.le_refl _) (.cells #[.int .i64 k] 3)).drew
          have HAL : Hid (Below W17.heap.size W17 (W17.alloc (.cells #[.int .i64 k] 3)).drew) := Lib.hid hal
          have HTL6 : Hid ((W17.alloc (.cells #[.int .i64 k] 3)).drew.ownsRow 0 3 1 (.slice At (trn (ks.take k) ky.lin).length ct) (trn (ks.take k) ky.lin).length ((trn (ks.take k) ky.lin).flatMap inC)) := Lib.hid (own_next hof.1 hal)
          have HMA6 : Hid (MapAtS (W17.alloc (.cells #[.int .i64 k] 3)).drew tb ents) := Lib.hid (hma.next hal)
          obtain ⟨es, cc, hes, _⟩ := id HMA6.out
          have HMP6 := Lib.hid hes
          have ZA6 : Hid (Blk (W17.alloc (.cells #[.int .i64 k] 3)).drew cb 56 #[.int .i64 ky.tick, .int .i64 ky.cls, .int .i64 ky.num, .string (bs ky.lin)]) := Lib.hid (ZX.out.next hal ZX.out.lt)
          have ZV6 : Hid (Blk (W17.alloc (.cells #[.int .i64 k] 3)).drew tv 108 #[.map (some tb)]) := Lib.hid (HTV6.out.next hal HTV6.out.lt)
          have ZG6 : Hid (Blk (W17.alloc (.cells #[.int .i64 k] 3)).drew w.heap.size 28 #[ptrV g]) := Lib.hid (HZB6.out.next hal HZB6.out.lt)
          have hab := ZX.out.lt
          have htbl := hma.lt
          have HBK := Lib.hid hback
          have HOF := Lib.hid hof
          rw [htl] at HLOOK HTL6 HOF
          have HTLE := Lib.hid htl
          have htl := htbl
          obtain ⟨i0, hi, hz0, hz1, hz2⟩ := info_parts infoIn
          clear hma hve hof hback hal hes hcl hct htbl
          go_upto_region 10 with (fail)
          refine wp_region_noPanic ?_
          refine wp_region_last (S := (fun (w' : World) => w'.cell? ⟨tv, 0, none⟩ = some (.map (some tb)) ∧ w'.cell? ⟨cb, 3, none⟩ = some (.string (bs ky.lin)) ∧ w'.heap[tb]? = W17.heap[tb]?)) 10 10 rfl (by kernel_rfl) (by kernel_rfl) ?_ (fun hHeld => ?_)
          · exact ⟨x2, x3, rfl⟩
          refine wpAnyH_take (i := 0) (v := ?_) rfl (by kernel_rfl) (by kernel_rfl) (by kernel_rfl) (fun _ _ _ h => h) (Or.inl ⟨by kernel_rfl, ?_⟩) hHeld ?_
          rotate_left
          · (intro w hSw; (try dsimp only at hSw); go_simp; try with_reducible rfl)
          try simp only [Act.put, List.setIfInBounds_toArray, List.set_cons_zero, List.set_cons_succ]
          refine wpAnyH_take (i := 1) (v := ?_) rfl (by kernel_rfl) (by kernel_rfl) (by kernel_rfl) (fun _ _ _ h => h) (Or.inl ⟨by kernel_rfl, ?_⟩) hHeld ?_
          rotate_left
          · (intro w hSw; (try dsimp only at hSw); go_simp; try with_reducible rfl)
          try simp only [Act.put, List.setIfInBounds_toArray, List.set_cons_zero, List.set_cons_succ]
          refine wpAnyH_take (i := 2) (v := ?_) rfl (by kernel_rfl) (by kernel_rfl) (by kernel_rfl) (fun _ _ _ h => h) (Or.inl ⟨by kernel_rfl, ?_⟩) hHeld ?_
          rotate_left
          · (intro w hSw; (try dsimp only at hSw); go_simp; try with_reducible rfl)
          try simp only [Act.put, List.setIfInBounds_toArray, List.set_cons_zero, List.set_cons_succ]
          refine wpAnyH_take (i := 3) (v := ?_) rfl (by kernel_rfl) (by kernel_rfl) (by kernel_rfl) (fun _ _ _ h => h) (Or.inl ⟨by kernel_rfl, ?_⟩) hHeld ?_
          rotate_left
          · (intro w hSw; (try dsimp only at hSw); go_simp; try with_reducible rfl)
          try simp only [Act.put, List.setIfInBounds_toArray, List.set_cons_zero, List.set_cons_succ]
          refine wpAnyH_take (i := 4) (v := ?_) rfl (by kernel_rfl) (by kernel_rfl) (by kernel_rfl) (fun _ _ _ h => h) (Or.inl ⟨by kernel_rfl, ?_⟩) hHeld ?_
          rotate_left
          · (intro w hSw; (try dsimp only at hSw); go_simp; try with_reducible rfl)
          try simp only [Act.put, List.setIfInBounds_toArray, List.set_cons_zero, List.set_cons_succ]
          refine wpAnyH_take (i := 5) (v := ?_) rfl (by kernel_rfl) (by kernel_rfl) (by kernel_rfl) (fun _ _ _ h => h) (Or.inl ⟨by kernel_rfl, ?_⟩) hHeld ?_
          rotate_left
          · (intro w hSw; (try dsimp only at hSw); go_simp; try with_reducible rfl)
          try simp only [Act.put, List.setIfInBounds_toArray, List.set_cons_zero, List.set_cons_succ]
          refine wpAnyH_take (i := 7) (v := ?_) rfl (by kernel_rfl) (by kernel_rfl) (by kernel_rfl) (fun _ _ _ h => h) (Or.inl ⟨by kernel_rfl, ?_⟩) hHeld ?_
          rotate_left
          · (intro w hSw; (try dsimp only at hSw); go_simp; try with_reducible rfl)
          try simp only [Act.put, List.setIfInBounds_toArray, List.set_cons_zero, List.set_cons_succ]
          refine wpAnyH_take (i := 6) (v := .slice At tl.length ct) rfl (by kernel_rfl) (by kernel_rfl) (by kernel_rfl) (fun _ _ _ h => h) (Or.inl ⟨by kernel_rfl, ?_⟩) hHeld ?_
          · (intro w hSw; (try dsimp only at hSw); have hlk := HLOOK.out w hSw.2.2; go_simp; try with_reducible rfl)
          try simp only [Act.put, List.setIfInBounds_toArray, List.set_cons_zero, List.set_cons_succ]
          refine wpAnyH_ready (rs := [8]) (by kernel_rfl) (by simp) ?_
          refine AllReadyH.cons rfl (fun K hK => ?_) AllReadyH.nil
          go_simp
          refine hK.out _ _ ?_ (fun hNew => ?_)
          · exact ⟨(HAL.out.cell (p := ⟨tv, 0, none⟩) HTV6.out.lt).trans x2, (HAL.out.cell (p := ⟨cb, 3, none⟩) hab).trans x3, HAL.out.block tb htl⟩
          clear hK K hHeld
          have hHeld := hNew
          clear hNew
          try simp only [Act.put, List.setIfInBounds_toArray, List.set_cons_zero, List.set_cons_succ]
          refine wpAnyH_ready (rs := [9]) (by kernel_rfl) (by simp) ?_
          refine AllReadyH.cons rfl (fun K hK => ?_) AllReadyH.nil
          refine step_append_w _ (by rfl) _ _ _ (by rfl) 0 3 i0 _ 1 8 Try.underlying36 hi hz0 hz1 hz2 rfl (by omega) (.slice At tl.length ct) tl.length (tl.flatMap inC) (by rfl) HTL6.out (.slice (some ⟨W17.heap.size, 0, none⟩) 1 1) 1 [.int .i64 k] (by rfl) (show Rd 3 (W17.alloc (.cells #[.int .i64 k] 3)).drew _ 1 _ from Rd.of_own (own_new W17 0 3 1 [.int .i64 k] rfl (Nat.zero_le _))) (by omega) (by rfl) (by simp [Value.oneCell']) (by unfold maxLen; omega) (by omega) (Nat.zero_le _) ?_; intro v5 w5 hown5 hg5 hat5; obtain ⟨A5, c5, rfl, _⟩ := own_len hown5; have hm5 := (HMA6.out.same (hg5.block tb HMA6.out.lt (fun e => own_not_map HTL6.out HMP6.out e.symm))); obtain ⟨w6, hup, hm6, hg6⟩ := map_putS hm5 ky.lin (.slice A5 (tl.length + 1) c5) Try.underlying108; have hz5 := ZA6.out.grown hg5 (fun e => own_blk_ne HTL6.out ZA6.out (by decide) e.symm); have k0 := hz5.cell 3; have k2 := (ZV6.out.grown hg5 (fun e => own_blk_ne HTL6.out ZV6.out (by decide) e.symm)).cell 0; have k1 := (hg5.block tb HMA6.out.lt (fun e => own_not_map HTL6.out HMP6.out e.symm)).trans (HAL.out.block tb htl); have HOWN5 := Lib.hid hown5; have HG5 := Lib.hid hg5; have HAT5 := Lib.hid hat5; have HM5 := Lib.hid hm5; have HM6 := Lib.hid hm6; have HG6 := Lib.hid hg6; clear hown5 hg5 hat5 hm5 hm6 hg6; (simp only [List.getElem?_toArray, List.getElem?_cons_zero, List.getElem?_cons_succ] at k0 k2)
          refine hK.out _ _ ?_ (fun hNew => ?_)
          · exact ⟨k2, k0, k1⟩
          clear hK K hHeld
          have hHeld := hNew
          clear hNew
          try simp only [Act.put, List.setIfInBounds_toArray, List.set_cons_zero, List.set_cons_succ]
          refine wpAnyH_done (by kernel_rfl) ?_ _
          refine lastQ_step rfl (fun K hK => ?_)
          clear hHeld
          go_simp
          refine hK _ _ ?_
          clear hK K
          refine NoPanic.normal ?_
          have HTR8 := Lib.hid (HBK.out w5 w6 (.slice A5 (tl.length + 1) c5) (k : Int) (fun i => w.heap.size ≤ i) (fun i h1 h2 h3 => (HG5.out.block i (Nat.lt_of_lt_of_le h1 HAL.out.size) (by rw [← HTLE.out] ; exact h3)).trans (HAL.out.block i h1)) (by
              obtain ⟨es5, c5', h5', _⟩ := HM5.out
              exact ⟨es5, c5', h5'⟩) (by rw [HTLE.out]; exact HOWN5.out) (by
              rcases HAT5.out with e | e
              · exact .inl (by rw [HTLE.out]; exact e)
              · exact .inr ⟨_, e, HAL.out.size⟩) HM6.out HG6.out (fun _ h => h) (fun i h1 h2 => Nat.le_trans HB6.out.size h1))
          have HBE := Lib.hid (show Below w.heap.size w w6 by
            have h1 := HB6.out.trans (HAL.out.mono HB6.out.size)
            have h2 := h1.grown HG5.out h1.size (fun r e => HOF.out.2 r e)
            exact h2.grown HG6.out h2.size (fun r e => by injection e with e; subst e; exact HRW6.out.1))
          have hmk : ∀ {b : Nat} {t : TypeId} {cs : Array Value}, Blk w5 b t cs → some b ≠ some tb := fun hb e => by
            obtain ⟨es5, c5', h5', _⟩ := HM5.out
            injection e with e
            unfold Blk at hb
            rw [e, h5'] at hb
            cases hb
          have hv5 := ZV6.out.grown HG5.out (fun e => own_blk_ne HTL6.out ZV6.out (by decide) e.symm)
          have HTV8 := Lib.hid (hv5.grown HG6.out (hmk hv5))
          have hg5 := ZG6.out.grown HG5.out (fun e => own_blk_ne HTL6.out ZG6.out (by decide) e.symm)
          have HZB8 := Lib.hid (hg5.grown HG6.out (hmk hg5))
          clear hup HG5 HG6 HAT5 HOWN5 HM5 HM6 hz5 k0 k1 k2 hv5 hg5 hmk HAL HLOOK x1 x2 x3 i0 hi hz0 hz1 hz2
          go_wp2_with fail
          go_roundw
          case rel => exact ⟨k + 1, HKL.out, by go_num, HTR8.out.data HT2.out, HTV8.out, HZB8.out, HBE.out⟩
          case measure => simp [intOf]; omega
      · have j1 : decide ((k : Int) < (L : Int)) = false := decide_eq_false (by omega)
        have HKE := Lib.hid (show k = L by omega)
        rw [HKE.out] at HRW
        have HJT : Hid (JL w wr wr.heap.size tv tb wr (trn (ks.take L))) := Lib.hid ⟨HTV.out, HTV.out.lt, HRW.out.keep (fun _ _ _ _ => rfl) (fun _ _ _ _ => rfl) (fun i h1 h2 => ⟨h2, h1⟩), fun _ _ _ => rfl, Nat.le_refl _⟩
        have HT0 := Lib.hid (fun m x (hx : x ∈ trn (ks.take L) m) => show 0 ≤ x ∧ x < (l.length : Int) by
          have h1 := trn_mem.1 hx
          have h2 := HKN.out
          rw [List.length_take] at h1
          omega)
        go_wp2_with fail
        go_at_call 43
        refine (reach_is w g w.heap.size l.length _ _ _ (stpC l) (prK ks) (JL w wr wr.heap.size tv tb) HB.out HZB.out HX.out hl hxl HRG.out (stpC_rg l) (trn (ks.take L)) HT0.out HJT.out (fun w1 w2 t h hk => h.keep hk) (vis_allL _ l B wr tv tb HG.out hl HR.out rfl rfl (by rw [HKS.out]) (stpC_rg l) rfl rfl l.length)).mono ?_
        rintro e w2 ⟨v2, rfl, hr2, hb2⟩
        have HR2 := Lib.hid hr2
        have HB2 := Lib.hid hb2
        clear hr2 hb2
        go_wp2_with fail
        go_ret2
        exact ⟨v2, by rw [HQ0.out]; rfl, HR2.out, HB2.out⟩
  · have e0 : (q != 0) = true := by rw [bne_iff_ne]; exact h0
    have HQ0 := Lib.hid h0
    clear h0
    go_enter Try.func30, Try.ntmps30
    go_wp2_with fail
    go_at_call 37
    refine HC.out.mono ?_
    rintro e w1 ⟨rfl, hb1⟩
    have HB1 := Lib.hid (HA.out.trans (hb1.mono HA.out.size))
    clear hb1 y0 HC
    go_wp2_with fail
    go_ret2
    exact ⟨_, rfl, RdP.nil, HB1.out⟩
end Go.Proofs.Ytmjkcanjfjfkfaa
