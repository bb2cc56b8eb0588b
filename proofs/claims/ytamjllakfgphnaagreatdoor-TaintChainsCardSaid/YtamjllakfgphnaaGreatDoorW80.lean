/- Walks of layer 47: the order of keys, sorted names, the writers of a name. -/
import Derived.Test.YtamjllakfgphnaaGreatDoorGR
import Derived.Test.YtamjllakfgphnaaGreatDoorM15
import Derived.Test.YtamjllakfgphnaaGreatDoorQA
namespace Go.Proofs.YtamjllakfgphnaaGreatDoor
open Go.RowKit
set_option linter.unusedSimpArgs false
set_option linter.unusedVariables false
attribute [local go_sem ↓] Go.wp_at_zero Go.wp_at_succ
/-- Keys in strictly ascending order. -/
def KS (l : List Ac) : Prop := ∀ k (hk : k + 1 < l.length), cmpK (l[k]'(by omega)).key l[k + 1].key < 0
def IncRel (l : List Ac) (w : World) (i : Value) (wr : World) : Prop := ∃ k : Nat, 1 ≤ k ∧ k ≤ l.length + 1 ∧ i = .int .i64 k ∧ Below w.heap.size w wr
set_option maxRecDepth 100000 in
set_option maxHeartbeats 1000000 in
theorem increasing_is {w : World} {v : Value} {l : List Ac} (h : RdAc w v l) (hk : KS l) (hl : ∀ a ∈ l, a.key.lin ∈ lin5) (hlen : l.length ≤ 100) : Calls Tryz.prog 55 #[v] w fun e w' => e = .returned (.bool true) ∧ Below w.heap.size w w' := by
  obtain ⟨A, c, rfl, hc⟩ := RowRd.form h
  have HH := Lib.hid h
  have HK := Lib.hid hk
  have HL := Lib.hid hl
  have H0 : Hid (IncRel l w (.int .i64 (1 : Nat)) w) := Lib.hid ⟨1, Nat.le_refl _, by omega, rfl, Below.refl _ _⟩
  clear h hk hl
  go_enter Tryz.func55, Tryz.ntmps55
  go_wp2_with fail
  go_loopw [3] (fun i wr => IncRel l w i wr) (fun i _ => l.length + 1 - (intOf i).toNat)
  case atStart => exact H0.out
  case round =>
    clear H0
    obtain ⟨k, hk1, hk2, rfl, hbw⟩ := hrel
    have HBW := Lib.hid hbw
    clear hbw
    by_cases hml : k < l.length
    · have j1 : decide ((k : Int) < (l.length : Int)) = true := decide_eq_true (by omega)
      obtain ⟨m, hmk⟩ : ∃ m, k = m + 1 := ⟨k - 1, by omega⟩
      have g1 : (k : Int) - 1 = (m : Int) := by omega
      have hm2 : m < l.length := by omega
      have g4 : (m : Int) < (l.length : Int) := by omega
      have hp0 := HK.out m (by omega)
      have HP := Lib.hid (show cmpK (l[m]'hm2).key l[k].key < 0 by
        have e : l[k] = l[m + 1]'(by omega) := by congr 1
        rw [e]; exact hp0)
      clear hp0 hmk
      have g2 : IntKind.i64.wrap (m : Int) = (m : Int) := IntWalk.i64_in _ (by omega)
      have g3 : (0 : Int) ≤ (m : Int) := by omega
      have g6 : (0 : Int) ≤ (k : Int) := by omega
      have g7 : (k : Int) < (l.length : Int) := by omega
      obtain ⟨b, o, u1, u2, hbe, hbr, n1, n2, x0, x1, x2, x3, x4, x5⟩ := RdAc.piece (RdAc.next HH.out HBW.out) hm2
      subst hbe
      obtain ⟨b', o', v1, v2, hbe, hbr', n3, n4, y0, y1, y2, y3, y4, y5⟩ := RdAc.piece (RdAc.next HH.out HBW.out) hml
      injection hbe with hbe
      injection hbe with e1 e2
      subst e1 e2
      have hl1 := HL.out _ (List.getElem_mem hm2)
      have hl2 := HL.out _ (List.getElem_mem hml)
      obtain ⟨p, hp⟩ : ∃ p, l[m].key = p := ⟨_, rfl⟩
      obtain ⟨q, hq⟩ : ∃ q, l[k].key = q := ⟨_, rfl⟩
      rw [hp] at x0 x1 x2 x3 HP hl1
      rw [hq] at y0 y1 y2 y3 HP hl2
      have HKC := Lib.hid (fun W => key_compare p q W hl1 hl2)
      unfold kyV at HKC
      obtain ⟨z, hz⟩ : ∃ z, cmpK p q = z := ⟨_, rfl⟩
      rw [hz] at HKC HP
      have f1 : decide (0 ≤ z) = false := decide_eq_false (by have := HP.out; omega)
      clear hp hq hl1 hl2 hz n1 n2 n3 n4 x4 x5 y4 y5 hbr'
      go_upto_region 4 with (fail)
      refine wp_region_noPanic ?_
      refine wp_region_held_drew (S := (fun (w' : World) => w'.cell? ⟨b, o + m * 6, none⟩ = some (.int .i64 p.tick) ∧ w'.cell? ⟨b, o + m * 6 + 1, none⟩ = some (.int .i64 p.cls) ∧ w'.cell? ⟨b, o + m * 6 + 2, none⟩ = some (.int .i64 p.num) ∧ w'.cell? ⟨b, o + m * 6 + 3, none⟩ = some (.string (bs p.lin)) ∧ w'.cell? ⟨b, o + k * 6, none⟩ = some (.int .i64 q.tick) ∧ w'.cell? ⟨b, o + k * 6 + 1, none⟩ = some (.int .i64 q.cls) ∧ w'.cell? ⟨b, o + k * 6 + 2, none⟩ = some (.int .i64 q.num) ∧ w'.cell? ⟨b, o + k * 6 + 3, none⟩ = some (.string (bs q.lin)))) (by kernel_rfl) ?_ (fun hHeld => ?_)
      · exact ⟨x0, x1, x2, x3, y0, y1, y2, y3⟩
      refine wpAnyH_take (i := 0) (v := ?_) rfl (by kernel_rfl) (by kernel_rfl) (by kernel_rfl) (fun _ _ _ h => h) (Or.inl ⟨by kernel_rfl, ?_⟩) hHeld ?_
      rotate_left
      · (intro w hSw; (try dsimp only at hSw); go_simp; try with_reducible rfl)
      try simp only [Act.put, List.setIfInBounds_toArray, List.set_cons_zero, List.set_cons_succ]
      refine wpAnyH_take (i := 1) (v := ?_) rfl (by kernel_rfl) (by kernel_rfl) (by kernel_rfl) (fun _ _ _ h => h) (Or.inl ⟨by kernel_rfl, ?_⟩) hHeld ?_
      rotate_left
      · (intro w hSw; (try dsimp only at hSw); go_simp; try with_reducible rfl)
      try simp only [Act.put, List.setIfInBounds_toArray, List.set_cons_zero, List.set_cons_succ]
      refine wpAnyH_take (i := 2) (v := ?_) rfl (by kernel_rfl) (by kernel_rfl) (by kernel_rfl) (fun _ _ _ h => h) (Or.inl ⟨by kernel_rfl, ?_⟩) hHeld ?_
      rotate_left
      · (intro w hSw; (try dsimp only at hSw); go_simp; try with_reducible rfl)
      try simp only [Act.put, List.setIfInBounds_toArray, List.set_cons_zero, List.set_cons_succ]
      refine wpAnyH_take (i := 3) (v := ?_) rfl (by kernel_rfl) (by kernel_rfl) (by kernel_rfl) (fun _ _ _ h => h) (Or.inl ⟨by kernel_rfl, ?_⟩) hHeld ?_
      rotate_left
      · (intro w hSw; (try dsimp only at hSw); go_simp; try with_reducible rfl)
      try simp only [Act.put, List.setIfInBounds_toArray, List.set_cons_zero, List.set_cons_succ]
      refine wpAnyH_take (i := 4) (v := ?_) rfl (by kernel_rfl) (by kernel_rfl) (by kernel_rfl) (fun _ _ _ h => h) (Or.inl ⟨by kernel_rfl, ?_⟩) hHeld ?_
      rotate_left
      · (intro w hSw; (try dsimp only at hSw); go_simp; try with_reducible rfl)
      try simp only [Act.put, List.setIfInBounds_toArray, List.set_cons_zero, List.set_cons_succ]
      refine wpAnyH_take (i := 5) (v := ?_) rfl (by kernel_rfl) (by kernel_rfl) (by kernel_rfl) (fun _ _ _ h => h) (Or.inl ⟨by kernel_rfl, ?_⟩) hHeld ?_
      rotate_left
      · (intro w hSw; (try dsimp only at hSw); go_simp; try with_reducible rfl)
      try simp only [Act.put, List.setIfInBounds_toArray, List.set_cons_zero, List.set_cons_succ]
      refine wpAnyH_take (i := 6) (v := ?_) rfl (by kernel_rfl) (by kernel_rfl) (by kernel_rfl) (fun _ _ _ h => h) (Or.inl ⟨by kernel_rfl, ?_⟩) hHeld ?_
      rotate_left
      · (intro w hSw; (try dsimp only at hSw); go_simp; try with_reducible rfl)
      try simp only [Act.put, List.setIfInBounds_toArray, List.set_cons_zero, List.set_cons_succ]
      refine wpAnyH_take (i := 7) (v := ?_) rfl (by kernel_rfl) (by kernel_rfl) (by kernel_rfl) (fun _ _ _ h => h) (Or.inl ⟨by kernel_rfl, ?_⟩) hHeld ?_
      rotate_left
      · (intro w hSw; (try dsimp only at hSw); go_simp; try with_reducible rfl)
      try simp only [Act.put, List.setIfInBounds_toArray, List.set_cons_zero, List.set_cons_succ]
      refine wpAnyH_take (i := 8) (v := ?_) rfl (by kernel_rfl) (by kernel_rfl) (by kernel_rfl) (fun _ _ _ h => h) (Or.inl ⟨by kernel_rfl, ?_⟩) hHeld ?_
      rotate_left
      · (intro w hSw; (try dsimp only at hSw); go_simp; try with_reducible rfl)
      try simp only [Act.put, List.setIfInBounds_toArray, List.set_cons_zero, List.set_cons_succ]
      refine wpAnyH_take (i := 9) (v := ?_) rfl (by kernel_rfl) (by kernel_rfl) (by kernel_rfl) (fun _ _ _ h => h) (Or.inl ⟨by kernel_rfl, ?_⟩) hHeld ?_
      rotate_left
      · (intro w hSw; (try dsimp only at hSw); go_simp; try with_reducible rfl)
      try simp only [Act.put, List.setIfInBounds_toArray, List.set_cons_zero, List.set_cons_succ]
      refine wpAnyH_take (i := 10) (v := ?_) rfl (by kernel_rfl) (by kernel_rfl) (by kernel_rfl) (fun _ _ _ h => h) (Or.inl ⟨by kernel_rfl, ?_⟩) hHeld ?_
      rotate_left
      · (intro w hSw; (try dsimp only at hSw); go_simp; try with_reducible rfl)
      try simp only [Act.put, List.setIfInBounds_toArray, List.set_cons_zero, List.set_cons_succ]
      refine wpAnyH_ready (rs := [11]) (by kernel_rfl) (by simp) ?_
      refine AllReadyH.cons rfl (fun K hK => ?_) AllReadyH.nil
      go_simp
      refine (HKC.out wr.drew).mono ?_; rintro e w2 ⟨rfl, hb2'⟩; have hb2 := (Below.refl wr.heap.size wr).drew.trans hb2'; have HB2 := Lib.hid hb2; clear hb2'
      try (go_wp2_with fail)
      refine hK.out _ _ ?_ (fun hNew => ?_)
      · exact ⟨(hb2.cell (p := ⟨b, o + m * 6, none⟩) hbr).trans x0, (hb2.cell (p := ⟨b, o + m * 6 + 1, none⟩) hbr).trans x1, (hb2.cell (p := ⟨b, o + m * 6 + 2, none⟩) hbr).trans x2, (hb2.cell (p := ⟨b, o + m * 6 + 3, none⟩) hbr).trans x3, (hb2.cell (p := ⟨b, o + k * 6, none⟩) hbr).trans y0, (hb2.cell (p := ⟨b, o + k * 6 + 1, none⟩) hbr).trans y1, (hb2.cell (p := ⟨b, o + k * 6 + 2, none⟩) hbr).trans y2, (hb2.cell (p := ⟨b, o + k * 6 + 3, none⟩) hbr).trans y3⟩
      clear hK K hHeld
      have hHeld := hNew
      clear hNew
      try simp only [Act.put, List.setIfInBounds_toArray, List.set_cons_zero, List.set_cons_succ]
      refine wpAnyH_take (i := 12) (v := ?_) rfl (by kernel_rfl) (by kernel_rfl) (by kernel_rfl) (fun _ _ _ h => h) (Or.inl ⟨by kernel_rfl, ?_⟩) hHeld ?_
      rotate_left
      · (intro w hSw; (try dsimp only at hSw); go_simp; try with_reducible rfl)
      try simp only [Act.put, List.setIfInBounds_toArray, List.set_cons_zero, List.set_cons_succ]
      refine wpAnyH_done (by kernel_rfl) ?_ _
      clear hHeld
      try simp only [List.getElem_toArray, List.getElem_cons_zero, List.getElem_cons_succ, Act.put, List.setIfInBounds_toArray, List.set_cons_zero, List.set_cons_succ]
      refine NoPanic.normal ?_
      go_wp2_with fail
      go_roundw
      case rel => exact ⟨k + 1, by omega, by omega, by go_num, HBW.out.trans (HB2.out.mono HBW.out.size)⟩
      case measure => simp [intOf]; omega
    · have j1 : decide ((k : Int) < (l.length : Int)) = false := decide_eq_false (by omega)
      have j1n : decide (k < l.length) = false := decide_eq_false hml
      go_wp2_with fail
      go_ret
      exact ⟨rfl, HBW.out⟩
set_option maxRecDepth 100000 in
theorem sorted_is {w : World} {v : Value} {l : List Nm} (h : RdNm w v l) (hl : l.length ≤ 12) (hd : l.Nodup) (ho : ∀ a ∈ l, OwnE a) : Calls Tryz.prog 56 #[v, .func (.func 57) #[] #[]] w (SortP l w) := by
  have HC := Lib.hid (cloneNm h (fm_len nmC_len l) (nm_one l) (by omega))
  have HD := Lib.hid hd
  have HO := Lib.hid ho
  clear h hd ho
  go_enter Tryz.func56, Tryz.ntmps56
  go_wp2_with fail
  refine HC.out.mono ?_
  rintro e w2 ⟨v2, rfl, hown, hb⟩
  have HB := Lib.hid hb
  have hbs := hb.size
  clear hb
  go_wp2_with fail
  refine (sortfunc_is hown rfl hl HO.out hbs).mono ?_
  rintro e w3 ⟨rfl, l', hp, hw, hown3, hg⟩
  have HN := Lib.hid (hp.nodup_iff.2 HD.out)
  have hl' : l'.length = l.length := hp.length_eq
  have HS := Lib.hid (show l' = sortU cmpN l by
    have hS : ∀ a ∈ l', OwnE a := fun a ha => HO.out a (hp.mem_iff.1 ha)
    rw [← sortU_perm ordN HO.out hp]
    exact (sortU_strict ordN hS (strict_of_weak ordN hS hw HN.out)).symm)
  have HB3 := Lib.hid (below_own HB.out hown hg (Nat.le_refl _) hbs)
  rw [← hl'] at hown3
  have HR := Lib.hid hown3
  clear hown hown3 hg hp hw
  go_wp2_with fail
  refine (compact_is (l := l') (Rd.of_own HR.out) (by omega) HN.out).mono ?_
  rintro e w4 ⟨rfl, m, rfl⟩
  go_wp2
  go_ret
  rw [HS.out] at HR
  exact ⟨v2, rfl, own_next HR.out (below_drewN (Below.refl _ _) m), below_drewN HB3.out m⟩
/-- How many numbers are less than one. -/
def cntL (l : List Int) (t : Int) : Nat := (l.takeWhile fun x => decide (x < t)).length
def Asc (l : List Int) : Prop := ∀ i j (hi : i < l.length) (hj : j < l.length), i ≤ j → l[i] ≤ l[j]
theorem cntL_le (l : List Int) (t : Int) : cntL l t ≤ l.length := by unfold cntL; exact (List.takeWhile_sublist _).length_le
theorem cntL_eq : ∀ {l : List Int} {t : Int} {p : Nat}, p ≤ l.length → (∀ i (h : i < l.length), i < p → l[i] < t) → (∀ i (h : i < l.length), p ≤ i → t ≤ l[i]) → cntL l t = p
  | [], t, p, hp, _, _ => by simp at hp; subst hp; rfl
  | x :: l, t, 0, _, _, h2 => by
    have := h2 0 (by simp) (Nat.le_refl _)
    unfold cntL
    rw [List.takeWhile_cons, if_neg (by simp at this ⊢; omega)]; rfl
  | x :: l, t, p + 1, hp, h1, h2 => by
    have h0 := h1 0 (by simp) (by omega)
    unfold cntL
    rw [List.takeWhile_cons, if_pos (by simpa using h0), List.length_cons]
    have := cntL_eq (l := l) (t := t) (p := p) (by simpa using hp) (fun i h hi => by have := h1 (i + 1) (by simpa using h) (by omega); simpa using this) (fun i h hi => by have := h2 (i + 1) (by simpa using h) (by omega); simpa using this)
    unfold cntL at this
    rw [this]
set_option maxRecDepth 100000 in
theorem srch1_is {w : World} {A : Option Addr} {c : Nat} {l : List Int} {t : Int} {B2 B3 k : Nat} (z2 : w.cell? ⟨B2, 0, none⟩ = some (.slice A l.length c)) (z3 : w.cell? ⟨B3, 0, none⟩ = some (.int .i64 t)) (h : RdIn w (.slice A l.length c) l) (hk : k < l.length) (hl : l.length ≤ 100000) :
    Calls Tryz.prog 138 #[.int .i64 k, .pointer (some ⟨B2, 0, none⟩), .pointer (some ⟨B3, 0, none⟩)] w fun e w' => e = .returned (.bool (decide (t ≤ l[k]))) ∧ Below w.heap.size w w' := by
  obtain ⟨b, o, hb, hbl, hc⟩ := RdP.at_ h inC_len hk
  subst hb
  have y := hc 0 _ rfl
  rw [Nat.mul_one, Nat.add_zero] at y
  have j1 : (0 : Int) ≤ (k : Int) := by omega
  have j2 : (k : Int) < (l.length : Int) := by omega
  obtain ⟨x, hx⟩ : ∃ x, l[k] = x := ⟨_, rfl⟩
  rw [hx] at y ⊢
  clear hc hx h
  go_enter Tryz.func138, Tryz.ntmps138
  go_upto_region 1 with (fail)
  go_quiet (fail)
  go_wp2_with fail
  go_ret
  exact ⟨rfl, below_drewN (Below.refl _ _) _⟩
def SrRel (l : List Int) (t : Int) (w : World) (i j : Value) (wr : World) : Prop := ∃ p q : Nat, i = .int .i64 p ∧ j = .int .i64 q ∧ p ≤ q ∧ q ≤ l.length ∧ (∀ i (h : i < l.length), i < p → l[i] < t) ∧ (∀ i (h : i < l.length), q ≤ i → t ≤ l[i]) ∧ Below w.heap.size w wr
set_option maxRecDepth 100000 in
set_option maxHeartbeats 1000000 in
theorem search_ints {w : World} {v : Value} {l : List Int} (t : Int) (h : RdIn w v l) (hs : Asc l) (hl : l.length ≤ 100000) : Calls Tryz.prog 102 #[v, .int .i64 t] w fun e w' => e = .returned (.int .i64 (cntL l t : Nat)) ∧ Below w.heap.size w w' := by
  obtain ⟨A, c, rfl, hc⟩ := RdP.form h
  have z2 := Blk.new w 33 #[.slice A l.length c]
  have ha2 := (Below.refl w.heap.size w).alloc (Nat.le_refl _) (.cells #[.slice A l.length c] 33)
  have z2b := z2.next ((Below.refl (w.alloc (.cells #[.slice A l.length c] 33)).heap.size _).alloc (Nat.le_refl _) (.cells #[.int .i64 t] 3)) z2.lt
  have z3 := Blk.new (w.alloc (.cells #[.slice A l.length c] 33)) 3 #[.int .i64 t]
  rw [World.size_alloc] at z3
  have ha := ha2.alloc (by simp) (.cells #[.int .i64 t] 3)
  have c2 := z2b.cell 0
  have c3 := z3.cell 0
  have l2 := z2b.lt
  have l3 := z3.lt
  simp only [List.getElem?_toArray, List.getElem?_cons_zero] at c2 c3
  have HA := Lib.hid ha
  have HH := Lib.hid (RdP.next h ha)
  have HS := Lib.hid hs
  clear h hs ha2 z2 z2b z3 ha
  go_enter Tryz.func102, Tryz.ntmps102
  go_upto_region 1 with (fail)
  generalize (w.alloc (.cells #[.slice A l.length c] 33)).alloc (.cells #[.int .i64 t] 3) = W at *
  obtain ⟨B3, hb3⟩ : ∃ B, w.heap.size + 1 = B := ⟨_, rfl⟩
  obtain ⟨B2, hb2⟩ : ∃ B, w.heap.size = B := ⟨_, rfl⟩
  have HB2 := Lib.hid hb2
  rw [hb3] at c3 l3 ⊢
  rw [hb2] at c2 l2 HA ⊢
  clear hb2 hb3
  have HSR : Hid (Calls Tryz.prog 137 #[.int .i64 l.length, .func (.func 138) #[] #[.pointer (some ⟨B2, 0, none⟩), .pointer (some ⟨B3, 0, none⟩)]] W fun e w' => e = .returned (.int .i64 (cntL l t : Nat)) ∧ Below W.heap.size W w') := by
    refine Lib.hid ?_
    have H0 : Hid (SrRel l t W (.int .i64 (0 : Nat)) (.int .i64 l.length) W) := Lib.hid ⟨0, l.length, rfl, rfl, Nat.zero_le _, Nat.le_refl _, fun i _ h => by omega, fun i h1 h2 => by omega, Below.refl _ _⟩
    clear HA HB2
    have C2 := Lib.hid c2
    have C3 := Lib.hid c3
    clear c2 c3
    go_enter Tryz.func137, Tryz.ntmps137
    go_wp2_with fail
    go_loopw [5, 6] (fun i j wr => SrRel l t W i j wr) (fun i j _ => (intOf j).toNat - (intOf i).toNat)
    case atStart => exact H0.out
    case round =>
      clear H0
      obtain ⟨p, q, rfl, rfl, hpq, hq, hlo, hhi, hbw⟩ := hrel
      have HLO := Lib.hid hlo
      have HHI := Lib.hid hhi
      have HBW := Lib.hid hbw
      clear hlo hhi hbw
      by_cases hlt : p < q
      · obtain ⟨m, hm⟩ : ∃ m, (p + q) / 2 = m := ⟨_, rfl⟩
        have hml : m < l.length := by omega
        have j1 : ((p : Int) + (q : Int)) / 2 = (m : Int) := by omega
        have j2 : (0 : Int) ≤ (m : Int) := by omega
        have j3 : (m : Int) < (l.length : Int) := by omega
        have j4 : (0 : Int) ≤ (p : Int) + (q : Int) := by omega
        have j5 : (p : Int) + (q : Int) ≤ 200000 := by omega
        have HM := Lib.hid hm
        have j6 : decide ((p : Int) < (q : Int)) = true := decide_eq_true (by omega)
        have j7 : decide (p < q) = true := decide_eq_true hlt
        have HF := Lib.hid (srch1_is ((HBW.out.cell (p := ⟨B2, 0, none⟩) l2).trans C2.out) ((HBW.out.cell (p := ⟨B3, 0, none⟩) l3).trans C3.out) (RdP.next HH.out HBW.out) hml hl)
        obtain ⟨x, hx⟩ : ∃ x, l[m] = x := ⟨_, rfl⟩
        rw [hx] at HF
        have HX := Lib.hid hx
        obtain ⟨bq, hbq⟩ : ∃ bq, decide (t ≤ x) = bq := ⟨_, rfl⟩
        rw [hbq] at HF
        clear hx hm
        go_upto_region 4 with (fail)
        cases bq with
        | true =>
          go_wp2_with (go_at_call 138; refine HF.out.mono ?_; rintro e w2 ⟨rfl, hb2⟩; have HB2 := Lib.hid hb2; clear hb2)
          go_roundw
          case rel => exact ⟨p, m, rfl, rfl, by have := HM.out; omega, by omega, HLO.out, fun i h1 h2 => Int.le_trans (of_decide_eq_true hbq) (by rw [← HX.out]; exact HS.out m i hml h1 h2), HBW.out.trans (HB2.out.mono HBW.out.size)⟩
          case measure => have := HM.out; simp [intOf]; omega
        | false =>
          go_wp2_with (go_at_call 138; refine HF.out.mono ?_; rintro e w2 ⟨rfl, hb2⟩; have HB2 := Lib.hid hb2; clear hb2)
          go_roundw
          case rel => exact ⟨m + 1, q, by go_num, rfl, by have := HM.out; omega, hq, fun i h1 h2 => by
            have h3 := HS.out i m h1 hml (by omega)
            rw [HX.out] at h3
            have := of_decide_eq_false hbq
            omega, HHI.out, HBW.out.trans (HB2.out.mono HBW.out.size)⟩
          case measure => have := HM.out; simp [intOf]; omega
      · have j6 : decide ((p : Int) < (q : Int)) = false := decide_eq_false (by omega)
        have j7 : decide (p < q) = false := decide_eq_false hlt
        have HD := Lib.hid (cntL_eq (l := l) (t := t) (p := p) (by omega) HLO.out (fun i h1 h2 => HHI.out i h1 (by omega)))
        go_wp2_with fail
        go_ret
        exact ⟨by rw [HD.out]; rfl, HBW.out⟩
  go_wp2_with (go_at_call 137; refine HSR.out.mono ?_; rintro e w2 ⟨rfl, hb2⟩; have HBZ := Lib.hid hb2; clear hb2)
  go_ret
  exact ⟨rfl, by rw [HB2.out]; exact HA.out.trans (HBZ.out.mono (HB2.out ▸ HA.out.size))⟩
end Go.Proofs.YtamjllakfgphnaaGreatDoor
