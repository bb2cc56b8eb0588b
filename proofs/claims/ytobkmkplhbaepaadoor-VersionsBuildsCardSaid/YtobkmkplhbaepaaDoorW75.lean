/- Walks of layer 46: Find and Action of versions. -/
import Derived.Test.YtobkmkplhbaepaaDoorW74
import Derived.Test.YtobkmkplhbaepaaDoorGQ
namespace Go.Proofs.YtobkmkplhbaepaaDoor
open Go.RowKit
set_option linter.unusedSimpArgs false
set_option linter.unusedVariables false
attribute [local go_sem ↓] Go.wp_at_zero Go.wp_at_succ
theorem lex_lt {a b : Ky} : cmpK a b < 0 ↔ a.tick < b.tick ∨ (a.tick = b.tick ∧ (a.cls < b.cls ∨ (a.cls = b.cls ∧ a.num < b.num))) := by
  unfold cmpK or3
  by_cases h1 : cmpI a.tick b.tick = 0
  · have e1 := cmpI_eq.1 h1
    rw [if_neg (by simp [h1])]
    by_cases h2 : cmpI a.cls b.cls = 0
    · have e2 := cmpI_eq.1 h2
      rw [if_neg (by simp [h2]), cmpI_lt]
      omega
    · have e2 : a.cls ≠ b.cls := fun e => h2 (cmpI_eq.2 e)
      rw [if_pos h2, cmpI_lt]
      omega
  · have e1 : a.tick ≠ b.tick := fun e => h1 (cmpI_eq.2 e)
    rw [if_pos h1, cmpI_lt]
    omega
theorem lex_eq {a b : Ky} : cmpK a b = 0 ↔ a.tick = b.tick ∧ a.cls = b.cls ∧ a.num = b.num := by
  unfold cmpK or3
  by_cases h1 : cmpI a.tick b.tick = 0
  · have e1 := cmpI_eq.1 h1
    rw [if_neg (by simp [h1])]
    by_cases h2 : cmpI a.cls b.cls = 0
    · have e2 := cmpI_eq.1 h2
      rw [if_neg (by simp [h2]), cmpI_eq]
      omega
    · have e2 : a.cls ≠ b.cls := fun e => h2 (cmpI_eq.2 e)
      rw [if_pos h2]
      exact ⟨fun h => absurd h h2, fun h => absurd h.2.1 e2⟩
  · have e1 : a.tick ≠ b.tick := fun e => h1 (cmpI_eq.2 e)
    rw [if_pos h1]
    exact ⟨fun h => absurd h h1, fun h => absurd h.1 e1⟩
theorem cmpKA_lt {a k : Ky} : cmpKA a k < 0 ↔ cmpK a k < 0 ∨ (cmpK a k = 0 ∧ k.lin ≠ []) := by
  unfold cmpKA
  by_cases h : cmpK a k = 0
  · rw [if_neg (by simp [h])]
    by_cases h2 : k.lin = []
    · rw [if_pos h2]; simp [h, h2]
    · rw [if_neg h2]; simp [h, h2]
  · rw [if_pos h]; simp [h]
theorem cmpKA_eq {a k : Ky} : cmpKA a k = 0 ↔ cmpK a k = 0 ∧ k.lin = [] := by
  unfold cmpKA
  by_cases h : cmpK a k = 0
  · rw [if_neg (by simp [h])]
    by_cases h2 : k.lin = []
    · rw [if_pos h2]; simp [h, h2]
    · rw [if_neg h2]; simp [h, h2]
  · rw [if_pos h]; simp [h]
theorem key_same {a k : Ky} (ha : a.lin = []) : cmpKA a k = 0 ↔ a = k := by
  rw [cmpKA_eq, lex_eq]
  obtain ⟨at_, ac, an, al⟩ := a
  obtain ⟨kt, kc, kn, kl⟩ := k
  simp only at ha
  subst ha
  simp only [Ky.mk.injEq]
  constructor
  · rintro ⟨⟨h1, h2, h3⟩, h4⟩; exact ⟨h1, h2, h3, h4.symm⟩
  · rintro ⟨h1, h2, h3, h4⟩; exact ⟨⟨h1, h2, h3⟩, h4.symm⟩
theorem cmpKA_mono {a b k : Ky} (h : cmpK a b < 0) (hb : cmpKA b k < 0) : cmpKA a k < 0 := by
  rw [cmpKA_lt] at hb ⊢
  rw [lex_lt] at h hb ⊢
  rw [lex_eq] at hb
  left
  rcases hb with hb | ⟨hb, _⟩ <;> omega
/-- Keys in strictly ascending order. -/
def KSrt (l : List Ac) : Prop := ∀ i j (hi : i < l.length) (hj : j < l.length), i < j → cmpK l[i].key l[j].key < 0
theorem ksrt_of {l : List Ac} (h : bldR [] l = 0) : KSrt l := by
  have adj : ∀ k (hk : k + 1 < l.length), cmpK (l[k]'(by omega)).key l[k + 1].key < 0 := by
    intro k hk
    have h1 := bldR_zero h (k + 1) hk
    rw [List.nil_append] at h1
    have h2 := appR_at hk (ok_all h _ (List.getElem_mem hk))
    rw [h1] at h2
    by_cases h3 : cmpK (l[k]'(by omega)).key l[k + 1].key < 0
    · exact h3
    · rw [if_neg h3] at h2; cases h2
  intro i j hi hj hij
  obtain ⟨d, rfl⟩ : ∃ d, j = i + 1 + d := ⟨j - (i + 1), by omega⟩
  clear hij
  induction d with
  | zero => exact adj i hj
  | succ d ih =>
    have h1 := ih (by omega)
    have h2 := adj (i + 1 + d) hj
    rw [lex_lt] at h1 h2 ⊢
    have e : i + 1 + (d + 1) = i + 1 + d + 1 := by omega
    simp only [e]
    omega
set_option maxRecDepth 100000 in
theorem find1_is (a : Ac) (k : Ky) (u : Value × Value) (ha : a.key.lin = []) (w : World) : Calls Tryd.prog 47 #[.agg #[.int .i64 a.key.tick, .int .i64 a.key.cls, .int .i64 a.key.num, .string (bs a.key.lin), u.1, u.2], kyV k] w fun e w' => e = .returned (.int .i64 (cmpKA a.key k)) ∧ Below w.heap.size w w' := by
  obtain ⟨u1, u2⟩ := u
  obtain ⟨q, hq⟩ : ∃ q, cmpKA a.key k = q := ⟨_, rfl⟩
  rw [hq]
  have HQ := Lib.hid hq
  clear hq
  have HKC := Lib.hid (fun W => key_cmp a.key k W ha)
  unfold kyV at HKC ⊢
  have hb : Below w.heap.size w ((w.alloc (.cells #[.int .i64 a.key.tick, .int .i64 a.key.cls, .int .i64 a.key.num, .string (bs a.key.lin), u1, u2] 50)).alloc (.cells #[.int .i64 k.tick, .int .i64 k.cls, .int .i64 k.num, .string (bs k.lin)] 47)) := ((Below.refl _ _).alloc (Nat.le_refl _) _).alloc (by simp) _
  have HB := Lib.hid hb
  clear hb ha
  go_enter Tryd.func47, Tryd.ntmps47
  go_wp2_with (go_at_call 34; refine (HKC.out _).mono ?_; rintro e w2 ⟨rfl, hb2⟩; rw [HQ.out]; have HB2 := Lib.hid (HB.out.trans (hb2.mono HB.out.size)); clear hb2)
  go_ret
  exact ⟨rfl, HB2.out⟩
def BskP (l : List Ac) (k : Ky) (w : World) (e : Ending) (w' : World) : Prop :=
  Below w.heap.size w w' ∧ ∃ p : Nat, p ≤ l.length ∧ (∀ i (h : i < l.length), i < p → cmpKA l[i].key k < 0) ∧ (∀ i (h : i < l.length), p ≤ i → 0 ≤ cmpKA l[i].key k) ∧ e = .returned (.tuple #[.int .i64 p, .bool (decide (∃ h : p < l.length, cmpKA l[p].key k = 0))])
def BskRel (l : List Ac) (k : Ky) (w : World) (i j : Value) (wr : World) : Prop := ∃ p q : Nat, i = .int .i64 p ∧ j = .int .i64 q ∧ p ≤ q ∧ q ≤ l.length ∧ (∀ i (h : i < l.length), i < p → cmpKA l[i].key k < 0) ∧ (∀ i (h : i < l.length), q ≤ i → 0 ≤ cmpKA l[i].key k) ∧ Below w.heap.size w wr
set_option maxRecDepth 100000 in
set_option maxHeartbeats 4000000 in
theorem bsk_is {w : World} {v : Value} {l : List Ac} (k : Ky) (h : RdAc w v l) (hr : ∀ a ∈ l, AcR a) (hs : KSrt l) (hl : l.length ≤ 100000) : Calls Tryd.prog 46 #[v, kyV k, .func (.func 47) #[] #[]] w (BskP l k w) := by
  obtain ⟨A, c, rfl, hc⟩ := RowRd.form h
  have hba := (Below.refl w.heap.size w).alloc (Nat.le_refl _) (.cells #[.int .i64 k.tick, .int .i64 k.cls, .int .i64 k.num, .string (bs k.lin)] 47)
  have zb := Blk.new w 47 #[.int .i64 k.tick, .int .i64 k.cls, .int .i64 k.num, .string (bs k.lin)]
  have HY0 := Lib.hid (zb.cell 0)
  have HY1 := Lib.hid (zb.cell 1)
  have HY2 := Lib.hid (zb.cell 2)
  have HY3 := Lib.hid (zb.cell 3)
  have hkl := zb.lt
  have HH := Lib.hid (RdAc.next h hba)
  have HR := Lib.hid hr
  have HS := Lib.hid hs
  have HBA := Lib.hid hba
  clear h hr hs zb hba
  unfold kyV
  go_enter Tryd.func46, Tryd.ntmps46
  go_upto_region 2 with (fail)
  generalize w.alloc (.cells #[.int .i64 k.tick, .int .i64 k.cls, .int .i64 k.num, .string (bs k.lin)] 47) = W at *
  obtain ⟨kb, hkb⟩ : ∃ kb, w.heap.size = kb := ⟨_, rfl⟩
  rw [hkb] at HY0 HY1 HY2 HY3 hkl ⊢
  clear hkb
  have H0 : Hid (BskRel l k W (.int .i64 (0 : Nat)) (.int .i64 l.length) W) := Lib.hid ⟨0, l.length, rfl, rfl, Nat.zero_le _, Nat.le_refl _, fun i _ h => by omega, fun i h1 h2 => by omega, Below.refl _ _⟩
  go_wp2_with fail
  go_loopw [9, 10] (fun i j wr => BskRel l k W i j wr) (fun i j _ => (intOf j).toNat - (intOf i).toNat)
  case atStart => exact H0.out
  case round =>
    clear H0
    obtain ⟨p, q, rfl, rfl, hpq, hq, hlo, hhi, hbw⟩ := hrel
    have HLO := Lib.hid hlo
    have HHI := Lib.hid hhi
    have HBW := Lib.hid hbw
    have y0 := (hbw.cell (p := ⟨kb, 0, none⟩) hkl).trans HY0.out
    have y1 := (hbw.cell (p := ⟨kb, 1, none⟩) hkl).trans HY1.out
    have y2 := (hbw.cell (p := ⟨kb, 2, none⟩) hkl).trans HY2.out
    have y3 := (hbw.cell (p := ⟨kb, 3, none⟩) hkl).trans HY3.out
    have hkr := Nat.lt_of_lt_of_le hkl hbw.size
    simp only [List.getElem?_toArray, List.getElem?_cons_zero, List.getElem?_cons_succ] at y0 y1 y2 y3
    clear hlo hhi hbw
    by_cases hlt : p < q
    · obtain ⟨m, hm⟩ : ∃ m, (p + q) / 2 = m := ⟨_, rfl⟩
      have hml : m < l.length := by omega
      obtain ⟨b, o, u1, u2, hbe, hbr, m1, m2, x0, x1, x2, x3, x4, x5⟩ := RdAc.piece (RdAc.next HH.out HBW.out) hml
      subst hbe
      obtain ⟨x, hx⟩ : ∃ x, l[m] = x := ⟨_, rfl⟩
      have HXL : Hid (x.key.lin = []) := Lib.hid (by rw [← hx]; exact (HR.out _ (List.getElem_mem hml)).1.2.2.2.2.2)
      rw [hx] at x0 x1 x2 x3
      have HX := Lib.hid hx
      have j1 : ((p : Int) + (q : Int)) / 2 = (m : Int) := by omega
      have j2 : (0 : Int) ≤ (m : Int) := by omega
      have j3 : (m : Int) < (l.length : Int) := by omega
      have j4 : (0 : Int) ≤ (p : Int) + (q : Int) := by omega
      have j5 : (p : Int) + (q : Int) ≤ 200000 := by omega
      have HM := Lib.hid hm
      have j6 : decide ((p : Int) < (q : Int)) = true := decide_eq_true (by omega)
      have j7 : decide (p < q) = true := decide_eq_true hlt
      obtain ⟨cq, hcq⟩ : ∃ cq, cmpKA x.key k = cq := ⟨_, rfl⟩
      have HCQ := Lib.hid hcq
      clear hx hm hcq m1 m2
      obtain ⟨nb, hnb⟩ : ∃ nb, decide (cq < 0) = nb := ⟨_, rfl⟩
      have HNB := Lib.hid hnb
      go_upto_region 5 with (fail)
      refine wp_region_noPanic ?_
      refine wp_region_held_drew (S := (fun (w' : World) => w'.cell? ⟨b, o + m * 6, none⟩ = some (.int .i64 x.key.tick) ∧ w'.cell? ⟨b, o + m * 6 + 1, none⟩ = some (.int .i64 x.key.cls) ∧ w'.cell? ⟨b, o + m * 6 + 2, none⟩ = some (.int .i64 x.key.num) ∧ w'.cell? ⟨b, o + m * 6 + 3, none⟩ = some (.string (bs x.key.lin)) ∧ w'.cell? ⟨b, o + m * 6 + 4, none⟩ = some (u1) ∧ w'.cell? ⟨b, o + m * 6 + 5, none⟩ = some (u2) ∧ w'.cell? ⟨kb, 0, none⟩ = some (.int .i64 k.tick) ∧ w'.cell? ⟨kb, 1, none⟩ = some (.int .i64 k.cls) ∧ w'.cell? ⟨kb, 2, none⟩ = some (.int .i64 k.num) ∧ w'.cell? ⟨kb, 3, none⟩ = some (.string (bs k.lin)))) (by kernel_rfl) ?_ (fun hHeld => ?_)
      · exact ⟨x0, x1, x2, x3, x4, x5, y0, y1, y2, y3⟩
      refine wpAnyH_take (i := 0) (v := ?_) rfl (by kernel_rfl) (by kernel_rfl) (by kernel_rfl) (fun _ _ _ h => h) (Or.inl ⟨by kernel_rfl, ?_⟩) hHeld ?_
      rotate_left
      · (intro w hSw; (try dsimp only at hSw); go_simp; try with_reducible rfl)
      try simp only [Act.put, List.setIfInBounds_toArray, List.set_cons_zero, List.set_cons_succ]
      refine wpAnyH_take (i := 1) (v := ?_) rfl (by kernel_rfl) (by kernel_rfl) (by kernel_rfl) (fun _ _ _ h => h) (Or.inl ⟨by kernel_rfl, ?_⟩) hHeld ?_
      rotate_left
      · (intro w hSw; (try dsimp only at hSw); go_simp; try with_reducible rfl)
      try simp only [Act.put, List.setIfInBounds_toArray, List.set_cons_zero, List.set_cons_succ]
      refine wpAnyH_take (i := 2) (v := ?_) rfl (by kernel_rfl) (by kernel_rfl) (by kernel_rfl) (fun _ _ _ h => h) (Or.inl ⟨by kernel_rfl, ?_⟩) hHeld ?_
      rotate_left
      · (intro w hSw; (try dsimp only at hSw); go_simp; try with_reducible rfl)
      try simp only [Act.put, List.setIfInBounds_toArray, List.set_cons_zero, List.set_cons_succ]
      refine wpAnyH_take (i := 3) (v := ?_) rfl (by kernel_rfl) (by kernel_rfl) (by kernel_rfl) (fun _ _ _ h => h) (Or.inl ⟨by kernel_rfl, ?_⟩) hHeld ?_
      rotate_left
      · (intro w hSw; (try dsimp only at hSw); go_simp; try with_reducible rfl)
      try simp only [Act.put, List.setIfInBounds_toArray, List.set_cons_zero, List.set_cons_succ]
      refine wpAnyH_take (i := 4) (v := ?_) rfl (by kernel_rfl) (by kernel_rfl) (by kernel_rfl) (fun _ _ _ h => h) (Or.inl ⟨by kernel_rfl, ?_⟩) hHeld ?_
      rotate_left
      · (intro w hSw; (try dsimp only at hSw); go_simp; try with_reducible rfl)
      try simp only [Act.put, List.setIfInBounds_toArray, List.set_cons_zero, List.set_cons_succ]
      refine wpAnyH_take (i := 5) (v := ?_) rfl (by kernel_rfl) (by kernel_rfl) (by kernel_rfl) (fun _ _ _ h => h) (Or.inl ⟨by kernel_rfl, ?_⟩) hHeld ?_
      rotate_left
      · (intro w hSw; (try dsimp only at hSw); go_simp; try with_reducible rfl)
      try simp only [Act.put, List.setIfInBounds_toArray, List.set_cons_zero, List.set_cons_succ]
      refine wpAnyH_ready (rs := [6]) (by kernel_rfl) (by simp) ?_
      refine AllReadyH.cons rfl (fun K hK => ?_) AllReadyH.nil
      go_simp
      refine (find1_is x k (u1, u2) HXL.out wr.drew).mono ?_; rintro e w2 ⟨rfl, hb⟩; rw [HCQ.out]; have HB2 := Lib.hid ((Below.refl wr.heap.size wr).drew.trans hb); clear hb
      try (go_wp2_with fail)
      refine hK.out _ _ ?_ (fun hNew => ?_)
      · exact ⟨(HB2.out.cell (p := ⟨b, o + m * 6, none⟩) hbr).trans x0, (HB2.out.cell (p := ⟨b, o + m * 6 + 1, none⟩) hbr).trans x1, (HB2.out.cell (p := ⟨b, o + m * 6 + 2, none⟩) hbr).trans x2, (HB2.out.cell (p := ⟨b, o + m * 6 + 3, none⟩) hbr).trans x3, (HB2.out.cell (p := ⟨b, o + m * 6 + 4, none⟩) hbr).trans x4, (HB2.out.cell (p := ⟨b, o + m * 6 + 5, none⟩) hbr).trans x5, (HB2.out.cell (p := ⟨kb, 0, none⟩) hkr).trans y0, (HB2.out.cell (p := ⟨kb, 1, none⟩) hkr).trans y1, (HB2.out.cell (p := ⟨kb, 2, none⟩) hkr).trans y2, (HB2.out.cell (p := ⟨kb, 3, none⟩) hkr).trans y3⟩
      clear hK K hHeld
      have hHeld := hNew
      clear hNew
      try simp only [Act.put, List.setIfInBounds_toArray, List.set_cons_zero, List.set_cons_succ]
      refine wpAnyH_take (i := 7) (v := ?_) rfl (by kernel_rfl) (by kernel_rfl) (by kernel_rfl) (fun _ _ _ h => h) (Or.inl ⟨by kernel_rfl, ?_⟩) hHeld ?_
      rotate_left
      · (intro w hSw; (try dsimp only at hSw); go_simp; try with_reducible rfl)
      try simp only [Act.put, List.setIfInBounds_toArray, List.set_cons_zero, List.set_cons_succ]
      refine wpAnyH_done (by kernel_rfl) ?_ _
      clear hHeld
      try simp only [List.getElem_toArray, List.getElem_cons_zero, List.getElem_cons_succ, Act.put, List.setIfInBounds_toArray, List.set_cons_zero, List.set_cons_succ]
      refine NoPanic.normal ?_
      clear x0 x1 x2 x3 x4 x5 y0 y1 y2 y3 hnb
      cases nb with
      | true =>
        have HNG := Lib.hid (of_decide_eq_true HNB.out)
        go_wp2_with fail
        go_roundw
        case rel =>
          have hm := HM.out
          refine ⟨m + 1, q, by go_num, rfl, by omega, hq, fun i h1 h2 => ?_, HHI.out, HBW.out.trans (HB2.out.mono HBW.out.size)⟩
          have hxm : cmpKA (l[m]'(by omega)).key k < 0 := by rw [HX.out, HCQ.out]; exact HNG.out
          rcases Nat.lt_or_ge i m with h3 | h3
          · exact cmpKA_mono (HS.out i m h1 (by omega) h3) hxm
          · have : i = m := by omega
            subst this
            exact hxm
        case measure => have := HM.out; simp [intOf]; omega
      | false =>
        have HNG := Lib.hid (of_decide_eq_false HNB.out)
        go_wp2_with fail
        go_roundw
        case rel =>
          have hm := HM.out
          refine ⟨p, m, rfl, rfl, by omega, by omega, HLO.out, fun i h1 h2 => ?_, HBW.out.trans (HB2.out.mono HBW.out.size)⟩
          have hxm : ¬ cmpKA (l[m]'(by omega)).key k < 0 := by rw [HX.out, HCQ.out]; exact HNG.out
          rcases Nat.lt_or_ge m i with h3 | h3
          · exact Int.not_lt.1 fun h4 => hxm (cmpKA_mono (HS.out m i (by omega) h1 h3) h4)
          · have : i = m := by omega
            subst this
            omega
        case measure => have := HM.out; simp [intOf]; omega
    · have j6 : decide ((p : Int) < (q : Int)) = false := decide_eq_false (by omega)
      have j7 : decide (p < q) = false := decide_eq_false hlt
      have hpe : p = q := by omega
      subst hpe
      have HAB := Lib.hid HBA.out
      by_cases hp : p < l.length
      · obtain ⟨b, o, u1, u2, hbe, hbr, m1, m2, x0, x1, x2, x3, x4, x5⟩ := RdAc.piece (RdAc.next HH.out HBW.out) hp
        subst hbe
        obtain ⟨x, hx⟩ : ∃ x, l[p] = x := ⟨_, rfl⟩
        have HXL : Hid (x.key.lin = []) := Lib.hid (by rw [← hx]; exact (HR.out _ (List.getElem_mem hp)).1.2.2.2.2.2)
        rw [hx] at x0 x1 x2 x3
        have HX := Lib.hid hx
        have j2 : (0 : Int) ≤ (p : Int) := by omega
        have j3 : (p : Int) < (l.length : Int) := by omega
        have j8 : decide ((p : Int) < (l.length : Int)) = true := decide_eq_true j3
        have j9 : decide (p < l.length) = true := decide_eq_true hp
        obtain ⟨cq, hcq⟩ : ∃ cq, cmpKA x.key k = cq := ⟨_, rfl⟩
        have HCQ := Lib.hid hcq
        clear hx hcq m1 m2 hlt j6 j7
        obtain ⟨fq, hfq⟩ : ∃ fq, (cq == 0) = fq := ⟨_, rfl⟩
        have HFQ := Lib.hid hfq
        have HF2 : Hid (decide (∃ h : p < l.length, cmpKA l[p].key k = 0) = fq) := Lib.hid (by
          rw [← hfq]
          by_cases h0 : cq = 0
          · rw [decide_eq_true ⟨hp, by rw [HX.out, HCQ.out]; exact h0⟩, h0]; rfl
          · rw [decide_eq_false (fun ⟨h, e⟩ => h0 (by rw [← HCQ.out, ← HX.out]; exact e))]
            exact (beq_eq_false_iff_ne.2 h0).symm)
        go_upto_region 8 with (fail)
        refine wp_region_noPanic ?_
        refine wp_region_held_drew (S := (fun (w' : World) => w'.cell? ⟨b, o + p * 6, none⟩ = some (.int .i64 x.key.tick) ∧ w'.cell? ⟨b, o + p * 6 + 1, none⟩ = some (.int .i64 x.key.cls) ∧ w'.cell? ⟨b, o + p * 6 + 2, none⟩ = some (.int .i64 x.key.num) ∧ w'.cell? ⟨b, o + p * 6 + 3, none⟩ = some (.string (bs x.key.lin)) ∧ w'.cell? ⟨b, o + p * 6 + 4, none⟩ = some (u1) ∧ w'.cell? ⟨b, o + p * 6 + 5, none⟩ = some (u2) ∧ w'.cell? ⟨kb, 0, none⟩ = some (.int .i64 k.tick) ∧ w'.cell? ⟨kb, 1, none⟩ = some (.int .i64 k.cls) ∧ w'.cell? ⟨kb, 2, none⟩ = some (.int .i64 k.num) ∧ w'.cell? ⟨kb, 3, none⟩ = some (.string (bs k.lin)))) (by kernel_rfl) ?_ (fun hHeld => ?_)
        · exact ⟨x0, x1, x2, x3, x4, x5, y0, y1, y2, y3⟩
        refine wpAnyH_take (i := 0) (v := ?_) rfl (by kernel_rfl) (by kernel_rfl) (by kernel_rfl) (fun _ _ _ h => h) (Or.inl ⟨by kernel_rfl, ?_⟩) hHeld ?_
        rotate_left
        · (intro w hSw; (try dsimp only at hSw); go_simp; try with_reducible rfl)
        try simp only [Act.put, List.setIfInBounds_toArray, List.set_cons_zero, List.set_cons_succ]
        refine wpAnyH_take (i := 1) (v := ?_) rfl (by kernel_rfl) (by kernel_rfl) (by kernel_rfl) (fun _ _ _ h => h) (Or.inl ⟨by kernel_rfl, ?_⟩) hHeld ?_
        rotate_left
        · (intro w hSw; (try dsimp only at hSw); go_simp; try with_reducible rfl)
        try simp only [Act.put, List.setIfInBounds_toArray, List.set_cons_zero, List.set_cons_succ]
        refine wpAnyH_take (i := 2) (v := ?_) rfl (by kernel_rfl) (by kernel_rfl) (by kernel_rfl) (fun _ _ _ h => h) (Or.inl ⟨by kernel_rfl, ?_⟩) hHeld ?_
        rotate_left
        · (intro w hSw; (try dsimp only at hSw); go_simp; try with_reducible rfl)
        try simp only [Act.put, List.setIfInBounds_toArray, List.set_cons_zero, List.set_cons_succ]
        refine wpAnyH_take (i := 3) (v := ?_) rfl (by kernel_rfl) (by kernel_rfl) (by kernel_rfl) (fun _ _ _ h => h) (Or.inl ⟨by kernel_rfl, ?_⟩) hHeld ?_
        rotate_left
        · (intro w hSw; (try dsimp only at hSw); go_simp; try with_reducible rfl)
        try simp only [Act.put, List.setIfInBounds_toArray, List.set_cons_zero, List.set_cons_succ]
        refine wpAnyH_take (i := 4) (v := ?_) rfl (by kernel_rfl) (by kernel_rfl) (by kernel_rfl) (fun _ _ _ h => h) (Or.inl ⟨by kernel_rfl, ?_⟩) hHeld ?_
        rotate_left
        · (intro w hSw; (try dsimp only at hSw); go_simp; try with_reducible rfl)
        try simp only [Act.put, List.setIfInBounds_toArray, List.set_cons_zero, List.set_cons_succ]
        refine wpAnyH_take (i := 5) (v := ?_) rfl (by kernel_rfl) (by kernel_rfl) (by kernel_rfl) (fun _ _ _ h => h) (Or.inl ⟨by kernel_rfl, ?_⟩) hHeld ?_
        rotate_left
        · (intro w hSw; (try dsimp only at hSw); go_simp; try with_reducible rfl)
        try simp only [Act.put, List.setIfInBounds_toArray, List.set_cons_zero, List.set_cons_succ]
        refine wpAnyH_take (i := 6) (v := ?_) rfl (by kernel_rfl) (by kernel_rfl) (by kernel_rfl) (fun _ _ _ h => h) (Or.inl ⟨by kernel_rfl, ?_⟩) hHeld ?_
        rotate_left
        · (intro w hSw; (try dsimp only at hSw); go_simp; try with_reducible rfl)
        try simp only [Act.put, List.setIfInBounds_toArray, List.set_cons_zero, List.set_cons_succ]
        refine wpAnyH_take (i := 7) (v := ?_) rfl (by kernel_rfl) (by kernel_rfl) (by kernel_rfl) (fun _ _ _ h => h) (Or.inl ⟨by kernel_rfl, ?_⟩) hHeld ?_
        rotate_left
        · (intro w hSw; (try dsimp only at hSw); go_simp; try with_reducible rfl)
        try simp only [Act.put, List.setIfInBounds_toArray, List.set_cons_zero, List.set_cons_succ]
        refine wpAnyH_take (i := 8) (v := ?_) rfl (by kernel_rfl) (by kernel_rfl) (by kernel_rfl) (fun _ _ _ h => h) (Or.inl ⟨by kernel_rfl, ?_⟩) hHeld ?_
        rotate_left
        · (intro w hSw; (try dsimp only at hSw); go_simp; try with_reducible rfl)
        try simp only [Act.put, List.setIfInBounds_toArray, List.set_cons_zero, List.set_cons_succ]
        refine wpAnyH_take (i := 9) (v := ?_) rfl (by kernel_rfl) (by kernel_rfl) (by kernel_rfl) (fun _ _ _ h => h) (Or.inl ⟨by kernel_rfl, ?_⟩) hHeld ?_
        rotate_left
        · (intro w hSw; (try dsimp only at hSw); go_simp; try with_reducible rfl)
        try simp only [Act.put, List.setIfInBounds_toArray, List.set_cons_zero, List.set_cons_succ]
        refine wpAnyH_take (i := 10) (v := ?_) rfl (by kernel_rfl) (by kernel_rfl) (by kernel_rfl) (fun _ _ _ h => h) (Or.inl ⟨by kernel_rfl, ?_⟩) hHeld ?_
        rotate_left
        · (intro w hSw; (try dsimp only at hSw); go_simp; try with_reducible rfl)
        try simp only [Act.put, List.setIfInBounds_toArray, List.set_cons_zero, List.set_cons_succ]
        refine wpAnyH_ready (rs := [11]) (by kernel_rfl) (by simp) ?_
        refine AllReadyH.cons rfl (fun K hK => ?_) AllReadyH.nil
        go_simp
        refine (find1_is x k (u1, u2) HXL.out wr.drew).mono ?_; rintro e w2 ⟨rfl, hb⟩; rw [HCQ.out]; have HB2 := Lib.hid ((Below.refl wr.heap.size wr).drew.trans hb); clear hb
        try (go_wp2_with fail)
        refine hK.out _ _ ?_ (fun hNew => ?_)
        · exact ⟨(HB2.out.cell (p := ⟨b, o + p * 6, none⟩) hbr).trans x0, (HB2.out.cell (p := ⟨b, o + p * 6 + 1, none⟩) hbr).trans x1, (HB2.out.cell (p := ⟨b, o + p * 6 + 2, none⟩) hbr).trans x2, (HB2.out.cell (p := ⟨b, o + p * 6 + 3, none⟩) hbr).trans x3, (HB2.out.cell (p := ⟨b, o + p * 6 + 4, none⟩) hbr).trans x4, (HB2.out.cell (p := ⟨b, o + p * 6 + 5, none⟩) hbr).trans x5, (HB2.out.cell (p := ⟨kb, 0, none⟩) hkr).trans y0, (HB2.out.cell (p := ⟨kb, 1, none⟩) hkr).trans y1, (HB2.out.cell (p := ⟨kb, 2, none⟩) hkr).trans y2, (HB2.out.cell (p := ⟨kb, 3, none⟩) hkr).trans y3⟩
        clear hK K hHeld
        have hHeld := hNew
        clear hNew
        try simp only [Act.put, List.setIfInBounds_toArray, List.set_cons_zero, List.set_cons_succ]
        refine wpAnyH_take (i := 12) (v := ?_) rfl (by kernel_rfl) (by kernel_rfl) (by kernel_rfl) (fun _ _ _ h => h) (Or.inl ⟨by kernel_rfl, ?_⟩) hHeld ?_
        rotate_left
        · (intro w hSw; (try dsimp only at hSw); go_simp; try with_reducible rfl)
        try simp only [Act.put, List.setIfInBounds_toArray, List.set_cons_zero, List.set_cons_succ]
        refine wpAnyH_take (i := 13) (v := ?_) rfl (by kernel_rfl) (by kernel_rfl) (by kernel_rfl) (fun _ _ _ h => h) (Or.inl ⟨by kernel_rfl, ?_⟩) hHeld ?_
        rotate_left
        · (intro w hSw; (try dsimp only at hSw); go_simp; try with_reducible rfl)
        try simp only [Act.put, List.setIfInBounds_toArray, List.set_cons_zero, List.set_cons_succ]
        refine wpAnyH_take (i := 14) (v := ?_) rfl (by kernel_rfl) (by kernel_rfl) (by kernel_rfl) (fun _ _ _ h => h) (Or.inl ⟨by kernel_rfl, ?_⟩) hHeld ?_
        rotate_left
        · (intro w hSw; (try dsimp only at hSw); go_simp; try with_reducible rfl)
        try simp only [Act.put, List.setIfInBounds_toArray, List.set_cons_zero, List.set_cons_succ]
        refine wpAnyH_take (i := 15) (v := ?_) rfl (by kernel_rfl) (by kernel_rfl) (by kernel_rfl) (fun _ _ _ h => h) (Or.inl ⟨by kernel_rfl, ?_⟩) hHeld ?_
        rotate_left
        · (intro w hSw; (try dsimp only at hSw); go_simp; try with_reducible rfl)
        try simp only [Act.put, List.setIfInBounds_toArray, List.set_cons_zero, List.set_cons_succ]
        refine wpAnyH_done (by kernel_rfl) ?_ _
        clear hHeld
        try simp only [List.getElem_toArray, List.getElem_cons_zero, List.getElem_cons_succ, Act.put, List.setIfInBounds_toArray, List.set_cons_zero, List.set_cons_succ]
        refine NoPanic.normal ?_
        clear x0 x1 x2 x3 x4 x5 y0 y1 y2 y3
        go_wp2_with fail
        go_ret2
        exact ⟨HAB.out.trans ((HBW.out.trans (HB2.out.mono HBW.out.size)).mono HAB.out.size), p, by omega, HLO.out, HHI.out, by rw [HF2.out]; rfl⟩
      · have j8 : decide ((p : Int) < (l.length : Int)) = false := decide_eq_false (by omega)
        have j9 : decide (p < l.length) = false := decide_eq_false hp
        have HF2 : Hid (decide (∃ h : p < l.length, cmpKA l[p].key k = 0) = false) := Lib.hid (decide_eq_false fun ⟨h, _⟩ => hp h)
        clear hlt j6 j7 y0 y1 y2 y3
        go_upto_region 8 with (fail)
        refine wp_region_noPanic ?_
        refine wp_region_held_drew (S := (fun (w' : World) => 0 ≤ w'.heap.size)) (by kernel_rfl) ?_ (fun hHeld => ?_)
        · exact Nat.zero_le _
        refine wpAnyH_take (i := 0) (v := ?_) rfl (by kernel_rfl) (by kernel_rfl) (by kernel_rfl) (fun _ _ _ h => h) (Or.inl ⟨by kernel_rfl, ?_⟩) hHeld ?_
        rotate_left
        · (intro w hSw; (try dsimp only at hSw); go_simp; try with_reducible rfl)
        try simp only [Act.put, List.setIfInBounds_toArray, List.set_cons_zero, List.set_cons_succ]
        refine wpAnyH_take (i := 1) (v := ?_) rfl (by kernel_rfl) (by kernel_rfl) (by kernel_rfl) (fun _ _ _ h => h) (Or.inl ⟨by kernel_rfl, ?_⟩) hHeld ?_
        rotate_left
        · (intro w hSw; (try dsimp only at hSw); go_simp; try with_reducible rfl)
        try simp only [Act.put, List.setIfInBounds_toArray, List.set_cons_zero, List.set_cons_succ]
        refine wpAnyH_take (i := 2) (v := ?_) rfl (by kernel_rfl) (by kernel_rfl) (by kernel_rfl) (fun _ _ _ h => h) (Or.inl ⟨by kernel_rfl, ?_⟩) hHeld ?_
        rotate_left
        · (intro w hSw; (try dsimp only at hSw); go_simp; try with_reducible rfl)
        try simp only [Act.put, List.setIfInBounds_toArray, List.set_cons_zero, List.set_cons_succ]
        refine wpAnyH_take (i := 3) (v := ?_) rfl (by kernel_rfl) (by kernel_rfl) (by kernel_rfl) (fun _ _ _ h => h) (Or.inl ⟨by kernel_rfl, ?_⟩) hHeld ?_
        rotate_left
        · (intro w hSw; (try dsimp only at hSw); go_simp; try with_reducible rfl)
        try simp only [Act.put, List.setIfInBounds_toArray, List.set_cons_zero, List.set_cons_succ]
        refine wpAnyH_take (i := 4) (v := ?_) rfl (by kernel_rfl) (by kernel_rfl) (by kernel_rfl) (fun _ _ _ h => h) (Or.inl ⟨by kernel_rfl, ?_⟩) hHeld ?_
        rotate_left
        · (intro w hSw; (try dsimp only at hSw); go_simp; try with_reducible rfl)
        try simp only [Act.put, List.setIfInBounds_toArray, List.set_cons_zero, List.set_cons_succ]
        refine wpAnyH_take (i := 5) (v := undef) rfl (by kernel_rfl) (by kernel_rfl) (by kernel_rfl) (fun _ _ _ h => h) (Or.inr ⟨by kernel_rfl, rfl⟩) hHeld ?_
        try simp only [Act.put, List.setIfInBounds_toArray, List.set_cons_zero, List.set_cons_succ]
        refine wpAnyH_take (i := 6) (v := undef) rfl (by kernel_rfl) (by kernel_rfl) (by kernel_rfl) (fun _ _ _ h => h) (Or.inr ⟨by kernel_rfl, rfl⟩) hHeld ?_
        try simp only [Act.put, List.setIfInBounds_toArray, List.set_cons_zero, List.set_cons_succ]
        refine wpAnyH_take (i := 7) (v := undef) rfl (by kernel_rfl) (by kernel_rfl) (by kernel_rfl) (fun _ _ _ h => h) (Or.inr ⟨by kernel_rfl, rfl⟩) hHeld ?_
        try simp only [Act.put, List.setIfInBounds_toArray, List.set_cons_zero, List.set_cons_succ]
        refine wpAnyH_take (i := 8) (v := undef) rfl (by kernel_rfl) (by kernel_rfl) (by kernel_rfl) (fun _ _ _ h => h) (Or.inr ⟨by kernel_rfl, rfl⟩) hHeld ?_
        try simp only [Act.put, List.setIfInBounds_toArray, List.set_cons_zero, List.set_cons_succ]
        refine wpAnyH_take (i := 9) (v := undef) rfl (by kernel_rfl) (by kernel_rfl) (by kernel_rfl) (fun _ _ _ h => h) (Or.inr ⟨by kernel_rfl, rfl⟩) hHeld ?_
        try simp only [Act.put, List.setIfInBounds_toArray, List.set_cons_zero, List.set_cons_succ]
        refine wpAnyH_take (i := 10) (v := undef) rfl (by kernel_rfl) (by kernel_rfl) (by kernel_rfl) (fun _ _ _ h => h) (Or.inr ⟨by kernel_rfl, rfl⟩) hHeld ?_
        try simp only [Act.put, List.setIfInBounds_toArray, List.set_cons_zero, List.set_cons_succ]
        refine wpAnyH_take (i := 11) (v := undef) rfl (by kernel_rfl) (by kernel_rfl) (by kernel_rfl) (fun _ _ _ h => h) (Or.inr ⟨by kernel_rfl, rfl⟩) hHeld ?_
        try simp only [Act.put, List.setIfInBounds_toArray, List.set_cons_zero, List.set_cons_succ]
        refine wpAnyH_take (i := 12) (v := undef) rfl (by kernel_rfl) (by kernel_rfl) (by kernel_rfl) (fun _ _ _ h => h) (Or.inr ⟨by kernel_rfl, rfl⟩) hHeld ?_
        try simp only [Act.put, List.setIfInBounds_toArray, List.set_cons_zero, List.set_cons_succ]
        refine wpAnyH_take (i := 13) (v := ?_) rfl (by kernel_rfl) (by kernel_rfl) (by kernel_rfl) (fun _ _ _ h => h) (Or.inl ⟨by kernel_rfl, ?_⟩) hHeld ?_
        rotate_left
        · (intro w hSw; (try dsimp only at hSw); go_simp; try with_reducible rfl)
        try simp only [Act.put, List.setIfInBounds_toArray, List.set_cons_zero, List.set_cons_succ]
        refine wpAnyH_take (i := 14) (v := ?_) rfl (by kernel_rfl) (by kernel_rfl) (by kernel_rfl) (fun _ _ _ h => h) (Or.inl ⟨by kernel_rfl, ?_⟩) hHeld ?_
        rotate_left
        · (intro w hSw; (try dsimp only at hSw); go_simp; try with_reducible rfl)
        try simp only [Act.put, List.setIfInBounds_toArray, List.set_cons_zero, List.set_cons_succ]
        refine wpAnyH_take (i := 15) (v := ?_) rfl (by kernel_rfl) (by kernel_rfl) (by kernel_rfl) (fun _ _ _ h => h) (Or.inl ⟨by kernel_rfl, ?_⟩) hHeld ?_
        rotate_left
        · (intro w hSw; (try dsimp only at hSw); go_simp; try with_reducible rfl)
        try simp only [Act.put, List.setIfInBounds_toArray, List.set_cons_zero, List.set_cons_succ]
        refine wpAnyH_done (by kernel_rfl) ?_ _
        clear hHeld
        try simp only [List.getElem_toArray, List.getElem_cons_zero, List.getElem_cons_succ, Act.put, List.setIfInBounds_toArray, List.set_cons_zero, List.set_cons_succ]
        refine NoPanic.normal ?_
        go_wp2_with fail
        go_ret2
        exact ⟨HAB.out.trans (HBW.out.drew.mono HAB.out.size), p, by omega, HLO.out, HHI.out, by rw [HF2.out]; rfl⟩
/-- What Find answers. -/
def FinP (l : List Ac) (k : Ky) (w : World) (e : Ending) (w' : World) : Prop :=
  Below w.heap.size w w' ∧ ((∃ (i : Nat) (h : i < l.length), l[i].key = k ∧ e = .returned (.tuple #[.int .i64 i, .bool true])) ∨ ((∀ i (h : i < l.length), l[i].key ≠ k) ∧ e = .returned (.tuple #[.int .i64 0, .bool false])))
set_option maxRecDepth 100000 in
set_option maxHeartbeats 1000000 in
theorem vfind_is {w : World} {F : Nat → Prop} {g : Nat} {s0 : St} {l : List Ac} (k : Ky) (hv : VAt w F g s0 l) (ho : VOk l) (hs : KSrt l) : Calls Tryd.prog 20 #[.pointer (some ⟨g, 0, none⟩), kyV k] w (FinP l k w) := by
  have hba := (Below.refl w.heap.size w).alloc (Nat.le_refl _) (.cells #[.int .i64 k.tick, .int .i64 k.cls, .int .i64 k.num, .string (bs k.lin)] 47)
  obtain ⟨pb, va, vk, pl, bw, br, iv⟩ := hv.next hba
  obtain ⟨B, rfl⟩ : ∃ B, pb = some ⟨B, 0, none⟩ := by obtain ⟨B, _, _, e, _⟩ := id iv.base; exact ⟨B, e⟩
  obtain ⟨_, _, hoa⟩ := id iv.act
  obtain ⟨Aa, ca, rfl, hca⟩ := own_len hoa
  have HRD := Lib.hid (show RdAc (w.alloc (.cells #[.int .i64 k.tick, .int .i64 k.cls, .int .i64 k.num, .string (bs k.lin)] 47)) (.slice Aa l.length ca) l from RowOwn.rd iv.act)
  have z0 := iv.blk.cell 0
  have z1 := iv.blk.cell 1
  have hg := iv.blk.lt
  have zb := Blk.new w 47 #[.int .i64 k.tick, .int .i64 k.cls, .int .i64 k.num, .string (bs k.lin)]
  have y0 := zb.cell 0
  have y1 := zb.cell 1
  have y2 := zb.cell 2
  have y3 := zb.cell 3
  have hk := zb.lt
  simp only [List.getElem?_toArray, List.getElem?_cons_zero, List.getElem?_cons_succ] at z0 z1 y0 y1 y2 y3
  have HR := Lib.hid ho.r
  have HS := Lib.hid hs
  have HBA := Lib.hid hba
  have hll := ho.len
  clear hv iv hoa zb ho hs hba
  unfold kyV
  go_enter Tryd.func20, Tryd.ntmps20
  go_upto_region 3 with (go_at_call 40; refine (none_is z0).mono ?_; rintro e w' ⟨rfl, rfl⟩)
  generalize w.alloc (.cells #[.int .i64 k.tick, .int .i64 k.cls, .int .i64 k.num, .string (bs k.lin)] 47) = W at *
  obtain ⟨kb, hkb⟩ : ∃ kb, w.heap.size = kb := ⟨_, rfl⟩
  rw [hkb] at y0 y1 y2 y3 hk ⊢
  have HKB := Lib.hid hkb
  clear hkb
  refine wp_region_noPanic ?_
  refine wp_region_held_drew (S := (fun (w' : World) => w'.cell? ⟨g, 1, none⟩ = some (.slice Aa l.length ca) ∧ w'.cell? ⟨kb, 0, none⟩ = some (.int .i64 k.tick) ∧ w'.cell? ⟨kb, 1, none⟩ = some (.int .i64 k.cls) ∧ w'.cell? ⟨kb, 2, none⟩ = some (.int .i64 k.num) ∧ w'.cell? ⟨kb, 3, none⟩ = some (.string (bs k.lin)))) (by kernel_rfl) ?_ (fun hHeld => ?_)
  · exact ⟨z1, y0, y1, y2, y3⟩
  refine wpAnyH_take (i := 0) (v := ?_) rfl (by kernel_rfl) (by kernel_rfl) (by kernel_rfl) (fun _ _ _ h => h) (Or.inl ⟨by kernel_rfl, ?_⟩) hHeld ?_
  rotate_left
  · (intro w hSw; (try dsimp only at hSw); go_simp; try with_reducible rfl)
  try simp only [Act.put, List.setIfInBounds_toArray, List.set_cons_zero, List.set_cons_succ]
  refine wpAnyH_take (i := 1) (v := ?_) rfl (by kernel_rfl) (by kernel_rfl) (by kernel_rfl) (fun _ _ _ h => h) (Or.inl ⟨by kernel_rfl, ?_⟩) hHeld ?_
  rotate_left
  · (intro w hSw; (try dsimp only at hSw); go_simp; try with_reducible rfl)
  try simp only [Act.put, List.setIfInBounds_toArray, List.set_cons_zero, List.set_cons_succ]
  refine wpAnyH_take (i := 2) (v := ?_) rfl (by kernel_rfl) (by kernel_rfl) (by kernel_rfl) (fun _ _ _ h => h) (Or.inl ⟨by kernel_rfl, ?_⟩) hHeld ?_
  rotate_left
  · (intro w hSw; (try dsimp only at hSw); go_simp; try with_reducible rfl)
  try simp only [Act.put, List.setIfInBounds_toArray, List.set_cons_zero, List.set_cons_succ]
  refine wpAnyH_take (i := 3) (v := ?_) rfl (by kernel_rfl) (by kernel_rfl) (by kernel_rfl) (fun _ _ _ h => h) (Or.inl ⟨by kernel_rfl, ?_⟩) hHeld ?_
  rotate_left
  · (intro w hSw; (try dsimp only at hSw); go_simp; try with_reducible rfl)
  try simp only [Act.put, List.setIfInBounds_toArray, List.set_cons_zero, List.set_cons_succ]
  refine wpAnyH_take (i := 4) (v := ?_) rfl (by kernel_rfl) (by kernel_rfl) (by kernel_rfl) (fun _ _ _ h => h) (Or.inl ⟨by kernel_rfl, ?_⟩) hHeld ?_
  rotate_left
  · (intro w hSw; (try dsimp only at hSw); go_simp; try with_reducible rfl)
  try simp only [Act.put, List.setIfInBounds_toArray, List.set_cons_zero, List.set_cons_succ]
  refine wpAnyH_ready (rs := [5]) (by kernel_rfl) (by simp) ?_
  refine AllReadyH.cons rfl (fun K hK => ?_) AllReadyH.nil
  go_simp
  refine (bsk_is k (RdAc.next HRD.out (Below.refl W.heap.size W).drew) HR.out HS.out (by omega)).mono ?_; rintro e w3 ⟨hb3, p, hpl, h1, h2, rfl⟩; have HB3 := Lib.hid ((Below.refl W.heap.size W).drew.trans hb3); have HP1 := Lib.hid h1; have HP2 := Lib.hid h2; clear hb3 h1 h2
  try (go_wp2_with fail)
  refine hK.out _ _ ?_ (fun hNew => ?_)
  · exact ⟨(HB3.out.cell (p := ⟨g, 1, none⟩) hg).trans z1, (HB3.out.cell (p := ⟨kb, 0, none⟩) hk).trans y0, (HB3.out.cell (p := ⟨kb, 1, none⟩) hk).trans y1, (HB3.out.cell (p := ⟨kb, 2, none⟩) hk).trans y2, (HB3.out.cell (p := ⟨kb, 3, none⟩) hk).trans y3⟩
  clear hK K hHeld
  have hHeld := hNew
  clear hNew
  try simp only [Act.put, List.setIfInBounds_toArray, List.set_cons_zero, List.set_cons_succ]
  refine wpAnyH_take (i := 6) (v := ?_) rfl (by kernel_rfl) (by kernel_rfl) (by kernel_rfl) (fun _ _ _ h => h) (Or.inl ⟨by kernel_rfl, ?_⟩) hHeld ?_
  rotate_left
  · (intro w hSw; (try dsimp only at hSw); go_simp; try with_reducible rfl)
  try simp only [Act.put, List.setIfInBounds_toArray, List.set_cons_zero, List.set_cons_succ]
  refine wpAnyH_take (i := 7) (v := ?_) rfl (by kernel_rfl) (by kernel_rfl) (by kernel_rfl) (fun _ _ _ h => h) (Or.inl ⟨by kernel_rfl, ?_⟩) hHeld ?_
  rotate_left
  · (intro w hSw; (try dsimp only at hSw); go_simp; try with_reducible rfl)
  try simp only [Act.put, List.setIfInBounds_toArray, List.set_cons_zero, List.set_cons_succ]
  refine wpAnyH_take (i := 8) (v := ?_) rfl (by kernel_rfl) (by kernel_rfl) (by kernel_rfl) (fun _ _ _ h => h) (Or.inl ⟨by kernel_rfl, ?_⟩) hHeld ?_
  rotate_left
  · (intro w hSw; (try dsimp only at hSw); go_simp; try with_reducible rfl)
  try simp only [Act.put, List.setIfInBounds_toArray, List.set_cons_zero, List.set_cons_succ]
  refine wpAnyH_take (i := 9) (v := ?_) rfl (by kernel_rfl) (by kernel_rfl) (by kernel_rfl) (fun _ _ _ h => h) (Or.inl ⟨by kernel_rfl, ?_⟩) hHeld ?_
  rotate_left
  · (intro w hSw; (try dsimp only at hSw); go_simp; try with_reducible rfl)
  try simp only [Act.put, List.setIfInBounds_toArray, List.set_cons_zero, List.set_cons_succ]
  refine wpAnyH_take (i := 10) (v := ?_) rfl (by kernel_rfl) (by kernel_rfl) (by kernel_rfl) (fun _ _ _ h => h) (Or.inl ⟨by kernel_rfl, ?_⟩) hHeld ?_
  rotate_left
  · (intro w hSw; (try dsimp only at hSw); go_simp; try with_reducible rfl)
  try simp only [Act.put, List.setIfInBounds_toArray, List.set_cons_zero, List.set_cons_succ]
  refine wpAnyH_done (by kernel_rfl) ?_ _
  clear hHeld
  try simp only [List.getElem_toArray, List.getElem_cons_zero, List.getElem_cons_succ, Act.put, List.setIfInBounds_toArray, List.set_cons_zero, List.set_cons_succ]
  refine NoPanic.normal ?_
  clear z0 z1 y0 y1 y2 y3
  by_cases hm : ∃ h : p < l.length, cmpKA l[p].key k = 0
  · have HM := Lib.hid hm
    clear hm
    rw [decide_eq_true HM.out]
    go_wp2_with fail
    go_ret2
    obtain ⟨h, e⟩ := HM.out
    refine ⟨HBA.out.trans (HB3.out.mono HBA.out.size), .inl ⟨p, h, (key_same (HR.out _ (List.getElem_mem h)).1.2.2.2.2.2).1 e, rfl⟩⟩
  · have HM := Lib.hid hm
    clear hm
    rw [decide_eq_false HM.out]
    go_wp2_with fail
    go_ret2
    refine ⟨by exact HBA.out.trans (HB3.out.mono HBA.out.size), .inr ⟨fun i h e => ?_, rfl⟩⟩
    have hz : cmpKA l[i].key k = 0 := (key_same (HR.out _ (List.getElem_mem h)).1.2.2.2.2.2).2 e
    rcases Nat.lt_or_ge i p with h1 | h1
    · have := HP1.out i h h1; omega
    · rcases Nat.lt_or_ge p i with h2 | h2
      · have h3 := HP2.out p (by omega) (Nat.le_refl _)
        have h4 : ¬ cmpKA (l[p]'(by omega)).key k < 0 := by omega
        refine h4 ?_
        have h5 := HS.out p i (by omega) h h2
        rw [← e] at h4 ⊢
        rw [cmpKA_lt]
        exact .inl h5
      · have : i = p := by omega
        subst this
        exact HM.out ⟨h, hz⟩
end Go.Proofs.YtobkmkplhbaepaaDoor
