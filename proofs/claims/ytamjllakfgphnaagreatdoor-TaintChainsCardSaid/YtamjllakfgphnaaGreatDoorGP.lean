/- Walks of layer 46: Versions.Append. -/
import Derived.Test.YtamjllakfgphnaaGreatDoorGW
import Derived.Test.YtamjllakfgphnaaGreatDoorGV
import Derived.Test.YtamjllakfgphnaaGreatDoorGB
namespace Go.Proofs.YtamjllakfgphnaaGreatDoor
open Go.RowKit
set_option linter.unusedSimpArgs false
set_option linter.unusedVariables false
attribute [local go_sem ↓] Go.wp_at_zero Go.wp_at_succ
/-- What Append leaves. -/
def AppP (w0 : World) (F : Nat → Prop) (g : Nat) (s0 : St) (l : List Ac) (a : Ac) (e : Ending) (w' : World) : Prop :=
  e = .returned (.int .i64 (appR l a)) ∧ (appR l a = 0 → VAt w' (Grow F w0 w') g s0 (l ++ [a])) ∧ (appR l a ≠ 0 → Below w0.heap.size w0 w') ∧ Outer F w0 w' ∧ Kept LV w0 w'
theorem VNow.cells {w0 w : World} {F : Nat → Prop} {g : Nat} {pb : Option Addr} {va vk : Value} {pl : Option Addr} {bw br : Nat} {s0 sl : St} {la : List Ac} {lk : List St} {Dw : Nm → List Ver} {Dr : Nm → List Int} (h : VNow w0 F w g pb va vk pl bw br s0 sl la lk Dw Dr) :
    w.cell? ⟨g, 0, none⟩ = some (.pointer pb) ∧ w.cell? ⟨g, 1, none⟩ = some va ∧ w.cell? ⟨g, 2, none⟩ = some vk ∧ w.cell? ⟨g, 3, none⟩ = some (.pointer pl) ∧ w.cell? ⟨g, 4, none⟩ = some (.map (some bw)) ∧ w.cell? ⟨g, 5, none⟩ = some (.map (some br)) :=
  ⟨h.vin.blk.cell 0, h.vin.blk.cell 1, h.vin.blk.cell 2, h.vin.blk.cell 3, h.vin.blk.cell 4, h.vin.blk.cell 5⟩
/-- What holds behind the kept states' append. -/
def KeepP (W : World) (F : Nat → Prop) (w4 wx : World) (g : Nat) (pb : Option Addr) (va : Value) (pl : Option Addr) (bw br : Nat) (s0 : St) (l : List Ac) (a : Ac) : Prop :=
  ∃ vk, VNow W F wx g pb va vk pl bw br s0 (stS s0 l) l (keptS s0 (l ++ [a])) (fun n => vers n 0 l) (fun n => rdrs n 0 l) ∧ Kept LV w4 wx
theorem infoKp : (Tryz.prog.info? 44).map (fun i => (i.zero, i.size, i.bytes)) = some (some (.pointer none), 1, 8) := by kernel_rfl
/-- Behind the first writes. -/
def AppL1 (W : World) (F : Nat → Prop) (g : Nat) (pb : Option Addr) (va vk : Value) (pl : Option Addr) (bw br : Nat) (s0 s2 : St) (l : List Ac) (a : Ac) (lk : List St) (i : Value) (wr : World) : Prop :=
  ∃ k : Nat, k ≤ a.writes.length ∧ i = .int .i64 k ∧ VNow W F wr g pb va vk pl bw br s0 s2 (l ++ [a]) lk (fun n => versT l (a.writes.take k) n) (fun n => rdrs n 0 l)
/-- Behind the first reads. -/
def AppL2 (W : World) (F : Nat → Prop) (g : Nat) (pb : Option Addr) (va vk : Value) (pl : Option Addr) (bw br : Nat) (s0 s2 : St) (l : List Ac) (a : Ac) (lk : List St) (i : Value) (wr : World) : Prop :=
  ∃ k : Nat, k ≤ a.reads.length ∧ i = .int .i64 k ∧ VNow W F wr g pb va vk pl bw br s0 s2 (l ++ [a]) lk (fun n => vers n 0 (l ++ [a])) (fun n => rdrsT l (a.reads.take k) n)
theorem blk_map {w w' : World} {g t b : Nat} {cs : Array Value} {ents : List (Nm × Value)} (h : Blk w g t cs) (hm : MapAt w b ents) (hg : w.grownBy w' (some b)) : Blk w' g t cs := by
  obtain ⟨es, c, hb, _⟩ := hm
  exact h.grown hg (fun e => by
    injection e with e
    subst e
    unfold Blk at h
    rw [hb] at h
    cases h)
theorem own_map {w w' : World} {base e s n b : Nat} {v : Value} {xs : List Value} {ents : List (Nm × Value)} (h : w.ownsRow base e s v n xs) (hm : MapAt w b ents) (hg : w.grownBy w' (some b)) : w'.ownsRow base e s v n xs := by
  obtain ⟨es, c, hb, _⟩ := hm
  exact h.kept hg (.inr (own_not_map h hb))
theorem infoVe : (Tryz.prog.info? 68).map (fun i => (i.zero, i.size, i.bytes)) = some (some (.agg #[.int .i64 0, .string ⟨#[]⟩, .bool false]), 3, 32) := by kernel_rfl
theorem zeroveC (w : World) : (zeroValue 110).run Tryz.prog w = .ok (.slice none 0 0) w := by kernel_rfl
theorem zeroinC (w : World) : (zeroValue 33).run Tryz.prog w = .ok (.slice none 0 0) w := by kernel_rfl
theorem below_of_fail {w W w' : World} {B : Nat} (h : Below w.heap.size w W) (k : Below B W w') (hB : w.heap.size ≤ B) : Below w.heap.size w w' := h.trans (k.mono hB)
set_option maxRecDepth 100000 in
set_option maxHeartbeats 16000000 in
theorem append_is {w : World} {F : Nat → Prop} {g : Nat} {s0 : St} {l : List Ac} {a : Ac} {u : Value × Value} (hv : VAt w F g s0 l) (hF : ∀ i, F i → i < w.heap.size) (hu : UseAt w) (hn : NAc w u a) (ha : AcR a) (hl : ∀ b ∈ l, AcR b) (hs : StV (stS s0 l)) (hlen : l.length ≤ 100) :
    Calls Tryz.prog 80 #[.pointer (some ⟨g, 0, none⟩), acV a u] w (AppP w F g s0 l a) := by
  obtain ⟨pb, va, vk, pl, bw, br, hv⟩ := hv
  obtain ⟨B, rfl⟩ : ∃ B, pb = some ⟨B, 0, none⟩ := by obtain ⟨B, _, _, e, _⟩ := hv.base; exact ⟨B, e⟩
  obtain ⟨Aa, ca, rfl, hca⟩ : ∃ A c, va = .slice A l.length c ∧ l.length ≤ c := by obtain ⟨us, _, ho⟩ := hv.act; exact own_len ho
  obtain ⟨Ak, ck, rfl, hck⟩ : ∃ A c, vk = .slice A (keptS s0 l).length c ∧ (keptS s0 l).length ≤ c := by obtain ⟨us, _, ho⟩ := hv.kp; exact own_len ho
  obtain ⟨⟨t, c, n, ln⟩, rs, ws⟩ := a
  obtain ⟨u1, u2⟩ := u
  have hb0 := (Below.refl w.heap.size w).alloc (Nat.le_refl _) (.cells #[.int .i64 t, .int .i64 c, .int .i64 n, .string (bs ln), u1, u2] 77)
  have hz : w.heap.size < (w.alloc (.cells #[.int .i64 t, .int .i64 c, .int .i64 n, .string (bs ln), u1, u2] 77)).heap.size := by simp
  have zb := Blk.new w 77 #[.int .i64 t, .int .i64 c, .int .i64 n, .string (bs ln), u1, u2]
  have VN := Lib.hid (VNow.start (hv.next hb0))
  have HF := Lib.hid hF
  have HU := Lib.hid (hu.below hb0)
  have HN := Lib.hid (NAc.next hb0 hn)
  have HAR := Lib.hid ha
  have HL := Lib.hid hl
  have HS := Lib.hid hs
  have HB0 := Lib.hid hb0
  obtain ⟨x0, x1, x2, x3, x4, x5⟩ := VN.out.cells
  have z0 := zb.cell 0
  have z1 := zb.cell 1
  have z2 := zb.cell 2
  have z3 := zb.cell 3
  have z4 := zb.cell 4
  have z5 := zb.cell 5
  simp only [List.getElem?_toArray, List.getElem?_cons_zero, List.getElem?_cons_succ] at z0 z1 z2 z3 z4 z5
  have ZB := Lib.hid zb
  have i1 : (l.length : Int) ≤ 100 := by omega
  have i2 : (0 : Int) ≤ (l.length : Int) := by omega
  have i3 : decide ((65536 : Int) ≤ (l.length : Int)) = false := decide_eq_false (by omega)
  clear hv hF hu hn ha hl hs hb0 zb
  go_enter Tryz.func80, Tryz.ntmps80
  simp only [acV]
  go_upto_region 6 with (go_at_call 51; refine (none_is x0).mono ?_; rintro e w' ⟨rfl, rfl⟩)
  generalize w.alloc (.cells #[.int .i64 t, .int .i64 c, .int .i64 n, .string (bs ln), u1, u2] 77) = W at *
  generalize hcb : w.heap.size = cb at *
  have HCB := Lib.hid hcb
  clear hcb
  obtain ⟨bo, hbo⟩ : ∃ b, okAc ⟨⟨t, c, n, ln⟩, rs, ws⟩ = b := ⟨_, rfl⟩
  have HBO := Lib.hid hbo
  clear hbo
  go_wp2_with fail
  refine (wellFormed_is HN.out HAR.out HU.out).mono ?_
  rintro e w2 ⟨rfl, hb2⟩
  rw [HBO.out]
  have HB2 := Lib.hid hb2
  clear hb2
  cases bo with
  | false =>
    have HB3 := Lib.hid (below_of_fail (B := W.heap.size) (by rw [HCB.out]; exact HB0.out) HB2.out (by rw [HCB.out]; exact Nat.le_of_lt hz))
    go_wp2_with fail
    go_ret
    have er := appR_bad (l := l) HBO.out
    exact ⟨by rw [er]; rfl, fun h => (by rw [er] at h; cases h), fun _ => HB3.out, Outer.of_below HB3.out, Kept.of_below _ HB3.out⟩
  | true =>
    have V2 : Hid (VNow W F w2 g (some ⟨B, 0, none⟩) (.slice Aa l.length ca) (.slice Ak (keptS s0 l).length ck) pl bw br s0 (stS s0 l) l (keptS s0 l) (fun n => vers n 0 l) (fun n => rdrs n 0 l)) := Lib.hid (VN.out.next HB2.out)
    have hz2 : cb < w2.heap.size := Nat.lt_of_lt_of_le hz HB2.out.size
    have U2 := Lib.hid (HU.out.below HB2.out)
    have N2 := Lib.hid (NAc.next HB2.out HN.out)
    have Z2 := Lib.hid (ZB.out.next HB2.out ZB.out.lt)
    clear x0 x1 x2 x3 x4 x5 z0 z1 z2 z3 z4 z5
    obtain ⟨x0, x1, x2, x3, x4, x5⟩ := V2.out.cells
    have z0 := Z2.out.cell 0
    have z1 := Z2.out.cell 1
    have z2 := Z2.out.cell 2
    have z3 := Z2.out.cell 3
    have z4 := Z2.out.cell 4
    have z5 := Z2.out.cell 5
    simp only [List.getElem?_toArray, List.getElem?_cons_zero, List.getElem?_cons_succ] at z0 z1 z2 z3 z4 z5
    obtain ⟨bq, hbq⟩ : ∃ b, decide (appR l ⟨⟨t, c, n, ln⟩, rs, ws⟩ ≠ 0) = b := ⟨_, rfl⟩
    have HBQ := Lib.hid hbq
    clear hbq
    go_upto_region 8 with (fail)
    go_cut [40] (fun v40 wx => v40 = .bool bq ∧ Below w2.heap.size w2 wx)
    case first =>
      rcases Nat.eq_zero_or_pos l.length with hz0 | hz0
      · have g0 : decide ((0 : Int) < (l.length : Int)) = false := decide_eq_false (by omega)
        have gn : decide (0 < l.length) = false := decide_eq_false (by omega)
        have HQ : Hid (bq = false) := Lib.hid (by rw [← HBQ.out, List.eq_nil_of_length_eq_zero hz0, appR_nil HBO.out]; rfl)
        have HZ := Lib.hid hz0
        clear hz0
        go_quiet (fail)
        go_wp2_with fail
        go_meet
        case rel => exact ⟨by rw [HQ.out], below_drewN (Below.refl _ _) _⟩
      · obtain ⟨m, hm⟩ : ∃ m, l.length = m + 1 := ⟨l.length - 1, by omega⟩
        have g0 : decide ((0 : Int) < (l.length : Int)) = true := decide_eq_true (by omega)
        have gn : decide (0 < l.length) = true := decide_eq_true hz0
        have hml : m < l.length := by omega
        have hgl : g < w2.heap.size := V2.out.vin.blk.lt
        obtain ⟨b0, o, v1, v2, hbe, hb0l, _, _, y0, y1, y2, y3, _, _⟩ := RdAc.piece (show RdAc w2 (.slice Aa l.length ca) l from RowOwn.rd V2.out.vin.act) hml
        subst hbe
        have HE := Lib.hid (show l[m] = l.getLast (by intro e; rw [e] at hz0; cases hz0) by rw [List.getLast_eq_getElem]; congr 1; omega)
        have HKB := Lib.hid ((HL.out _ (List.getElem_mem hml)).1.2.1)
        have HKA := Lib.hid HAR.out.1.2.1
        have HQ : Hid (decide (cmpK ⟨t, c, n, ln⟩ l[m].key ≤ 0) = bq) := Lib.hid (by
          rw [← HBQ.out]
          have hne : l ≠ [] := by intro e; rw [e] at hz0; cases hz0
          have e2 : l = l.dropLast ++ [l[m]] := by rw [HE.out]; exact (List.dropLast_concat_getLast hne).symm
          have e3 : appR l ⟨⟨t, c, n, ln⟩, rs, ws⟩ = if cmpK l[m].key ⟨t, c, n, ln⟩ < 0 then 0 else 32 := by
            have := appR_snoc (l := l.dropLast) (b := l[m]) HBO.out
            rw [← e2] at this
            exact this
          rw [e3, cmpK_neg l[m].key]
          by_cases hc : cmpK ⟨t, c, n, ln⟩ l[m].key ≤ 0
          · rw [decide_eq_true hc, if_neg (by omega)]; rfl
          · rw [decide_eq_false hc, if_pos (by omega)]; rfl)
        obtain ⟨kb, hkb⟩ : ∃ kb, l[m].key = kb := ⟨_, rfl⟩
        rw [hkb] at y0 y1 y2 y3 HKB HQ
        clear hkb HE
        have g1 : (l.length : Int) - 1 = (m : Int) := by omega
        have g2 : IntKind.i64.wrap (m : Int) = (m : Int) := IntWalk.i64_in _ (by omega)
        have j1 : (0 : Int) ≤ (m : Int) := by omega
        have j2 : (m : Int) < (l.length : Int) := by omega
        have hbq := HQ.out
        have HM := Lib.hid hm
        clear hm
        refine wp_region_noPanic ?_
        refine wp_region_held_drew (S := (fun (w' : World) => w'.cell? ⟨cb, 0, none⟩ = some (.int .i64 t) ∧ w'.cell? ⟨cb, 1, none⟩ = some (.int .i64 c) ∧ w'.cell? ⟨cb, 2, none⟩ = some (.int .i64 n) ∧ w'.cell? ⟨cb, 3, none⟩ = some (.string (bs ln)) ∧ w'.cell? ⟨g, 1, none⟩ = some (.slice (some ⟨b0, o, none⟩) l.length ca) ∧ w'.cell? ⟨b0, o + m * 6, none⟩ = some (.int .i64 kb.tick) ∧ w'.cell? ⟨b0, o + m * 6 + 1, none⟩ = some (.int .i64 kb.cls) ∧ w'.cell? ⟨b0, o + m * 6 + 2, none⟩ = some (.int .i64 kb.num) ∧ w'.cell? ⟨b0, o + m * 6 + 3, none⟩ = some (.string (bs kb.lin)))) (by kernel_rfl) ?_ (fun hHeld => ?_)
        · exact ⟨z0, z1, z2, z3, x1, y0, y1, y2, y3⟩
        refine wpAnyH_take (i := 0) (v := ?_) rfl (by kernel_rfl) (by kernel_rfl) (by kernel_rfl) (fun _ _ _ h => h) (Or.inl ⟨by kernel_rfl, ?_⟩) hHeld ?_
        rotate_left
        · (intro w hSw; (try dsimp only at hSw); go_simp; try with_reducible rfl)
        try simp only [Act.put, List.setIfInBounds_toArray, List.set_cons_zero, List.set_cons_succ]
        refine wpAnyH_take (i := 1) (v := ?_) rfl (by kernel_rfl) (by kernel_rfl) (by kernel_rfl) (fun _ _ _ h => h) (Or.inl ⟨by kernel_rfl, ?_⟩) hHeld ?_
        rotate_left
        · (intro w hSw; (try dsimp only at hSw); go_simp; try with_reducible rfl)
        try simp only [Act.put, List.setIfInBounds_toArray, List.set_cons_zero, List.set_cons_succ]
        refine wpAnyH_take (i := 2) (v := ?_) rfl (by kernel_rfl) (by kernel_rfl) (by kernel_rfl) (fun _ _ _ h => h) (Or.inl ⟨by kernel_rfl, ?_⟩) hHeld ?_
        rotate_left
        · (intro w hSw; (try dsimp only at hSw); go_simp; try with_reducible rfl)
        try simp only [Act.put, List.setIfInBounds_toArray, List.set_cons_zero, List.set_cons_succ]
        refine wpAnyH_take (i := 3) (v := ?_) rfl (by kernel_rfl) (by kernel_rfl) (by kernel_rfl) (fun _ _ _ h => h) (Or.inl ⟨by kernel_rfl, ?_⟩) hHeld ?_
        rotate_left
        · (intro w hSw; (try dsimp only at hSw); go_simp; try with_reducible rfl)
        try simp only [Act.put, List.setIfInBounds_toArray, List.set_cons_zero, List.set_cons_succ]
        refine wpAnyH_take (i := 4) (v := ?_) rfl (by kernel_rfl) (by kernel_rfl) (by kernel_rfl) (fun _ _ _ h => h) (Or.inl ⟨by kernel_rfl, ?_⟩) hHeld ?_
        rotate_left
        · (intro w hSw; (try dsimp only at hSw); go_simp; try with_reducible rfl)
        try simp only [Act.put, List.setIfInBounds_toArray, List.set_cons_zero, List.set_cons_succ]
        refine wpAnyH_take (i := 5) (v := ?_) rfl (by kernel_rfl) (by kernel_rfl) (by kernel_rfl) (fun _ _ _ h => h) (Or.inl ⟨by kernel_rfl, ?_⟩) hHeld ?_
        rotate_left
        · (intro w hSw; (try dsimp only at hSw); go_simp; try with_reducible rfl)
        try simp only [Act.put, List.setIfInBounds_toArray, List.set_cons_zero, List.set_cons_succ]
        refine wpAnyH_take (i := 6) (v := ?_) rfl (by kernel_rfl) (by kernel_rfl) (by kernel_rfl) (fun _ _ _ h => h) (Or.inl ⟨by kernel_rfl, ?_⟩) hHeld ?_
        rotate_left
        · (intro w hSw; (try dsimp only at hSw); go_simp; try with_reducible rfl)
        try simp only [Act.put, List.setIfInBounds_toArray, List.set_cons_zero, List.set_cons_succ]
        refine wpAnyH_take (i := 7) (v := ?_) rfl (by kernel_rfl) (by kernel_rfl) (by kernel_rfl) (fun _ _ _ h => h) (Or.inl ⟨by kernel_rfl, ?_⟩) hHeld ?_
        rotate_left
        · (intro w hSw; (try dsimp only at hSw); go_simp; try with_reducible rfl)
        try simp only [Act.put, List.setIfInBounds_toArray, List.set_cons_zero, List.set_cons_succ]
        refine wpAnyH_take (i := 8) (v := ?_) rfl (by kernel_rfl) (by kernel_rfl) (by kernel_rfl) (fun _ _ _ h => h) (Or.inl ⟨by kernel_rfl, ?_⟩) hHeld ?_
        rotate_left
        · (intro w hSw; (try dsimp only at hSw); go_simp; try with_reducible rfl)
        try simp only [Act.put, List.setIfInBounds_toArray, List.set_cons_zero, List.set_cons_succ]
        refine wpAnyH_take (i := 9) (v := ?_) rfl (by kernel_rfl) (by kernel_rfl) (by kernel_rfl) (fun _ _ _ h => h) (Or.inl ⟨by kernel_rfl, ?_⟩) hHeld ?_
        rotate_left
        · (intro w hSw; (try dsimp only at hSw); go_simp; try with_reducible rfl)
        try simp only [Act.put, List.setIfInBounds_toArray, List.set_cons_zero, List.set_cons_succ]
        refine wpAnyH_take (i := 10) (v := ?_) rfl (by kernel_rfl) (by kernel_rfl) (by kernel_rfl) (fun _ _ _ h => h) (Or.inl ⟨by kernel_rfl, ?_⟩) hHeld ?_
        rotate_left
        · (intro w hSw; (try dsimp only at hSw); go_simp; try with_reducible rfl)
        try simp only [Act.put, List.setIfInBounds_toArray, List.set_cons_zero, List.set_cons_succ]
        refine wpAnyH_take (i := 11) (v := ?_) rfl (by kernel_rfl) (by kernel_rfl) (by kernel_rfl) (fun _ _ _ h => h) (Or.inl ⟨by kernel_rfl, ?_⟩) hHeld ?_
        rotate_left
        · (intro w hSw; (try dsimp only at hSw); go_simp; try with_reducible rfl)
        try simp only [Act.put, List.setIfInBounds_toArray, List.set_cons_zero, List.set_cons_succ]
        refine wpAnyH_take (i := 12) (v := ?_) rfl (by kernel_rfl) (by kernel_rfl) (by kernel_rfl) (fun _ _ _ h => h) (Or.inl ⟨by kernel_rfl, ?_⟩) hHeld ?_
        rotate_left
        · (intro w hSw; (try dsimp only at hSw); go_simp; try with_reducible rfl)
        try simp only [Act.put, List.setIfInBounds_toArray, List.set_cons_zero, List.set_cons_succ]
        refine wpAnyH_take (i := 13) (v := ?_) rfl (by kernel_rfl) (by kernel_rfl) (by kernel_rfl) (fun _ _ _ h => h) (Or.inl ⟨by kernel_rfl, ?_⟩) hHeld ?_
        rotate_left
        · (intro w hSw; (try dsimp only at hSw); go_simp; try with_reducible rfl)
        try simp only [Act.put, List.setIfInBounds_toArray, List.set_cons_zero, List.set_cons_succ]
        refine wpAnyH_ready (rs := [14]) (by kernel_rfl) (by simp) ?_
        refine AllReadyH.cons rfl (fun K hK => ?_) AllReadyH.nil
        go_simp
        refine (key_compare ⟨t, c, n, ln⟩ kb _ HKA.out HKB.out).mono ?_; rintro e w3 ⟨rfl, hb3'⟩; have hb3 := (Below.refl w2.heap.size w2).drew.trans hb3'; have HB3 := Lib.hid hb3; clear hb3'
        try (go_wp2_with fail)
        refine hK.out _ _ ?_ (fun hNew => ?_)
        · exact ⟨(hb3.cell (p := ⟨cb, 0, none⟩) hz2).trans z0, (hb3.cell (p := ⟨cb, 1, none⟩) hz2).trans z1, (hb3.cell (p := ⟨cb, 2, none⟩) hz2).trans z2, (hb3.cell (p := ⟨cb, 3, none⟩) hz2).trans z3, (hb3.cell (p := ⟨g, 1, none⟩) hgl).trans x1, (hb3.cell (p := ⟨b0, o + m * 6, none⟩) hb0l).trans y0, (hb3.cell (p := ⟨b0, o + m * 6 + 1, none⟩) hb0l).trans y1, (hb3.cell (p := ⟨b0, o + m * 6 + 2, none⟩) hb0l).trans y2, (hb3.cell (p := ⟨b0, o + m * 6 + 3, none⟩) hb0l).trans y3⟩
        clear hK K hHeld
        have hHeld := hNew
        clear hNew
        try simp only [Act.put, List.setIfInBounds_toArray, List.set_cons_zero, List.set_cons_succ]
        refine wpAnyH_take (i := 15) (v := ?_) rfl (by kernel_rfl) (by kernel_rfl) (by kernel_rfl) (fun _ _ _ h => h) (Or.inl ⟨by kernel_rfl, ?_⟩) hHeld ?_
        rotate_left
        · (intro w hSw; (try dsimp only at hSw); go_simp; try with_reducible rfl)
        try simp only [Act.put, List.setIfInBounds_toArray, List.set_cons_zero, List.set_cons_succ]
        refine wpAnyH_take (i := 16) (v := ?_) rfl (by kernel_rfl) (by kernel_rfl) (by kernel_rfl) (fun _ _ _ h => h) (Or.inl ⟨by kernel_rfl, ?_⟩) hHeld ?_
        rotate_left
        · (intro w hSw; (try dsimp only at hSw); go_simp; try with_reducible rfl)
        try simp only [Act.put, List.setIfInBounds_toArray, List.set_cons_zero, List.set_cons_succ]
        refine wpAnyH_done (by kernel_rfl) ?_ _
        clear hHeld
        try simp only [List.getElem_toArray, List.getElem_cons_zero, List.getElem_cons_succ, Act.put, List.setIfInBounds_toArray, List.set_cons_zero, List.set_cons_succ]
        refine NoPanic.normal ?_
        go_wp2_with fail
        go_meet
        case rel => exact ⟨rfl, HB3.out⟩
    case rest =>
      obtain ⟨rfl, hbx⟩ := hcut
      have HBX := Lib.hid hbx
      have V3 : Hid (VNow W F wc g (some ⟨B, 0, none⟩) (.slice Aa l.length ca) (.slice Ak (keptS s0 l).length ck) pl bw br s0 (stS s0 l) l (keptS s0 l) (fun n => vers n 0 l) (fun n => rdrs n 0 l)) := Lib.hid (V2.out.next HBX.out)
      have U3 := Lib.hid (U2.out.below HBX.out)
      have N3 := Lib.hid (NAc.next HBX.out N2.out)
      have Z3 := Lib.hid (Z2.out.next HBX.out Z2.out.lt)
      clear x0 x1 x2 x3 x4 x5 z0 z1 z2 z3 z4 z5 hbx
      cases bq with
      | true =>
        have HB3 := Lib.hid (below_of_fail (B := W.heap.size) (by rw [HCB.out]; exact HB0.out) (HB2.out.trans (HBX.out.mono HB2.out.size)) (by rw [HCB.out]; exact Nat.le_of_lt hz))
        go_wp2_with fail
        go_ret
        have er : appR l ⟨⟨t, c, n, ln⟩, rs, ws⟩ = 32 := by
          have h1 := of_decide_eq_true HBQ.out
          rcases List.eq_nil_or_concat l with rfl | ⟨l', b, rfl⟩
          · exact absurd (appR_nil HBO.out) h1
          · rw [List.concat_eq_append] at h1 ⊢
            rw [appR_snoc HBO.out] at h1 ⊢
            split at h1
            · exact absurd rfl h1
            · rw [if_neg (by assumption)]
        exact ⟨by rw [er]; rfl, fun h => (by rw [er] at h; cases h), fun _ => HB3.out, Outer.of_below HB3.out, Kept.of_below _ HB3.out⟩
      | false =>
        have HOK := Lib.hid (show appR l ⟨⟨t, c, n, ln⟩, rs, ws⟩ = 0 from Classical.byContradiction fun h => by have := HBQ.out; rw [decide_eq_true h] at this; cases this)
        have HOA : Hid (ordCh rs = true ∧ ordCh ws = true) := Lib.hid (by
          have := HBO.out
          unfold okAc at this
          simp only [Bool.and_eq_true] at this
          exact ⟨this.1.2, this.2⟩)
        have HCV : Hid (∀ c ∈ ws, ChV c) := Lib.hid (ord_ob HOA.out.2)
        obtain ⟨x0, x1, x2, x3, x4, x5⟩ := V3.out.cells
        have z5 := Z3.out.cell 5
        simp only [List.getElem?_toArray, List.getElem?_cons_zero, List.getElem?_cons_succ] at z5
        go_upto_region 10 with (fail)
        refine wp_region_noPanic ?_
        refine wp_region_held_drew (S := (fun (w' : World) => w'.cell? ⟨g, 3, none⟩ = some (.pointer pl) ∧ w'.cell? ⟨cb, 5, none⟩ = some u2)) (by kernel_rfl) ?_ (fun hHeld => ?_)
        · exact ⟨x3, z5⟩
        refine wpAnyH_take (i := 0) (v := ?_) rfl (by kernel_rfl) (by kernel_rfl) (by kernel_rfl) (fun _ _ _ h => h) (Or.inl ⟨by kernel_rfl, ?_⟩) hHeld ?_
        rotate_left
        · (intro w hSw; (try dsimp only at hSw); go_simp; try with_reducible rfl)
        try simp only [Act.put, List.setIfInBounds_toArray, List.set_cons_zero, List.set_cons_succ]
        refine wpAnyH_take (i := 1) (v := ?_) rfl (by kernel_rfl) (by kernel_rfl) (by kernel_rfl) (fun _ _ _ h => h) (Or.inl ⟨by kernel_rfl, ?_⟩) hHeld ?_
        rotate_left
        · (intro w hSw; (try dsimp only at hSw); go_simp; try with_reducible rfl)
        try simp only [Act.put, List.setIfInBounds_toArray, List.set_cons_zero, List.set_cons_succ]
        refine wpAnyH_take (i := 2) (v := ?_) rfl (by kernel_rfl) (by kernel_rfl) (by kernel_rfl) (fun _ _ _ h => h) (Or.inl ⟨by kernel_rfl, ?_⟩) hHeld ?_
        rotate_left
        · (intro w hSw; (try dsimp only at hSw); go_simp; try with_reducible rfl)
        try simp only [Act.put, List.setIfInBounds_toArray, List.set_cons_zero, List.set_cons_succ]
        refine wpAnyH_take (i := 3) (v := ?_) rfl (by kernel_rfl) (by kernel_rfl) (by kernel_rfl) (fun _ _ _ h => h) (Or.inl ⟨by kernel_rfl, ?_⟩) hHeld ?_
        rotate_left
        · (intro w hSw; (try dsimp only at hSw); go_simp; try with_reducible rfl)
        try simp only [Act.put, List.setIfInBounds_toArray, List.set_cons_zero, List.set_cons_succ]
        refine wpAnyH_take (i := 4) (v := ?_) rfl (by kernel_rfl) (by kernel_rfl) (by kernel_rfl) (fun _ _ _ h => h) (Or.inl ⟨by kernel_rfl, ?_⟩) hHeld ?_
        rotate_left
        · (intro w hSw; (try dsimp only at hSw); go_simp; try with_reducible rfl)
        try simp only [Act.put, List.setIfInBounds_toArray, List.set_cons_zero, List.set_cons_succ]
        refine wpAnyH_take (i := 5) (v := ?_) rfl (by kernel_rfl) (by kernel_rfl) (by kernel_rfl) (fun _ _ _ h => h) (Or.inl ⟨by kernel_rfl, ?_⟩) hHeld ?_
        rotate_left
        · (intro w hSw; (try dsimp only at hSw); go_simp; try with_reducible rfl)
        try simp only [Act.put, List.setIfInBounds_toArray, List.set_cons_zero, List.set_cons_succ]
        refine wpAnyH_ready (rs := [6]) (by kernel_rfl) (by simp) ?_
        refine AllReadyH.cons rfl (fun K hK => ?_) AllReadyH.nil
        go_simp
        refine (apply_st (StAt.drew V3.out.vin.last) HS.out (RdP.drew N3.out.2) HCV.out (UseAt.below U3.out (Below.refl _ _).drew) (Nat.le_trans HAR.out.2.2.2.2 (by decide))).mono ?_; rintro e w4 ⟨q, rfl, hq, hb4'⟩; have HQ4 := Lib.hid hq; have HB4 := Lib.hid ((Below.refl wc.heap.size wc).drew.trans hb4'); clear hq hb4'
        try (go_wp2_with fail)
        refine hK.out _ _ ?_ (fun hNew => ?_)
        · exact ⟨(HB4.out.cell (p := ⟨g, 3, none⟩) V3.out.vin.blk.lt).trans x3, (HB4.out.cell (p := ⟨cb, 5, none⟩) Z3.out.lt).trans z5⟩
        clear hK K hHeld
        have hHeld := hNew
        clear hNew
        try simp only [Act.put, List.setIfInBounds_toArray, List.set_cons_zero, List.set_cons_succ]
        refine wpAnyH_take (i := 7) (v := ?_) rfl (by kernel_rfl) (by kernel_rfl) (by kernel_rfl) (fun _ _ _ h => h) (Or.inl ⟨by kernel_rfl, ?_⟩) hHeld ?_
        rotate_left
        · (intro w hSw; (try dsimp only at hSw); go_simp; try with_reducible rfl)
        try simp only [Act.put, List.setIfInBounds_toArray, List.set_cons_zero, List.set_cons_succ]
        refine wpAnyH_take (i := 8) (v := ?_) rfl (by kernel_rfl) (by kernel_rfl) (by kernel_rfl) (fun _ _ _ h => h) (Or.inl ⟨by kernel_rfl, ?_⟩) hHeld ?_
        rotate_left
        · (intro w hSw; (try dsimp only at hSw); go_simp; try with_reducible rfl)
        try simp only [Act.put, List.setIfInBounds_toArray, List.set_cons_zero, List.set_cons_succ]
        refine wpAnyH_take (i := 9) (v := ?_) rfl (by kernel_rfl) (by kernel_rfl) (by kernel_rfl) (fun _ _ _ h => h) (Or.inl ⟨by kernel_rfl, ?_⟩) hHeld ?_
        rotate_left
        · (intro w hSw; (try dsimp only at hSw); go_simp; try with_reducible rfl)
        try simp only [Act.put, List.setIfInBounds_toArray, List.set_cons_zero, List.set_cons_succ]
        refine wpAnyH_take (i := 10) (v := ?_) rfl (by kernel_rfl) (by kernel_rfl) (by kernel_rfl) (fun _ _ _ h => h) (Or.inl ⟨by kernel_rfl, ?_⟩) hHeld ?_
        rotate_left
        · (intro w hSw; (try dsimp only at hSw); go_simp; try with_reducible rfl)
        try simp only [Act.put, List.setIfInBounds_toArray, List.set_cons_zero, List.set_cons_succ]
        refine wpAnyH_take (i := 11) (v := ?_) rfl (by kernel_rfl) (by kernel_rfl) (by kernel_rfl) (fun _ _ _ h => h) (Or.inl ⟨by kernel_rfl, ?_⟩) hHeld ?_
        rotate_left
        · (intro w hSw; (try dsimp only at hSw); go_simp; try with_reducible rfl)
        try simp only [Act.put, List.setIfInBounds_toArray, List.set_cons_zero, List.set_cons_succ]
        refine wpAnyH_done (by kernel_rfl) ?_ _
        clear hHeld
        try simp only [List.getElem_toArray, List.getElem_cons_zero, List.getElem_cons_succ, Act.put, List.setIfInBounds_toArray, List.set_cons_zero, List.set_cons_succ]
        refine NoPanic.normal ?_
        have hb4 := HB4.out
        clear x0 x1 x2 x3 x4 x5 z5
        have V4 : Hid (VNow W F w4 g (some ⟨B, 0, none⟩) (.slice Aa l.length ca) (.slice Ak (keptS s0 l).length ck) pl bw br s0 (stS s0 l) l (keptS s0 l) (fun n => vers n 0 l) (fun n => rdrs n 0 l)) := Lib.hid (V3.out.next hb4)
        have N4 := Lib.hid (NAc.next hb4 N3.out)
        have Z4 := Lib.hid (Z3.out.next hb4 Z3.out.lt)
        clear hb4
        go_upto_if 56 with (fail)
        go_cut [5] (fun v5 wx => v5 = .int .i64 l.length ∧ KeepP W F w4 wx g (some ⟨B, 0, none⟩) (.slice Aa l.length ca) pl bw br s0 l ⟨⟨t, c, n, ln⟩, rs, ws⟩)
        case first =>
          by_cases hm : l.length % 16 = 0
          · have m1 : ((l.length : Int) % 16 == 0) = true := by rw [beq_iff_eq]; omega
            have m2 : (l.length % 16 == 0) = true := by rw [beq_iff_eq]; omega
            have m3 : (l.length : Int) % 16 = 0 := by omega
            obtain ⟨x0, x1, x2, x3, x4, x5⟩ := V4.out.cells
            obtain ⟨us, hus, how⟩ := id V4.out.vin.kp
            have hkl : (keptS s0 l).length ≤ 100 := by rw [keptS_len]; omega
            have HM := Lib.hid hm
            have hbA := (Below.refl w4.heap.size w4).alloc (Nat.le_refl _) (.cells #[.pointer pl] 44)
            have VA : Hid (VNow W F (w4.alloc (.cells #[.pointer pl] 44)).drew g (some ⟨B, 0, none⟩) (.slice Aa l.length ca) (.slice Ak (keptS s0 l).length ck) pl bw br s0 (stS s0 l) l (keptS s0 l) (fun n => vers n 0 l) (fun n => rdrs n 0 l)) := Lib.hid (V4.out.next hbA.drew)
            have HUS := Lib.hid (hus.imp fun _ _ h => StAt.next h hbA.drew)
            have HOW : Hid ((w4.alloc (.cells #[.pointer pl] 44)).drew.ownsRow 0 44 1 (.slice Ak (keptS s0 l).length ck) (keptS s0 l).length (rowC kpC (keptS s0 l) us)) := Lib.hid (own_next how hbA.drew)
            obtain ⟨i0, hi, hz0, hz1, hz2⟩ := info_parts infoKp
            clear x0 x1 x4 x5 hus how hbA hm
            go_upto_region 14 with (fail)
            refine wp_region_noPanic ?_
            refine wp_region_last (S := (fun (w' : World) => w'.cell? ⟨g, 2, none⟩ = some (.slice Ak (keptS s0 l).length ck) ∧ w'.cell? ⟨g, 3, none⟩ = some (.pointer pl))) 13 13 rfl (by kernel_rfl) (by kernel_rfl) ?_ (fun hHeld => ?_)
            · exact ⟨x2, x3⟩
            refine wpAnyH_take (i := 0) (v := ?_) rfl (by kernel_rfl) (by kernel_rfl) (by kernel_rfl) (fun _ _ _ h => h) (Or.inl ⟨by kernel_rfl, ?_⟩) hHeld ?_
            rotate_left
            · (intro w hSw; (try dsimp only at hSw); go_simp; try with_reducible rfl)
            try simp only [Act.put, List.setIfInBounds_toArray, List.set_cons_zero, List.set_cons_succ]
            refine wpAnyH_take (i := 1) (v := ?_) rfl (by kernel_rfl) (by kernel_rfl) (by kernel_rfl) (fun _ _ _ h => h) (Or.inl ⟨by kernel_rfl, ?_⟩) hHeld ?_
            rotate_left
            · (intro w hSw; (try dsimp only at hSw); go_simp; try with_reducible rfl)
            try simp only [Act.put, List.setIfInBounds_toArray, List.set_cons_zero, List.set_cons_succ]
            refine wpAnyH_take (i := 2) (v := ?_) rfl (by kernel_rfl) (by kernel_rfl) (by kernel_rfl) (fun _ _ _ h => h) (Or.inl ⟨by kernel_rfl, ?_⟩) hHeld ?_
            rotate_left
            · (intro w hSw; (try dsimp only at hSw); go_simp; try with_reducible rfl)
            try simp only [Act.put, List.setIfInBounds_toArray, List.set_cons_zero, List.set_cons_succ]
            refine wpAnyH_take (i := 3) (v := ?_) rfl (by kernel_rfl) (by kernel_rfl) (by kernel_rfl) (fun _ _ _ h => h) (Or.inl ⟨by kernel_rfl, ?_⟩) hHeld ?_
            rotate_left
            · (intro w hSw; (try dsimp only at hSw); go_simp; try with_reducible rfl)
            try simp only [Act.put, List.setIfInBounds_toArray, List.set_cons_zero, List.set_cons_succ]
            refine wpAnyH_take (i := 4) (v := ?_) rfl (by kernel_rfl) (by kernel_rfl) (by kernel_rfl) (fun _ _ _ h => h) (Or.inl ⟨by kernel_rfl, ?_⟩) hHeld ?_
            rotate_left
            · (intro w hSw; (try dsimp only at hSw); go_simp; try with_reducible rfl)
            try simp only [Act.put, List.setIfInBounds_toArray, List.set_cons_zero, List.set_cons_succ]
            refine wpAnyH_take (i := 5) (v := ?_) rfl (by kernel_rfl) (by kernel_rfl) (by kernel_rfl) (fun _ _ _ h => h) (Or.inl ⟨by kernel_rfl, ?_⟩) hHeld ?_
            rotate_left
            · (intro w hSw; (try dsimp only at hSw); go_simp; try with_reducible rfl)
            try simp only [Act.put, List.setIfInBounds_toArray, List.set_cons_zero, List.set_cons_succ]
            refine wpAnyH_take (i := 6) (v := ?_) rfl (by kernel_rfl) (by kernel_rfl) (by kernel_rfl) (fun _ _ _ h => h) (Or.inl ⟨by kernel_rfl, ?_⟩) hHeld ?_
            rotate_left
            · (intro w hSw; (try dsimp only at hSw); go_simp; try with_reducible rfl)
            try simp only [Act.put, List.setIfInBounds_toArray, List.set_cons_zero, List.set_cons_succ]
            refine wpAnyH_take (i := 7) (v := ?_) rfl (by kernel_rfl) (by kernel_rfl) (by kernel_rfl) (fun _ _ _ h => h) (Or.inl ⟨by kernel_rfl, ?_⟩) hHeld ?_
            rotate_left
            · (intro w hSw; (try dsimp only at hSw); go_simp; try with_reducible rfl)
            try simp only [Act.put, List.setIfInBounds_toArray, List.set_cons_zero, List.set_cons_succ]
            refine wpAnyH_take (i := 8) (v := ?_) rfl (by kernel_rfl) (by kernel_rfl) (by kernel_rfl) (fun _ _ _ h => h) (Or.inl ⟨by kernel_rfl, ?_⟩) hHeld ?_
            rotate_left
            · (intro w hSw; (try dsimp only at hSw); go_simp; try with_reducible rfl)
            try simp only [Act.put, List.setIfInBounds_toArray, List.set_cons_zero, List.set_cons_succ]
            refine wpAnyH_ready (rs := [9]) (by kernel_rfl) (by simp) ?_
            refine AllReadyH.cons rfl (fun K hK => ?_) AllReadyH.nil
            go_simp
            refine hK.out _ _ ?_ (fun hNew => ?_)
            · exact ⟨(World.cell?_alloc_lt w4 _ _ V4.out.vin.blk.lt).trans x2, (World.cell?_alloc_lt w4 _ _ V4.out.vin.blk.lt).trans x3⟩
            clear hK K hHeld
            have hHeld := hNew
            clear hNew
            try simp only [Act.put, List.setIfInBounds_toArray, List.set_cons_zero, List.set_cons_succ]
            refine wpAnyH_ready (rs := [10]) (by kernel_rfl) (by simp) ?_
            refine AllReadyH.cons rfl (fun K hK => ?_) AllReadyH.nil
            refine step_append_w _ (by rfl) _ _ _ (by rfl) 0 44 i0 _ 1 8 Tryz.underlying132 hi hz0 hz1 hz2 rfl (by omega) (.slice Ak (keptS s0 l).length ck) (keptS s0 l).length (rowC kpC (keptS s0 l) us) (by rfl) HOW.out (.slice (some ⟨w4.heap.size, 0, none⟩) 1 1) 1 [.pointer pl] (by rfl) (show Rd 44 (w4.alloc (.cells #[.pointer pl] 44)).drew _ 1 _ from Rd.of_own (own_new w4 0 44 1 [.pointer pl] rfl (Nat.zero_le _))) (by omega) (by rfl) (by simp [Value.oneCell']) (by unfold maxLen; omega) (by omega) (by omega) ?_; intro v5 w5 hown5 hg5 hat5; obtain ⟨A5, c5, rfl, _⟩ := own_len hown5; have hB5 := VA.out.vin.blk.grown hg5 (fun e => own_blk_ne HOW.out VA.out.vin.blk (by decide) e.symm); have HB5 := Lib.hid hB5; have HOW5 := Lib.hid hown5; have HG5 := Lib.hid hg5; have HAT5 := Lib.hid hat5; have y2 := hB5.cell 2; have y3 := hB5.cell 3; have yf := hB5.frozen 2; (simp only [List.getElem?_toArray, List.getElem?_cons_zero, List.getElem?_cons_succ] at y2 y3); clear hown5 hg5 hat5 hB5
            refine hK.out _ _ ?_ (fun hNew => ?_)
            · exact ⟨y2, y3⟩
            clear hK K hHeld
            have hHeld := hNew
            clear hNew
            try simp only [Act.put, List.setIfInBounds_toArray, List.set_cons_zero, List.set_cons_succ]
            refine wpAnyH_take (i := 11) (v := ?_) rfl (by kernel_rfl) (by kernel_rfl) (by kernel_rfl) (fun _ _ _ h => h) (Or.inl ⟨by kernel_rfl, ?_⟩) hHeld ?_
            rotate_left
            · (intro w hSw; (try dsimp only at hSw); go_simp; try with_reducible rfl)
            try simp only [Act.put, List.setIfInBounds_toArray, List.set_cons_zero, List.set_cons_succ]
            refine wpAnyH_take (i := 12) (v := ?_) rfl (by kernel_rfl) (by kernel_rfl) (by kernel_rfl) (fun _ _ _ h => h) (Or.inl ⟨by kernel_rfl, ?_⟩) hHeld ?_
            rotate_left
            · (intro w hSw; (try dsimp only at hSw); go_simp; try with_reducible rfl)
            try simp only [Act.put, List.setIfInBounds_toArray, List.set_cons_zero, List.set_cons_succ]
            refine wpAnyH_done (by kernel_rfl) ?_ _
            refine lastQ_step rfl (fun K hK => ?_)
            clear hHeld
            go_simp
            refine hK _ _ ?_
            clear hK K
            refine NoPanic.normal ?_
            go_wp2_with fail
            go_meet
            case rel =>
              have h5 := VNow.kept_ VA.out HUS.out VA.out.vin.last HOW.out HG5.out HOW5.out (by rcases HAT5.out with h | h; exact .inl h; exact .inr ⟨_, h, Nat.le_refl _⟩)
              unfold KeepP
              rw [keptS_snoc, if_pos HM.out]
              have k1 : Kept LV w4 w5 := (Kept.of_below LV (((Below.refl w4.heap.size w4).alloc (Nat.le_refl _) (.cells #[.pointer pl] 44)).drew)).trans (Kept.of_own LV HOW.out HG5.out rfl)
              have hg2 : w5.grownBy (w5.setCell ⟨g, 2, none⟩ (.slice A5 ((keptS s0 l).length + 1) c5)) (some g) := only_setCell (only_of_below (Below.refl _ _) _) (.inl rfl) _
              exact ⟨rfl, _, h5, k1.trans (Kept.of_blk LV HB5.out hg2 rfl)⟩
          · have m1 : ((l.length : Int) % 16 == 0) = false := by rw [beq_eq_false_iff_ne]; omega
            have m2 : (l.length % 16 == 0) = false := by rw [beq_eq_false_iff_ne]; omega
            have m3 : ¬ (l.length : Int) % 16 = 0 := by omega
            have HM := Lib.hid hm
            clear hm
            go_wp2_with fail
            go_meet
            case rel =>
              unfold KeepP
              rw [keptS_snoc, if_neg HM.out]
              exact ⟨rfl, _, V4.out, Kept.refl _ _⟩
        case rest =>
          obtain ⟨rfl, vk, hvn, hbx⟩ := hcut
          have V4a := Lib.hid hvn
          have HQ5 := Lib.hid (HQ4.out.keep hbx rfl rfl)
          have N4a := Lib.hid (NAc.keep hbx rfl N4.out)
          have Z4a : Hid (Blk wc cb 77 #[.int .i64 t, .int .i64 c, .int .i64 n, .string (bs ln), u1, u2]) := Lib.hid ((hvn.out.block cb hz (fun h => by have := HF.out cb h; omega)).trans ZB.out)
          clear hvn hbx
          obtain ⟨x0, x1, x2, x3, x4, x5⟩ := V4a.out.cells
          have xf := V4a.out.vin.blk.frozen 3
          go_upto_region 16 with (fail)
          have V5 : Hid (VNow W F (wc.setCell ⟨g, 3, none⟩ (.pointer q)) g (some ⟨B, 0, none⟩) (.slice Aa l.length ca) vk q bw br s0 (appS (stS s0 l) ws) l (keptS s0 (l ++ [⟨⟨t, c, n, ln⟩, rs, ws⟩])) (fun n => vers n 0 l) (fun n => rdrs n 0 l)) := Lib.hid (V4a.out.last_ HQ5.out)
          have hg5 : wc.grownBy (wc.setCell ⟨g, 3, none⟩ (.pointer q)) (some g) := only_setCell (only_of_below (Below.refl _ _) _) (.inl rfl) _
          have k5 : Kept LV wc (wc.setCell ⟨g, 3, none⟩ (.pointer q)) := Kept.of_blk LV V4a.out.vin.blk hg5 rfl
          have N5 := Lib.hid (NAc.keep k5 rfl N4a.out)
          have Z5 : Hid (Blk (wc.setCell ⟨g, 3, none⟩ (.pointer q)) cb 77 #[.int .i64 t, .int .i64 c, .int .i64 n, .string (bs ln), u1, u2]) := Lib.hid ((V5.out.out.block cb hz (fun h => by have := HF.out cb h; omega)).trans ZB.out)
          have HNE : Hid ((Value.slice Aa l.length ca).ownBlock ≠ some cb) := Lib.hid (fun e => by
            rcases V5.out.vin.actF cb e with h | ⟨h, _⟩
            · have := HF.out cb h; omega
            · omega)
          clear x0 x1 x2 x3 x4 x5 xf hg5 k5
          generalize wc.setCell ⟨g, 3, none⟩ (.pointer q) = w5 at *
          obtain ⟨x0, x1, x2, x3, x4, x5⟩ := V5.out.cells
          have z0 := Z5.out.cell 0
          have z1 := Z5.out.cell 1
          have z2 := Z5.out.cell 2
          have z3 := Z5.out.cell 3
          have z4 := Z5.out.cell 4
          have z5 := Z5.out.cell 5
          simp only [List.getElem?_toArray, List.getElem?_cons_zero, List.getElem?_cons_succ] at z0 z1 z2 z3 z4 z5
          obtain ⟨us, hus, how⟩ := id V5.out.vin.act
          obtain ⟨i0, hi, hz0, hz1, hz2⟩ := info_parts infoAc
          clear x0 x2 x3 x4 x5
          refine wp_region_noPanic ?_
          refine wp_region_last (S := (fun (w' : World) => w'.cell? ⟨g, 1, none⟩ = some (.slice Aa l.length ca) ∧ w'.cell? ⟨cb, 0, none⟩ = some (.int .i64 t) ∧ w'.cell? ⟨cb, 1, none⟩ = some (.int .i64 c) ∧ w'.cell? ⟨cb, 2, none⟩ = some (.int .i64 n) ∧ w'.cell? ⟨cb, 3, none⟩ = some (.string (bs ln)) ∧ w'.cell? ⟨cb, 4, none⟩ = some (u1) ∧ w'.cell? ⟨cb, 5, none⟩ = some (u2))) 11 11 rfl (by kernel_rfl) (by kernel_rfl) ?_ (fun hHeld => ?_)
          · exact ⟨x1, z0, z1, z2, z3, z4, z5⟩
          refine wpAnyH_take (i := 0) (v := ?_) rfl (by kernel_rfl) (by kernel_rfl) (by kernel_rfl) (fun _ _ _ h => h) (Or.inl ⟨by kernel_rfl, ?_⟩) hHeld ?_
          rotate_left
          · (intro w hSw; (try dsimp only at hSw); go_simp; try with_reducible rfl)
          try simp only [Act.put, List.setIfInBounds_toArray, List.set_cons_zero, List.set_cons_succ]
          refine wpAnyH_take (i := 1) (v := ?_) rfl (by kernel_rfl) (by kernel_rfl) (by kernel_rfl) (fun _ _ _ h => h) (Or.inl ⟨by kernel_rfl, ?_⟩) hHeld ?_
          rotate_left
          · (intro w hSw; (try dsimp only at hSw); go_simp; try with_reducible rfl)
          try simp only [Act.put, List.setIfInBounds_toArray, List.set_cons_zero, List.set_cons_succ]
          refine wpAnyH_take (i := 2) (v := ?_) rfl (by kernel_rfl) (by kernel_rfl) (by kernel_rfl) (fun _ _ _ h => h) (Or.inl ⟨by kernel_rfl, ?_⟩) hHeld ?_
          rotate_left
          · (intro w hSw; (try dsimp only at hSw); go_simp; try with_reducible rfl)
          try simp only [Act.put, List.setIfInBounds_toArray, List.set_cons_zero, List.set_cons_succ]
          refine wpAnyH_take (i := 3) (v := ?_) rfl (by kernel_rfl) (by kernel_rfl) (by kernel_rfl) (fun _ _ _ h => h) (Or.inl ⟨by kernel_rfl, ?_⟩) hHeld ?_
          rotate_left
          · (intro w hSw; (try dsimp only at hSw); go_simp; try with_reducible rfl)
          try simp only [Act.put, List.setIfInBounds_toArray, List.set_cons_zero, List.set_cons_succ]
          refine wpAnyH_take (i := 4) (v := ?_) rfl (by kernel_rfl) (by kernel_rfl) (by kernel_rfl) (fun _ _ _ h => h) (Or.inl ⟨by kernel_rfl, ?_⟩) hHeld ?_
          rotate_left
          · (intro w hSw; (try dsimp only at hSw); go_simp; try with_reducible rfl)
          try simp only [Act.put, List.setIfInBounds_toArray, List.set_cons_zero, List.set_cons_succ]
          refine wpAnyH_take (i := 5) (v := ?_) rfl (by kernel_rfl) (by kernel_rfl) (by kernel_rfl) (fun _ _ _ h => h) (Or.inl ⟨by kernel_rfl, ?_⟩) hHeld ?_
          rotate_left
          · (intro w hSw; (try dsimp only at hSw); go_simp; try with_reducible rfl)
          try simp only [Act.put, List.setIfInBounds_toArray, List.set_cons_zero, List.set_cons_succ]
          refine wpAnyH_ready (rs := [6]) (by kernel_rfl) (by simp) ?_
          refine AllReadyH.cons rfl (fun K hK => ?_) AllReadyH.nil
          go_simp
          refine (copied_is (NAc.next (Below.refl w5.heap.size w5).drew N5.out) (Nat.le_trans HAR.out.2.2.2.1 (by decide)) (Nat.le_trans HAR.out.2.2.2.2 (by decide))).mono ?_; rintro e w6 ⟨⟨y1, y2⟩, rfl, hn6, hb6'⟩; obtain ⟨p1, k1, rfl, hk1⟩ := RdP.form hn6.1; obtain ⟨p2, k2, rfl, hk2⟩ := RdP.form hn6.2; (try simp only [acV]); have N6 := Lib.hid hn6; have hb6 := (Below.refl w5.heap.size w5).drew.trans hb6'; have HB6 := Lib.hid hb6; have V6 : Hid (VNow W F w6 g (some ⟨B, 0, none⟩) (.slice Aa l.length ca) vk q bw br s0 (appS (stS s0 l) ws) l (keptS s0 (l ++ [⟨⟨t, c, n, ln⟩, rs, ws⟩])) (fun n => vers n 0 l) (fun n => rdrs n 0 l)) := Lib.hid (V5.out.next hb6); have how6 := own_next how hb6; have hus6 := hus.imp fun _ _ h => NAc.next hb6 h; have HUS6 := Lib.hid (RowW.imp hus6 fun _ _ h => NAc.next ((Below.refl w6.heap.size w6).alloc (Nat.le_refl _) (.cells #[.int .i64 t, .int .i64 c, .int .i64 n, .string (bs ln), .slice p1 rs.length k1, .slice p2 ws.length k2] 77)) h); have HOW6 := Lib.hid (own_next how6 ((Below.refl w6.heap.size w6).alloc (Nat.le_refl _) (.cells #[.int .i64 t, .int .i64 c, .int .i64 n, .string (bs ln), .slice p1 rs.length k1, .slice p2 ws.length k2] 77))); have VA6 := Lib.hid (V6.out.next ((Below.refl w6.heap.size w6).alloc (Nat.le_refl _) (.cells #[.int .i64 t, .int .i64 c, .int .i64 n, .string (bs ln), .slice p1 rs.length k1, .slice p2 ws.length k2] 77))); have x1' := (hb6.cell (p := ⟨g, 1, none⟩) V5.out.vin.blk.lt).trans x1; have q0 := (hb6.cell (p := ⟨cb, 0, none⟩) Z5.out.lt).trans z0; have q1 := (hb6.cell (p := ⟨cb, 1, none⟩) Z5.out.lt).trans z1; have q2 := (hb6.cell (p := ⟨cb, 2, none⟩) Z5.out.lt).trans z2; have q3 := (hb6.cell (p := ⟨cb, 3, none⟩) Z5.out.lt).trans z3; have q4 := (hb6.cell (p := ⟨cb, 4, none⟩) Z5.out.lt).trans z4; have q5 := (hb6.cell (p := ⟨cb, 5, none⟩) Z5.out.lt).trans z5; clear hn6 hb6 hb6' how6 hus6
          try (go_wp2_with fail)
          refine hK.out _ _ ?_ (fun hNew => ?_)
          · exact ⟨x1', q0, q1, q2, q3, q4, q5⟩
          clear hK K hHeld
          have hHeld := hNew
          clear hNew
          try simp only [Act.put, List.setIfInBounds_toArray, List.set_cons_zero, List.set_cons_succ]
          refine wpAnyH_ready (rs := [7]) (by kernel_rfl) (by simp) ?_
          refine AllReadyH.cons rfl (fun K hK => ?_) AllReadyH.nil
          go_simp
          refine hK.out _ _ ?_ (fun hNew => ?_)
          · exact ⟨(World.cell?_alloc_lt w6 _ _ V6.out.vin.blk.lt).trans x1', (World.cell?_alloc_lt w6 _ _ (Nat.lt_of_lt_of_le Z5.out.lt HB6.out.size)).trans q0, (World.cell?_alloc_lt w6 _ _ (Nat.lt_of_lt_of_le Z5.out.lt HB6.out.size)).trans q1, (World.cell?_alloc_lt w6 _ _ (Nat.lt_of_lt_of_le Z5.out.lt HB6.out.size)).trans q2, (World.cell?_alloc_lt w6 _ _ (Nat.lt_of_lt_of_le Z5.out.lt HB6.out.size)).trans q3, (World.cell?_alloc_lt w6 _ _ (Nat.lt_of_lt_of_le Z5.out.lt HB6.out.size)).trans q4, (World.cell?_alloc_lt w6 _ _ (Nat.lt_of_lt_of_le Z5.out.lt HB6.out.size)).trans q5⟩
          clear hK K hHeld
          have hHeld := hNew
          clear hNew
          try simp only [Act.put, List.setIfInBounds_toArray, List.set_cons_zero, List.set_cons_succ]
          refine wpAnyH_ready (rs := [8]) (by kernel_rfl) (by simp) ?_
          refine AllReadyH.cons rfl (fun K hK => ?_) AllReadyH.nil
          refine step_append_w _ (by rfl) _ _ _ (by rfl) 0 77 i0 _ 6 88 Tryz.underlying45 hi hz0 hz1 hz2 rfl (by omega) (.slice Aa l.length ca) l.length (rowC acC l us) (by rfl) HOW6.out (.slice (some ⟨w6.heap.size, 0, none⟩) 1 1) 1 [.int .i64 t, .int .i64 c, .int .i64 n, .string (bs ln), .slice p1 rs.length k1, .slice p2 ws.length k2] (by rfl) (Rd.of_own (own_new w6 0 77 6 [.int .i64 t, .int .i64 c, .int .i64 n, .string (bs ln), .slice p1 rs.length k1, .slice p2 ws.length k2] rfl (Nat.zero_le _))) (by omega) (by rfl) (by simp [Value.oneCell']) (by unfold maxLen; omega) (by omega) (by omega) ?_; intro v7 w7 hown7 hg7 hat7; obtain ⟨A7, c7, rfl, _⟩ := own_len hown7; have hB7 := VA6.out.vin.blk.grown hg7 (fun e => own_blk_ne HOW6.out VA6.out.vin.blk (by decide) e.symm); have HB7 := Lib.hid hB7; have HOW7 := Lib.hid hown7; have HG7 := Lib.hid hg7; have HAT7 := Lib.hid hat7; have r1 := hB7.cell 1; have rf := hB7.frozen 1; (simp only [List.getElem?_toArray, List.getElem?_cons_zero, List.getElem?_cons_succ] at r1); have hcb7 : w7.heap[cb]? = (w6.alloc (.cells #[.int .i64 t, .int .i64 c, .int .i64 n, .string (bs ln), .slice p1 rs.length k1, .slice p2 ws.length k2] 77)).heap[cb]? := hg7.block cb (by have := Z5.out.lt; have := HB6.out.size; simp; omega) (fun e => HNE.out e.symm); have e0 := (World.cell?_of_block (a := ⟨cb, 0, none⟩) hcb7).trans ((World.cell?_alloc_lt w6 _ _ (Nat.lt_of_lt_of_le Z5.out.lt HB6.out.size)).trans q0); have e1 := (World.cell?_of_block (a := ⟨cb, 1, none⟩) hcb7).trans ((World.cell?_alloc_lt w6 _ _ (Nat.lt_of_lt_of_le Z5.out.lt HB6.out.size)).trans q1); have e2 := (World.cell?_of_block (a := ⟨cb, 2, none⟩) hcb7).trans ((World.cell?_alloc_lt w6 _ _ (Nat.lt_of_lt_of_le Z5.out.lt HB6.out.size)).trans q2); have e3 := (World.cell?_of_block (a := ⟨cb, 3, none⟩) hcb7).trans ((World.cell?_alloc_lt w6 _ _ (Nat.lt_of_lt_of_le Z5.out.lt HB6.out.size)).trans q3); have e4 := (World.cell?_of_block (a := ⟨cb, 4, none⟩) hcb7).trans ((World.cell?_alloc_lt w6 _ _ (Nat.lt_of_lt_of_le Z5.out.lt HB6.out.size)).trans q4); have e5 := (World.cell?_of_block (a := ⟨cb, 5, none⟩) hcb7).trans ((World.cell?_alloc_lt w6 _ _ (Nat.lt_of_lt_of_le Z5.out.lt HB6.out.size)).trans q5); clear hown7 hg7 hat7 hB7 hcb7
          refine hK.out _ _ ?_ (fun hNew => ?_)
          · exact ⟨r1, e0, e1, e2, e3, e4, e5⟩
          clear hK K hHeld
          have hHeld := hNew
          clear hNew
          try simp only [Act.put, List.setIfInBounds_toArray, List.set_cons_zero, List.set_cons_succ]
          refine wpAnyH_take (i := 9) (v := ?_) rfl (by kernel_rfl) (by kernel_rfl) (by kernel_rfl) (fun _ _ _ h => h) (Or.inl ⟨by kernel_rfl, ?_⟩) hHeld ?_
          rotate_left
          · (intro w hSw; (try dsimp only at hSw); go_simp; try with_reducible rfl)
          try simp only [Act.put, List.setIfInBounds_toArray, List.set_cons_zero, List.set_cons_succ]
          refine wpAnyH_take (i := 10) (v := ?_) rfl (by kernel_rfl) (by kernel_rfl) (by kernel_rfl) (fun _ _ _ h => h) (Or.inl ⟨by kernel_rfl, ?_⟩) hHeld ?_
          rotate_left
          · (intro w hSw; (try dsimp only at hSw); go_simp; try with_reducible rfl)
          try simp only [Act.put, List.setIfInBounds_toArray, List.set_cons_zero, List.set_cons_succ]
          refine wpAnyH_done (by kernel_rfl) ?_ _
          refine lastQ_step rfl (fun K hK => ?_)
          clear hHeld
          go_simp
          refine hK _ _ ?_
          clear hK K
          refine NoPanic.normal ?_
          have V8 := Lib.hid (VNow.act_ VA6.out HUS6.out (a := ⟨⟨t, c, n, ln⟩, rs, ws⟩) (u := (.slice p1 rs.length k1, .slice p2 ws.length k2)) (NAc.next ((Below.refl w6.heap.size w6).alloc (Nat.le_refl _) (.cells #[.int .i64 t, .int .i64 c, .int .i64 n, .string (bs ln), .slice p1 rs.length k1, .slice p2 ws.length k2] 77)) N6.out) HOW6.out HG7.out HOW7.out (by rcases HAT7.out with h | h; exact .inl h; exact .inr ⟨_, h, Nat.le_refl _⟩))
          clear x1 z0 z1 z2 z3 z4 z5 x1' q0 q1 q2 q3 q4 q5 r1 rf e0 e1 e2 e3 e4 e5 hi hz0 hz1 hz2 hus how
          have Z8 : Hid (Blk (w7.setCell ⟨g, 1, none⟩ (.slice A7 (l.length + 1) c7)) cb 77 #[.int .i64 t, .int .i64 c, .int .i64 n, .string (bs ln), u1, u2]) := Lib.hid ((V8.out.out.block cb hz (fun h => by have := HF.out cb h; omega)).trans ZB.out)
          go_upto_region 17 with (fail)
          generalize w7.setCell ⟨g, 1, none⟩ (.slice A7 (l.length + 1) c7) = w8 at *
          have hr2 : RdCh w8 u2 ws := (NAc.keep V8.out.kept rfl HN.out).2
          have hr1 : RdCh w8 u1 rs := (NAc.keep V8.out.kept rfl HN.out).1
          obtain ⟨A2, c2, rfl, hc2⟩ := RdP.form hr2
          obtain ⟨A1, c1, rfl, hc1⟩ := RdP.form hr1
          have z5 : w8.cell? ⟨cb, 5, none⟩ = some (.slice A2 ws.length c2) := Z8.out.cell 5
          have j0 : ws.length ≤ 10 := HAR.out.2.2.2.2
          have j00 : rs.length ≤ 10 := HAR.out.2.2.2.1
          have HLA := Lib.hid (show ∀ b ∈ l, b.writes.length ≤ 10 ∧ b.reads.length ≤ 10 from fun b hb => ⟨(HL.out b hb).2.2.2.2, (HL.out b hb).2.2.2.1⟩)
          have H0 : Hid (AppL1 W F g (some ⟨B, 0, none⟩) (.slice A7 (l.length + 1) c7) vk q bw br s0 (appS (stS s0 l) ws) l ⟨⟨t, c, n, ln⟩, rs, ws⟩ (keptS s0 (l ++ [⟨⟨t, c, n, ln⟩, rs, ws⟩])) (.int .i64 (0 : Nat)) w8) := Lib.hid ⟨0, Nat.zero_le _, rfl, V8.out.data (fun n => (versT_nil l n).symm) (fun n => rfl)⟩
          clear hr1 hr2
          go_wp2
          clear z5
          go_loopw [88] (fun i wr => AppL1 W F g (some ⟨B, 0, none⟩) (.slice A7 (l.length + 1) c7) vk q bw br s0 (appS (stS s0 l) ws) l ⟨⟨t, c, n, ln⟩, rs, ws⟩ (keptS s0 (l ++ [⟨⟨t, c, n, ln⟩, rs, ws⟩])) i wr) (fun i _ => ws.length - (intOf i).toNat)
          case atStart => exact H0.out
          case round =>
            clear H0
            obtain ⟨k, hkl, rfl, hvn⟩ := hrel
            have V9 := Lib.hid hvn
            clear hvn
            simp only at hkl
            by_cases hk : k < ws.length
            · have j1 : (0 : Int) ≤ (k : Int) := by omega
              have j2 : (k : Int) < (ws.length : Int) := by omega
              have j3 : decide ((k : Int) < (ws.length : Int)) = true := decide_eq_true j2
              have hN9 := NAc.keep V9.out.kept rfl HN.out
              obtain ⟨b, o, hbe, hbw, y0, y1, y2, y3, y4, y5, y6⟩ := RdCh.piece (show RdCh wr (.slice A2 ws.length c2) ws from hN9.2) hk
              subst hbe
              obtain ⟨ch, hch⟩ : ∃ ch, ws[k] = ch := ⟨_, rfl⟩
              rw [hch] at y0 y1 y2 y3 y4 y5 y6
              have HCE := Lib.hid hch
              clear hch hN9
              go_upto_region 20 with (fail)
              have hbb := (Below.refl wr.heap.size wr).alloc (Nat.le_refl _) (.cells #[.int .i64 ch.name.kind, .string (bs ch.name.owner), .int .i64 ch.name.num, .int .i64 ch.name.idx, .string (bs ch.name.text), .string (bs ch.value), .bool ch.absent] 105)
              have VB := Lib.hid (V9.out.next hbb)
              have ZC : Hid (Blk (wr.alloc (.cells #[.int .i64 ch.name.kind, .string (bs ch.name.owner), .int .i64 ch.name.num, .int .i64 ch.name.idx, .string (bs ch.name.text), .string (bs ch.value), .bool ch.absent] 105)) wr.heap.size 105 #[.int .i64 ch.name.kind, .string (bs ch.name.owner), .int .i64 ch.name.num, .int .i64 ch.name.idx, .string (bs ch.name.text), .string (bs ch.value), .bool ch.absent]) := Lib.hid (Blk.new wr 105 #[.int .i64 ch.name.kind, .string (bs ch.name.owner), .int .i64 ch.name.num, .int .i64 ch.name.idx, .string (bs ch.name.text), .string (bs ch.value), .bool ch.absent])
              clear y0 y1 y2 y3 y4 y5 y6 hbb
              generalize wr.alloc (.cells #[.int .i64 ch.name.kind, .string (bs ch.name.owner), .int .i64 ch.name.num, .int .i64 ch.name.idx, .string (bs ch.name.text), .string (bs ch.value), .bool ch.absent] 105) = wb at *
              generalize wr.heap.size = cc at *
              obtain ⟨x0, x1, x2, x3, x4, x5⟩ := VB.out.cells

              have v0 : wb.cell? ⟨cc, 0, none⟩ = some (.int .i64 ch.name.kind) := ZC.out.cell 0
              have v1 : wb.cell? ⟨cc, 1, none⟩ = some (.string (bs ch.name.owner)) := ZC.out.cell 1
              have v2 : wb.cell? ⟨cc, 2, none⟩ = some (.int .i64 ch.name.num) := ZC.out.cell 2
              have v3 : wb.cell? ⟨cc, 3, none⟩ = some (.int .i64 ch.name.idx) := ZC.out.cell 3
              have v4 : wb.cell? ⟨cc, 4, none⟩ = some (.string (bs ch.name.text)) := ZC.out.cell 4
              have v5 : wb.cell? ⟨cc, 5, none⟩ = some (.string (bs ch.value)) := ZC.out.cell 5
              have v6 : wb.cell? ⟨cc, 6, none⟩ = some (.bool ch.absent) := ZC.out.cell 6
              have hbq := ((Below.refl wb.heap.size wb).alloc (Nat.le_refl _) (.cells #[.int .i64 l.length, .string (bs ch.value), .bool ch.absent] 68)).drew
              have VQ := Lib.hid (VB.out.next hbq)
              have ZQ := Lib.hid (ZC.out.next hbq ZC.out.lt)
              obtain ⟨ents, Ad, cd, hm, hve, hown, hback⟩ := VQ.out.wr_ ch.name
              obtain ⟨dl, hdl⟩ : ∃ dl, versT l (ws.take k) ch.name = dl := ⟨_, rfl⟩
              simp only [hdl] at hve hown hback
              have HDL := Lib.hid hdl
              have hdn : dl.length ≤ 2000 := by
                rw [← hdl]
                unfold versT
                have h1 := vers_len ch.name 0 l fun b hb => (HLA.out b hb).1
                have h2 := filt_len (ws.take k) ch.name
                have h3 := List.length_take_le k ws
                simp only [List.length_append, List.length_map]
                omega
              have HM := Lib.hid hm
              have HVE := Lib.hid hve
              have HOWN := Lib.hid hown
              have HBACK := Lib.hid hback
              clear hm hve hown hback hdl hbq x0 x1 x2 x3 x5
              obtain ⟨i0, hi, hz0, hz1, hz2⟩ := info_parts infoVe
              refine wp_region_noPanic ?_
              refine wp_region_last (S := (fun (w' : World) => w'.cell? ⟨g, 4, none⟩ = some (.map (some bw)) ∧ w'.cell? ⟨cc, 0, none⟩ = some (.int .i64 ch.name.kind) ∧ w'.cell? ⟨cc, 1, none⟩ = some (.string (bs ch.name.owner)) ∧ w'.cell? ⟨cc, 2, none⟩ = some (.int .i64 ch.name.num) ∧ w'.cell? ⟨cc, 3, none⟩ = some (.int .i64 ch.name.idx) ∧ w'.cell? ⟨cc, 4, none⟩ = some (.string (bs ch.name.text)) ∧ w'.cell? ⟨cc, 5, none⟩ = some (.string (bs ch.value)) ∧ w'.cell? ⟨cc, 6, none⟩ = some (.bool ch.absent))) 17 17 rfl (by kernel_rfl) (by kernel_rfl) ?_ (fun hHeld => ?_)
              · exact ⟨x4, v0, v1, v2, v3, v4, v5, v6⟩
              refine wpAnyH_take (i := 0) (v := ?_) rfl (by kernel_rfl) (by kernel_rfl) (by kernel_rfl) (fun _ _ _ h => h) (Or.inl ⟨by kernel_rfl, ?_⟩) hHeld ?_
              rotate_left
              · (intro w hSw; (try dsimp only at hSw); go_simp; try with_reducible rfl)
              try simp only [Act.put, List.setIfInBounds_toArray, List.set_cons_zero, List.set_cons_succ]
              refine wpAnyH_take (i := 1) (v := ?_) rfl (by kernel_rfl) (by kernel_rfl) (by kernel_rfl) (fun _ _ _ h => h) (Or.inl ⟨by kernel_rfl, ?_⟩) hHeld ?_
              rotate_left
              · (intro w hSw; (try dsimp only at hSw); go_simp; try with_reducible rfl)
              try simp only [Act.put, List.setIfInBounds_toArray, List.set_cons_zero, List.set_cons_succ]
              refine wpAnyH_take (i := 2) (v := ?_) rfl (by kernel_rfl) (by kernel_rfl) (by kernel_rfl) (fun _ _ _ h => h) (Or.inl ⟨by kernel_rfl, ?_⟩) hHeld ?_
              rotate_left
              · (intro w hSw; (try dsimp only at hSw); go_simp; try with_reducible rfl)
              try simp only [Act.put, List.setIfInBounds_toArray, List.set_cons_zero, List.set_cons_succ]
              refine wpAnyH_take (i := 3) (v := ?_) rfl (by kernel_rfl) (by kernel_rfl) (by kernel_rfl) (fun _ _ _ h => h) (Or.inl ⟨by kernel_rfl, ?_⟩) hHeld ?_
              rotate_left
              · (intro w hSw; (try dsimp only at hSw); go_simp; try with_reducible rfl)
              try simp only [Act.put, List.setIfInBounds_toArray, List.set_cons_zero, List.set_cons_succ]
              refine wpAnyH_take (i := 4) (v := ?_) rfl (by kernel_rfl) (by kernel_rfl) (by kernel_rfl) (fun _ _ _ h => h) (Or.inl ⟨by kernel_rfl, ?_⟩) hHeld ?_
              rotate_left
              · (intro w hSw; (try dsimp only at hSw); go_simp; try with_reducible rfl)
              try simp only [Act.put, List.setIfInBounds_toArray, List.set_cons_zero, List.set_cons_succ]
              refine wpAnyH_take (i := 5) (v := ?_) rfl (by kernel_rfl) (by kernel_rfl) (by kernel_rfl) (fun _ _ _ h => h) (Or.inl ⟨by kernel_rfl, ?_⟩) hHeld ?_
              rotate_left
              · (intro w hSw; (try dsimp only at hSw); go_simp; try with_reducible rfl)
              try simp only [Act.put, List.setIfInBounds_toArray, List.set_cons_zero, List.set_cons_succ]
              refine wpAnyH_take (i := 6) (v := ?_) rfl (by kernel_rfl) (by kernel_rfl) (by kernel_rfl) (fun _ _ _ h => h) (Or.inl ⟨by kernel_rfl, ?_⟩) hHeld ?_
              rotate_left
              · (intro w hSw; (try dsimp only at hSw); go_simp; try with_reducible rfl)
              try simp only [Act.put, List.setIfInBounds_toArray, List.set_cons_zero, List.set_cons_succ]
              refine wpAnyH_take (i := 7) (v := ?_) rfl (by kernel_rfl) (by kernel_rfl) (by kernel_rfl) (fun _ _ _ h => h) (Or.inl ⟨by kernel_rfl, ?_⟩) hHeld ?_
              rotate_left
              · (intro w hSw; (try dsimp only at hSw); go_simp; try with_reducible rfl)
              try simp only [Act.put, List.setIfInBounds_toArray, List.set_cons_zero, List.set_cons_succ]
              refine wpAnyH_take (i := 8) (v := ?_) rfl (by kernel_rfl) (by kernel_rfl) (by kernel_rfl) (fun _ _ _ h => h) (Or.inl ⟨by kernel_rfl, ?_⟩) hHeld ?_
              rotate_left
              · (intro w hSw; (try dsimp only at hSw); go_simp; try with_reducible rfl)
              try simp only [Act.put, List.setIfInBounds_toArray, List.set_cons_zero, List.set_cons_succ]
              refine wpAnyH_take (i := 9) (v := ?_) rfl (by kernel_rfl) (by kernel_rfl) (by kernel_rfl) (fun _ _ _ h => h) (Or.inl ⟨by kernel_rfl, ?_⟩) hHeld ?_
              rotate_left
              · (intro w hSw; (try dsimp only at hSw); go_simp; try with_reducible rfl)
              try simp only [Act.put, List.setIfInBounds_toArray, List.set_cons_zero, List.set_cons_succ]
              refine wpAnyH_take (i := 10) (v := ?_) rfl (by kernel_rfl) (by kernel_rfl) (by kernel_rfl) (fun _ _ _ h => h) (Or.inl ⟨by kernel_rfl, ?_⟩) hHeld ?_
              rotate_left
              · (intro w hSw; (try dsimp only at hSw); go_simp; try with_reducible rfl)
              try simp only [Act.put, List.setIfInBounds_toArray, List.set_cons_zero, List.set_cons_succ]
              refine wpAnyH_take (i := 11) (v := ?_) rfl (by kernel_rfl) (by kernel_rfl) (by kernel_rfl) (fun _ _ _ h => h) (Or.inl ⟨by kernel_rfl, ?_⟩) hHeld ?_
              rotate_left
              · (intro w hSw; (try dsimp only at hSw); go_simp; try with_reducible rfl)
              try simp only [Act.put, List.setIfInBounds_toArray, List.set_cons_zero, List.set_cons_succ]
              refine wpAnyH_ready (rs := [12]) (by kernel_rfl) (by simp) ?_
              refine AllReadyH.cons rfl (fun K hK => ?_) AllReadyH.nil
              go_simp
              refine hK.out _ _ ?_ (fun hNew => ?_)
              · exact ⟨(World.cell?_alloc_lt wb _ _ VB.out.vin.blk.lt).trans x4, (World.cell?_alloc_lt wb _ _ ZC.out.lt).trans v0, (World.cell?_alloc_lt wb _ _ ZC.out.lt).trans v1, (World.cell?_alloc_lt wb _ _ ZC.out.lt).trans v2, (World.cell?_alloc_lt wb _ _ ZC.out.lt).trans v3, (World.cell?_alloc_lt wb _ _ ZC.out.lt).trans v4, (World.cell?_alloc_lt wb _ _ ZC.out.lt).trans v5, (World.cell?_alloc_lt wb _ _ ZC.out.lt).trans v6⟩
              clear hK K hHeld
              have hHeld := hNew
              clear hNew
              try simp only [Act.put, List.setIfInBounds_toArray, List.set_cons_zero, List.set_cons_succ]
              refine wpAnyH_ready (rs := [13]) (by kernel_rfl) (by simp) ?_
              refine AllReadyH.cons rfl (fun K hK => ?_) AllReadyH.nil
              refine step_entry_nm _ (by rfl) _ _ 133 (by rfl) Tryz.underlying133 (zeroveC _) bw ents (by rfl) HM.out ch.name (by rfl) (.slice Ad dl.length cd) HVE.out ?_; intro w6 st hg6 hm6 hst; have hG6 := blk_map VQ.out.vin.blk HM.out hg6; have hC6 := blk_map ZQ.out HM.out hg6; have HW6 := Lib.hid (own_map HOWN.out HM.out hg6); have HN6 := Lib.hid (own_map (show (wb.alloc (.cells #[.int .i64 l.length, .string (bs ch.value), .bool ch.absent] 68)).drew.ownsRow 0 68 3 (.slice (some ⟨wb.heap.size, 0, none⟩) 1 1) 1 [.int .i64 l.length, .string (bs ch.value), .bool ch.absent] from own_new wb 0 68 3 [.int .i64 l.length, .string (bs ch.value), .bool ch.absent] rfl (Nat.zero_le _)) HM.out hg6); have HG6 := Lib.hid hg6; have HBG := Lib.hid hG6; have HBC := Lib.hid hC6; have HM6 := Lib.hid hm6; have HST := Lib.hid hst; have g6 := hG6.cell 4; have e0 := hC6.cell 0; have e1 := hC6.cell 1; have e2 := hC6.cell 2; have e3 := hC6.cell 3; have e4 := hC6.cell 4; have e5 := hC6.cell 5; have e6 := hC6.cell 6; (simp only [List.getElem?_toArray, List.getElem?_cons_zero, List.getElem?_cons_succ] at g6 e0 e1 e2 e3 e4 e5 e6); clear hg6 hm6 hst hG6 hC6
              refine hK.out _ _ ?_ (fun hNew => ?_)
              · exact ⟨g6, e0, e1, e2, e3, e4, e5, e6⟩
              clear hK K hHeld
              have hHeld := hNew
              clear hNew
              try simp only [Act.put, List.setIfInBounds_toArray, List.set_cons_zero, List.set_cons_succ]
              refine wpAnyH_take (i := 14) (v := ?_) rfl (by kernel_rfl) (by kernel_rfl) (by kernel_rfl) (fun _ _ _ h => h) (Or.inl ⟨by kernel_rfl, ?_⟩) hHeld ?_
              rotate_left
              · (intro w hSw; (try dsimp only at hSw); go_simp; try with_reducible rfl)
              try simp only [Act.put, List.setIfInBounds_toArray, List.set_cons_zero, List.set_cons_succ]
              refine wpAnyH_take (i := 16) (v := ?_) rfl (by kernel_rfl) (by kernel_rfl) (by kernel_rfl) (fun _ _ _ h => h) (Or.inl ⟨by kernel_rfl, ?_⟩) hHeld ?_
              rotate_left
              · (intro w hSw; (try dsimp only at hSw); go_simp; try with_reducible rfl)
              try simp only [Act.put, List.setIfInBounds_toArray, List.set_cons_zero, List.set_cons_succ]
              refine wpAnyH_ready (rs := [15]) (by kernel_rfl) (by simp) ?_
              refine AllReadyH.cons rfl (fun K hK => ?_) AllReadyH.nil
              refine step_append_w _ (by rfl) _ _ _ (by rfl) 0 68 i0 _ 3 32 Tryz.underlying110 hi hz0 hz1 hz2 rfl (by omega) (.slice Ad dl.length cd) dl.length (dl.flatMap veC) (by rfl) HW6.out (.slice (some ⟨wb.heap.size, 0, none⟩) 1 1) 1 [.int .i64 l.length, .string (bs ch.value), .bool ch.absent] (by rfl) (Rd.of_own HN6.out) (by omega) (by rfl) (by simp [Value.oneCell']) (by unfold maxLen; omega) (by omega) (by omega) ?_; intro v7 w7 hown7 hg7 hat7; obtain ⟨A9, c9, rfl, _⟩ := own_len hown7; have hG7 := HBG.out.grown hg7 (fun e => own_blk_ne HW6.out HBG.out (by decide) e.symm); have hC7 := HBC.out.grown hg7 (fun e => own_blk_ne HW6.out HBC.out (by decide) e.symm); obtain ⟨es6, cl6, hm6⟩ := HM6.out; have hb7 : w7.heap[bw]? = w6.heap[bw]? := hg7.block bw (Array.getElem?_eq_some_iff.1 hm6).1 (fun e => own_not_map HW6.out hm6 e.symm); obtain ⟨w8', hrun8, hm8, hg8⟩ := HST.out w7 (.slice A9 (dl.length + 1) c9) hb7; have HB7 := Lib.hid hb7; have HOW7 := Lib.hid hown7; have HG7 := Lib.hid hg7; have HAT7 := Lib.hid hat7; have HM8 := Lib.hid hm8; have HG8 := Lib.hid hg8; have HMM := Lib.hid hm6; have r6 := hG7.cell 4; have tt0 := hC7.cell 0; have tt1 := hC7.cell 1; have tt2 := hC7.cell 2; have tt3 := hC7.cell 3; have tt4 := hC7.cell 4; have tt5 := hC7.cell 5; have tt6 := hC7.cell 6; (simp only [List.getElem?_toArray, List.getElem?_cons_zero, List.getElem?_cons_succ] at r6 tt0 tt1 tt2 tt3 tt4 tt5 tt6); clear hown7 hg7 hat7 hG7 hC7 hm6 hb7 hm8 hg8
              refine hK.out _ _ ?_ (fun hNew => ?_)
              · exact ⟨r6, tt0, tt1, tt2, tt3, tt4, tt5, tt6⟩
              clear hK K hHeld
              have hHeld := hNew
              clear hNew
              try simp only [Act.put, List.setIfInBounds_toArray, List.set_cons_zero, List.set_cons_succ]
              refine wpAnyH_done (by kernel_rfl) ?_ _
              refine lastQ_step rfl (fun K hK => ?_)
              clear hHeld
              go_simp
              refine hK _ _ ?_
              clear hK K
              refine NoPanic.normal ?_
              clear x4 g6 r6 v0 e0 tt0 v1 e1 tt1 v2 e2 tt2 v3 e3 tt3 v4 e4 tt4 v5 e5 tt5 v6 e6 tt6 hrun8
              go_wp2_with fail
              go_roundw
              case rel =>
                have h9 := HBACK.out w7 w8' (.slice A9 (dl.length + 1) c9) (x := (⟨(l.length : Int), ch.value, ch.absent⟩ : Ver)) (((Chg.refl _ _ _).map_ HG6.out).row_ HG7.out) ⟨es6, cl6, HB7.out.trans HMM.out⟩ HOW7.out (by rcases HAT7.out with h | h; exact .inl h; exact .inr ⟨_, h, HG6.out.size⟩) HM8.out HG8.out
                refine ⟨k + 1, by simp only; omega, by go_num, h9.data (fun n => ?_) (fun n => ?_)⟩
                · rw [versT_take l ws k hk n, HCE.out, HDL.out]
                · rfl
              case measure => simp [intOf]; omega
            · have HK := Lib.hid hk
              have HI := Lib.hid (show k = ws.length by omega)
              have V10 : Hid (VNow W F wr g (some ⟨B, 0, none⟩) (.slice A7 (l.length + 1) c7) vk q bw br s0 (appS (stS s0 l) ws) (l ++ [⟨⟨t, c, n, ln⟩, rs, ws⟩]) (keptS s0 (l ++ [⟨⟨t, c, n, ln⟩, rs, ws⟩])) (fun nm => vers nm 0 (l ++ [⟨⟨t, c, n, ln⟩, rs, ws⟩])) (fun n => rdrs n 0 l)) := Lib.hid (V9.out.data (fun n => by
                have := HI.out
                subst this
                rw [List.take_length, ← versT_all]) (fun n => rfl))
              have Z9 : Hid (Blk wr cb 77 #[.int .i64 t, .int .i64 c, .int .i64 n, .string (bs ln), .slice A1 rs.length c1, .slice A2 ws.length c2]) := Lib.hid ((V10.out.out.block cb hz (fun h => by have := HF.out cb h; omega)).trans ZB.out)
              have z4 : wr.cell? ⟨cb, 4, none⟩ = some (.slice A1 rs.length c1) := Z9.out.cell 4
              have H0 : Hid (AppL2 W F g (some ⟨B, 0, none⟩) (.slice A7 (l.length + 1) c7) vk q bw br s0 (appS (stS s0 l) ws) l ⟨⟨t, c, n, ln⟩, rs, ws⟩ (keptS s0 (l ++ [⟨⟨t, c, n, ln⟩, rs, ws⟩])) (.int .i64 (0 : Nat)) wr) := Lib.hid ⟨0, Nat.zero_le _, rfl, V10.out.data (fun n => rfl) (fun n => (rdrsT_nil l n).symm)⟩
              have nk : decide ((k : Int) < (ws.length : Int)) = false := decide_eq_false (by omega)
              go_wp2
              clear z4
              obtain ⟨wo, hwo⟩ : ∃ wo : World, wo = wr := ⟨_, rfl⟩
              subst hwo
              go_loopw [113] (fun i wr => AppL2 W F g (some ⟨B, 0, none⟩) (.slice A7 (l.length + 1) c7) vk q bw br s0 (appS (stS s0 l) ws) l ⟨⟨t, c, n, ln⟩, rs, ws⟩ (keptS s0 (l ++ [⟨⟨t, c, n, ln⟩, rs, ws⟩])) i wr) (fun i _ => rs.length - (intOf i).toNat)
              case atStart => exact H0.out
              case round =>
                clear H0 hk hkl
                obtain ⟨k, hkl, rfl, hvn⟩ := hrel
                have V9 := Lib.hid hvn
                clear hvn
                simp only at hkl
                by_cases hk : k < rs.length
                · have j1 : (0 : Int) ≤ (k : Int) := by omega
                  have j2 : (k : Int) < (rs.length : Int) := by omega
                  have j3 : decide ((k : Int) < (rs.length : Int)) = true := decide_eq_true j2
                  have hN9 := NAc.keep V9.out.kept rfl HN.out
                  obtain ⟨b, o, hbe, hbw, y0, y1, y2, y3, y4, y5, y6⟩ := RdCh.piece (show RdCh wr (.slice A1 rs.length c1) rs from hN9.1) hk
                  subst hbe
                  obtain ⟨ch, hch⟩ : ∃ ch, rs[k] = ch := ⟨_, rfl⟩
                  rw [hch] at y0 y1 y2 y3 y4 y5 y6
                  have HCE := Lib.hid hch
                  clear hch hN9
                  go_upto_region 25 with (fail)
                  have hbb := (Below.refl wr.heap.size wr).alloc (Nat.le_refl _) (.cells #[.int .i64 ch.name.kind, .string (bs ch.name.owner), .int .i64 ch.name.num, .int .i64 ch.name.idx, .string (bs ch.name.text), .string (bs ch.value), .bool ch.absent] 105)
                  have VB := Lib.hid (V9.out.next hbb)
                  have ZC : Hid (Blk (wr.alloc (.cells #[.int .i64 ch.name.kind, .string (bs ch.name.owner), .int .i64 ch.name.num, .int .i64 ch.name.idx, .string (bs ch.name.text), .string (bs ch.value), .bool ch.absent] 105)) wr.heap.size 105 #[.int .i64 ch.name.kind, .string (bs ch.name.owner), .int .i64 ch.name.num, .int .i64 ch.name.idx, .string (bs ch.name.text), .string (bs ch.value), .bool ch.absent]) := Lib.hid (Blk.new wr 105 #[.int .i64 ch.name.kind, .string (bs ch.name.owner), .int .i64 ch.name.num, .int .i64 ch.name.idx, .string (bs ch.name.text), .string (bs ch.value), .bool ch.absent])
                  clear y0 y1 y2 y3 y4 y5 y6 hbb
                  generalize wr.alloc (.cells #[.int .i64 ch.name.kind, .string (bs ch.name.owner), .int .i64 ch.name.num, .int .i64 ch.name.idx, .string (bs ch.name.text), .string (bs ch.value), .bool ch.absent] 105) = wb at *
                  generalize wr.heap.size = cc at *
                  obtain ⟨x0, x1, x2, x3, x4, x5⟩ := VB.out.cells
                  have x4 := x5
                  have v0 : wb.cell? ⟨cc, 0, none⟩ = some (.int .i64 ch.name.kind) := ZC.out.cell 0
                  have v1 : wb.cell? ⟨cc, 1, none⟩ = some (.string (bs ch.name.owner)) := ZC.out.cell 1
                  have v2 : wb.cell? ⟨cc, 2, none⟩ = some (.int .i64 ch.name.num) := ZC.out.cell 2
                  have v3 : wb.cell? ⟨cc, 3, none⟩ = some (.int .i64 ch.name.idx) := ZC.out.cell 3
                  have v4 : wb.cell? ⟨cc, 4, none⟩ = some (.string (bs ch.name.text)) := ZC.out.cell 4
                  have hbq := ((Below.refl wb.heap.size wb).alloc (Nat.le_refl _) (.cells #[.int .i64 l.length] 3)).drew
                  have VQ := Lib.hid (VB.out.next hbq)
                  have ZQ := Lib.hid (ZC.out.next hbq ZC.out.lt)
                  obtain ⟨ents, Ad, cd, hm, hve, hown, hback⟩ := VQ.out.rd_ ch.name
                  obtain ⟨dl, hdl⟩ : ∃ dl, rdrsT l (rs.take k) ch.name = dl := ⟨_, rfl⟩
                  simp only [hdl] at hve hown hback
                  have HDL := Lib.hid hdl
                  have hdn : dl.length ≤ 2000 := by
                    rw [← hdl]
                    unfold rdrsT
                    have h1 := rdrs_len ch.name 0 l fun b hb => (HLA.out b hb).2
                    have h2 := filt_len (rs.take k) ch.name
                    have h3 := List.length_take_le k rs
                    simp only [List.length_append, List.length_map]
                    omega
                  have HM := Lib.hid hm
                  have HVE := Lib.hid hve
                  have HOWN := Lib.hid hown
                  have HBACK := Lib.hid hback
                  clear hm hve hown hback hdl hbq x0 x1 x2 x3
                  obtain ⟨i0, hi, hz0, hz1, hz2⟩ := info_parts infoIn
                  refine wp_region_noPanic ?_
                  refine wp_region_last (S := (fun (w' : World) => w'.cell? ⟨g, 5, none⟩ = some (.map (some br)) ∧ w'.cell? ⟨cc, 0, none⟩ = some (.int .i64 ch.name.kind) ∧ w'.cell? ⟨cc, 1, none⟩ = some (.string (bs ch.name.owner)) ∧ w'.cell? ⟨cc, 2, none⟩ = some (.int .i64 ch.name.num) ∧ w'.cell? ⟨cc, 3, none⟩ = some (.int .i64 ch.name.idx) ∧ w'.cell? ⟨cc, 4, none⟩ = some (.string (bs ch.name.text)))) 12 12 rfl (by kernel_rfl) (by kernel_rfl) ?_ (fun hHeld => ?_)
                  · exact ⟨x4, v0, v1, v2, v3, v4⟩
                  refine wpAnyH_take (i := 0) (v := ?_) rfl (by kernel_rfl) (by kernel_rfl) (by kernel_rfl) (fun _ _ _ h => h) (Or.inl ⟨by kernel_rfl, ?_⟩) hHeld ?_
                  rotate_left
                  · (intro w hSw; (try dsimp only at hSw); go_simp; try with_reducible rfl)
                  try simp only [Act.put, List.setIfInBounds_toArray, List.set_cons_zero, List.set_cons_succ]
                  refine wpAnyH_take (i := 1) (v := ?_) rfl (by kernel_rfl) (by kernel_rfl) (by kernel_rfl) (fun _ _ _ h => h) (Or.inl ⟨by kernel_rfl, ?_⟩) hHeld ?_
                  rotate_left
                  · (intro w hSw; (try dsimp only at hSw); go_simp; try with_reducible rfl)
                  try simp only [Act.put, List.setIfInBounds_toArray, List.set_cons_zero, List.set_cons_succ]
                  refine wpAnyH_take (i := 2) (v := ?_) rfl (by kernel_rfl) (by kernel_rfl) (by kernel_rfl) (fun _ _ _ h => h) (Or.inl ⟨by kernel_rfl, ?_⟩) hHeld ?_
                  rotate_left
                  · (intro w hSw; (try dsimp only at hSw); go_simp; try with_reducible rfl)
                  try simp only [Act.put, List.setIfInBounds_toArray, List.set_cons_zero, List.set_cons_succ]
                  refine wpAnyH_take (i := 3) (v := ?_) rfl (by kernel_rfl) (by kernel_rfl) (by kernel_rfl) (fun _ _ _ h => h) (Or.inl ⟨by kernel_rfl, ?_⟩) hHeld ?_
                  rotate_left
                  · (intro w hSw; (try dsimp only at hSw); go_simp; try with_reducible rfl)
                  try simp only [Act.put, List.setIfInBounds_toArray, List.set_cons_zero, List.set_cons_succ]
                  refine wpAnyH_take (i := 4) (v := ?_) rfl (by kernel_rfl) (by kernel_rfl) (by kernel_rfl) (fun _ _ _ h => h) (Or.inl ⟨by kernel_rfl, ?_⟩) hHeld ?_
                  rotate_left
                  · (intro w hSw; (try dsimp only at hSw); go_simp; try with_reducible rfl)
                  try simp only [Act.put, List.setIfInBounds_toArray, List.set_cons_zero, List.set_cons_succ]
                  refine wpAnyH_take (i := 5) (v := ?_) rfl (by kernel_rfl) (by kernel_rfl) (by kernel_rfl) (fun _ _ _ h => h) (Or.inl ⟨by kernel_rfl, ?_⟩) hHeld ?_
                  rotate_left
                  · (intro w hSw; (try dsimp only at hSw); go_simp; try with_reducible rfl)
                  try simp only [Act.put, List.setIfInBounds_toArray, List.set_cons_zero, List.set_cons_succ]
                  refine wpAnyH_take (i := 6) (v := ?_) rfl (by kernel_rfl) (by kernel_rfl) (by kernel_rfl) (fun _ _ _ h => h) (Or.inl ⟨by kernel_rfl, ?_⟩) hHeld ?_
                  rotate_left
                  · (intro w hSw; (try dsimp only at hSw); go_simp; try with_reducible rfl)
                  try simp only [Act.put, List.setIfInBounds_toArray, List.set_cons_zero, List.set_cons_succ]
                  refine wpAnyH_ready (rs := [7]) (by kernel_rfl) (by simp) ?_
                  refine AllReadyH.cons rfl (fun K hK => ?_) AllReadyH.nil
                  go_simp
                  refine hK.out _ _ ?_ (fun hNew => ?_)
                  · exact ⟨(World.cell?_alloc_lt wb _ _ VB.out.vin.blk.lt).trans x4, (World.cell?_alloc_lt wb _ _ ZC.out.lt).trans v0, (World.cell?_alloc_lt wb _ _ ZC.out.lt).trans v1, (World.cell?_alloc_lt wb _ _ ZC.out.lt).trans v2, (World.cell?_alloc_lt wb _ _ ZC.out.lt).trans v3, (World.cell?_alloc_lt wb _ _ ZC.out.lt).trans v4⟩
                  clear hK K hHeld
                  have hHeld := hNew
                  clear hNew
                  try simp only [Act.put, List.setIfInBounds_toArray, List.set_cons_zero, List.set_cons_succ]
                  refine wpAnyH_ready (rs := [8]) (by kernel_rfl) (by simp) ?_
                  refine AllReadyH.cons rfl (fun K hK => ?_) AllReadyH.nil
                  refine step_entry_nm _ (by rfl) _ _ 116 (by rfl) Tryz.underlying116 (zeroinC _) br ents (by rfl) HM.out ch.name (by rfl) (.slice Ad dl.length cd) HVE.out ?_; intro w6 st hg6 hm6 hst; have hG6 := blk_map VQ.out.vin.blk HM.out hg6; have hC6 := blk_map ZQ.out HM.out hg6; have HW6 := Lib.hid (own_map HOWN.out HM.out hg6); have HN6 := Lib.hid (own_map (show (wb.alloc (.cells #[.int .i64 l.length] 3)).drew.ownsRow 0 3 1 (.slice (some ⟨wb.heap.size, 0, none⟩) 1 1) 1 [.int .i64 l.length] from own_new wb 0 3 1 [.int .i64 l.length] rfl (Nat.zero_le _)) HM.out hg6); have HG6 := Lib.hid hg6; have HBG := Lib.hid hG6; have HBC := Lib.hid hC6; have HM6 := Lib.hid hm6; have HST := Lib.hid hst; have g6 := hG6.cell 5; have e0 := hC6.cell 0; have e1 := hC6.cell 1; have e2 := hC6.cell 2; have e3 := hC6.cell 3; have e4 := hC6.cell 4; (simp only [List.getElem?_toArray, List.getElem?_cons_zero, List.getElem?_cons_succ] at g6 e0 e1 e2 e3 e4); clear hg6 hm6 hst hG6 hC6
                  refine hK.out _ _ ?_ (fun hNew => ?_)
                  · exact ⟨g6, e0, e1, e2, e3, e4⟩
                  clear hK K hHeld
                  have hHeld := hNew
                  clear hNew
                  try simp only [Act.put, List.setIfInBounds_toArray, List.set_cons_zero, List.set_cons_succ]
                  refine wpAnyH_take (i := 9) (v := ?_) rfl (by kernel_rfl) (by kernel_rfl) (by kernel_rfl) (fun _ _ _ h => h) (Or.inl ⟨by kernel_rfl, ?_⟩) hHeld ?_
                  rotate_left
                  · (intro w hSw; (try dsimp only at hSw); go_simp; try with_reducible rfl)
                  try simp only [Act.put, List.setIfInBounds_toArray, List.set_cons_zero, List.set_cons_succ]
                  refine wpAnyH_take (i := 11) (v := ?_) rfl (by kernel_rfl) (by kernel_rfl) (by kernel_rfl) (fun _ _ _ h => h) (Or.inl ⟨by kernel_rfl, ?_⟩) hHeld ?_
                  rotate_left
                  · (intro w hSw; (try dsimp only at hSw); go_simp; try with_reducible rfl)
                  try simp only [Act.put, List.setIfInBounds_toArray, List.set_cons_zero, List.set_cons_succ]
                  refine wpAnyH_ready (rs := [10]) (by kernel_rfl) (by simp) ?_
                  refine AllReadyH.cons rfl (fun K hK => ?_) AllReadyH.nil
                  refine step_append_w _ (by rfl) _ _ _ (by rfl) 0 3 i0 _ 1 8 Tryz.underlying33 hi hz0 hz1 hz2 rfl (by omega) (.slice Ad dl.length cd) dl.length (dl.flatMap inC) (by rfl) HW6.out (.slice (some ⟨wb.heap.size, 0, none⟩) 1 1) 1 [.int .i64 l.length] (by rfl) (Rd.of_own HN6.out) (by omega) (by rfl) (by simp [Value.oneCell']) (by unfold maxLen; omega) (by omega) (by omega) ?_; intro v7 w7 hown7 hg7 hat7; obtain ⟨A9, c9, rfl, _⟩ := own_len hown7; have hG7 := HBG.out.grown hg7 (fun e => own_blk_ne HW6.out HBG.out (by decide) e.symm); have hC7 := HBC.out.grown hg7 (fun e => own_blk_ne HW6.out HBC.out (by decide) e.symm); obtain ⟨es6, cl6, hm6⟩ := HM6.out; have hb7 : w7.heap[br]? = w6.heap[br]? := hg7.block br (Array.getElem?_eq_some_iff.1 hm6).1 (fun e => own_not_map HW6.out hm6 e.symm); obtain ⟨w8', hrun8, hm8, hg8⟩ := HST.out w7 (.slice A9 (dl.length + 1) c9) hb7; have HB7 := Lib.hid hb7; have HOW7 := Lib.hid hown7; have HG7 := Lib.hid hg7; have HAT7 := Lib.hid hat7; have HM8 := Lib.hid hm8; have HG8 := Lib.hid hg8; have HMM := Lib.hid hm6; have r6 := hG7.cell 5; have tt0 := hC7.cell 0; have tt1 := hC7.cell 1; have tt2 := hC7.cell 2; have tt3 := hC7.cell 3; have tt4 := hC7.cell 4; (simp only [List.getElem?_toArray, List.getElem?_cons_zero, List.getElem?_cons_succ] at r6 tt0 tt1 tt2 tt3 tt4); clear hown7 hg7 hat7 hG7 hC7 hm6 hb7 hm8 hg8
                  refine hK.out _ _ ?_ (fun hNew => ?_)
                  · exact ⟨r6, tt0, tt1, tt2, tt3, tt4⟩
                  clear hK K hHeld
                  have hHeld := hNew
                  clear hNew
                  try simp only [Act.put, List.setIfInBounds_toArray, List.set_cons_zero, List.set_cons_succ]
                  refine wpAnyH_done (by kernel_rfl) ?_ _
                  refine lastQ_step rfl (fun K hK => ?_)
                  clear hHeld
                  go_simp
                  refine hK _ _ ?_
                  clear hK K
                  refine NoPanic.normal ?_
                  clear x4 g6 r6 v0 e0 tt0 v1 e1 tt1 v2 e2 tt2 v3 e3 tt3 v4 e4 tt4 hrun8
                  go_wp2_with fail
                  go_roundw
                  case rel =>
                    have h9 := HBACK.out w7 w8' (.slice A9 (dl.length + 1) c9) (x := (l.length : Int)) (((Chg.refl _ _ _).map_ HG6.out).row_ HG7.out) ⟨es6, cl6, HB7.out.trans HMM.out⟩ HOW7.out (by rcases HAT7.out with h | h; exact .inl h; exact .inr ⟨_, h, HG6.out.size⟩) HM8.out HG8.out
                    refine ⟨k + 1, by simp only; omega, by go_num, h9.data (fun n => ?_) (fun n => ?_)⟩
                    · rfl
                    · rw [rdrsT_take l rs k hk n, HCE.out, HDL.out]
                  case measure => simp [intOf]; omega
                · have HK2 := Lib.hid hk
                  have HI2 := Lib.hid (show k = rs.length by omega)
                  go_wp2
                  go_ret
                  have V11 := V9.out.data (Dw' := fun nm => vers nm 0 (l ++ [⟨⟨t, c, n, ln⟩, rs, ws⟩])) (Dr' := fun nm => rdrs nm 0 (l ++ [⟨⟨t, c, n, ln⟩, rs, ws⟩])) (fun n => rfl) (fun n => by
                    have := HI2.out
                    subst this
                    rw [List.take_length, ← rdrsT_all])
                  have hcw : w.heap.size ≤ W.heap.size := by rw [HCB.out]; exact Nat.le_of_lt hz
                  have hbw : Below w.heap.size w W := by rw [HCB.out]; exact HB0.out
                  refine ⟨by rw [HOK.out]; rfl, fun _ => ?_, fun h => absurd HOK.out h, ?_, ?_⟩
                  · have h := VIn.mono (G := Grow F w wr) V11.vin fun i hi => by
                      rcases hi with h | ⟨h1, h2⟩
                      · exact .inl h
                      · exact .inr ⟨Nat.le_trans hcw h1, h2⟩
                    rw [show appS (stS s0 l) ws = stS s0 (l ++ [⟨⟨t, c, n, ln⟩, rs, ws⟩]) from (stS_snoc s0 l ⟨⟨t, c, n, ln⟩, rs, ws⟩).symm] at h
                    exact ⟨_, _, _, _, _, _, h⟩
                  · exact (Outer.of_below hbw).trans (V11.out.mono fun i h => .inl h)
                  · exact (Kept.of_below LV hbw).trans V11.kept
end Go.Proofs.YtamjllakfgphnaaGreatDoor
/- Walks of layer 46: versions.Build. -/
namespace Go.Proofs.YtamjllakfgphnaaGreatDoor
open Go.RowKit
set_option linter.unusedSimpArgs false
set_option linter.unusedVariables false
attribute [local go_sem ↓] Go.wp_at_zero Go.wp_at_succ
def BldRel (w : World) (g : Nat) (s0 : St) (l : List Ac) (i : Value) (wr : World) : Prop := ∃ (k : Nat) (F : Nat → Prop), k ≤ l.length ∧ i = .int .i64 k ∧ VAt wr F g s0 (l.take k) ∧ (∀ i, F i → w.heap.size ≤ i ∧ i < wr.heap.size) ∧ (∀ j (hj : j < l.length), j < k → appR (l.take j) l[j] = 0) ∧ Below w.heap.size w wr
/-- What Build answers. -/
def BldP (s0 : St) (l : List Ac) (w : World) (e : Ending) (w' : World) : Prop :=
  Below w.heap.size w w' ∧ ((bldR [] l = 0 ∧ ∃ g F, e = .returned (.tuple #[.pointer (some ⟨g, 0, none⟩), .int .i64 0]) ∧ VAt w' F g s0 l ∧ ∀ i, F i → w.heap.size ≤ i ∧ i < w'.heap.size) ∨ (bldR [] l ≠ 0 ∧ e = .returned (.tuple #[.pointer none, .int .i64 (bldR [] l)])))
theorem build_nil {w : World} {v : Value} : Calls Tryz.prog 39 #[.pointer none, v] w fun e w' => e = .returned (.tuple #[.pointer none, .int .i64 1]) ∧ w = w' := by
  go_enter Tryz.func39, Tryz.ntmps39
  go_wp2
  go_ret2
  exact ⟨rfl, rfl⟩
theorem vat_new {w : World} {p : Option Addr} {s0 : St} (h : StAt w p s0) : VAt (((w.alloc (.map #[] 0)).alloc (.map #[] 0)).alloc (.cells #[.pointer p, .slice none 0 0, .slice none 0 0, .pointer p, .map (some w.heap.size), .map (some (w.heap.size + 1))] 135)) (fun i => w.heap.size ≤ i ∧ i < w.heap.size + 3) (w.heap.size + 2) s0 [] := by
  have a1 := (Below.refl w.heap.size w).alloc (Nat.le_refl _) (.map #[] 0)
  have a2 := (Below.refl (w.alloc (.map #[] 0)).heap.size (w.alloc (.map #[] 0))).alloc (Nat.le_refl _) (.map #[] 0)
  have a3 := (Below.refl ((w.alloc (.map #[] 0)).alloc (.map #[] 0)).heap.size ((w.alloc (.map #[] 0)).alloc (.map #[] 0))).alloc (Nat.le_refl _) (.cells #[.pointer p, .slice none 0 0, .slice none 0 0, .pointer p, .map (some w.heap.size), .map (some (w.heap.size + 1))] 135)
  have hb := Blk.new ((w.alloc (.map #[] 0)).alloc (.map #[] 0)) 135 #[.pointer p, .slice none 0 0, .slice none 0 0, .pointer p, .map (some w.heap.size), .map (some (w.heap.size + 1))]
  have e2 : ((w.alloc (.map #[] 0)).alloc (.map #[] 0)).heap.size = w.heap.size + 2 := by simp
  have e1 : (w.alloc (.map #[] 0)).heap.size = w.heap.size + 1 := by simp
  rw [e2] at hb
  have m1 := MapRows.new (e := 68) (s := 3) (f := veC) w (fun i => w.heap.size ≤ i ∧ i < w.heap.size + 3) ⟨by omega, by omega⟩
  have m2 := MapRows.new (e := 3) (s := 1) (f := inC) (w.alloc (.map #[] 0)) (fun i => w.heap.size ≤ i ∧ i < w.heap.size + 3) ⟨by omega, by omega⟩
  rw [e1] at m2
  have hs := ((h.next a1).next a2).next a3
  exact ⟨p, .slice none 0 0, .slice none 0 0, p, w.heap.size, w.heap.size + 1, ⟨hb, ⟨by omega, by omega⟩, hs, hs, RowOwn.nil, fun g hg => (by cases hg), RowOwn.nil, fun g hg => (by cases hg), ((m1.next a2).next a3).data fun n => rfl, (m2.next a3).data fun n => rfl, by omega⟩⟩
set_option maxRecDepth 100000 in
set_option maxHeartbeats 4000000 in
theorem build_is {w : World} {p : Option Addr} {s0 : St} {v : Value} {l : List Ac} (hb : StAt w p s0) (hl : RdAc w v l) (hu : UseAt w) (ha : ∀ a ∈ l, AcR a) (hs : StV s0) (hlen : l.length ≤ 100) : Calls Tryz.prog 39 #[.pointer p, v] w (BldP s0 l w) := by
  obtain ⟨pB, rfl⟩ : ∃ B, p = some ⟨B, 0, none⟩ := by obtain ⟨B, _, _, e, _⟩ := id hb; exact ⟨B, e⟩
  obtain ⟨A, c, rfl, hc⟩ := RowRd.form hl
  have HV := Lib.hid (vat_new hb)
  have HL := Lib.hid hl
  have HU := Lib.hid hu
  have HA := Lib.hid ha
  have HS := Lib.hid hs
  have i1 : (l.length : Int) ≤ 100 := by omega
  have i2 : (0 : Int) ≤ (l.length : Int) := by omega
  have hb0 : Below w.heap.size w (((w.alloc (.map #[] 0)).alloc (.map #[] 0)).alloc (.cells #[.pointer (some ⟨pB, 0, none⟩), .slice none 0 0, .slice none 0 0, .pointer (some ⟨pB, 0, none⟩), .map (some w.heap.size), .map (some (w.heap.size + 1))] 135)) := (((Below.refl _ _).alloc (Nat.le_refl _) _).alloc (by simp) _).alloc (by simp; omega) _
  have H0 : Hid (BldRel w (w.heap.size + 2) s0 l (.int .i64 (0 : Nat)) (((w.alloc (.map #[] 0)).alloc (.map #[] 0)).alloc (.cells #[.pointer (some ⟨pB, 0, none⟩), .slice none 0 0, .slice none 0 0, .pointer (some ⟨pB, 0, none⟩), .map (some w.heap.size), .map (some (w.heap.size + 1))] 135))) :=
    Lib.hid ⟨0, _, Nat.zero_le _, rfl, HV.out, fun i hi => ⟨hi.1, by simp; omega⟩, fun j _ h => by omega, hb0⟩
  clear hb hl hu ha hs hb0 HV
  have hmm := @run_makeMap Tryz.prog
  go_enter Tryz.func39, Tryz.ntmps39
  go_wp2
  clear hmm
  go_loopw [20] (fun i wr => BldRel w (w.heap.size + 2) s0 l i wr) (fun i _ => l.length - (intOf i).toNat)
  case atStart => exact H0.out
  case round =>
    clear H0
    obtain ⟨k, F, hkl, rfl, hv, hF, hz, hbw⟩ := hrel
    have HV := Lib.hid hv
    have HF := Lib.hid hF
    have HZ := Lib.hid hz
    have HB := Lib.hid hbw
    clear hv hF hz hbw
    by_cases hk : k < l.length
    · have j1 : (0 : Int) ≤ (k : Int) := by omega
      have j2 : (k : Int) < (l.length : Int) := by omega
      have j3 : decide ((k : Int) < (l.length : Int)) = true := decide_eq_true j2
      obtain ⟨b, o, u1, u2, hbe, hbr, n1, n2, y0, y1, y2, y3, y4, y5⟩ := RdAc.piece (RdAc.next HL.out HB.out) hk
      subst hbe
      obtain ⟨a, hae⟩ : ∃ a, l[k] = a := ⟨_, rfl⟩
      rw [hae] at n1 n2 y0 y1 y2 y3
      have HAE := Lib.hid hae
      obtain ⟨A1, c1, rfl, hc1⟩ := RdP.form n1
      obtain ⟨A2, c2, rfl, hc2⟩ := RdP.form n2
      have N : Hid (NAc wr (.slice A1 a.reads.length c1, .slice A2 a.writes.length c2) a) := Lib.hid ⟨n1, n2⟩
      clear hae n1 n2
      go_upto_region 7 with (fail)
      have hbb := (Below.refl wr.heap.size wr).alloc (Nat.le_refl _) (.cells #[.int .i64 a.key.tick, .int .i64 a.key.cls, .int .i64 a.key.num, .string (bs a.key.lin), .slice A1 a.reads.length c1, .slice A2 a.writes.length c2] 77)
      have zb := Blk.new wr 77 #[.int .i64 a.key.tick, .int .i64 a.key.cls, .int .i64 a.key.num, .string (bs a.key.lin), .slice A1 a.reads.length c1, .slice A2 a.writes.length c2]
      have HBB := Lib.hid hbb
      have hsz := hbb.size
      have z0 := zb.cell 0
      have z1 := zb.cell 1
      have z2 := zb.cell 2
      have z3 := zb.cell 3
      have z4 := zb.cell 4
      have z5 := zb.cell 5
      simp only [List.getElem?_toArray, List.getElem?_cons_zero, List.getElem?_cons_succ] at z0 z1 z2 z3 z4 z5
      have HVn := Lib.hid (HV.out.next hbb)
      have HFn := Lib.hid (fun i (h : F i) => Nat.lt_of_lt_of_le (HF.out i h).2 hsz)
      have HBn := Lib.hid (HB.out.trans (hbb.mono HB.out.size))
      have HUn := Lib.hid (HU.out.next HBn.out HU.out.1)
      have HNn := Lib.hid (NAc.next hbb N.out)
      have HOK := Lib.hid (ok_take HZ.out)
      have HLT := Lib.hid (fun b (hb : b ∈ l.take k) => HA.out b (List.mem_of_mem_take hb))
      have HAA : Hid (AcR a) := Lib.hid (by rw [← HAE.out]; exact HA.out _ (List.getElem_mem hk))
      clear y0 y1 y2 y3 y4 y5 hbb zb hsz
      generalize wr.alloc (.cells #[.int .i64 a.key.tick, .int .i64 a.key.cls, .int .i64 a.key.num, .string (bs a.key.lin), .slice A1 a.reads.length c1, .slice A2 a.writes.length c2] 77) = wb at *
      go_wp2_with fail
      refine (append_is (a := a) (u := (.slice A1 a.reads.length c1, .slice A2 a.writes.length c2)) HVn.out HFn.out HUn.out HNn.out HAA.out HLT.out (stS_ok HS.out HOK.out) (by rw [List.length_take]; omega)).mono ?_
      rintro e w2 ⟨rfl, hp1, hp2, hp3, hp4⟩
      have HP1 := Lib.hid hp1
      have HP3 := Lib.hid hp3
      have HB2 := Lib.hid (HBn.out.trans (hp3.below HBn.out.size (fun i h => (HF.out i h).1)))
      clear hp1 hp2 hp3 hp4 z0 z1 z2 z3 z4 z5
      obtain ⟨r, hr⟩ : ∃ r, appR (l.take k) a = r := ⟨_, rfl⟩
      rw [hr]
      have HR := Lib.hid hr
      clear hr
      by_cases hr0 : r = 0
      · subst hr0
        go_wp2_with fail
        go_roundw
        case rel =>
          refine ⟨k + 1, Grow F wb w2, by omega, by go_num, ?_, fun i hi => ?_, fun j hj hjk => ?_, HB2.out⟩
          · have := HP1.out HR.out
            rw [List.take_succ_eq_append_getElem hk, HAE.out]
            exact this
          · rcases hi with h | ⟨h1, h2⟩
            · exact ⟨(HF.out i h).1, Nat.lt_of_lt_of_le (HFn.out i h) HP3.out.size⟩
            · exact ⟨Nat.le_trans HBn.out.size h1, h2⟩
          · by_cases e : j = k
            · subst e
              rw [HAE.out]; exact HR.out
            · exact HZ.out j hj (by omega)
        case measure => simp [intOf]; omega
      · have r1 : (r == 0) = false := by rw [beq_eq_false_iff_ne]; exact hr0
        have r2 : (r != 0) = true := by rw [bne_iff_ne]; exact hr0
        have HRN := Lib.hid hr0
        go_wp2_with fail
        go_ret2
        have e : bldR [] l = r := by
          have := bldR_stop (l := l) (d := []) (k := k) (fun j hj hjk => by simpa using HZ.out j hj hjk) hk (by simp only [List.nil_append]; rw [HAE.out, HR.out]; exact HRN.out)
          rw [this]
          simp only [List.nil_append]
          rw [HAE.out, HR.out]
        exact ⟨HB2.out, .inr ⟨by rw [e]; exact HRN.out, by rw [e]; rfl⟩⟩
    · have HI := Lib.hid (show k = l.length by omega)
      have HK := Lib.hid hk
      go_wp2
      go_ret2
      have e : bldR [] l = 0 := bldR_all fun j hj => by simpa using HZ.out j hj (by have := HI.out; omega)
      have hv := HV.out
      rw [HI.out, List.take_length] at hv
      exact ⟨HB.out, .inl ⟨e, _, F, rfl, hv, HF.out⟩⟩
end Go.Proofs.YtamjllakfgphnaaGreatDoor
