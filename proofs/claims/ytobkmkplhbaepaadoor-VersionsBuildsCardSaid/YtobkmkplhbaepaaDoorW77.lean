/- Walks of layer 46: the law of Build. -/
import Derived.Test.YtobkmkplhbaepaaDoorW75
import Derived.Test.YtobkmkplhbaepaaDoorW76
import Derived.Test.YtobkmkplhbaepaaDoorW55
import Derived.Test.YtobkmkplhbaepaaDoorGK
import Derived.Test.YtobkmkplhbaepaaDoorW39
namespace Go.Proofs.YtobkmkplhbaepaaDoor
open Go.RowKit
set_option linter.unusedSimpArgs false
set_option linter.unusedVariables false
attribute [local go_sem ↓] Go.wp_at_zero Go.wp_at_succ
theorem ksrt_inj {l : List Ac} (h : KSrt l) {i j : Nat} (hi : i < l.length) (hj : j < l.length) (e : l[i].key = l[j].key) : i = j := by
  have irr : ∀ q : Ky, ¬ cmpK q q < 0 := fun q => by rw [lex_lt]; omega
  rcases Nat.lt_trichotomy i j with h1 | h1 | h1
  · have h2 := h i j hi hj h1
    rw [e] at h2
    exact absurd h2 (irr _)
  · exact h1
  · have h2 := h j i hj hi h1
    rw [e] at h2
    exact absurd h2 (irr _)
/-- What Find answers, in one form. -/
def FinQ (l : List Ac) (k : Ky) (w : World) (e : Ending) (w' : World) : Prop :=
  Below w.heap.size w w' ∧ ∃ (at_ : Int) (ok : Bool), e = .returned (.tuple #[.int .i64 at_, .bool ok]) ∧ ((ok = true ∧ ∃ (i : Nat) (h : i < l.length), at_ = (i : Int) ∧ l[i].key = k) ∨ (ok = false ∧ at_ = 0 ∧ ∀ i (h : i < l.length), l[i].key ≠ k))
theorem finq_is {w : World} {F : Nat → Prop} {g : Nat} {s0 : St} {l : List Ac} (k : Ky) (hv : VAt w F g s0 l) (ho : VOk l) (hs : KSrt l) : Calls Tryd.prog 20 #[.pointer (some ⟨g, 0, none⟩), kyV k] w (FinQ l k w) := by
  refine (vfind_is k hv ho hs).mono ?_
  rintro e w' ⟨hb, ⟨i, hi, h1, h2⟩ | ⟨h1, h2⟩⟩
  · exact ⟨hb, i, true, h2, .inl ⟨rfl, i, hi, rfl, h1⟩⟩
  · exact ⟨hb, 0, false, h2, .inr ⟨rfl, rfl, h1⟩⟩
theorem find_at {w : World} {F : Nat → Prop} {g : Nat} {s0 : St} {l : List Ac} {m : Nat} {p : Ky} (hv : VAt w F g s0 l) (ho : VOk l) (hs : KSrt l) (hm : m < l.length) (hp : l[m].key = p) : Calls Tryd.prog 20 #[.pointer (some ⟨g, 0, none⟩), kyV p] w fun e w' => e = .returned (.tuple #[.int .i64 m, .bool true]) ∧ Below w.heap.size w w' := by
  refine (vfind_is p hv ho hs).mono ?_
  rintro e w' ⟨hb, ⟨i, hi, h1, h2⟩ | ⟨h1, h2⟩⟩
  · obtain rfl := ksrt_inj hs hi hm (h1.trans hp.symm)
    exact ⟨h2, hb⟩
  · exact absurd hp (h1 m hm)
def BLoop (l : List Ac) (k : Ky) (w : World) (i : Value) (wr : World) : Prop := ∃ m : Nat, m ≤ l.length ∧ i = .int .i64 m ∧ (∀ j (h : j < l.length), j < m → l[j].key ≠ k) ∧ Below w.heap.size w wr
set_option maxRecDepth 100000 in
set_option maxHeartbeats 4000000 in
theorem law_builds {w : World} {v1 v2 : Value} {r : Rn} (k : Ky) (t : Int) (hit : RaIt w.heap.size w v1 r.base) (hac : RaAct w.heap.size w v2 r.acts) (hu : UseAt w) : Calls Tryd.prog 5 #[.agg #[v1, v2], kyV k, .int .i64 t] w fun e w' => e = .returned (.bool true) ∧ Below w.heap.size w w' := by
  unfold kyV
  have ha := ((Below.refl w.heap.size w).alloc (Nat.le_refl _) (.cells #[v1, v2] 25)).alloc (by simp) (.cells #[.int .i64 k.tick, .int .i64 k.cls, .int .i64 k.num, .string (bs k.lin)] 47)
  have hz : w.heap.size < ((w.alloc (.cells #[v1, v2] 25)).alloc (.cells #[.int .i64 k.tick, .int .i64 k.cls, .int .i64 k.num, .string (bs k.lin)] 47)).heap.size := by rw [World.size_alloc, World.size_alloc]; omega
  have zb := (Blk.new w 25 #[v1, v2]).next ((Below.refl (w.alloc (.cells #[v1, v2] 25)).heap.size (w.alloc (.cells #[v1, v2] 25))).alloc (Nat.le_refl _) (.cells #[.int .i64 k.tick, .int .i64 k.cls, .int .i64 k.num, .string (bs k.lin)] 47)) (by simp)
  have zd := Blk.new (w.alloc (.cells #[v1, v2] 25)) 47 #[.int .i64 k.tick, .int .i64 k.cls, .int .i64 k.num, .string (bs k.lin)]
  rw [World.size_alloc] at zd
  have hdw := zd.lt
  have y0 := zd.cell 0
  have y1 := zd.cell 1
  have y2 := zd.cell 2
  have y3 := zd.cell 3
  simp only [List.getElem?_toArray, List.getElem?_cons_zero, List.getElem?_cons_succ] at y0 y1 y2 y3
  have Y0 := Lib.hid y0
  have Y1 := Lib.hid y1
  have Y2 := Lib.hid y2
  have Y3 := Lib.hid y3
  clear y0 y1 y2 y3
  have z0 := zb.cell 0
  have z1 := zb.cell 1
  simp only [List.getElem?_toArray, List.getElem?_cons_zero, List.getElem?_cons_succ] at z0 z1
  obtain ⟨A1, c1, rfl, _, _⟩ := hit.form
  obtain ⟨A2, c2, rfl, _, _⟩ := RowRa.form hac
  have HA := Lib.hid ha
  have HU := Lib.hid (hu.next ha hu.1)
  have HLB := Lib.hid hit.len
  have HOK := Lib.hid hac.ok
  have HIT := Lib.hid ((hit.below ha).next_ (Nat.le_of_lt hz))
  have HAC := Lib.hid ((hac.below ha).next_ (Nat.le_of_lt hz))
  clear hit hac hu ha zb zd
  go_enter Tryd.func5, Tryd.ntmps5
  go_upto_region 1 with (fail)
  generalize (w.alloc (.cells #[.slice A1 r.base.length c1, .slice A2 r.acts.length c2] 25)).alloc (.cells #[.int .i64 k.tick, .int .i64 k.cls, .int .i64 k.num, .string (bs k.lin)] 47) = W at *
  obtain ⟨cb, hcb⟩ : ∃ cb, w.heap.size = cb := ⟨_, rfl⟩
  rw [hcb] at z0 z1 hz hdw Y0 Y1 Y2 Y3 HA ⊢
  obtain ⟨db, hdb⟩ : ∃ db, cb + 1 = db := ⟨_, rfl⟩
  rw [hdb] at hdw Y0 Y1 Y2 Y3 ⊢
  clear hdb
  have HCB := Lib.hid hcb
  clear hcb
  go_upto_region 3 with (go_at_call 7; refine (known_is HU.out).mono ?_; rintro e w1 ⟨rfl, hb1⟩; have HB1 := Lib.hid hb1; clear hb1)
  have hc1 : cb < w1.heap.size := Nat.lt_of_lt_of_le hz HB1.out.size
  have HU1 := Lib.hid (HU.out.next HB1.out HU.out.1)
  have HIT1 := Lib.hid ((HIT.out.below HB1.out).next_ HB1.out.size)
  have HAC1 := Lib.hid ((HAC.out.below HB1.out).next_ HB1.out.size)
  replace z0 := (HB1.out.cell (p := ⟨cb, 0, none⟩) hz).trans z0
  replace z1 := (HB1.out.cell (p := ⟨cb, 1, none⟩) hz).trans z1
  refine wp_region_noPanic ?_
  refine wp_region_held_drew (S := (fun (w' : World) => w'.cell? ⟨cb, 0, none⟩ = some (.slice A1 r.base.length c1) ∧ w'.cell? ⟨cb, 1, none⟩ = some (.slice A2 r.acts.length c2))) (by kernel_rfl) ?_ (fun hHeld => ?_)
  · exact ⟨z0, z1⟩
  refine wpAnyH_take (i := 0) (v := ?_) rfl (by kernel_rfl) (by kernel_rfl) (by kernel_rfl) (fun _ _ _ h => h) (Or.inl ⟨by kernel_rfl, ?_⟩) hHeld ?_
  rotate_left
  · (intro w hSw; (try dsimp only at hSw); go_simp; try with_reducible rfl)
  try simp only [Act.put, List.setIfInBounds_toArray, List.set_cons_zero, List.set_cons_succ]
  refine wpAnyH_take (i := 2) (v := ?_) rfl (by kernel_rfl) (by kernel_rfl) (by kernel_rfl) (fun _ _ _ h => h) (Or.inl ⟨by kernel_rfl, ?_⟩) hHeld ?_
  rotate_left
  · (intro w hSw; (try dsimp only at hSw); go_simp; try with_reducible rfl)
  try simp only [Act.put, List.setIfInBounds_toArray, List.set_cons_zero, List.set_cons_succ]
  refine wpAnyH_ready (rs := [1]) (by kernel_rfl) (by simp) ?_
  refine AllReadyH.cons rfl (fun K hK => ?_) AllReadyH.nil
  go_simp
  refine (base_is (w := w1.drew) (r := r) (HIT1.out.below (Below.refl _ _).drew) HLB.out (HU1.out.next (Below.refl w1.heap.size w1).drew HU1.out.1)).mono ?_; rintro e w2 ⟨p, rfl, hp, hb2'⟩; have hb2 := (Below.refl w1.heap.size w1).drew.trans hb2'; have HB2 := Lib.hid hb2; have HP2 := Lib.hid hp; clear hb2' hp
  try (go_wp2_with fail)
  refine hK.out _ _ ?_ (fun hNew => ?_)
  · exact ⟨(hb2.cell (p := ⟨cb, 0, none⟩) hc1).trans z0, (hb2.cell (p := ⟨cb, 1, none⟩) hc1).trans z1⟩
  clear hK K hHeld
  have hHeld := hNew
  clear hNew
  try simp only [Act.put, List.setIfInBounds_toArray, List.set_cons_zero, List.set_cons_succ]
  refine wpAnyH_ready (rs := [3]) (by kernel_rfl) (by simp) ?_
  refine AllReadyH.cons rfl (fun K hK => ?_) AllReadyH.nil
  go_simp
  refine (actions_is (r := r) ((HAC1.out.below HB2.out).next_ HB2.out.size)).mono ?_; rintro e w3 ⟨vl, rfl, hl, hb3'⟩; have HB3 := Lib.hid hb3'; have HL3 := Lib.hid hl; clear hb3' hl
  try (go_wp2_with fail)
  refine hK.out _ _ ?_ (fun hNew => ?_)
  · exact ⟨(HB3.out.cell (p := ⟨cb, 0, none⟩) (Nat.lt_of_lt_of_le hc1 HB2.out.size)).trans ((HB2.out.cell (p := ⟨cb, 0, none⟩) hc1).trans z0), (HB3.out.cell (p := ⟨cb, 1, none⟩) (Nat.lt_of_lt_of_le hc1 HB2.out.size)).trans ((HB2.out.cell (p := ⟨cb, 1, none⟩) hc1).trans z1)⟩
  clear hK K hHeld
  have hHeld := hNew
  clear hNew
  try simp only [Act.put, List.setIfInBounds_toArray, List.set_cons_zero, List.set_cons_succ]
  refine wpAnyH_take (i := 4) (v := ?_) rfl (by kernel_rfl) (by kernel_rfl) (by kernel_rfl) (fun _ _ _ h => h) (Or.inl ⟨by kernel_rfl, ?_⟩) hHeld ?_
  rotate_left
  · (intro w hSw; (try dsimp only at hSw); go_simp; try with_reducible rfl)
  try simp only [Act.put, List.setIfInBounds_toArray, List.set_cons_zero, List.set_cons_succ]
  refine wpAnyH_take (i := 5) (v := ?_) rfl (by kernel_rfl) (by kernel_rfl) (by kernel_rfl) (fun _ _ _ h => h) (Or.inl ⟨by kernel_rfl, ?_⟩) hHeld ?_
  rotate_left
  · (intro w hSw; (try dsimp only at hSw); go_simp; try with_reducible rfl)
  try simp only [Act.put, List.setIfInBounds_toArray, List.set_cons_zero, List.set_cons_succ]
  refine wpAnyH_done (by kernel_rfl) ?_ _
  clear hHeld
  try simp only [List.getElem_toArray, List.getElem_cons_zero, List.getElem_cons_succ, Act.put, List.setIfInBounds_toArray, List.set_cons_zero, List.set_cons_succ]
  refine NoPanic.normal ?_
  obtain ⟨s0, hs0⟩ : ∃ s, baseS r = s := ⟨_, rfl⟩
  obtain ⟨l, hl⟩ : ∃ l, actsS r = l := ⟨_, rfl⟩
  have HAR : Hid (∀ a ∈ l, AcR a) := Lib.hid (by rw [← hl]; exact acts_r HOK.out)
  have HSV : Hid (StV s0) := Lib.hid (by rw [← hs0]; exact base_v r)
  have hll : l.length ≤ 20 := by rw [← hl]; exact acts_len r
  rw [hs0] at HP2
  rw [hl] at HL3
  have HP3 := Lib.hid (HP2.out.next HB3.out)
  have HLR3 := Lib.hid (RowOwn.rd HL3.out)
  have HB13 := Lib.hid (HB2.out.trans (HB3.out.mono HB2.out.size))
  have HU3 := Lib.hid (HU1.out.next HB13.out HU1.out.1)
  have HB03 := Lib.hid (HA.out.trans ((HB1.out.trans (HB13.out.mono HB1.out.size)).mono (Nat.le_of_lt hz)))
  have hsz3 : cb ≤ w3.heap.size := Nat.le_trans (Nat.le_of_lt hc1) HB13.out.size
  have HSZ : Hid (cb ≤ w3.heap.size) := Lib.hid hsz3
  obtain ⟨Al, cl, rfl, hcl⟩ := RowRd.form HLR3.out
  replace Y0 := Lib.hid (((HB1.out.trans (HB13.out.mono HB1.out.size)).cell (p := ⟨db, 0, none⟩) hdw).trans Y0.out)
  replace Y1 := Lib.hid (((HB1.out.trans (HB13.out.mono HB1.out.size)).cell (p := ⟨db, 1, none⟩) hdw).trans Y1.out)
  replace Y2 := Lib.hid (((HB1.out.trans (HB13.out.mono HB1.out.size)).cell (p := ⟨db, 2, none⟩) hdw).trans Y2.out)
  replace Y3 := Lib.hid (((HB1.out.trans (HB13.out.mono HB1.out.size)).cell (p := ⟨db, 3, none⟩) hdw).trans Y3.out)
  have hd3 : db < w3.heap.size := Nat.lt_of_lt_of_le hdw (HB1.out.trans (HB13.out.mono HB1.out.size)).size
  clear hdw
  clear hs0 hl hb2 HB2 HB3 HP2 HL3 HIT HAC HIT1 HAC1 HU HU1 HA HB1 z0 z1 HB13 HLB HOK hc1
  go_wp2_with (go_at_call 10; refine (build_is HP3.out HLR3.out HU3.out HAR.out HSV.out (by omega)).mono ?_)
  rintro e w4 ⟨hb4, ⟨hok, g, F, rfl, hv4, _⟩ | ⟨hbad, rfl⟩⟩
  · have HB4 := Lib.hid hb4
    have HV4 := Lib.hid hv4
    have HVO : Hid (VOk l) := Lib.hid ⟨ok_all hok, HAR.out, by omega⟩
    have HLO : Hid (LOk l) := Lib.hid ⟨HAR.out, by omega⟩
    have HP4 := Lib.hid (HP3.out.next hb4)
    have HLR4 := Lib.hid (RdAc.next HLR3.out hb4)
    have HB04 := Lib.hid (HB03.out.trans (hb4.mono hsz3))
    have hsz4 : cb ≤ w4.heap.size := Nat.le_trans hsz3 hb4.size
    have HKS : Hid (KSrt l) := Lib.hid (ksrt_of hok)
    have HBR : Hid (bldR [] l = 0) := Lib.hid hok
    have HU4 := Lib.hid (HU3.out.next hb4 HU3.out.1)
    replace Y0 := Lib.hid ((hb4.cell (p := ⟨db, 0, none⟩) hd3).trans Y0.out)
    replace Y1 := Lib.hid ((hb4.cell (p := ⟨db, 1, none⟩) hd3).trans Y1.out)
    replace Y2 := Lib.hid ((hb4.cell (p := ⟨db, 2, none⟩) hd3).trans Y2.out)
    replace Y3 := Lib.hid ((hb4.cell (p := ⟨db, 3, none⟩) hd3).trans Y3.out)
    have hd4 : db < w4.heap.size := Nat.lt_of_lt_of_le hd3 hb4.size
    clear hd3
    clear hb4 hv4 hok HB03 HP3 HLR3 HB4
    go_upto_region 7 with (first
      | (go_at_call 10; refine (build_nil).mono ?_; rintro e w5 ⟨rfl, hw5⟩; subst hw5)
      | (go_at_call 11; refine (rcheck_is HLR4.out HU4.out HAR.out (by omega)).mono ?_; rintro e w5 ⟨rfl, hb5⟩; rw [HBR.out]; have HB5 := Lib.hid hb5; clear hb5))
    have HV5 := Lib.hid (HV4.out.next HB5.out)
    have HLR5 := Lib.hid (RdAc.next HLR4.out HB5.out)
    replace Y0 := Lib.hid ((HB5.out.cell (p := ⟨db, 0, none⟩) hd4).trans Y0.out)
    replace Y1 := Lib.hid ((HB5.out.cell (p := ⟨db, 1, none⟩) hd4).trans Y1.out)
    replace Y2 := Lib.hid ((HB5.out.cell (p := ⟨db, 2, none⟩) hd4).trans Y2.out)
    replace Y3 := Lib.hid ((HB5.out.cell (p := ⟨db, 3, none⟩) hd4).trans Y3.out)
    have hd5 : db < w5.heap.size := Nat.lt_of_lt_of_le hd4 HB5.out.size
    have HB05 := Lib.hid (HB04.out.trans (HB5.out.mono hsz4))
    have hsz5 : cb ≤ w5.heap.size := Nat.le_trans hsz4 HB5.out.size
    clear HB04 HB5 HV4 HLR4 hd4 hsz4 HP4 HU4 HU3
    go_wp2_with (go_at_call 19; refine (action_is t HV5.out HVO.out).mono ?_)
    rintro e w6 ⟨hb6, ⟨n, hn, P1, P2, k1, k2, rfl, hna, rfl⟩ | ⟨hbad, rfl⟩⟩
    · obtain ⟨a, hae⟩ : ∃ a, l[n] = a := ⟨_, rfl⟩
      rw [hae] at hna ⊢
      unfold acV
      have HAE := Lib.hid hae
      have HNA := Lib.hid hna
      have HB6 := Lib.hid hb6
      have har := HAR.out _ (List.getElem_mem hn)
      rw [hae] at har
      have HL := Lib.hid (show a.reads.length ≤ 100000 ∧ a.writes.length ≤ 100000 from ⟨Nat.le_trans har.2.2.2.1 (by omega), Nat.le_trans har.2.2.2.2 (by omega)⟩)
      have i1 : (0 : Int) ≤ (n : Int) := by omega
      have i2 : (n : Int) < (l.length : Int) := by omega
      have i3 : decide ((n : Int) < (l.length : Int)) = true := decide_eq_true i2
      have i4 : decide ((0 : Int) ≤ (n : Int)) = true := decide_eq_true i1
      clear hae hna hb6 har
      go_upto_region 12 with (fail)
      have HB7 : Hid (Below w6.heap.size w6 (w6.alloc (.cells #[.int .i64 a.key.tick, .int .i64 a.key.cls, .int .i64 a.key.num, .string (bs a.key.lin), .slice P1 a.reads.length k1, .slice P2 a.writes.length k2] 50))) := Lib.hid ((Below.refl w6.heap.size w6).alloc (Nat.le_refl _) _)
      have zs := Blk.new w6 50 #[.int .i64 a.key.tick, .int .i64 a.key.cls, .int .i64 a.key.num, .string (bs a.key.lin), .slice P1 a.reads.length k1, .slice P2 a.writes.length k2]
      have a0 := zs.cell 0
      have a1 := zs.cell 1
      have a2 := zs.cell 2
      have a3 := zs.cell 3
      have a4 := zs.cell 4
      have a5 := zs.cell 5
      have hqb := zs.lt
      simp only [List.getElem?_toArray, List.getElem?_cons_zero, List.getElem?_cons_succ] at a0 a1 a2 a3 a4 a5
      clear zs
      generalize (w6.alloc (.cells #[.int .i64 a.key.tick, .int .i64 a.key.cls, .int .i64 a.key.num, .string (bs a.key.lin), .slice P1 a.reads.length k1, .slice P2 a.writes.length k2] 50)) = w7 at *
      obtain ⟨qb, hqe⟩ : ∃ qb, w6.heap.size = qb := ⟨_, rfl⟩
      have HB57 := Lib.hid (HB6.out.trans (HB7.out.mono HB6.out.size))
      rw [hqe] at a0 a1 a2 a3 a4 a5 hqb ⊢
      clear hqe
      have A0 := Lib.hid a0
      have A1 := Lib.hid a1
      have A2 := Lib.hid a2
      have A3 := Lib.hid a3
      have A4 := Lib.hid a4
      have A5 := Lib.hid a5
      clear a0 a1 a2 a3 a4 a5
      replace Y0 := Lib.hid ((HB57.out.cell (p := ⟨db, 0, none⟩) hd5).trans Y0.out)
      replace Y1 := Lib.hid ((HB57.out.cell (p := ⟨db, 1, none⟩) hd5).trans Y1.out)
      replace Y2 := Lib.hid ((HB57.out.cell (p := ⟨db, 2, none⟩) hd5).trans Y2.out)
      replace Y3 := Lib.hid ((HB57.out.cell (p := ⟨db, 3, none⟩) hd5).trans Y3.out)
      have hd7 : db < w7.heap.size := Nat.lt_of_lt_of_le hd5 HB57.out.size
      have HV7 := Lib.hid (HV5.out.next HB57.out)
      have HLR7 := Lib.hid (RdAc.next HLR5.out HB57.out)
      have HB07 := Lib.hid (HB05.out.trans (HB57.out.mono hsz5))
      have hsz7 : cb ≤ w7.heap.size := Nat.le_trans hsz5 HB57.out.size
      replace HNA := Lib.hid (NAc.keep (Kept.of_below [] HB7.out) rfl HNA.out)
      clear HB6 HB7 HB57 HV5 HLR5 HB05 hd5 hsz5
      have y0 := Y0.out
      have y1 := Y1.out
      have y2 := Y2.out
      have y3 := Y3.out
      have VF := Lib.hid (finq_is k HV7.out HVO.out HKS.out)
      unfold kyV at VF
      go_upto_region 13 with (go_at_call 20; refine (VF.out).mono ?_; rintro e w8 ⟨hb8, at_, ok, rfl, hfin⟩; have HB8 := Lib.hid hb8; have HFIN := Lib.hid hfin; clear hb8 hfin)
      clear y0 y1 y2 y3 VF
      replace Y0 := Lib.hid ((HB8.out.cell (p := ⟨db, 0, none⟩) hd7).trans Y0.out)
      replace Y1 := Lib.hid ((HB8.out.cell (p := ⟨db, 1, none⟩) hd7).trans Y1.out)
      replace Y2 := Lib.hid ((HB8.out.cell (p := ⟨db, 2, none⟩) hd7).trans Y2.out)
      replace Y3 := Lib.hid ((HB8.out.cell (p := ⟨db, 3, none⟩) hd7).trans Y3.out)
      replace A0 := Lib.hid ((HB8.out.cell (p := ⟨qb, 0, none⟩) hqb).trans A0.out)
      replace A1 := Lib.hid ((HB8.out.cell (p := ⟨qb, 1, none⟩) hqb).trans A1.out)
      replace A2 := Lib.hid ((HB8.out.cell (p := ⟨qb, 2, none⟩) hqb).trans A2.out)
      replace A3 := Lib.hid ((HB8.out.cell (p := ⟨qb, 3, none⟩) hqb).trans A3.out)
      replace A4 := Lib.hid ((HB8.out.cell (p := ⟨qb, 4, none⟩) hqb).trans A4.out)
      replace A5 := Lib.hid ((HB8.out.cell (p := ⟨qb, 5, none⟩) hqb).trans A5.out)
      have hd8 : db < w8.heap.size := Nat.lt_of_lt_of_le hd7 HB8.out.size
      have hq8 : qb < w8.heap.size := Nat.lt_of_lt_of_le hqb HB8.out.size
      have HV8 := Lib.hid (HV7.out.next HB8.out)
      have HLR8 := Lib.hid (RdAc.next HLR7.out HB8.out)
      have HB08 := Lib.hid (HB07.out.trans (HB8.out.mono hsz7))
      have hsz8 : cb ≤ w8.heap.size := Nat.le_trans hsz7 HB8.out.size
      replace HNA := Lib.hid (NAc.keep (Kept.of_below [] HB8.out) rfl HNA.out)
      clear HV7 HLR7 HB07 hd7 hqb hsz7
      obtain ⟨b, o, u1, u2, hbe, hbr, m1, m2, x0, x1, x2, x3, x4, x5⟩ := RdAc.piece HLR8.out hn
      subst hbe
      rw [HAE.out] at m1 m2 x0 x1 x2 x3
      have HM1 := Lib.hid m1
      have HM2 := Lib.hid m2
      clear m1 m2
      go_upto_region 15 with (go_at_call 21; refine (vlen_is HV8.out).mono ?_; rintro e w' ⟨rfl, rfl⟩)
      refine wp_region_noPanic ?_
      refine wp_region_held_drew (S := (fun (w' : World) => w'.cell? ⟨qb, 0, none⟩ = some (.int .i64 a.key.tick) ∧ w'.cell? ⟨qb, 1, none⟩ = some (.int .i64 a.key.cls) ∧ w'.cell? ⟨qb, 2, none⟩ = some (.int .i64 a.key.num) ∧ w'.cell? ⟨qb, 3, none⟩ = some (.string (bs a.key.lin)) ∧ w'.cell? ⟨qb, 4, none⟩ = some (.slice P1 a.reads.length k1) ∧ w'.cell? ⟨qb, 5, none⟩ = some (.slice P2 a.writes.length k2) ∧ w'.cell? ⟨b, o + n * 6, none⟩ = some (.int .i64 a.key.tick) ∧ w'.cell? ⟨b, o + n * 6 + 1, none⟩ = some (.int .i64 a.key.cls) ∧ w'.cell? ⟨b, o + n * 6 + 2, none⟩ = some (.int .i64 a.key.num) ∧ w'.cell? ⟨b, o + n * 6 + 3, none⟩ = some (.string (bs a.key.lin)) ∧ w'.cell? ⟨b, o + n * 6 + 4, none⟩ = some (u1) ∧ w'.cell? ⟨b, o + n * 6 + 5, none⟩ = some (u2))) (by kernel_rfl) ?_ (fun hHeld => ?_)
      · exact ⟨A0.out, A1.out, A2.out, A3.out, A4.out, A5.out, x0, x1, x2, x3, x4, x5⟩
      refine wpAnyH_take (i := 0) (v := ?_) rfl (by kernel_rfl) (by kernel_rfl) (by kernel_rfl) (fun _ _ _ h => h) (Or.inl ⟨by kernel_rfl, ?_⟩) hHeld ?_
      rotate_left
      · (intro w hSw; (try dsimp only at hSw); go_simp; try with_reducible rfl)
      try simp only [Act.put, List.setIfInBounds_toArray, List.set_cons_zero, List.set_cons_succ]
      refine wpAnyH_take (i := 1) (v := ?_) rfl (by kernel_rfl) (by kernel_rfl) (by kernel_rfl) (fun _ _ _ h => h) (Or.inl ⟨by kernel_rfl, ?_⟩) hHeld ?_
      rotate_left
      · (intro w hSw; (try dsimp only at hSw); go_simp; try with_reducible rfl)
      try simp only [Act.put, List.setIfInBounds_toArray, List.set_cons_zero, List.set_cons_succ]
      refine wpAnyH_take (i := 2) (v := ?_) rfl (by kernel_rfl) (by kernel_rfl) (by kernel_rfl) (fun _ _ _ h => h) (Or.inl ⟨by kernel_rfl, ?_⟩) hHeld ?_
      rotate_left
      · (intro w hSw; (try dsimp only at hSw); go_simp; try with_reducible rfl)
      try simp only [Act.put, List.setIfInBounds_toArray, List.set_cons_zero, List.set_cons_succ]
      refine wpAnyH_take (i := 3) (v := ?_) rfl (by kernel_rfl) (by kernel_rfl) (by kernel_rfl) (fun _ _ _ h => h) (Or.inl ⟨by kernel_rfl, ?_⟩) hHeld ?_
      rotate_left
      · (intro w hSw; (try dsimp only at hSw); go_simp; try with_reducible rfl)
      try simp only [Act.put, List.setIfInBounds_toArray, List.set_cons_zero, List.set_cons_succ]
      refine wpAnyH_take (i := 4) (v := ?_) rfl (by kernel_rfl) (by kernel_rfl) (by kernel_rfl) (fun _ _ _ h => h) (Or.inl ⟨by kernel_rfl, ?_⟩) hHeld ?_
      rotate_left
      · (intro w hSw; (try dsimp only at hSw); go_simp; try with_reducible rfl)
      try simp only [Act.put, List.setIfInBounds_toArray, List.set_cons_zero, List.set_cons_succ]
      refine wpAnyH_take (i := 5) (v := ?_) rfl (by kernel_rfl) (by kernel_rfl) (by kernel_rfl) (fun _ _ _ h => h) (Or.inl ⟨by kernel_rfl, ?_⟩) hHeld ?_
      rotate_left
      · (intro w hSw; (try dsimp only at hSw); go_simp; try with_reducible rfl)
      try simp only [Act.put, List.setIfInBounds_toArray, List.set_cons_zero, List.set_cons_succ]
      refine wpAnyH_take (i := 6) (v := ?_) rfl (by kernel_rfl) (by kernel_rfl) (by kernel_rfl) (fun _ _ _ h => h) (Or.inl ⟨by kernel_rfl, ?_⟩) hHeld ?_
      rotate_left
      · (intro w hSw; (try dsimp only at hSw); go_simp; try with_reducible rfl)
      try simp only [Act.put, List.setIfInBounds_toArray, List.set_cons_zero, List.set_cons_succ]
      refine wpAnyH_take (i := 7) (v := ?_) rfl (by kernel_rfl) (by kernel_rfl) (by kernel_rfl) (fun _ _ _ h => h) (Or.inl ⟨by kernel_rfl, ?_⟩) hHeld ?_
      rotate_left
      · (intro w hSw; (try dsimp only at hSw); go_simp; try with_reducible rfl)
      try simp only [Act.put, List.setIfInBounds_toArray, List.set_cons_zero, List.set_cons_succ]
      refine wpAnyH_ready (rs := [8]) (by kernel_rfl) (by simp) ?_
      refine AllReadyH.cons rfl (fun K hK => ?_) AllReadyH.nil
      go_simp
      refine (aeq_is (a := a) (b := a) (RdP.next HNA.out.1 (Below.refl _ _).drew) (RdP.next HNA.out.2 (Below.refl _ _).drew) (RdP.next HM1.out (Below.refl _ _).drew) (RdP.next HM2.out (Below.refl _ _).drew) HL.out HL.out).mono ?_; rintro e w9 ⟨rfl, hb9'⟩; rw [decide_eq_true rfl]; have hb9 := (Below.refl w8.heap.size w8).drew.trans hb9'; have HB9 := Lib.hid hb9; clear hb9'
      try (go_wp2_with fail)
      refine hK.out _ _ ?_ (fun hNew => ?_)
      · exact ⟨(hb9.cell (p := ⟨qb, 0, none⟩) hq8).trans A0.out, (hb9.cell (p := ⟨qb, 1, none⟩) hq8).trans A1.out, (hb9.cell (p := ⟨qb, 2, none⟩) hq8).trans A2.out, (hb9.cell (p := ⟨qb, 3, none⟩) hq8).trans A3.out, (hb9.cell (p := ⟨qb, 4, none⟩) hq8).trans A4.out, (hb9.cell (p := ⟨qb, 5, none⟩) hq8).trans A5.out, (hb9.cell (p := ⟨b, o + n * 6, none⟩) hbr).trans x0, (hb9.cell (p := ⟨b, o + n * 6 + 1, none⟩) hbr).trans x1, (hb9.cell (p := ⟨b, o + n * 6 + 2, none⟩) hbr).trans x2, (hb9.cell (p := ⟨b, o + n * 6 + 3, none⟩) hbr).trans x3, (hb9.cell (p := ⟨b, o + n * 6 + 4, none⟩) hbr).trans x4, (hb9.cell (p := ⟨b, o + n * 6 + 5, none⟩) hbr).trans x5⟩
      clear hK K hHeld
      have hHeld := hNew
      clear hNew
      try simp only [Act.put, List.setIfInBounds_toArray, List.set_cons_zero, List.set_cons_succ]
      refine wpAnyH_take (i := 9) (v := ?_) rfl (by kernel_rfl) (by kernel_rfl) (by kernel_rfl) (fun _ _ _ h => h) (Or.inl ⟨by kernel_rfl, ?_⟩) hHeld ?_
      rotate_left
      · (intro w hSw; (try dsimp only at hSw); go_simp; try with_reducible rfl)
      try simp only [Act.put, List.setIfInBounds_toArray, List.set_cons_zero, List.set_cons_succ]
      refine wpAnyH_take (i := 10) (v := ?_) rfl (by kernel_rfl) (by kernel_rfl) (by kernel_rfl) (fun _ _ _ h => h) (Or.inl ⟨by kernel_rfl, ?_⟩) hHeld ?_
      rotate_left
      · (intro w hSw; (try dsimp only at hSw); go_simp; try with_reducible rfl)
      try simp only [Act.put, List.setIfInBounds_toArray, List.set_cons_zero, List.set_cons_succ]
      refine wpAnyH_done (by kernel_rfl) ?_ _
      clear hHeld
      try simp only [List.getElem_toArray, List.getElem_cons_zero, List.getElem_cons_succ, Act.put, List.setIfInBounds_toArray, List.set_cons_zero, List.set_cons_succ]
      refine NoPanic.normal ?_
      replace Y0 := Lib.hid ((HB9.out.cell (p := ⟨db, 0, none⟩) hd8).trans Y0.out)
      replace Y1 := Lib.hid ((HB9.out.cell (p := ⟨db, 1, none⟩) hd8).trans Y1.out)
      replace Y2 := Lib.hid ((HB9.out.cell (p := ⟨db, 2, none⟩) hd8).trans Y2.out)
      replace Y3 := Lib.hid ((HB9.out.cell (p := ⟨db, 3, none⟩) hd8).trans Y3.out)
      have hd9 : db < w9.heap.size := Nat.lt_of_lt_of_le hd8 HB9.out.size
      have HV9 := Lib.hid (HV8.out.next HB9.out)
      have HLR9 := Lib.hid (RdAc.next HLR8.out HB9.out)
      have HB09 := Lib.hid (HB08.out.trans (HB9.out.mono hsz8))
      have hsz9 : cb ≤ w9.heap.size := Nat.le_trans hsz8 HB9.out.size
      clear HV8 HLR8 HB08 HB9 hb9 hd8 hsz8 hq8 hbr x0 x1 x2 x3 x4 x5 A0 A1 A2 A3 A4 A5 HM1 HM2 HNA HL i1 i2 i3 i4
      have H0 : Hid (BLoop l k w9 (.int .i64 (0 : Nat)) w9) := Lib.hid ⟨0, Nat.zero_le _, rfl, fun j _ h => by omega, Below.refl _ _⟩
      go_upto_region 18 with (fail)
      go_loopw [18] (fun i wr => BLoop l k w9 i wr) (fun i _ => l.length - (intOf i).toNat)
      case atStart => exact H0.out
      case round =>
        clear H0
        obtain ⟨m, hml, rfl, hne, hbw⟩ := hrel
        have HBW := Lib.hid hbw
        have HNE := Lib.hid hne
        clear hbw hne
        by_cases hm : m < l.length
        · have j1 : (0 : Int) ≤ (m : Int) := by omega
          have j2 : (m : Int) < (l.length : Int) := by omega
          have j3 : decide ((m : Int) < (l.length : Int)) = true := decide_eq_true j2
          obtain ⟨b, o, u1, u2, hbe, hbr, n1, n2, x0, x1, x2, x3, x4, x5⟩ := RdAc.piece (RdAc.next HLR9.out HBW.out) hm
          injection hbe with hbe; injection hbe with e1 e2; subst e1 e2
          clear n1 n2 x4 x5
          obtain ⟨p, hp⟩ : ∃ p, l[m].key = p := ⟨_, rfl⟩
          rw [hp] at x0 x1 x2 x3
          have HP := Lib.hid hp
          have FA := Lib.hid (find_at (m := m) (p := p) (HV9.out.next HBW.out) HVO.out HKS.out hm hp)
          unfold kyV at FA
          have y0 := (HBW.out.cell (p := ⟨db, 0, none⟩) hd9).trans Y0.out
          have y1 := (HBW.out.cell (p := ⟨db, 1, none⟩) hd9).trans Y1.out
          have y2 := (HBW.out.cell (p := ⟨db, 2, none⟩) hd9).trans Y2.out
          have y3 := (HBW.out.cell (p := ⟨db, 3, none⟩) hd9).trans Y3.out
          have hdr : db < wr.heap.size := Nat.lt_of_lt_of_le hd9 HBW.out.size
          obtain ⟨bq, hbq⟩ : ∃ bq, decide (p = k) = bq := ⟨_, rfl⟩
          have he := fun W => eqlKy p k bq hbq W
          have hg := guardKy
          unfold kyV at he
          clear hp
          go_upto_region 23 with (go_at_call 20; refine (FA.out).mono ?_; rintro e w10 ⟨rfl, hb10⟩; obtain ⟨hc10, hf10⟩ := bcell hb10; have HB10 := Lib.hid hb10; clear hb10)
          go_quiet (fail)
          cases bq with
          | true =>
            obtain rfl : p = k := of_decide_eq_true hbq
            have hk2 : at_ = (m : Int) ∧ ok = true := by
              rcases HFIN.out with ⟨h1, i, hi, h2, h3⟩ | ⟨h1, h2, h3⟩
              · have := ksrt_inj HKS.out hi (by omega) (h3.trans HP.out.symm)
                subst this
                exact ⟨h2, h1⟩
              · exact absurd HP.out (h3 m (by omega))
            obtain ⟨rfl, rfl⟩ := hk2
            go_wp2_with fail
            go_ret
            exact ⟨rfl, by rw [HCB.out]; exact HB09.out.trans ((HBW.out.trans ((below_drewN HB10.out _).mono HBW.out.size)).mono hsz9)⟩
          | false =>
            have hpk : p ≠ k := of_decide_eq_false hbq
            have HPK := Lib.hid hpk
            clear hpk hbq
            go_wp2_with fail
            go_roundw
            case rel => exact ⟨m + 1, by omega, by go_num, fun j hj h => by
              rcases Nat.lt_or_ge j m with h1 | h1
              · exact HNE.out j hj h1
              · obtain rfl : j = m := by omega
                rw [HP.out]; exact HPK.out, HBW.out.trans ((below_drewN HB10.out _).mono HBW.out.size)⟩
            case measure => simp [intOf]; omega
        · have j3 : decide ((m : Int) < (l.length : Int)) = false := decide_eq_false (by omega)
          have hk2 : at_ = 0 ∧ ok = false := by
            rcases HFIN.out with ⟨h1, i, hi, h2, h3⟩ | ⟨h1, h2, h3⟩
            · exact absurd h3 (HNE.out i hi (by omega))
            · exact ⟨h2, h1⟩
          obtain ⟨rfl, rfl⟩ := hk2
          go_wp2_with fail
          go_ret
          exact ⟨rfl, by rw [HCB.out]; exact HB09.out.trans (HBW.out.mono hsz9)⟩
    · have HB6 := Lib.hid hb6
      have i3 : (decide (0 ≤ t) && decide (t < (l.length : Int))) = false := by
        rw [Bool.and_eq_false_iff]
        by_cases h1 : 0 ≤ t
        · exact .inr (decide_eq_false (fun h2 => hbad ⟨h1, h2⟩))
        · exact .inl (decide_eq_false h1)
      clear hb6 hbad
      go_upto_region 12 with (fail)
      have HB7 : Hid (Below w6.heap.size w6 (w6.alloc (.cells #[.int .i64 0, .int .i64 0, .int .i64 0, .string ⟨#[]⟩, .slice none 0 0, .slice none 0 0] 50))) := Lib.hid ((Below.refl w6.heap.size w6).alloc (Nat.le_refl _) _)
      have zs := Blk.new w6 50 #[.int .i64 0, .int .i64 0, .int .i64 0, .string ⟨#[]⟩, .slice none 0 0, .slice none 0 0]
      have a0 := zs.cell 0
      have a1 := zs.cell 1
      have a2 := zs.cell 2
      have a3 := zs.cell 3
      have a4 := zs.cell 4
      have a5 := zs.cell 5
      have hqb := zs.lt
      simp only [List.getElem?_toArray, List.getElem?_cons_zero, List.getElem?_cons_succ] at a0 a1 a2 a3 a4 a5
      clear zs
      generalize (w6.alloc (.cells #[.int .i64 0, .int .i64 0, .int .i64 0, .string ⟨#[]⟩, .slice none 0 0, .slice none 0 0] 50)) = w7 at *
      obtain ⟨qb, hqe⟩ : ∃ qb, w6.heap.size = qb := ⟨_, rfl⟩
      have HB57 := Lib.hid (HB6.out.trans (HB7.out.mono HB6.out.size))
      rw [hqe] at a0 a1 a2 a3 a4 a5 hqb ⊢
      clear hqe
      have A0 := Lib.hid a0
      have A1 := Lib.hid a1
      have A2 := Lib.hid a2
      have A3 := Lib.hid a3
      have A4 := Lib.hid a4
      have A5 := Lib.hid a5
      clear a0 a1 a2 a3 a4 a5
      replace Y0 := Lib.hid ((HB57.out.cell (p := ⟨db, 0, none⟩) hd5).trans Y0.out)
      replace Y1 := Lib.hid ((HB57.out.cell (p := ⟨db, 1, none⟩) hd5).trans Y1.out)
      replace Y2 := Lib.hid ((HB57.out.cell (p := ⟨db, 2, none⟩) hd5).trans Y2.out)
      replace Y3 := Lib.hid ((HB57.out.cell (p := ⟨db, 3, none⟩) hd5).trans Y3.out)
      have hd7 : db < w7.heap.size := Nat.lt_of_lt_of_le hd5 HB57.out.size
      have HV7 := Lib.hid (HV5.out.next HB57.out)
      have HLR7 := Lib.hid (RdAc.next HLR5.out HB57.out)
      have HB07 := Lib.hid (HB05.out.trans (HB57.out.mono hsz5))
      have hsz7 : cb ≤ w7.heap.size := Nat.le_trans hsz5 HB57.out.size
      clear HB6 HB7 HB57 HV5 HLR5 HB05 hd5 hsz5
      have y0 := Y0.out
      have y1 := Y1.out
      have y2 := Y2.out
      have y3 := Y3.out
      have VF := Lib.hid (finq_is k HV7.out HVO.out HKS.out)
      unfold kyV at VF
      go_upto_region 13 with (go_at_call 20; refine (VF.out).mono ?_; rintro e w8 ⟨hb8, at_, ok, rfl, hfin⟩; have HB8 := Lib.hid hb8; have HFIN := Lib.hid hfin; clear hb8 hfin)
      clear y0 y1 y2 y3 VF
      replace Y0 := Lib.hid ((HB8.out.cell (p := ⟨db, 0, none⟩) hd7).trans Y0.out)
      replace Y1 := Lib.hid ((HB8.out.cell (p := ⟨db, 1, none⟩) hd7).trans Y1.out)
      replace Y2 := Lib.hid ((HB8.out.cell (p := ⟨db, 2, none⟩) hd7).trans Y2.out)
      replace Y3 := Lib.hid ((HB8.out.cell (p := ⟨db, 3, none⟩) hd7).trans Y3.out)
      replace A0 := Lib.hid ((HB8.out.cell (p := ⟨qb, 0, none⟩) hqb).trans A0.out)
      replace A1 := Lib.hid ((HB8.out.cell (p := ⟨qb, 1, none⟩) hqb).trans A1.out)
      replace A2 := Lib.hid ((HB8.out.cell (p := ⟨qb, 2, none⟩) hqb).trans A2.out)
      replace A3 := Lib.hid ((HB8.out.cell (p := ⟨qb, 3, none⟩) hqb).trans A3.out)
      replace A4 := Lib.hid ((HB8.out.cell (p := ⟨qb, 4, none⟩) hqb).trans A4.out)
      replace A5 := Lib.hid ((HB8.out.cell (p := ⟨qb, 5, none⟩) hqb).trans A5.out)
      have hd8 : db < w8.heap.size := Nat.lt_of_lt_of_le hd7 HB8.out.size
      have hq8 : qb < w8.heap.size := Nat.lt_of_lt_of_le hqb HB8.out.size
      have HV8 := Lib.hid (HV7.out.next HB8.out)
      have HLR8 := Lib.hid (RdAc.next HLR7.out HB8.out)
      have HB08 := Lib.hid (HB07.out.trans (HB8.out.mono hsz7))
      have hsz8 : cb ≤ w8.heap.size := Nat.le_trans hsz7 HB8.out.size
      clear HV7 HLR7 HB07 hd7 hqb hsz7
      have O1 : True := trivial
      by_cases h1 : 0 ≤ t
      · have i4 : decide (0 ≤ t) = true := decide_eq_true h1
        rw [i4, Bool.true_and] at i3
        clear h1
        go_upto_region 15 with (go_at_call 21; refine (vlen_is HV8.out).mono ?_; rintro e w' ⟨rfl, rfl⟩)
        refine wp_region_noPanic ?_
        refine wp_region_held_drew (S := (fun (w' : World) => 0 ≤ w'.heap.size)) (by kernel_rfl) ?_ (fun hHeld => ?_)
        · exact Nat.zero_le _
        refine wpAnyH_take (i := 0) (v := ?_) rfl (by kernel_rfl) (by kernel_rfl) (by kernel_rfl) (fun _ _ _ h => h) (Or.inl ⟨by kernel_rfl, ?_⟩) hHeld ?_
        rotate_left
        · (intro w hSw; (try dsimp only at hSw); go_simp; try with_reducible rfl)
        try simp only [Act.put, List.setIfInBounds_toArray, List.set_cons_zero, List.set_cons_succ]
        refine wpAnyH_take (i := 1) (v := ?_) rfl (by kernel_rfl) (by kernel_rfl) (by kernel_rfl) (fun _ _ _ h => h) (Or.inl ⟨by kernel_rfl, ?_⟩) hHeld ?_
        rotate_left
        · (intro w hSw; (try dsimp only at hSw); go_simp; try with_reducible rfl)
        try simp only [Act.put, List.setIfInBounds_toArray, List.set_cons_zero, List.set_cons_succ]
        refine wpAnyH_take (i := 2) (v := ?_) rfl (by kernel_rfl) (by kernel_rfl) (by kernel_rfl) (fun _ _ _ h => h) (Or.inl ⟨by kernel_rfl, ?_⟩) hHeld ?_
        rotate_left
        · (intro w hSw; (try dsimp only at hSw); go_simp; try with_reducible rfl)
        try simp only [Act.put, List.setIfInBounds_toArray, List.set_cons_zero, List.set_cons_succ]
        refine wpAnyH_take (i := 3) (v := undef) rfl (by kernel_rfl) (by kernel_rfl) (by kernel_rfl) (fun _ _ _ h => h) (Or.inr ⟨by kernel_rfl, rfl⟩) hHeld ?_
        try simp only [Act.put, List.setIfInBounds_toArray, List.set_cons_zero, List.set_cons_succ]
        refine wpAnyH_take (i := 4) (v := undef) rfl (by kernel_rfl) (by kernel_rfl) (by kernel_rfl) (fun _ _ _ h => h) (Or.inr ⟨by kernel_rfl, rfl⟩) hHeld ?_
        try simp only [Act.put, List.setIfInBounds_toArray, List.set_cons_zero, List.set_cons_succ]
        refine wpAnyH_take (i := 5) (v := undef) rfl (by kernel_rfl) (by kernel_rfl) (by kernel_rfl) (fun _ _ _ h => h) (Or.inr ⟨by kernel_rfl, rfl⟩) hHeld ?_
        try simp only [Act.put, List.setIfInBounds_toArray, List.set_cons_zero, List.set_cons_succ]
        refine wpAnyH_take (i := 6) (v := undef) rfl (by kernel_rfl) (by kernel_rfl) (by kernel_rfl) (fun _ _ _ h => h) (Or.inr ⟨by kernel_rfl, rfl⟩) hHeld ?_
        try simp only [Act.put, List.setIfInBounds_toArray, List.set_cons_zero, List.set_cons_succ]
        refine wpAnyH_take (i := 7) (v := undef) rfl (by kernel_rfl) (by kernel_rfl) (by kernel_rfl) (fun _ _ _ h => h) (Or.inr ⟨by kernel_rfl, rfl⟩) hHeld ?_
        try simp only [Act.put, List.setIfInBounds_toArray, List.set_cons_zero, List.set_cons_succ]
        refine wpAnyH_take (i := 8) (v := undef) rfl (by kernel_rfl) (by kernel_rfl) (by kernel_rfl) (fun _ _ _ h => h) (Or.inr ⟨by kernel_rfl, rfl⟩) hHeld ?_
        try simp only [Act.put, List.setIfInBounds_toArray, List.set_cons_zero, List.set_cons_succ]
        refine wpAnyH_take (i := 9) (v := undef) rfl (by kernel_rfl) (by kernel_rfl) (by kernel_rfl) (fun _ _ _ h => h) (Or.inr ⟨by kernel_rfl, rfl⟩) hHeld ?_
        try simp only [Act.put, List.setIfInBounds_toArray, List.set_cons_zero, List.set_cons_succ]
        refine wpAnyH_take (i := 10) (v := ?_) rfl (by kernel_rfl) (by kernel_rfl) (by kernel_rfl) (fun _ _ _ h => h) (Or.inl ⟨by kernel_rfl, ?_⟩) hHeld ?_
        rotate_left
        · (intro w hSw; (try dsimp only at hSw); go_simp; try with_reducible rfl)
        try simp only [Act.put, List.setIfInBounds_toArray, List.set_cons_zero, List.set_cons_succ]
        refine wpAnyH_done (by kernel_rfl) ?_ _
        clear hHeld
        try simp only [List.getElem_toArray, List.getElem_cons_zero, List.getElem_cons_succ, Act.put, List.setIfInBounds_toArray, List.set_cons_zero, List.set_cons_succ]
        refine NoPanic.normal ?_
        clear i3 i4
        have HB9 : Hid (Below w8.heap.size w8 w8.drew) := Lib.hid (Below.refl _ _).drew
        generalize w8.drew = w9 at *
        replace Y0 := Lib.hid ((HB9.out.cell (p := ⟨db, 0, none⟩) hd8).trans Y0.out)
        replace Y1 := Lib.hid ((HB9.out.cell (p := ⟨db, 1, none⟩) hd8).trans Y1.out)
        replace Y2 := Lib.hid ((HB9.out.cell (p := ⟨db, 2, none⟩) hd8).trans Y2.out)
        replace Y3 := Lib.hid ((HB9.out.cell (p := ⟨db, 3, none⟩) hd8).trans Y3.out)
        have hd9 : db < w9.heap.size := Nat.lt_of_lt_of_le hd8 HB9.out.size
        have HV9 := Lib.hid (HV8.out.next HB9.out)
        have HLR9 := Lib.hid (RdAc.next HLR8.out HB9.out)
        have HB09 := Lib.hid (HB08.out.trans (HB9.out.mono hsz8))
        have hsz9 : cb ≤ w9.heap.size := Nat.le_trans hsz8 HB9.out.size
        clear HV8 HLR8 HB08 HB9 hd8 hsz8 hq8 A0 A1 A2 A3 A4 A5
        have H0 : Hid (BLoop l k w9 (.int .i64 (0 : Nat)) w9) := Lib.hid ⟨0, Nat.zero_le _, rfl, fun j _ h => by omega, Below.refl _ _⟩
        go_upto_region 18 with (fail)
        go_loopw [18] (fun i wr => BLoop l k w9 i wr) (fun i _ => l.length - (intOf i).toNat)
        case atStart => exact H0.out
        case round =>
          clear H0
          obtain ⟨m, hml, rfl, hne, hbw⟩ := hrel
          have HBW := Lib.hid hbw
          have HNE := Lib.hid hne
          clear hbw hne
          by_cases hm : m < l.length
          · have j1 : (0 : Int) ≤ (m : Int) := by omega
            have j2 : (m : Int) < (l.length : Int) := by omega
            have j3 : decide ((m : Int) < (l.length : Int)) = true := decide_eq_true j2
            obtain ⟨b, o, u1, u2, hbe, hbr, n1, n2, x0, x1, x2, x3, x4, x5⟩ := RdAc.piece (RdAc.next HLR9.out HBW.out) hm
            subst hbe
            clear n1 n2 x4 x5
            obtain ⟨p, hp⟩ : ∃ p, l[m].key = p := ⟨_, rfl⟩
            rw [hp] at x0 x1 x2 x3
            have HP := Lib.hid hp
            have FA := Lib.hid (find_at (m := m) (p := p) (HV9.out.next HBW.out) HVO.out HKS.out hm hp)
            unfold kyV at FA
            have y0 := (HBW.out.cell (p := ⟨db, 0, none⟩) hd9).trans Y0.out
            have y1 := (HBW.out.cell (p := ⟨db, 1, none⟩) hd9).trans Y1.out
            have y2 := (HBW.out.cell (p := ⟨db, 2, none⟩) hd9).trans Y2.out
            have y3 := (HBW.out.cell (p := ⟨db, 3, none⟩) hd9).trans Y3.out
            have hdr : db < wr.heap.size := Nat.lt_of_lt_of_le hd9 HBW.out.size
            obtain ⟨bq, hbq⟩ : ∃ bq, decide (p = k) = bq := ⟨_, rfl⟩
            have he := fun W => eqlKy p k bq hbq W
            have hg := guardKy
            unfold kyV at he
            clear hp
            go_upto_region 23 with (go_at_call 20; refine (FA.out).mono ?_; rintro e w10 ⟨rfl, hb10⟩; obtain ⟨hc10, hf10⟩ := bcell hb10; have HB10 := Lib.hid hb10; clear hb10)
            go_quiet (fail)
            cases bq with
            | true =>
              obtain rfl : p = k := of_decide_eq_true hbq
              have hk2 : at_ = (m : Int) ∧ ok = true := by
                rcases HFIN.out with ⟨h1, i, hi, h2, h3⟩ | ⟨h1, h2, h3⟩
                · have := ksrt_inj HKS.out hi (by omega) (h3.trans HP.out.symm)
                  subst this
                  exact ⟨h2, h1⟩
                · exact absurd HP.out (h3 m (by omega))
              obtain ⟨rfl, rfl⟩ := hk2
              go_wp2_with fail
              go_ret
              exact ⟨rfl, by rw [HCB.out]; exact HB09.out.trans ((HBW.out.trans ((below_drewN HB10.out _).mono HBW.out.size)).mono hsz9)⟩
            | false =>
              have hpk : p ≠ k := of_decide_eq_false hbq
              have HPK := Lib.hid hpk
              clear hpk hbq
              go_wp2_with fail
              go_roundw
              case rel => exact ⟨m + 1, by omega, by go_num, fun j hj h => by
                rcases Nat.lt_or_ge j m with h1 | h1
                · exact HNE.out j hj h1
                · obtain rfl : j = m := by omega
                  rw [HP.out]; exact HPK.out, HBW.out.trans ((below_drewN HB10.out _).mono HBW.out.size)⟩
              case measure => simp [intOf]; omega
          · have j3 : decide ((m : Int) < (l.length : Int)) = false := decide_eq_false (by omega)
            have hk2 : at_ = 0 ∧ ok = false := by
              rcases HFIN.out with ⟨h1, i, hi, h2, h3⟩ | ⟨h1, h2, h3⟩
              · exact absurd h3 (HNE.out i hi (by omega))
              · exact ⟨h2, h1⟩
            obtain ⟨rfl, rfl⟩ := hk2
            go_wp2_with fail
            go_ret
            exact ⟨rfl, by rw [HCB.out]; exact HB09.out.trans (HBW.out.mono hsz9)⟩
      · have i4 : decide (0 ≤ t) = false := decide_eq_false h1
        clear h1 i3
        go_upto_region 15 with (go_at_call 21; refine (vlen_is HV8.out).mono ?_; rintro e w' ⟨rfl, rfl⟩)
        refine wp_region_noPanic ?_
        refine wp_region_held_drew (S := (fun (w' : World) => 0 ≤ w'.heap.size)) (by kernel_rfl) ?_ (fun hHeld => ?_)
        · exact Nat.zero_le _
        refine wpAnyH_take (i := 0) (v := ?_) rfl (by kernel_rfl) (by kernel_rfl) (by kernel_rfl) (fun _ _ _ h => h) (Or.inl ⟨by kernel_rfl, ?_⟩) hHeld ?_
        rotate_left
        · (intro w hSw; (try dsimp only at hSw); go_simp; try with_reducible rfl)
        try simp only [Act.put, List.setIfInBounds_toArray, List.set_cons_zero, List.set_cons_succ]
        refine wpAnyH_take (i := 1) (v := ?_) rfl (by kernel_rfl) (by kernel_rfl) (by kernel_rfl) (fun _ _ _ h => h) (Or.inl ⟨by kernel_rfl, ?_⟩) hHeld ?_
        rotate_left
        · (intro w hSw; (try dsimp only at hSw); go_simp; try with_reducible rfl)
        try simp only [Act.put, List.setIfInBounds_toArray, List.set_cons_zero, List.set_cons_succ]
        refine wpAnyH_take (i := 2) (v := ?_) rfl (by kernel_rfl) (by kernel_rfl) (by kernel_rfl) (fun _ _ _ h => h) (Or.inl ⟨by kernel_rfl, ?_⟩) hHeld ?_
        rotate_left
        · (intro w hSw; (try dsimp only at hSw); go_simp; try with_reducible rfl)
        try simp only [Act.put, List.setIfInBounds_toArray, List.set_cons_zero, List.set_cons_succ]
        refine wpAnyH_take (i := 3) (v := undef) rfl (by kernel_rfl) (by kernel_rfl) (by kernel_rfl) (fun _ _ _ h => h) (Or.inr ⟨by kernel_rfl, rfl⟩) hHeld ?_
        try simp only [Act.put, List.setIfInBounds_toArray, List.set_cons_zero, List.set_cons_succ]
        refine wpAnyH_take (i := 4) (v := undef) rfl (by kernel_rfl) (by kernel_rfl) (by kernel_rfl) (fun _ _ _ h => h) (Or.inr ⟨by kernel_rfl, rfl⟩) hHeld ?_
        try simp only [Act.put, List.setIfInBounds_toArray, List.set_cons_zero, List.set_cons_succ]
        refine wpAnyH_take (i := 5) (v := undef) rfl (by kernel_rfl) (by kernel_rfl) (by kernel_rfl) (fun _ _ _ h => h) (Or.inr ⟨by kernel_rfl, rfl⟩) hHeld ?_
        try simp only [Act.put, List.setIfInBounds_toArray, List.set_cons_zero, List.set_cons_succ]
        refine wpAnyH_take (i := 6) (v := undef) rfl (by kernel_rfl) (by kernel_rfl) (by kernel_rfl) (fun _ _ _ h => h) (Or.inr ⟨by kernel_rfl, rfl⟩) hHeld ?_
        try simp only [Act.put, List.setIfInBounds_toArray, List.set_cons_zero, List.set_cons_succ]
        refine wpAnyH_take (i := 7) (v := undef) rfl (by kernel_rfl) (by kernel_rfl) (by kernel_rfl) (fun _ _ _ h => h) (Or.inr ⟨by kernel_rfl, rfl⟩) hHeld ?_
        try simp only [Act.put, List.setIfInBounds_toArray, List.set_cons_zero, List.set_cons_succ]
        refine wpAnyH_take (i := 8) (v := undef) rfl (by kernel_rfl) (by kernel_rfl) (by kernel_rfl) (fun _ _ _ h => h) (Or.inr ⟨by kernel_rfl, rfl⟩) hHeld ?_
        try simp only [Act.put, List.setIfInBounds_toArray, List.set_cons_zero, List.set_cons_succ]
        refine wpAnyH_take (i := 9) (v := undef) rfl (by kernel_rfl) (by kernel_rfl) (by kernel_rfl) (fun _ _ _ h => h) (Or.inr ⟨by kernel_rfl, rfl⟩) hHeld ?_
        try simp only [Act.put, List.setIfInBounds_toArray, List.set_cons_zero, List.set_cons_succ]
        refine wpAnyH_take (i := 10) (v := ?_) rfl (by kernel_rfl) (by kernel_rfl) (by kernel_rfl) (fun _ _ _ h => h) (Or.inl ⟨by kernel_rfl, ?_⟩) hHeld ?_
        rotate_left
        · (intro w hSw; (try dsimp only at hSw); go_simp; try with_reducible rfl)
        try simp only [Act.put, List.setIfInBounds_toArray, List.set_cons_zero, List.set_cons_succ]
        refine wpAnyH_done (by kernel_rfl) ?_ _
        clear hHeld
        try simp only [List.getElem_toArray, List.getElem_cons_zero, List.getElem_cons_succ, Act.put, List.setIfInBounds_toArray, List.set_cons_zero, List.set_cons_succ]
        refine NoPanic.normal ?_
        clear i4
        have HB9 : Hid (Below w8.heap.size w8 w8.drew) := Lib.hid (Below.refl _ _).drew
        generalize w8.drew = w9 at *
        replace Y0 := Lib.hid ((HB9.out.cell (p := ⟨db, 0, none⟩) hd8).trans Y0.out)
        replace Y1 := Lib.hid ((HB9.out.cell (p := ⟨db, 1, none⟩) hd8).trans Y1.out)
        replace Y2 := Lib.hid ((HB9.out.cell (p := ⟨db, 2, none⟩) hd8).trans Y2.out)
        replace Y3 := Lib.hid ((HB9.out.cell (p := ⟨db, 3, none⟩) hd8).trans Y3.out)
        have hd9 : db < w9.heap.size := Nat.lt_of_lt_of_le hd8 HB9.out.size
        have HV9 := Lib.hid (HV8.out.next HB9.out)
        have HLR9 := Lib.hid (RdAc.next HLR8.out HB9.out)
        have HB09 := Lib.hid (HB08.out.trans (HB9.out.mono hsz8))
        have hsz9 : cb ≤ w9.heap.size := Nat.le_trans hsz8 HB9.out.size
        clear HV8 HLR8 HB08 HB9 hd8 hsz8 hq8 A0 A1 A2 A3 A4 A5
        have H0 : Hid (BLoop l k w9 (.int .i64 (0 : Nat)) w9) := Lib.hid ⟨0, Nat.zero_le _, rfl, fun j _ h => by omega, Below.refl _ _⟩
        go_upto_region 18 with (fail)
        go_loopw [18] (fun i wr => BLoop l k w9 i wr) (fun i _ => l.length - (intOf i).toNat)
        case atStart => exact H0.out
        case round =>
          clear H0
          obtain ⟨m, hml, rfl, hne, hbw⟩ := hrel
          have HBW := Lib.hid hbw
          have HNE := Lib.hid hne
          clear hbw hne
          by_cases hm : m < l.length
          · have j1 : (0 : Int) ≤ (m : Int) := by omega
            have j2 : (m : Int) < (l.length : Int) := by omega
            have j3 : decide ((m : Int) < (l.length : Int)) = true := decide_eq_true j2
            obtain ⟨b, o, u1, u2, hbe, hbr, n1, n2, x0, x1, x2, x3, x4, x5⟩ := RdAc.piece (RdAc.next HLR9.out HBW.out) hm
            subst hbe
            clear n1 n2 x4 x5
            obtain ⟨p, hp⟩ : ∃ p, l[m].key = p := ⟨_, rfl⟩
            rw [hp] at x0 x1 x2 x3
            have HP := Lib.hid hp
            have FA := Lib.hid (find_at (m := m) (p := p) (HV9.out.next HBW.out) HVO.out HKS.out hm hp)
            unfold kyV at FA
            have y0 := (HBW.out.cell (p := ⟨db, 0, none⟩) hd9).trans Y0.out
            have y1 := (HBW.out.cell (p := ⟨db, 1, none⟩) hd9).trans Y1.out
            have y2 := (HBW.out.cell (p := ⟨db, 2, none⟩) hd9).trans Y2.out
            have y3 := (HBW.out.cell (p := ⟨db, 3, none⟩) hd9).trans Y3.out
            have hdr : db < wr.heap.size := Nat.lt_of_lt_of_le hd9 HBW.out.size
            obtain ⟨bq, hbq⟩ : ∃ bq, decide (p = k) = bq := ⟨_, rfl⟩
            have he := fun W => eqlKy p k bq hbq W
            have hg := guardKy
            unfold kyV at he
            clear hp
            go_upto_region 23 with (go_at_call 20; refine (FA.out).mono ?_; rintro e w10 ⟨rfl, hb10⟩; obtain ⟨hc10, hf10⟩ := bcell hb10; have HB10 := Lib.hid hb10; clear hb10)
            go_quiet (fail)
            cases bq with
            | true =>
              obtain rfl : p = k := of_decide_eq_true hbq
              have hk2 : at_ = (m : Int) ∧ ok = true := by
                rcases HFIN.out with ⟨h1, i, hi, h2, h3⟩ | ⟨h1, h2, h3⟩
                · have := ksrt_inj HKS.out hi (by omega) (h3.trans HP.out.symm)
                  subst this
                  exact ⟨h2, h1⟩
                · exact absurd HP.out (h3 m (by omega))
              obtain ⟨rfl, rfl⟩ := hk2
              go_wp2_with fail
              go_ret
              exact ⟨rfl, by rw [HCB.out]; exact HB09.out.trans ((HBW.out.trans ((below_drewN HB10.out _).mono HBW.out.size)).mono hsz9)⟩
            | false =>
              have hpk : p ≠ k := of_decide_eq_false hbq
              have HPK := Lib.hid hpk
              clear hpk hbq
              go_wp2_with fail
              go_roundw
              case rel => exact ⟨m + 1, by omega, by go_num, fun j hj h => by
                rcases Nat.lt_or_ge j m with h1 | h1
                · exact HNE.out j hj h1
                · obtain rfl : j = m := by omega
                  rw [HP.out]; exact HPK.out, HBW.out.trans ((below_drewN HB10.out _).mono HBW.out.size)⟩
              case measure => simp [intOf]; omega
          · have j3 : decide ((m : Int) < (l.length : Int)) = false := decide_eq_false (by omega)
            have hk2 : at_ = 0 ∧ ok = false := by
              rcases HFIN.out with ⟨h1, i, hi, h2, h3⟩ | ⟨h1, h2, h3⟩
              · exact absurd h3 (HNE.out i hi (by omega))
              · exact ⟨h2, h1⟩
            obtain ⟨rfl, rfl⟩ := hk2
            go_wp2_with fail
            go_ret
            exact ⟨rfl, by rw [HCB.out]; exact HB09.out.trans (HBW.out.mono hsz9)⟩
  · have HB4 := Lib.hid hb4
    have HLR4 := Lib.hid (RdAc.next HLR3.out hb4)
    have HU4 := Lib.hid (HU3.out.next hb4 HU3.out.1)
    obtain ⟨E, hE⟩ : ∃ E, bldR [] l = E := ⟨_, rfl⟩
    rw [hE] at hbad ⊢
    have HE := Lib.hid hE
    have n1 : (E == 0) = false := by rw [beq_eq_false_iff_ne]; exact hbad
    have n2 : (E != 0) = true := by rw [bne_iff_ne]; exact hbad
    have n3 : (E != E) = false := by simp
    clear hb4 hE
    go_wp2_with (first
      | (go_at_call 10; refine (build_nil).mono ?_; rintro e w5 ⟨rfl, hw5⟩; subst hw5)
      | (go_at_call 11; refine (rcheck_is HLR4.out HU4.out HAR.out (by omega)).mono ?_; rintro e w5 ⟨rfl, hb5⟩; rw [HE.out]; have HB5 := Lib.hid hb5; clear hb5))
    go_ret
    exact ⟨rfl, by rw [HCB.out]; exact HB03.out.trans ((HB4.out.trans (HB5.out.mono HB4.out.size)).mono HSZ.out)⟩
end Go.Proofs.YtobkmkplhbaepaaDoor
