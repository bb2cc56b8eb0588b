/- Walks and plain facts, packed: W85. -/
import Derived.Lib.MinMax
import Derived.Test.YtamjllakfgphnaaGreatDoorZA7
set_option linter.unusedSimpArgs false
set_option linter.unusedVariables false
namespace Go.Proofs.YtamjllakfgphnaaGreatDoor
open Go.RowKit
attribute [local go_sem ↓] Go.wp_at_zero Go.wp_at_succ
def a54C (a : A54) : List Value := [.int .u8 a.wait, .int .u8 a.who, .int .u8 a.reads, .int .u8 a.writes, .string (bs a.value), .bool a.absent]
theorem a54C_len (a : A54) : (a54C a).length = 6 := rfl
def A54R (a : A54) : Prop := 0 ≤ a.wait ∧ 0 ≤ a.who ∧ 0 ≤ a.reads ∧ 0 ≤ a.writes ∧ a.wait < 256 ∧ a.who < 256
def A54At (B : Nat) (w : World) (v : Value) (l : List A54) : Prop := Ra B w v l.length (l.flatMap a54C) ∧ ∀ a ∈ l, A54R a
theorem A54At.below {B : Nat} {w w' : World} {v : Value} {l : List A54} (h : A54At B w v l) (hb : Below B w w') : A54At B w' v l := ⟨h.1.below hb, h.2⟩
theorem A54At.piece {B : Nat} {w : World} {A : Option Addr} {n c : Nat} {l : List A54} (h : A54At B w (.slice A n c) l) {k : Nat} (hk : k < l.length) : ∃ b o, A = some ⟨b, o, none⟩ ∧ b < B ∧
    w.cell? ⟨b, o + k * 6, none⟩ = some (.int .u8 l[k].wait) ∧ w.cell? ⟨b, o + k * 6 + 1, none⟩ = some (.int .u8 l[k].who) ∧ w.cell? ⟨b, o + k * 6 + 2, none⟩ = some (.int .u8 l[k].reads) ∧ w.cell? ⟨b, o + k * 6 + 3, none⟩ = some (.int .u8 l[k].writes) ∧ w.cell? ⟨b, o + k * 6 + 4, none⟩ = some (.string (bs l[k].value)) ∧ w.cell? ⟨b, o + k * 6 + 5, none⟩ = some (.bool l[k].absent) := by
  obtain ⟨b, o, c', hv, _, _, hb, hc⟩ := h.1.at_ (by omega)
  injection hv with hv _ _
  have hg := fun j v (hj : j < 6) (hv : (a54C l[k])[j]? = some v) => hc (k * 6 + j) v ((fm_get a54C_len l k hk j hj).trans hv)
  exact ⟨b, o, hv, hb, hg 0 _ (by omega) rfl, hg 1 _ (by omega) rfl, hg 2 _ (by omega) rfl, hg 3 _ (by omega) rfl, hg 4 _ (by omega) rfl, hg 5 _ (by omega) rfl⟩
theorem A54At.form {B : Nat} {w : World} {v : Value} {l : List A54} (h : A54At B w v l) : ∃ A c, v = .slice A l.length c ∧ l.length ≤ c ∧ c ≤ maxLen := h.1.form
theorem name_at0 (w : World) : (Instr.index 102 (.agg #[.string (bs [50]), .string (bs [50, 46, 49]), .string (bs [51]), .string (bs [49])]) (.int .u8 0)).run Tryz.prog w = .ok (.string (bs [50])) w := by kernel_rfl
theorem name_at1 (w : World) : (Instr.index 102 (.agg #[.string (bs [50]), .string (bs [50, 46, 49]), .string (bs [51]), .string (bs [49])]) (.int .u8 1)).run Tryz.prog w = .ok (.string (bs [50, 46, 49])) w := by kernel_rfl
theorem name_at2 (w : World) : (Instr.index 102 (.agg #[.string (bs [50]), .string (bs [50, 46, 49]), .string (bs [51]), .string (bs [49])]) (.int .u8 2)).run Tryz.prog w = .ok (.string (bs [51])) w := by kernel_rfl
theorem name_at3 (w : World) : (Instr.index 102 (.agg #[.string (bs [50]), .string (bs [50, 46, 49]), .string (bs [51]), .string (bs [49])]) (.int .u8 3)).run Tryz.prog w = .ok (.string (bs [49])) w := by kernel_rfl
def KBx (k : Ky) (W : World) (v : Value) (wx : World) : Prop := ∃ kb, v = .pointer (some ⟨kb, 0, none⟩) ∧ W.heap.size ≤ kb ∧ Blk wx kb 74 #[.int .i64 k.tick, .int .i64 k.cls, .int .i64 k.num, .string (bs k.lin)] ∧ Below W.heap.size W wx
theorem so_own {m : Nat} (hm : m < 4) : OwnE (so54.getD m obT) := by
  have h : m = 0 ∨ m = 1 ∨ m = 2 ∨ m = 3 := by omega
  unfold OwnE
  rcases h with rfl | rfl | rfl | rfl <;> rfl
theorem obs_take {m : Nat} (hm : m < 4) : obs.take (m + 1) = obs.take m ++ [obs.getD m (obT, 0)] := by
  rw [List.take_succ_eq_append_getElem (show m < obs.length from hm), List.getD_eq_getElem?_getD, List.getElem?_eq_getElem (show m < obs.length from hm)]
  rfl
theorem rds_take (s : St) (a : A54) {m d : Nat} {n : Nm} (hm : m < 4) (h1 : (obs.getD m (obT, 0)).2 = d) (h2 : (obs.getD m (obT, 0)).1 = n) : rdsU s a (m + 1) = rdsU s a m ++ (if hasB a.reads d then [rdC s n] else []) := by
  unfold rdsU
  rw [obs_take hm, List.filter_append, List.map_append]
  congr 1
  subst h1 h2
  generalize obs.getD m (obT, 0) = p
  by_cases h : hasB a.reads p.2 = true
  · simp [h]
  · simp [h]
theorem wrs_take (a : A54) {m d : Nat} {n : Nm} (hm : m < 4) (h1 : (obs.getD m (obT, 0)).2 = d) (h2 : (obs.getD m (obT, 0)).1 = n) : wrsU a (m + 1) = wrsU a m ++ (if hasB a.writes d then [wrC a n] else []) := by
  unfold wrsU
  rw [obs_take hm, List.filter_append, List.map_append]
  congr 1
  subst h1 h2
  generalize obs.getD m (obT, 0) = p
  by_cases h : hasB a.writes p.2 = true
  · simp [h]
  · simp [h]
theorem ext_n (l : Bs) (n : Nat) : (bs l).extract 0 n = bs (l.take n) := by
  rw [← bs_of ((bs l).extract 0 n), Lib.extract_data, bs_list]
  simp
theorem ext_m (l : Bs) : (bs l).extract 0 (min ((bs l).size : Int) 6).toNat = bs (l.take 6) := by
  rw [ext_n, bs_size, show (min (l.length : Int) 6).toNat = min 6 l.length by omega, ← List.take_take, List.take_length]
theorem good_ks {b : B54} {n : Nat} (hg : Good b n) : KS b.l := fun k hk => by
  have h1 := hg.app (k + 1) hk
  rw [List.take_succ_eq_append_getElem (show k < b.l.length by omega), appR_snoc (hg.all _ (List.getElem_mem hk)).2.1] at h1
  by_cases h : cmpK (b.l[k]'(by omega)).key (b.l[k + 1]'hk).key < 0
  · exact h
  · rw [if_neg h] at h1
    cases h1
theorem W54_ks (l : List A54) : KS (W54 l) := good_ks (good_W l)
def CRel (c : Nat) (W : World) (v : Value) (wr : World) : Prop := ∃ b : Nat, b ≤ c ∧ v = .int .i64 b ∧ Below W.heap.size W wr
theorem bit_at {m : Nat} (hm : m < 4) : ∃ c, c < 4 ∧ (obs.getD m (obT, 0)).2 = c ∧ (obs.getD m (obT, 0)).1 = so54.getD m obT ∧ ob54.getD c obT = so54.getD m obT ∧ ∀ b, b < c → ob54.getD b obT ≠ so54.getD m obT := by
  have h : m = 0 ∨ m = 1 ∨ m = 2 ∨ m = 3 := by omega
  rcases h with rfl | rfl | rfl | rfl
  · exact ⟨2, by decide, rfl, rfl, by decide +kernel, by decide +kernel⟩
  · exact ⟨3, by decide, rfl, rfl, by decide +kernel, by decide +kernel⟩
  · exact ⟨0, by decide, rfl, rfl, by decide +kernel, by decide +kernel⟩
  · exact ⟨1, by decide, rfl, rfl, by decide +kernel, by decide +kernel⟩
def JRel (a : A54) (now : St) (ky : Ky) (xb : Nat) (W : World) (v : Value) (wr : World) : Prop := ∃ (m : Nat) (rv wv : Value), m ≤ 4 ∧ v = .int .i64 m ∧ Blk wr xb 77 #[.int .i64 ky.tick, .int .i64 ky.cls, .int .i64 ky.num, .string (bs ky.lin), rv, wv] ∧ OwnP 105 7 chC wr W.heap.size rv (rdsU now a m) ∧ OwnP 105 7 chC wr W.heap.size wv (wrsU a m) ∧ Apart rv wv ∧ Below xb W wr
def B54P (l : List A54) (w : World) (e : Ending) (w' : World) : Prop := ∃ pb lv gx gg F B', e = .returned (.tuple #[.agg #[.pointer pb, lv, .pointer (some ⟨gx, 0, none⟩), .pointer (some ⟨gg, 0, none⟩)], .bool true]) ∧ StAt w' pb base54 ∧ RdAc w' lv (W54 l) ∧ VAt w' F gx base54 (W54 l) ∧ GAt w' B' gg (W54 l) ∧ (∀ i, F i → w.heap.size ≤ i) ∧ Below w.heap.size w w'
def B54Rel (l : List A54) (B0 rb wb : Nat) (W : World) (v5 v6 v7 v8 : Value) (wr : World) : Prop := ∃ (k : Nat) (q pb : Option Addr) (lv : Value), k ≤ l.length ∧ k ≤ 20 ∧ v8 = .int .i64 k ∧ v7 = .int .i64 (fold54 (l.take k)).inp ∧ v6 = .int .i64 (fold54 (l.take k)).tick ∧ v5 = .pointer q ∧ StAt wr q (fold54 (l.take k)).now ∧ StAt wr pb base54 ∧ OwnAc wr B0 lv (fold54 (l.take k)).l ∧ Blk wr wb 49 #[.pointer pb, lv, .pointer none, .pointer none] ∧ Blk wr rb 49 #[.pointer none, .slice none 0 0, .pointer none, .pointer none] ∧ Below B0 W wr
set_option maxRecDepth 100000 in
set_option maxHeartbeats 16000000 in
theorem build54_is {w : World} {v : Value} {l : List A54} (h : A54At w.heap.size w v l) (hu : UseAt w) : Calls Tryz.prog 13 #[v] w (B54P l w) := by
  obtain ⟨A, c, rfl, hc, hcm⟩ := h.form
  have hlm : l.length ≤ 9223372036854775807 := by unfold maxLen at hcm; omega
  have zr0 := (Blk.new w 49 #[.pointer none, .slice none 0 0, .pointer none, .pointer none]).next ((Below.refl (w.alloc (.cells #[.pointer none, .slice none 0 0, .pointer none, .pointer none] 49)).heap.size (w.alloc (.cells #[.pointer none, .slice none 0 0, .pointer none, .pointer none] 49))).alloc (Nat.le_refl _) (.cells #[.pointer none, .slice none 0 0, .pointer none, .pointer none] 49)) (by simp)
  have zw0 := Blk.new (w.alloc (.cells #[.pointer none, .slice none 0 0, .pointer none, .pointer none] 49)) 49 #[.pointer none, .slice none 0 0, .pointer none, .pointer none]
  rw [World.size_alloc] at zw0
  have ha := ((Below.refl w.heap.size w).alloc (Nat.le_refl _) (.cells #[.pointer none, .slice none 0 0, .pointer none, .pointer none] 49)).alloc (by simp) (.cells #[.pointer none, .slice none 0 0, .pointer none, .pointer none] 49)
  have HA := Lib.hid h
  have HU0 := Lib.hid hu
  have HU := Lib.hid (hu.below ha)
  have HB0 := Lib.hid ha
  have ZR0 := Lib.hid zr0
  have ZW0 := Lib.hid zw0
  clear h hu ha zr0 zw0 hc hcm
  go_enter Tryz.func13, Tryz.ntmps13
  go_upto_region 2 with (fail)
  generalize (w.alloc (.cells #[.pointer none, .slice none 0 0, .pointer none, .pointer none] 49)).alloc (.cells #[.pointer none, .slice none 0 0, .pointer none, .pointer none] 49) = W at *
  obtain ⟨wb, hwb⟩ : ∃ x, w.heap.size + 1 = x := ⟨_, rfl⟩
  have HWB := Lib.hid hwb
  rw [hwb] at ZW0 ⊢
  obtain ⟨rb, hrb⟩ : ∃ x, w.heap.size = x := ⟨_, rfl⟩
  have HRB := Lib.hid hrb
  rw [hrb] at ZR0 HB0 ⊢
  clear hwb hrb
  go_wp2_with (go_at_call 34; refine (new_is _).mono ?_)
  rintro e w1 ⟨p0, rfl, hp0, hb1⟩
  have HP0 := Lib.hid hp0
  have HB1 := Lib.hid hb1
  clear hp0 hb1
  go_wp2_with (go_at_call 36; refine (box_is [98] _).mono ?_)
  rintro e w2 ⟨rfl, hb2⟩
  have HB2 := Lib.hid (HB1.out.trans (hb2.mono HB1.out.size))
  have HP2 := Lib.hid (HP0.out.next hb2)
  clear hb2 HB1 HP0
  go_wp2_with fail
  refine (with_st (n := obB) (v := [98, 97, 115, 101]) HP2.out (by unfold IsOb; decide +kernel) (HU.out.below HB2.out) (by simp) st0_v.sm).mono ?_
  rintro e w3 ⟨q0, rfl, hq0, hb3⟩
  have HB3 := Lib.hid (HB2.out.trans (hb3.mono HB2.out.size))
  have HQ0 := Lib.hid (show StAt w3 q0 base54 from hq0)
  have ZW3 := Lib.hid (ZW0.out.next HB3.out ZW0.out.lt)
  have ZR3 := Lib.hid (ZR0.out.next HB3.out ZR0.out.lt)
  have x0 := ZW3.out.cell 0
  have f0 := ZW3.out.frozen 0
  simp only [qB, qC, qD] at x0
  clear hq0 hb3 HP2 HB2
  go_upto_region 3 with (fail)
  have hg3 : w3.grownBy (w3.setCell ⟨wb, 0, none⟩ (.pointer q0)) (some wb) := only_setCell (only_of_below (Below.refl _ _) _) (.inl rfl) _
  have k3 : Kept [49] w3 (w3.setCell ⟨wb, 0, none⟩ (.pointer q0)) := Kept.of_blk _ ZW3.out hg3 rfl
  have HQ4 := Lib.hid (HQ0.out.keep k3 rfl rfl)
  have ZW4 : Hid (Blk (w3.setCell ⟨wb, 0, none⟩ (.pointer q0)) wb 49 #[.pointer q0, .slice none 0 0, .pointer none, .pointer none]) := Lib.hid (ZW3.out.set_ 0 (.pointer q0))
  have ZR4 := Lib.hid (ZR3.out.far (p := ⟨wb, 0, none⟩) (show rb ≠ wb by have := HWB.out; have := HRB.out; omega) (.pointer q0))
  have HB4 : Hid (Below rb w (w3.setCell ⟨wb, 0, none⟩ (.pointer q0))) := Lib.hid ((HB0.out.trans (HB3.out.mono (by have := HB0.out.size; have := HRB.out; omega))).setCell (p := ⟨wb, 0, none⟩) (by have := HWB.out; have := HRB.out; show rb ≤ wb; omega) _)
  clear x0 f0 hg3 k3 HQ0 ZW3 ZR3 HB3 ZR0 ZW0
  generalize w3.setCell ⟨wb, 0, none⟩ (.pointer q0) = w4 at *
  have x0 := ZW4.out.cell 0
  simp only [qB, qC, qD] at x0
  have H0 : Hid (B54Rel l rb rb wb w (.pointer q0) (.int .i64 0) (.int .i64 0) (.int .i64 (0 : Nat)) w4) := Lib.hid ⟨0, q0, q0, .slice none 0 0, Nat.zero_le _, Nat.zero_le _, rfl, rfl, rfl, rfl, HQ4.out, HQ4.out, RowOwn.nil, ZW4.out, ZR4.out, HB4.out⟩
  go_upto_region 5 with (fail)
  clear x0
  go_loopw [5, 6, 7, 8] (fun v5 v6 v7 v8 wr => B54Rel l rb rb wb w v5 v6 v7 v8 wr) (fun _ _ _ v8 _ => 20 - (intOf v8).toNat)
  case atStart => exact H0.out
  case round =>
    clear H0 ZW4 ZR4 HB4 HQ4
    rw [HRB.out] at HA
    obtain ⟨k, q, pb, lv, hkl, hk20, rfl, rfl, rfl, rfl, hst0, hstb, hac, hzw, hzr, hbw⟩ := hrel
    have HBW := Lib.hid hbw
    clear hbw
    by_cases hk : k < l.length
    · by_cases hk2 : k < 20
      · have HK2 := Lib.hid hk2
        have j1 : (0 : Int) ≤ (k : Int) := by omega
        have j2 : (k : Int) < (l.length : Int) := by omega
        have j3 : decide ((k : Int) < (l.length : Int)) = true := decide_eq_true j2
        have j4 : decide ((k : Int) < 20) = true := decide_eq_true (by omega)
        obtain ⟨ba, oa, hAe, hba, y0, y1, y2, y3, y4, y5⟩ := A54At.piece (HA.out.below HBW.out) hk
        subst hAe
        have HGD := Lib.hid (good_fold l k (by omega) (by omega))
        have HST := Lib.hid (fold54_take l k hk)
        have har := HA.out.2 _ (List.getElem_mem hk)
        obtain ⟨a, hae⟩ : ∃ a, l[k] = a := ⟨_, rfl⟩
        rw [hae] at y0 y1 y2 y3 y4 y5 har HST
        clear hae
        obtain ⟨b, hb⟩ : ∃ b, fold54 (l.take k) = b := ⟨_, rfl⟩
        rw [hb] at HGD HST hst0 hac ⊢
        clear hb
        obtain ⟨hw0, hwt⟩ : 0 ≤ a.who ∧ 0 ≤ a.wait := ⟨har.2.1, har.1⟩
        have em2 : Int.tmod a.wait 2 = a.wait % 2 := Int.tmod_eq_emod_of_nonneg hwt
        have em21 : 0 ≤ a.wait % 2 := Int.emod_nonneg _ (by decide)
        have em22 : a.wait % 2 < 2 := Int.emod_lt_of_pos _ (by decide)
        have ht0 : 0 ≤ b.tick := HGD.out.t0
        have ht1 : b.tick ≤ 40 := by have := HGD.out.t1; omega
        have hi0 : 0 ≤ b.inp := HGD.out.i0
        have hi1 : b.inp ≤ 20 := by have := HGD.out.i1; omega
        obtain ⟨tkv, htk⟩ : ∃ t, b.tick = t := ⟨_, rfl⟩
        obtain ⟨ip, hip⟩ : ∃ t, b.inp = t := ⟨_, rfl⟩
        rw [htk] at ht0 ht1 ⊢
        rw [hip] at hi0 hi1 ⊢
        have HTK := Lib.hid htk
        have HIP := Lib.hid hip
        have HS0 := Lib.hid hst0
        have HSB := Lib.hid hstb
        have HAC := Lib.hid hac
        have HZW := Lib.hid hzw
        have HZR := Lib.hid hzr
        clear htk hip hst0 hstb hac hzw hzr har
        go_upto_region 8 with (fail)
        have hbb := (Below.refl wr.heap.size wr).alloc (Nat.le_refl _) (.cells #[.int .u8 a.wait, .int .u8 a.who, .int .u8 a.reads, .int .u8 a.writes, .string (bs a.value), .bool a.absent] 93)
        have ZA := Lib.hid (Blk.new wr 93 #[.int .u8 a.wait, .int .u8 a.who, .int .u8 a.reads, .int .u8 a.writes, .string (bs a.value), .bool a.absent])
        have HS1 := Lib.hid (HS0.out.next hbb)
        have HSB1 := Lib.hid (HSB.out.next hbb)
        have HAC1 := Lib.hid (OwnAc.next HAC.out hbb)
        have HZW1 := Lib.hid (HZW.out.next hbb HZW.out.lt)
        have HZR1 := Lib.hid (HZR.out.next hbb HZR.out.lt)
        have HBW1 := Lib.hid (HBW.out.trans (hbb.mono (HRB.out ▸ HBW.out.size)))
        clear y0 y1 y2 y3 y4 y5 hbb HS0 HSB HAC HZW HZR HBW hba
        generalize wr.alloc (.cells #[.int .u8 a.wait, .int .u8 a.who, .int .u8 a.reads, .int .u8 a.writes, .string (bs a.value), .bool a.absent] 93) = W5 at *
        obtain ⟨ab, habe⟩ : ∃ ab, wr.heap.size = ab := ⟨_, rfl⟩
        rw [habe] at ZA ⊢
        clear habe
        have x0 := ZA.out.cell 0
        have x1 := ZA.out.cell 1
        simp only [qB, qC, qD] at x0 x1
        have hab := ZA.out.lt
        go_upto_region 9 with (fail)
        obtain ⟨T, hT⟩ : ∃ T, tkv + 1 + a.wait % 2 = T := ⟨_, rfl⟩
        rw [hT]
        have HT := Lib.hid hT
        clear hT x0 em2 em21 em22 hwt
        go_cut [10] (fun v wx => KBx ⟨T, 2, 0, lin4 (a.who % 4)⟩ W5 v wx)
        case first =>
          have h4 : a.who % 4 = 0 ∨ a.who % 4 = 1 ∨ a.who % 4 = 2 ∨ a.who % 4 = 3 := by omega
          rcases h4 with h4 | h4 | h4 | h4
          · have em4 : Int.tmod a.who 4 = 0 := by rw [Int.tmod_eq_emod_of_nonneg hw0]; exact h4
            have hix := name_at0
            have HL4 := Lib.hid (show lin4 (a.who % 4) = [50] by rw [h4]; rfl)
            clear h4
            refine wp_region_noPanic ?_
            refine wp_region_last (S := (fun (w' : World) => w'.cell? ⟨ab, 1, none⟩ = some (.int .u8 a.who))) 8 8 rfl (by kernel_rfl) (by kernel_rfl) ?_ (fun hHeld => ?_)
            · exact x1
            refine tk (v := ?_) 0 rfl (by kernel_rfl) (fun _ _ _ h => h) ?_ hHeld ?_; rotate_left
            · (intro w h; (try dsimp only at h); go_simp; try with_reducible rfl)
            try simp only [Act.put, pB, pC, pD]
            refine tk (v := ?_) 2 rfl (by kernel_rfl) (fun _ _ _ h => h) ?_ hHeld ?_; rotate_left
            · (intro w h; (try dsimp only at h); go_simp; try with_reducible rfl)
            try simp only [Act.put, pB, pC, pD]
            refine tk (v := ?_) 3 rfl (by kernel_rfl) (fun _ _ _ h => h) ?_ hHeld ?_; rotate_left
            · (intro w h; (try dsimp only at h); go_simp; try with_reducible rfl)
            try simp only [Act.put, pB, pC, pD]
            refine tk (v := ?_) 4 rfl (by kernel_rfl) (fun _ _ _ h => h) ?_ hHeld ?_; rotate_left
            · (intro w h; (try dsimp only at h); go_simp; try with_reducible rfl)
            try simp only [Act.put, pB, pC, pD]
            refine wpAnyH_ready (rs := [1, 7]) (by kernel_rfl) (by simp) ?_
            refine AllReadyH.cons rfl (fun K hK => ?_) (AllReadyH.cons rfl (fun K hK => ?_) AllReadyH.nil)
            · go_simp
              refine (names54_is W5.drew).mono ?_; rintro e w6 ⟨rfl, hb6'⟩; unfold names54; have hb6 := (Below.refl W5.heap.size W5).drew.trans hb6'; have HB6 := Lib.hid hb6; have hab6 := Nat.lt_of_lt_of_le hab hb6.size; clear hb6'
              try (go_wp2_with fail)
              refine hK.out _ _ ?_ (fun hNew => ?_)
              · exact (hb6.cell (p := ⟨ab, 1, none⟩) hab).trans x1
              clear hK K hHeld; have hHeld := hNew; clear hNew; try simp only [Act.put, pB, pC, pD]
              refine tk (v := ?_) 5 rfl (by kernel_rfl) (fun _ _ _ h => h) ?_ hHeld ?_; rotate_left
              · (intro w h; (try dsimp only at h); go_simp; try with_reducible rfl)
              try simp only [Act.put, pB, pC, pD]
              refine tk (v := ?_) 6 rfl (by kernel_rfl) (fun _ _ _ h => h) ?_ hHeld ?_; rotate_left
              · (intro w h; (try dsimp only at h); go_simp; try with_reducible rfl)
              try simp only [Act.put, pB, pC, pD]
              refine wpAnyH_ready (rs := [7]) (by kernel_rfl) (by simp) ?_
              refine AllReadyH.cons rfl (fun K hK => ?_) AllReadyH.nil
              go_simp
              refine hK.out _ _ ?_ (fun hNew => ?_)
              · exact (World.cell?_alloc_lt w6 _ _ hab6).trans ((hb6.cell (p := ⟨ab, 1, none⟩) hab).trans x1)
              clear hK K hHeld; have hHeld := hNew; clear hNew; try simp only [Act.put, pB, pC, pD]
              refine wpAnyH_done (by kernel_rfl) ?_ _
              refine lastQ_step rfl (fun K hK => ?_)
              clear hHeld
              go_simp
              refine hK _ _ ?_
              clear hK K
              refine NoPanic.normal ?_
              go_wp2_with fail
              go_meet
              case rel => rw [HL4.out]; exact ⟨w6.heap.size, rfl, HB6.out.size, Blk.new _ _ _, HB6.out.alloc HB6.out.size _⟩
            · go_simp
              refine hK.out _ _ ?_ (fun hNew => ?_)
              · exact (World.cell?_alloc_lt W5 _ _ hab).trans x1
              clear hK K hHeld; have hHeld := hNew; clear hNew; try simp only [Act.put, pB, pC, pD]
              refine wpAnyH_ready (rs := [1]) (by kernel_rfl) (by simp) ?_
              refine AllReadyH.cons rfl (fun K hK => ?_) AllReadyH.nil
              go_simp
              have hbx := ((Below.refl W5.heap.size W5).alloc (Nat.le_refl _) (.cells #[.int .i64 0, .int .i64 0, .int .i64 0, .string ⟨#[]⟩] 74)).drew; have zq := Blk.new W5 74 #[.int .i64 0, .int .i64 0, .int .i64 0, .string ⟨#[]⟩]; refine (names54_is _).mono ?_; rintro e w6 ⟨rfl, hb6'⟩; unfold names54; have hb6 := hbx.trans (hb6'.mono hbx.size); have HB6 := Lib.hid hb6; have ZQ := Lib.hid (zq.drew.next hb6' zq.lt); have q0 := ZQ.out.cell 0; have p0 := ZQ.out.frozen 0; have q1 := ZQ.out.cell 1; have p1 := ZQ.out.frozen 1; have q2 := ZQ.out.cell 2; have p2 := ZQ.out.frozen 2; have q3 := ZQ.out.cell 3; have p3 := ZQ.out.frozen 3; (simp only [qB, qC, qD] at q0 q1 q2 q3); clear hb6' hbx zq
              try (go_wp2_with fail)
              refine hK.out _ _ ?_ (fun hNew => ?_)
              · exact (hb6.cell (p := ⟨ab, 1, none⟩) hab).trans x1
              clear hK K hHeld; have hHeld := hNew; clear hNew; try simp only [Act.put, pB, pC, pD]
              refine tk (v := ?_) 5 rfl (by kernel_rfl) (fun _ _ _ h => h) ?_ hHeld ?_; rotate_left
              · (intro w h; (try dsimp only at h); go_simp; try with_reducible rfl)
              try simp only [Act.put, pB, pC, pD]
              refine tk (v := ?_) 6 rfl (by kernel_rfl) (fun _ _ _ h => h) ?_ hHeld ?_; rotate_left
              · (intro w h; (try dsimp only at h); go_simp; try with_reducible rfl)
              try simp only [Act.put, pB, pC, pD]
              refine wpAnyH_done (by kernel_rfl) ?_ _
              refine lastQ_step rfl (fun K hK => ?_)
              clear hHeld
              go_simp
              refine hK _ _ ?_
              clear hK K
              refine NoPanic.normal ?_
              go_wp2_with fail
              go_meet
              case rel => rw [HL4.out]; exact ⟨W5.heap.size, rfl, Nat.le_refl _, ((((ZQ.out.set_ 0 (.int .i64 T)).set_ 1 (.int .i64 2)).set_ 2 (.int .i64 0)).set_ 3 (.string (bs [50]))), ((((HB6.out.setCell (p := ⟨W5.heap.size, 0, none⟩) (Nat.le_refl _) _).setCell (p := ⟨W5.heap.size, 1, none⟩) (Nat.le_refl _) _).setCell (p := ⟨W5.heap.size, 2, none⟩) (Nat.le_refl _) _).setCell (p := ⟨W5.heap.size, 3, none⟩) (Nat.le_refl _) _)⟩
          · have em4 : Int.tmod a.who 4 = 1 := by rw [Int.tmod_eq_emod_of_nonneg hw0]; exact h4
            have hix := name_at1
            have HL4 := Lib.hid (show lin4 (a.who % 4) = [50, 46, 49] by rw [h4]; rfl)
            clear h4
            refine wp_region_noPanic ?_
            refine wp_region_last (S := (fun (w' : World) => w'.cell? ⟨ab, 1, none⟩ = some (.int .u8 a.who))) 8 8 rfl (by kernel_rfl) (by kernel_rfl) ?_ (fun hHeld => ?_)
            · exact x1
            refine tk (v := ?_) 0 rfl (by kernel_rfl) (fun _ _ _ h => h) ?_ hHeld ?_; rotate_left
            · (intro w h; (try dsimp only at h); go_simp; try with_reducible rfl)
            try simp only [Act.put, pB, pC, pD]
            refine tk (v := ?_) 2 rfl (by kernel_rfl) (fun _ _ _ h => h) ?_ hHeld ?_; rotate_left
            · (intro w h; (try dsimp only at h); go_simp; try with_reducible rfl)
            try simp only [Act.put, pB, pC, pD]
            refine tk (v := ?_) 3 rfl (by kernel_rfl) (fun _ _ _ h => h) ?_ hHeld ?_; rotate_left
            · (intro w h; (try dsimp only at h); go_simp; try with_reducible rfl)
            try simp only [Act.put, pB, pC, pD]
            refine tk (v := ?_) 4 rfl (by kernel_rfl) (fun _ _ _ h => h) ?_ hHeld ?_; rotate_left
            · (intro w h; (try dsimp only at h); go_simp; try with_reducible rfl)
            try simp only [Act.put, pB, pC, pD]
            refine wpAnyH_ready (rs := [1, 7]) (by kernel_rfl) (by simp) ?_
            refine AllReadyH.cons rfl (fun K hK => ?_) (AllReadyH.cons rfl (fun K hK => ?_) AllReadyH.nil)
            · go_simp
              refine (names54_is W5.drew).mono ?_; rintro e w6 ⟨rfl, hb6'⟩; unfold names54; have hb6 := (Below.refl W5.heap.size W5).drew.trans hb6'; have HB6 := Lib.hid hb6; have hab6 := Nat.lt_of_lt_of_le hab hb6.size; clear hb6'
              try (go_wp2_with fail)
              refine hK.out _ _ ?_ (fun hNew => ?_)
              · exact (hb6.cell (p := ⟨ab, 1, none⟩) hab).trans x1
              clear hK K hHeld; have hHeld := hNew; clear hNew; try simp only [Act.put, pB, pC, pD]
              refine tk (v := ?_) 5 rfl (by kernel_rfl) (fun _ _ _ h => h) ?_ hHeld ?_; rotate_left
              · (intro w h; (try dsimp only at h); go_simp; try with_reducible rfl)
              try simp only [Act.put, pB, pC, pD]
              refine tk (v := ?_) 6 rfl (by kernel_rfl) (fun _ _ _ h => h) ?_ hHeld ?_; rotate_left
              · (intro w h; (try dsimp only at h); go_simp; try with_reducible rfl)
              try simp only [Act.put, pB, pC, pD]
              refine wpAnyH_ready (rs := [7]) (by kernel_rfl) (by simp) ?_
              refine AllReadyH.cons rfl (fun K hK => ?_) AllReadyH.nil
              go_simp
              refine hK.out _ _ ?_ (fun hNew => ?_)
              · exact (World.cell?_alloc_lt w6 _ _ hab6).trans ((hb6.cell (p := ⟨ab, 1, none⟩) hab).trans x1)
              clear hK K hHeld; have hHeld := hNew; clear hNew; try simp only [Act.put, pB, pC, pD]
              refine wpAnyH_done (by kernel_rfl) ?_ _
              refine lastQ_step rfl (fun K hK => ?_)
              clear hHeld
              go_simp
              refine hK _ _ ?_
              clear hK K
              refine NoPanic.normal ?_
              go_wp2_with fail
              go_meet
              case rel => rw [HL4.out]; exact ⟨w6.heap.size, rfl, HB6.out.size, Blk.new _ _ _, HB6.out.alloc HB6.out.size _⟩
            · go_simp
              refine hK.out _ _ ?_ (fun hNew => ?_)
              · exact (World.cell?_alloc_lt W5 _ _ hab).trans x1
              clear hK K hHeld; have hHeld := hNew; clear hNew; try simp only [Act.put, pB, pC, pD]
              refine wpAnyH_ready (rs := [1]) (by kernel_rfl) (by simp) ?_
              refine AllReadyH.cons rfl (fun K hK => ?_) AllReadyH.nil
              go_simp
              have hbx := ((Below.refl W5.heap.size W5).alloc (Nat.le_refl _) (.cells #[.int .i64 0, .int .i64 0, .int .i64 0, .string ⟨#[]⟩] 74)).drew; have zq := Blk.new W5 74 #[.int .i64 0, .int .i64 0, .int .i64 0, .string ⟨#[]⟩]; refine (names54_is _).mono ?_; rintro e w6 ⟨rfl, hb6'⟩; unfold names54; have hb6 := hbx.trans (hb6'.mono hbx.size); have HB6 := Lib.hid hb6; have ZQ := Lib.hid (zq.drew.next hb6' zq.lt); have q0 := ZQ.out.cell 0; have p0 := ZQ.out.frozen 0; have q1 := ZQ.out.cell 1; have p1 := ZQ.out.frozen 1; have q2 := ZQ.out.cell 2; have p2 := ZQ.out.frozen 2; have q3 := ZQ.out.cell 3; have p3 := ZQ.out.frozen 3; (simp only [qB, qC, qD] at q0 q1 q2 q3); clear hb6' hbx zq
              try (go_wp2_with fail)
              refine hK.out _ _ ?_ (fun hNew => ?_)
              · exact (hb6.cell (p := ⟨ab, 1, none⟩) hab).trans x1
              clear hK K hHeld; have hHeld := hNew; clear hNew; try simp only [Act.put, pB, pC, pD]
              refine tk (v := ?_) 5 rfl (by kernel_rfl) (fun _ _ _ h => h) ?_ hHeld ?_; rotate_left
              · (intro w h; (try dsimp only at h); go_simp; try with_reducible rfl)
              try simp only [Act.put, pB, pC, pD]
              refine tk (v := ?_) 6 rfl (by kernel_rfl) (fun _ _ _ h => h) ?_ hHeld ?_; rotate_left
              · (intro w h; (try dsimp only at h); go_simp; try with_reducible rfl)
              try simp only [Act.put, pB, pC, pD]
              refine wpAnyH_done (by kernel_rfl) ?_ _
              refine lastQ_step rfl (fun K hK => ?_)
              clear hHeld
              go_simp
              refine hK _ _ ?_
              clear hK K
              refine NoPanic.normal ?_
              go_wp2_with fail
              go_meet
              case rel => rw [HL4.out]; exact ⟨W5.heap.size, rfl, Nat.le_refl _, ((((ZQ.out.set_ 0 (.int .i64 T)).set_ 1 (.int .i64 2)).set_ 2 (.int .i64 0)).set_ 3 (.string (bs [50, 46, 49]))), ((((HB6.out.setCell (p := ⟨W5.heap.size, 0, none⟩) (Nat.le_refl _) _).setCell (p := ⟨W5.heap.size, 1, none⟩) (Nat.le_refl _) _).setCell (p := ⟨W5.heap.size, 2, none⟩) (Nat.le_refl _) _).setCell (p := ⟨W5.heap.size, 3, none⟩) (Nat.le_refl _) _)⟩
          · have em4 : Int.tmod a.who 4 = 2 := by rw [Int.tmod_eq_emod_of_nonneg hw0]; exact h4
            have hix := name_at2
            have HL4 := Lib.hid (show lin4 (a.who % 4) = [51] by rw [h4]; rfl)
            clear h4
            refine wp_region_noPanic ?_
            refine wp_region_last (S := (fun (w' : World) => w'.cell? ⟨ab, 1, none⟩ = some (.int .u8 a.who))) 8 8 rfl (by kernel_rfl) (by kernel_rfl) ?_ (fun hHeld => ?_)
            · exact x1
            refine tk (v := ?_) 0 rfl (by kernel_rfl) (fun _ _ _ h => h) ?_ hHeld ?_; rotate_left
            · (intro w h; (try dsimp only at h); go_simp; try with_reducible rfl)
            try simp only [Act.put, pB, pC, pD]
            refine tk (v := ?_) 2 rfl (by kernel_rfl) (fun _ _ _ h => h) ?_ hHeld ?_; rotate_left
            · (intro w h; (try dsimp only at h); go_simp; try with_reducible rfl)
            try simp only [Act.put, pB, pC, pD]
            refine tk (v := ?_) 3 rfl (by kernel_rfl) (fun _ _ _ h => h) ?_ hHeld ?_; rotate_left
            · (intro w h; (try dsimp only at h); go_simp; try with_reducible rfl)
            try simp only [Act.put, pB, pC, pD]
            refine tk (v := ?_) 4 rfl (by kernel_rfl) (fun _ _ _ h => h) ?_ hHeld ?_; rotate_left
            · (intro w h; (try dsimp only at h); go_simp; try with_reducible rfl)
            try simp only [Act.put, pB, pC, pD]
            refine wpAnyH_ready (rs := [1, 7]) (by kernel_rfl) (by simp) ?_
            refine AllReadyH.cons rfl (fun K hK => ?_) (AllReadyH.cons rfl (fun K hK => ?_) AllReadyH.nil)
            · go_simp
              refine (names54_is W5.drew).mono ?_; rintro e w6 ⟨rfl, hb6'⟩; unfold names54; have hb6 := (Below.refl W5.heap.size W5).drew.trans hb6'; have HB6 := Lib.hid hb6; have hab6 := Nat.lt_of_lt_of_le hab hb6.size; clear hb6'
              try (go_wp2_with fail)
              refine hK.out _ _ ?_ (fun hNew => ?_)
              · exact (hb6.cell (p := ⟨ab, 1, none⟩) hab).trans x1
              clear hK K hHeld; have hHeld := hNew; clear hNew; try simp only [Act.put, pB, pC, pD]
              refine tk (v := ?_) 5 rfl (by kernel_rfl) (fun _ _ _ h => h) ?_ hHeld ?_; rotate_left
              · (intro w h; (try dsimp only at h); go_simp; try with_reducible rfl)
              try simp only [Act.put, pB, pC, pD]
              refine tk (v := ?_) 6 rfl (by kernel_rfl) (fun _ _ _ h => h) ?_ hHeld ?_; rotate_left
              · (intro w h; (try dsimp only at h); go_simp; try with_reducible rfl)
              try simp only [Act.put, pB, pC, pD]
              refine wpAnyH_ready (rs := [7]) (by kernel_rfl) (by simp) ?_
              refine AllReadyH.cons rfl (fun K hK => ?_) AllReadyH.nil
              go_simp
              refine hK.out _ _ ?_ (fun hNew => ?_)
              · exact (World.cell?_alloc_lt w6 _ _ hab6).trans ((hb6.cell (p := ⟨ab, 1, none⟩) hab).trans x1)
              clear hK K hHeld; have hHeld := hNew; clear hNew; try simp only [Act.put, pB, pC, pD]
              refine wpAnyH_done (by kernel_rfl) ?_ _
              refine lastQ_step rfl (fun K hK => ?_)
              clear hHeld
              go_simp
              refine hK _ _ ?_
              clear hK K
              refine NoPanic.normal ?_
              go_wp2_with fail
              go_meet
              case rel => rw [HL4.out]; exact ⟨w6.heap.size, rfl, HB6.out.size, Blk.new _ _ _, HB6.out.alloc HB6.out.size _⟩
            · go_simp
              refine hK.out _ _ ?_ (fun hNew => ?_)
              · exact (World.cell?_alloc_lt W5 _ _ hab).trans x1
              clear hK K hHeld; have hHeld := hNew; clear hNew; try simp only [Act.put, pB, pC, pD]
              refine wpAnyH_ready (rs := [1]) (by kernel_rfl) (by simp) ?_
              refine AllReadyH.cons rfl (fun K hK => ?_) AllReadyH.nil
              go_simp
              have hbx := ((Below.refl W5.heap.size W5).alloc (Nat.le_refl _) (.cells #[.int .i64 0, .int .i64 0, .int .i64 0, .string ⟨#[]⟩] 74)).drew; have zq := Blk.new W5 74 #[.int .i64 0, .int .i64 0, .int .i64 0, .string ⟨#[]⟩]; refine (names54_is _).mono ?_; rintro e w6 ⟨rfl, hb6'⟩; unfold names54; have hb6 := hbx.trans (hb6'.mono hbx.size); have HB6 := Lib.hid hb6; have ZQ := Lib.hid (zq.drew.next hb6' zq.lt); have q0 := ZQ.out.cell 0; have p0 := ZQ.out.frozen 0; have q1 := ZQ.out.cell 1; have p1 := ZQ.out.frozen 1; have q2 := ZQ.out.cell 2; have p2 := ZQ.out.frozen 2; have q3 := ZQ.out.cell 3; have p3 := ZQ.out.frozen 3; (simp only [qB, qC, qD] at q0 q1 q2 q3); clear hb6' hbx zq
              try (go_wp2_with fail)
              refine hK.out _ _ ?_ (fun hNew => ?_)
              · exact (hb6.cell (p := ⟨ab, 1, none⟩) hab).trans x1
              clear hK K hHeld; have hHeld := hNew; clear hNew; try simp only [Act.put, pB, pC, pD]
              refine tk (v := ?_) 5 rfl (by kernel_rfl) (fun _ _ _ h => h) ?_ hHeld ?_; rotate_left
              · (intro w h; (try dsimp only at h); go_simp; try with_reducible rfl)
              try simp only [Act.put, pB, pC, pD]
              refine tk (v := ?_) 6 rfl (by kernel_rfl) (fun _ _ _ h => h) ?_ hHeld ?_; rotate_left
              · (intro w h; (try dsimp only at h); go_simp; try with_reducible rfl)
              try simp only [Act.put, pB, pC, pD]
              refine wpAnyH_done (by kernel_rfl) ?_ _
              refine lastQ_step rfl (fun K hK => ?_)
              clear hHeld
              go_simp
              refine hK _ _ ?_
              clear hK K
              refine NoPanic.normal ?_
              go_wp2_with fail
              go_meet
              case rel => rw [HL4.out]; exact ⟨W5.heap.size, rfl, Nat.le_refl _, ((((ZQ.out.set_ 0 (.int .i64 T)).set_ 1 (.int .i64 2)).set_ 2 (.int .i64 0)).set_ 3 (.string (bs [51]))), ((((HB6.out.setCell (p := ⟨W5.heap.size, 0, none⟩) (Nat.le_refl _) _).setCell (p := ⟨W5.heap.size, 1, none⟩) (Nat.le_refl _) _).setCell (p := ⟨W5.heap.size, 2, none⟩) (Nat.le_refl _) _).setCell (p := ⟨W5.heap.size, 3, none⟩) (Nat.le_refl _) _)⟩
          · have em4 : Int.tmod a.who 4 = 3 := by rw [Int.tmod_eq_emod_of_nonneg hw0]; exact h4
            have hix := name_at3
            have HL4 := Lib.hid (show lin4 (a.who % 4) = [49] by rw [h4]; rfl)
            clear h4
            refine wp_region_noPanic ?_
            refine wp_region_last (S := (fun (w' : World) => w'.cell? ⟨ab, 1, none⟩ = some (.int .u8 a.who))) 8 8 rfl (by kernel_rfl) (by kernel_rfl) ?_ (fun hHeld => ?_)
            · exact x1
            refine tk (v := ?_) 0 rfl (by kernel_rfl) (fun _ _ _ h => h) ?_ hHeld ?_; rotate_left
            · (intro w h; (try dsimp only at h); go_simp; try with_reducible rfl)
            try simp only [Act.put, pB, pC, pD]
            refine tk (v := ?_) 2 rfl (by kernel_rfl) (fun _ _ _ h => h) ?_ hHeld ?_; rotate_left
            · (intro w h; (try dsimp only at h); go_simp; try with_reducible rfl)
            try simp only [Act.put, pB, pC, pD]
            refine tk (v := ?_) 3 rfl (by kernel_rfl) (fun _ _ _ h => h) ?_ hHeld ?_; rotate_left
            · (intro w h; (try dsimp only at h); go_simp; try with_reducible rfl)
            try simp only [Act.put, pB, pC, pD]
            refine tk (v := ?_) 4 rfl (by kernel_rfl) (fun _ _ _ h => h) ?_ hHeld ?_; rotate_left
            · (intro w h; (try dsimp only at h); go_simp; try with_reducible rfl)
            try simp only [Act.put, pB, pC, pD]
            refine wpAnyH_ready (rs := [1, 7]) (by kernel_rfl) (by simp) ?_
            refine AllReadyH.cons rfl (fun K hK => ?_) (AllReadyH.cons rfl (fun K hK => ?_) AllReadyH.nil)
            · go_simp
              refine (names54_is W5.drew).mono ?_; rintro e w6 ⟨rfl, hb6'⟩; unfold names54; have hb6 := (Below.refl W5.heap.size W5).drew.trans hb6'; have HB6 := Lib.hid hb6; have hab6 := Nat.lt_of_lt_of_le hab hb6.size; clear hb6'
              try (go_wp2_with fail)
              refine hK.out _ _ ?_ (fun hNew => ?_)
              · exact (hb6.cell (p := ⟨ab, 1, none⟩) hab).trans x1
              clear hK K hHeld; have hHeld := hNew; clear hNew; try simp only [Act.put, pB, pC, pD]
              refine tk (v := ?_) 5 rfl (by kernel_rfl) (fun _ _ _ h => h) ?_ hHeld ?_; rotate_left
              · (intro w h; (try dsimp only at h); go_simp; try with_reducible rfl)
              try simp only [Act.put, pB, pC, pD]
              refine tk (v := ?_) 6 rfl (by kernel_rfl) (fun _ _ _ h => h) ?_ hHeld ?_; rotate_left
              · (intro w h; (try dsimp only at h); go_simp; try with_reducible rfl)
              try simp only [Act.put, pB, pC, pD]
              refine wpAnyH_ready (rs := [7]) (by kernel_rfl) (by simp) ?_
              refine AllReadyH.cons rfl (fun K hK => ?_) AllReadyH.nil
              go_simp
              refine hK.out _ _ ?_ (fun hNew => ?_)
              · exact (World.cell?_alloc_lt w6 _ _ hab6).trans ((hb6.cell (p := ⟨ab, 1, none⟩) hab).trans x1)
              clear hK K hHeld; have hHeld := hNew; clear hNew; try simp only [Act.put, pB, pC, pD]
              refine wpAnyH_done (by kernel_rfl) ?_ _
              refine lastQ_step rfl (fun K hK => ?_)
              clear hHeld
              go_simp
              refine hK _ _ ?_
              clear hK K
              refine NoPanic.normal ?_
              go_wp2_with fail
              go_meet
              case rel => rw [HL4.out]; exact ⟨w6.heap.size, rfl, HB6.out.size, Blk.new _ _ _, HB6.out.alloc HB6.out.size _⟩
            · go_simp
              refine hK.out _ _ ?_ (fun hNew => ?_)
              · exact (World.cell?_alloc_lt W5 _ _ hab).trans x1
              clear hK K hHeld; have hHeld := hNew; clear hNew; try simp only [Act.put, pB, pC, pD]
              refine wpAnyH_ready (rs := [1]) (by kernel_rfl) (by simp) ?_
              refine AllReadyH.cons rfl (fun K hK => ?_) AllReadyH.nil
              go_simp
              have hbx := ((Below.refl W5.heap.size W5).alloc (Nat.le_refl _) (.cells #[.int .i64 0, .int .i64 0, .int .i64 0, .string ⟨#[]⟩] 74)).drew; have zq := Blk.new W5 74 #[.int .i64 0, .int .i64 0, .int .i64 0, .string ⟨#[]⟩]; refine (names54_is _).mono ?_; rintro e w6 ⟨rfl, hb6'⟩; unfold names54; have hb6 := hbx.trans (hb6'.mono hbx.size); have HB6 := Lib.hid hb6; have ZQ := Lib.hid (zq.drew.next hb6' zq.lt); have q0 := ZQ.out.cell 0; have p0 := ZQ.out.frozen 0; have q1 := ZQ.out.cell 1; have p1 := ZQ.out.frozen 1; have q2 := ZQ.out.cell 2; have p2 := ZQ.out.frozen 2; have q3 := ZQ.out.cell 3; have p3 := ZQ.out.frozen 3; (simp only [qB, qC, qD] at q0 q1 q2 q3); clear hb6' hbx zq
              try (go_wp2_with fail)
              refine hK.out _ _ ?_ (fun hNew => ?_)
              · exact (hb6.cell (p := ⟨ab, 1, none⟩) hab).trans x1
              clear hK K hHeld; have hHeld := hNew; clear hNew; try simp only [Act.put, pB, pC, pD]
              refine tk (v := ?_) 5 rfl (by kernel_rfl) (fun _ _ _ h => h) ?_ hHeld ?_; rotate_left
              · (intro w h; (try dsimp only at h); go_simp; try with_reducible rfl)
              try simp only [Act.put, pB, pC, pD]
              refine tk (v := ?_) 6 rfl (by kernel_rfl) (fun _ _ _ h => h) ?_ hHeld ?_; rotate_left
              · (intro w h; (try dsimp only at h); go_simp; try with_reducible rfl)
              try simp only [Act.put, pB, pC, pD]
              refine wpAnyH_done (by kernel_rfl) ?_ _
              refine lastQ_step rfl (fun K hK => ?_)
              clear hHeld
              go_simp
              refine hK _ _ ?_
              clear hK K
              refine NoPanic.normal ?_
              go_wp2_with fail
              go_meet
              case rel => rw [HL4.out]; exact ⟨W5.heap.size, rfl, Nat.le_refl _, ((((ZQ.out.set_ 0 (.int .i64 T)).set_ 1 (.int .i64 2)).set_ 2 (.int .i64 0)).set_ 3 (.string (bs [49]))), ((((HB6.out.setCell (p := ⟨W5.heap.size, 0, none⟩) (Nat.le_refl _) _).setCell (p := ⟨W5.heap.size, 1, none⟩) (Nat.le_refl _) _).setCell (p := ⟨W5.heap.size, 2, none⟩) (Nat.le_refl _) _).setCell (p := ⟨W5.heap.size, 3, none⟩) (Nat.le_refl _) _)⟩
        case rest =>
          obtain ⟨kb, rfl, hkb, hzk, hbc⟩ := hcut
          have ZK := Lib.hid hzk
          have ZA2 := Lib.hid (ZA.out.next hbc ZA.out.lt)
          have x1 := ZA2.out.cell 1
          have z0 := ZK.out.cell 0
          have z1 := ZK.out.cell 1
          have z2 := ZK.out.cell 2
          have z3 := ZK.out.cell 3
          have f0 := ZK.out.frozen 0
          have f1 := ZK.out.frozen 1
          have f2 := ZK.out.frozen 2
          have f3 := ZK.out.frozen 3
          simp only [qB, qC, qD] at x1 z0 z1 z2 z3
          have HBC := Lib.hid hbc
          have em5 : Int.tmod a.who 5 = a.who % 5 := Int.tmod_eq_emod_of_nonneg hw0
          obtain ⟨bq, hbq⟩ : ∃ bq, (a.who % 5 == 4) = bq := ⟨_, rfl⟩
          have HBQ := Lib.hid hbq
          clear hzk hbc hw0
          go_upto_if 64 with (fail)
          go_cut [7] (fun v wx => v = .int .i64 (inp54 ip a) ∧ Blk wx kb 74 #[.int .i64 (key54 T ip a).tick, .int .i64 (key54 T ip a).cls, .int .i64 (key54 T ip a).num, .string (bs (key54 T ip a).lin)] ∧ Below W5.heap.size W5 wx)
          case first =>
            cases bq with
            | true =>
              have H5 := Lib.hid (show a.who % 5 = 4 from by have := HBQ.out; rwa [beq_iff_eq] at this)
              go_wp2_with fail
              go_meet
              case rel =>
                refine ⟨by unfold inp54; rw [if_pos H5.out], ?_, ?_⟩
                · unfold key54
                  rw [if_pos H5.out]
                  exact (((ZK.out.set_ 0 (.int .i64 T)).set_ 1 (.int .i64 0)).set_ 2 (.int .i64 (ip + 1))).set_ 3 (.string ⟨#[]⟩)
                · exact (((HBC.out.setCell (p := ⟨kb, 0, none⟩) hkb _).setCell (p := ⟨kb, 1, none⟩) hkb _).setCell (p := ⟨kb, 2, none⟩) hkb _).setCell (p := ⟨kb, 3, none⟩) hkb _
            | false =>
              have H5 := Lib.hid (show ¬ a.who % 5 = 4 from by have := HBQ.out; rwa [beq_eq_false_iff_ne] at this)
              go_wp2_with fail
              go_meet
              case rel =>
                refine ⟨by unfold inp54; rw [if_neg H5.out], ?_, HBC.out⟩
                unfold key54
                rw [if_neg H5.out]
                exact ZK.out
          case rest =>
            clear z0 z1 z2 z3 f0 f1 f2 f3 x1 em5 hbq HBQ HBC ZK ZA2
            obtain ⟨rfl, hzk, hbc⟩ := hcut
            obtain ⟨ky, hky⟩ : ∃ ky, key54 T ip a = ky := ⟨_, rfl⟩
            rw [hky] at hzk
            have HKY := Lib.hid hky
            have z0 := hzk.cell 0
            have z1 := hzk.cell 1
            have z2 := hzk.cell 2
            have z3 := hzk.cell 3
            simp only [qB, qC, qD] at z0 z1 z2 z3
            have HBC := Lib.hid hbc
            obtain ⟨i2, hi2⟩ : ∃ i2, inp54 ip a = i2 := ⟨_, rfl⟩
            have HI2 := Lib.hid hi2
            rw [hi2]
            clear hky hi2 hbc
            go_upto_region 14 with (fail)
            have ZX := Lib.hid (Blk.new wc 77 #[.int .i64 ky.tick, .int .i64 ky.cls, .int .i64 ky.num, .string (bs ky.lin), .slice none 0 0, .slice none 0 0])
            have hbx := (Below.refl wc.heap.size wc).alloc (Nat.le_refl _) (.cells #[.int .i64 ky.tick, .int .i64 ky.cls, .int .i64 ky.num, .string (bs ky.lin), .slice none 0 0, .slice none 0 0] 77)
            have HBX := Lib.hid (HBC.out.trans (hbx.mono HBC.out.size))
            have HBXX := Lib.hid hbx
            clear z0 z1 z2 z3 hzk hbx
            generalize wc.alloc (.cells #[.int .i64 ky.tick, .int .i64 ky.cls, .int .i64 ky.num, .string (bs ky.lin), .slice none 0 0, .slice none 0 0] 77) = W6 at *
            obtain ⟨xb, hxb⟩ : ∃ x, wc.heap.size = x := ⟨_, rfl⟩
            have hx5 : W5.heap.size ≤ xb := by rw [← hxb]; exact HBC.out.size
            rw [hxb] at ZX ⊢
            clear hxb HBC HBXX
            have HS2 := Lib.hid (HS1.out.next HBX.out)
            have ZA6 := Lib.hid (ZA.out.next HBX.out ZA.out.lt)
            have H0 : Hid (JRel a b.now ky xb W6 (.int .i64 (0 : Nat)) W6) := Lib.hid ⟨0, .slice none 0 0, .slice none 0 0, by omega, rfl, ZX.out, OwnP.nil, OwnP.nil, (fun g h => by cases h), Below.refl _ _⟩
            have hx6 : xb < W6.heap.size := ZX.out.lt
            clear hkb
            go_upto_region 15 with (fail)
            go_loopw [12] (fun v wr => JRel a b.now ky xb W6 v wr) (fun v _ => 4 - (intOf v).toNat)
            case atStart => exact H0.out
            case round =>
              clear H0 ZX
              obtain ⟨m, rv, wv, hm4, rfl, hzx, hrv, hwv, hap, hbj⟩ := hrel
              have ZX := Lib.hid hzx
              have HRV := Lib.hid hrv
              have HWV := Lib.hid hwv
              have HAP := Lib.hid hap
              have HBJ := Lib.hid hbj
              clear hzx hrv hwv hap hbj
              by_cases hm : m < 4
              · have j5 : (0 : Int) ≤ (m : Int) := by omega
                have j6 : (m : Int) < 4 := by omega
                have j7 : decide ((m : Int) < 4) = true := decide_eq_true j6
                have ONCE : True := trivial
                go_wp2_with (clear ONCE; go_at_call 38; refine (sorted54_is _).mono ?_)
                rintro e w5 ⟨g5, c5, rfl, how5, hb5⟩
                have HB5 := Lib.hid hb5
                clear how5 hb5
                go_wp2_with (go_at_call 38; refine (sorted54_is _).mono ?_)
                rintro e w6 ⟨g6, c6, rfl, how6, hb6⟩
                have HB6 := Lib.hid (HB5.out.trans (hb6.mono HB5.out.size))
                obtain ⟨bb, oo, hbe, hbr, t0, t1, t2, t3, t4⟩ := RdNm.piece (show RdNm w6 (.slice (some ⟨g6, 0, none⟩) so54.length c6) so54 from Rd.of_own how6) (k := m) (show m < so54.length from hm)
                injection hbe with hbe
                injection hbe with e1 e2
                subst e1 e2
                simp only [Nat.zero_add] at t0 t1 t2 t3 t4
                obtain ⟨n, hn⟩ : ∃ n, so54[m]'(show m < so54.length from hm) = n := ⟨_, rfl⟩
                rw [hn] at t0 t1 t2 t3 t4
                have HN := Lib.hid hn
                clear hn how6 hb6 HB5
                go_upto_region 18 with (fail)
                have hbn := (Below.refl w6.heap.size w6).alloc (Nat.le_refl _) (.cells #[.int .i64 n.kind, .string (bs n.owner), .int .i64 n.num, .int .i64 n.idx, .string (bs n.text)] 26)
                have zb := Blk.new w6 26 #[.int .i64 n.kind, .string (bs n.owner), .int .i64 n.num, .int .i64 n.idx, .string (bs n.text)]
                have HB7 := Lib.hid (HB6.out.trans (hbn.mono HB6.out.size))
                have hxr : xb < wr.heap.size := ZX.out.lt
                have ZX7 := Lib.hid (ZX.out.next HB7.out hxr)
                have HRV7 := Lib.hid (OwnP.next HRV.out HB7.out)
                have HWV7 := Lib.hid (OwnP.next HWV.out HB7.out)
                have HBJ7 := Lib.hid (HBJ.out.trans (HB7.out.mono (Nat.le_of_lt hxr)))
                have v0 := zb.cell 0
                have v1 := zb.cell 1
                have v2 := zb.cell 2
                have v3 := zb.cell 3
                have v4 := zb.cell 4
                have hnb := zb.lt
                simp only [qB, qC, qD] at v0 v1 v2 v3 v4
                have ZN := Lib.hid zb
                clear t0 t1 t2 t3 t4 hbn zb ZX HRV HWV HBJ HB7 HB6 hbr
                generalize w6.alloc (.cells #[.int .i64 n.kind, .string (bs n.owner), .int .i64 n.num, .int .i64 n.idx, .string (bs n.text)] 26) = W7 at *
                generalize w6.heap.size = nb at *
                obtain ⟨cbit, hc4, hcb, hcn, hce, hcl⟩ := bit_at hm
                have HCB := Lib.hid hcb
                have HCN := Lib.hid hcn
                have HNN := Lib.hid (show so54.getD m obT = n by rw [← HN.out, List.getD_eq_getElem?_getD, List.getElem?_eq_getElem (show m < so54.length from hm)]; rfl)
                rw [HNN.out] at hce hcl
                have HCE := Lib.hid hce
                have HCL := Lib.hid hcl
                clear hcb hcn hce hcl
                have V0 := Lib.hid v0
                have V1 := Lib.hid v1
                have V2 := Lib.hid v2
                have V3 := Lib.hid v3
                have V4 := Lib.hid v4
                clear v0 v1 v2 v3 v4
                have H0 : Hid (CRel cbit W7 (.int .i64 (0 : Nat)) W7) := Lib.hid ⟨0, Nat.zero_le _, rfl, Below.refl _ _⟩
                go_upto_region 19 with (fail)
                go_loopw [14] (fun v wr => CRel cbit W7 v wr) (fun v _ => 5 - (intOf v).toNat)
                case atStart => exact H0.out
                case round =>
                  clear H0
                  obtain ⟨d, hdc, rfl, hbd⟩ := hrel
                  have HBD := Lib.hid hbd
                  clear hbd
                  have k1 : (0 : Int) ≤ (d : Int) := by omega
                  have k2 : (d : Int) < 4 := by omega
                  have hd8 : d < ob54.length := by show d < 4; omega
                  have v0 := (HBD.out.cell (p := ⟨nb, 0, none⟩) hnb).trans V0.out
                  have v1 := (HBD.out.cell (p := ⟨nb, 1, none⟩) hnb).trans V1.out
                  have v2 := (HBD.out.cell (p := ⟨nb, 2, none⟩) hnb).trans V2.out
                  have v3 := (HBD.out.cell (p := ⟨nb, 3, none⟩) hnb).trans V3.out
                  have v4 := (HBD.out.cell (p := ⟨nb, 4, none⟩) hnb).trans V4.out
                  have hnr := Nat.lt_of_lt_of_le hnb HBD.out.size
                  obtain ⟨bq, hbq⟩ : ∃ bq, decide (ob54.getD d obT = n) = bq := ⟨_, rfl⟩
                  obtain ⟨on, hon⟩ : ∃ on, ob54.getD d obT = on := ⟨_, rfl⟩
                  have HON := Lib.hid (show ob54[d]'hd8 = on by rw [← hon, List.getD_eq_getElem?_getD, List.getElem?_eq_getElem hd8]; rfl)
                  have HOQ := Lib.hid hon
                  rw [hon] at hbq
                  have he := fun W => neqNm on n bq hbq W
                  have hg := guardNm
                  unfold nmV nmA at he
                  have HBQ := Lib.hid hbq
                  clear hbq hon
                  go_upto_region 19 with (fail)
                  refine wp_region_noPanic ?_
                  refine wp_region_held_drew (S := (fun (w' : World) => w'.cell? ⟨nb, 0, none⟩ = some (.int .i64 n.kind) ∧ w'.cell? ⟨nb, 1, none⟩ = some (.string (bs n.owner)) ∧ w'.cell? ⟨nb, 2, none⟩ = some (.int .i64 n.num) ∧ w'.cell? ⟨nb, 3, none⟩ = some (.int .i64 n.idx) ∧ w'.cell? ⟨nb, 4, none⟩ = some (.string (bs n.text)))) (by kernel_rfl) ?_ (fun hHeld => ?_)
                  · exact ⟨v0, v1, v2, v3, v4⟩
                  refine tk (v := ?_) 1 rfl (by kernel_rfl) (fun _ _ _ h => h) ?_ hHeld ?_; rotate_left
                  · (intro w h; (try dsimp only at h); go_simp; try with_reducible rfl)
                  try simp only [Act.put, pB, pC, pD]
                  refine tk (v := ?_) 4 rfl (by kernel_rfl) (fun _ _ _ h => h) ?_ hHeld ?_; rotate_left
                  · (intro w h; (try dsimp only at h); go_simp; try with_reducible rfl)
                  try simp only [Act.put, pB, pC, pD]
                  refine wpAnyH_ready (rs := [0]) (by kernel_rfl) (by simp) ?_
                  refine AllReadyH.cons rfl (fun K hK => ?_) AllReadyH.nil
                  go_simp
                  refine (objects_is wr.drew).mono ?_; rintro e w9 ⟨go, co, rfl, how9, hb9'⟩; have hb9 := (Below.refl wr.heap.size wr).drew.trans hb9'; have HB9 := Lib.hid hb9; clear hb9'
                  try (go_wp2_with fail)
                  refine hK.out _ _ ?_ (fun hNew => ?_)
                  · exact ⟨(hb9.cell (p := ⟨nb, 0, none⟩) hnr).trans v0, (hb9.cell (p := ⟨nb, 1, none⟩) hnr).trans v1, (hb9.cell (p := ⟨nb, 2, none⟩) hnr).trans v2, (hb9.cell (p := ⟨nb, 3, none⟩) hnr).trans v3, (hb9.cell (p := ⟨nb, 4, none⟩) hnr).trans v4⟩
                  clear hK K hHeld; have hHeld := hNew; clear hNew; try simp only [Act.put, pB, pC, pD]
                  have yy := RdNm.piece (show RdNm w9 (.slice (some ⟨go, 0, none⟩) ob54.length co) ob54 from Rd.of_own how9) (k := d) hd8
                  obtain ⟨b9, o9, hbe9, hbr9, y0, y1, y2, y3, y4⟩ := yy
                  injection hbe9 with hbe9
                  injection hbe9 with e1 e2
                  subst e1 e2
                  simp only [Nat.zero_add] at y0 y1 y2 y3 y4
                  rw [HON.out] at y0 y1 y2 y3 y4
                  refine wpAnyH_more (S' := (fun (w' : World) => (w'.cell? ⟨nb, 0, none⟩ = some (.int .i64 n.kind) ∧ w'.cell? ⟨nb, 1, none⟩ = some (.string (bs n.owner)) ∧ w'.cell? ⟨nb, 2, none⟩ = some (.int .i64 n.num) ∧ w'.cell? ⟨nb, 3, none⟩ = some (.int .i64 n.idx) ∧ w'.cell? ⟨nb, 4, none⟩ = some (.string (bs n.text))) ∧ w'.cell? ⟨go, d * 5, none⟩ = some (.int .i64 on.kind) ∧ w'.cell? ⟨go, d * 5 + 1, none⟩ = some (.string (bs on.owner)) ∧ w'.cell? ⟨go, d * 5 + 2, none⟩ = some (.int .i64 on.num) ∧ w'.cell? ⟨go, d * 5 + 3, none⟩ = some (.int .i64 on.idx) ∧ w'.cell? ⟨go, d * 5 + 4, none⟩ = some (.string (bs on.text)))) (fun _ h => h.1) ?_
                  clear hHeld
                  have hHeld : (fun (w' : World) => (w'.cell? ⟨nb, 0, none⟩ = some (.int .i64 n.kind) ∧ w'.cell? ⟨nb, 1, none⟩ = some (.string (bs n.owner)) ∧ w'.cell? ⟨nb, 2, none⟩ = some (.int .i64 n.num) ∧ w'.cell? ⟨nb, 3, none⟩ = some (.int .i64 n.idx) ∧ w'.cell? ⟨nb, 4, none⟩ = some (.string (bs n.text))) ∧ w'.cell? ⟨go, d * 5, none⟩ = some (.int .i64 on.kind) ∧ w'.cell? ⟨go, d * 5 + 1, none⟩ = some (.string (bs on.owner)) ∧ w'.cell? ⟨go, d * 5 + 2, none⟩ = some (.int .i64 on.num) ∧ w'.cell? ⟨go, d * 5 + 3, none⟩ = some (.int .i64 on.idx) ∧ w'.cell? ⟨go, d * 5 + 4, none⟩ = some (.string (bs on.text))) _ := ⟨⟨(hb9.cell (p := ⟨nb, 0, none⟩) hnr).trans v0, (hb9.cell (p := ⟨nb, 1, none⟩) hnr).trans v1, (hb9.cell (p := ⟨nb, 2, none⟩) hnr).trans v2, (hb9.cell (p := ⟨nb, 3, none⟩) hnr).trans v3, (hb9.cell (p := ⟨nb, 4, none⟩) hnr).trans v4⟩, y0, y1, y2, y3, y4⟩
                  refine tk (v := ?_) 2 rfl (by kernel_rfl) (fun _ _ _ h => h) ?_ hHeld ?_; rotate_left
                  · (intro w h; (try dsimp only at h); go_simp; try with_reducible rfl)
                  try simp only [Act.put, pB, pC, pD]
                  refine tk (v := ?_) 3 rfl (by kernel_rfl) (fun _ _ _ h => h) ?_ hHeld ?_; rotate_left
                  · (intro w h; (try dsimp only at h); go_simp; try with_reducible rfl)
                  try simp only [Act.put, pB, pC, pD]
                  refine tk (v := ?_) 5 rfl (by kernel_rfl) (fun _ _ _ h => h) ?_ hHeld ?_; rotate_left
                  · (intro w h; (try dsimp only at h); go_simp; try with_reducible rfl)
                  try simp only [Act.put, pB, pC, pD]
                  refine wpAnyH_done (by kernel_rfl) ?_ _
                  clear hHeld
                  try simp only [List.getElem_toArray, List.getElem_cons_zero, List.getElem_cons_succ, Act.put, pB, pC, pD]
                  refine NoPanic.normal ?_
                  clear y0 y1 y2 y3 y4 v0 v1 v2 v3 v4 how9 hb9
                  cases bq with
                  | false =>
                    have hdl : d < cbit := by
                      rcases Nat.lt_or_ge d cbit with h | h
                      · exact h
                      · exfalso
                        obtain rfl : d = cbit := by omega
                        have h1 := of_decide_eq_false HBQ.out
                        exact h1 (by rw [← HOQ.out]; exact HCE.out)
                    go_wp2_with fail
                    go_roundw
                    case rel => exact ⟨d + 1, by omega, by go_num, HBD.out.trans (HB9.out.mono HBD.out.size)⟩
                    case measure => simp [intOf]; omega
                  | true =>
                    have HDE := Lib.hid (show d = cbit from Classical.byContradiction fun h => HCL.out d (by omega) (by rw [HOQ.out]; exact of_decide_eq_true HBQ.out))
                    go_upto_region 21 with (fail)
                    have hde := HDE.out
                    subst hde
                    have HB8 := Lib.hid (HBD.out.trans (HB9.out.mono HBD.out.size))
                    have hx7 : xb < W7.heap.size := ZX7.out.lt
                    have ZX8 := Lib.hid (ZX7.out.next HB8.out hx7)
                    have HRV8 := Lib.hid (OwnP.next HRV7.out HB8.out)
                    have HWV8 := Lib.hid (OwnP.next HWV7.out HB8.out)
                    have HBJ8 := Lib.hid (HBJ7.out.trans (HB8.out.mono (Nat.le_of_lt hx7)))
                    have HB58 := Lib.hid (HBX.out.trans (HBJ8.out.mono hx5))
                    have HS8 := Lib.hid (HS1.out.next HB58.out)
                    have ZA8 := Lib.hid (ZA.out.next HB58.out hab)
                    replace V0 := Lib.hid ((HB8.out.cell (p := ⟨nb, 0, none⟩) hnb).trans V0.out)
                    replace V1 := Lib.hid ((HB8.out.cell (p := ⟨nb, 1, none⟩) hnb).trans V1.out)
                    replace V2 := Lib.hid ((HB8.out.cell (p := ⟨nb, 2, none⟩) hnb).trans V2.out)
                    replace V3 := Lib.hid ((HB8.out.cell (p := ⟨nb, 3, none⟩) hnb).trans V3.out)
                    replace V4 := Lib.hid ((HB8.out.cell (p := ⟨nb, 4, none⟩) hnb).trans V4.out)
                    have ZN8 := Lib.hid (ZN.out.next HB8.out hnb)
                    have hn8 := Nat.lt_of_lt_of_le hnb HB8.out.size
                    have hx8 := Nat.lt_of_lt_of_le hx7 HB8.out.size
                    have hw6 : W6.heap.size ≤ w9.heap.size := HBJ8.out.size
                    clear ZX7 HRV7 HWV7 HBJ7 HB8 HB9 HBD hnb hnr hx7 HB58 he hg
                    generalize w9 = W8 at *
                    have x2 := ZA8.out.cell 2
                    simp only [qB, qC, qD] at x2
                    obtain ⟨bq, hbq⟩ : ∃ bq, (bits BinOp.and IntKind.u8 (a.reads / 2 ^ d) 1 == 1) = bq := ⟨_, rfl⟩
                    have HBQ2 := Lib.hid (show hasB a.reads d = bq by rw [← hbq]; exact (bit_is _ _).symm)
                    have HTR := Lib.hid (rds_take b.now a hm HCB.out (HCN.out.trans HNN.out))
                    have HON := Lib.hid (show OwnE n by rw [← HNN.out]; exact so_own hm)
                    have HRL := rdsU_le b.now a m
                    obtain ⟨A3, c3, rfl, hc3⟩ := own_len HRV8.out
                    have HRV8' := Lib.hid (show OwnP 105 7 chC W8 W6.heap.size (.slice A3 (rdsU b.now a m).length c3) (rdsU b.now a m) from HRV8.out)
                    go_upto_if 95 with (fail)
                    go_cut [15, 16] (fun _ _ wx => ∃ rv', Blk wx xb 77 #[.int .i64 ky.tick, .int .i64 ky.cls, .int .i64 ky.num, .string (bs ky.lin), rv', wv] ∧ OwnP 105 7 chC wx W6.heap.size rv' (rdsU b.now a (m + 1)) ∧ OwnP 105 7 chC wx W6.heap.size wv (wrsU a m) ∧ Apart rv' wv ∧ Blk wx nb 26 #[.int .i64 n.kind, .string (bs n.owner), .int .i64 n.num, .int .i64 n.idx, .string (bs n.text)] ∧ Below xb W8 wx)
                    case first =>
                      cases bq with
                      | true =>
                        have v0 := V0.out
                        have v1 := V1.out
                        have v2 := V2.out
                        have v3 := V3.out
                        have v4 := V4.out
                        have ONCE : True := trivial
                        go_wp2_with (clear ONCE; go_at_call 22; refine (get_is (n := n) HS8.out HON.out).mono ?_)
                        rintro e w9 ⟨rfl, hb9⟩
                        obtain ⟨tx, htx⟩ : ∃ tx, (look cmpN n b.now).getD [] = tx := ⟨_, rfl⟩
                        obtain ⟨so, hso⟩ : ∃ so, (look cmpN n b.now).isSome = so := ⟨_, rfl⟩
                        have HRC := Lib.hid (show rdC b.now n = ⟨n, tx, !so⟩ by unfold rdC; rw [htx, ← hso]; cases look cmpN n b.now <;> rfl)
                        rw [htx, hso]
                        clear v0 v1 v2 v3 v4
                        have HB9 := Lib.hid hb9
                        have ZX9 := Lib.hid (ZX8.out.next HB9.out hx8)
                        have v0 := (HB9.out.cell (p := ⟨nb, 0, none⟩) hn8).trans V0.out
                        have v1 := (HB9.out.cell (p := ⟨nb, 1, none⟩) hn8).trans V1.out
                        have v2 := (HB9.out.cell (p := ⟨nb, 2, none⟩) hn8).trans V2.out
                        have v3 := (HB9.out.cell (p := ⟨nb, 3, none⟩) hn8).trans V3.out
                        have v4 := (HB9.out.cell (p := ⟨nb, 4, none⟩) hn8).trans V4.out
                        have z4 := ZX9.out.cell 4
                        simp only [qB, qC, qD] at z4
                        have hw69 : W6.heap.size ≤ w9.heap.size := Nat.le_trans hw6 HB9.out.size
                        have HAL := Lib.hid ((Below.refl w9.heap.size w9).alloc (Nat.le_refl _) (.cells #[.int .i64 n.kind, .string (bs n.owner), .int .i64 n.num, .int .i64 n.idx, .string (bs n.text), .string (bs tx), .bool (!so)] 105))
                        have HRV9 := Lib.hid (OwnP.next (OwnP.next HRV8'.out HB9.out) HAL.out)
                        have HWV9 := Lib.hid (OwnP.next (OwnP.next HWV8.out HB9.out) HAL.out)
                        have ZX10 := Lib.hid (ZX9.out.alloc (.cells #[.int .i64 n.kind, .string (bs n.owner), .int .i64 n.num, .int .i64 n.idx, .string (bs n.text), .string (bs tx), .bool (!so)] 105))
                        obtain ⟨i0, hi, hz0, hz1, hz2⟩ := info_parts infoCh
                        clear hb9 htx hso x2 hbq
                        go_wp2_with (at_builtin; refine wpList_append_w _ rfl _ _ _ rfl W6.heap.size 105 i0 _ 7 80 Tryz.underlying75 hi hz0 hz1 hz2 rfl (by omega) (.slice A3 (rdsU b.now a m).length c3) (rdsU b.now a m).length ((rdsU b.now a m).flatMap chC) rfl HRV9.out (.slice (some ⟨w9.heap.size, 0, none⟩) 1 1) 1 [.int .i64 n.kind, .string (bs n.owner), .int .i64 n.num, .int .i64 n.idx, .string (bs n.text), .string (bs tx), .bool (!so)] rfl (Rd.of_own (own_new w9 0 105 7 [.int .i64 n.kind, .string (bs n.owner), .int .i64 n.num, .int .i64 n.idx, .string (bs n.text), .string (bs tx), .bool (!so)] rfl (Nat.zero_le _))) (by omega) rfl (by simp [Value.oneCell']) (by unfold maxLen; omega) (by omega) (by simp; omega) ?_; intro v7 w10 hown7 hg7 hat7; obtain ⟨A7, c7, rfl, hc7⟩ := own_len hown7; have HPU := Lib.hid (box_push (c := ⟨n, tx, !so⟩) ZX10.out HRV9.out HWV9.out HAP.out hown7 hg7 hat7 4 hx6); have HZ10 := Lib.hid (ZX10.out.grown hg7 (fun e => own_blk_ne HRV9.out ZX10.out (by decide) e.symm)); have z4 := HZ10.out.cell 4; have f4 := HZ10.out.frozen 4; (simp only [qB, qC, qD] at z4); clear hown7 hg7 hat7)
                        go_meet
                        case rel =>
                          refine ⟨_, HPU.out.1, ?_, HPU.out.2.2.1, HPU.out.2.2.2.1, ((ZN8.out.next HB9.out hn8).alloc _).keep HPU.out.2.2.2.2.2 (by decide), (HB9.out.mono (Nat.le_of_lt hx8)).trans ((HAL.out.mono (by have := HB9.out.size; omega)).trans HPU.out.2.2.2.2.1)⟩
                          rw [HTR.out, HBQ2.out, if_pos rfl, HRC.out]
                          exact HPU.out.2.1
                      | false =>
                        go_wp2_with fail
                        go_meet
                        case rel => exact ⟨.slice A3 (rdsU b.now a m).length c3, ZX8.out, by rw [HTR.out, HBQ2.out]; simpa using HRV8.out, HWV8.out, HAP.out, ZN8.out, Below.refl _ _⟩
                    case rest =>
                      clear x2 hbq HBQ2
                      obtain ⟨rv2, hzx, hrv2, hwv2, hap2, hzn, hbe⟩ := hcut
                      obtain ⟨W8b, hw8b⟩ : ∃ x : World, x = wc := ⟨_, rfl⟩
                      subst hw8b
                      have ZXc := Lib.hid hzx
                      have HRVc := Lib.hid hrv2
                      have HWVc0 := Lib.hid hwv2
                      have HAPc := Lib.hid hap2
                      have ZNc := Lib.hid hzn
                      have HBEc := Lib.hid hbe
                      have ZAc := Lib.hid (ZA8.out.next HBEc.out (Nat.lt_of_lt_of_le hab hx5))
                      clear hzx hrv2 hwv2 hap2 hzn hbe V0 V1 V2 V3 V4 HRV8 HWV8 HRV8' ZX8 HAP ZN8
                      have x3 := ZAc.out.cell 3
                      have x4 := ZAc.out.cell 4
                      have x5 := ZAc.out.cell 5
                      have v0 := ZNc.out.cell 0
                      have v1 := ZNc.out.cell 1
                      have v2 := ZNc.out.cell 2
                      have v3 := ZNc.out.cell 3
                      have v4 := ZNc.out.cell 4
                      simp only [qB, qC, qD] at x3 x4 x5 v0 v1 v2 v3 v4
                      obtain ⟨bw, hbw⟩ : ∃ bw, (bits BinOp.and IntKind.u8 (a.writes / 2 ^ d) 1 == 1) = bw := ⟨_, rfl⟩
                      have HBW2 := Lib.hid (show hasB a.writes d = bw by rw [← hbw]; exact (bit_is _ _).symm)
                      have HTW := Lib.hid (wrs_take a hm HCB.out (HCN.out.trans HNN.out))
                      have HWL := wrsU_le a m
                      obtain ⟨A4, c4, rfl, hc4'⟩ := own_len HWVc0.out
                      have HWVc := Lib.hid (show OwnP 105 7 chC W8b W6.heap.size (.slice A4 (wrsU a m).length c4) (wrsU a m) from HWVc0.out)
                      clear HWVc0
                      have hwc : W6.heap.size ≤ W8b.heap.size := Nat.le_trans hw6 HBEc.out.size
                      go_upto_if 117 with (fail)
                      cases bw with
                      | true =>
                        obtain ⟨aq, haq⟩ : ∃ q, a.absent = q := ⟨_, rfl⟩
                        rw [haq] at x5
                        have HAQ := Lib.hid haq
                        clear haq
                        go_upto_region 26 with (fail)
                        have ZC := Lib.hid (Blk.new W8b 105 #[.int .i64 n.kind, .string (bs n.owner), .int .i64 n.num, .int .i64 n.idx, .string (bs n.text), .string ⟨#[]⟩, .bool aq])
                        have HAL := Lib.hid ((Below.refl W8b.heap.size W8b).alloc (Nat.le_refl _) (.cells #[.int .i64 n.kind, .string (bs n.owner), .int .i64 n.num, .int .i64 n.idx, .string (bs n.text), .string ⟨#[]⟩, .bool aq] 105))
                        have ZAd := Lib.hid (ZAc.out.next HAL.out ZAc.out.lt)
                        have ZXd := Lib.hid (ZXc.out.next HAL.out ZXc.out.lt)
                        have HRVd := Lib.hid (OwnP.next HRVc.out HAL.out)
                        have HWVd := Lib.hid (OwnP.next HWVc.out HAL.out)
                        have hbc : xb < W8b.heap.size := ZXc.out.lt
                        have HBEd := Lib.hid (HBEc.out.trans (HAL.out.mono (Nat.le_of_lt hbc)))
                        clear x3 x4 x5 v0 v1 v2 v3 v4 ZAc ZNc HRVd HWVd ZXd HBEd hbw
                        generalize W8b.alloc (.cells #[.int .i64 n.kind, .string (bs n.owner), .int .i64 n.num, .int .i64 n.idx, .string (bs n.text), .string ⟨#[]⟩, .bool aq] 105) = W9 at *
                        obtain ⟨cb, hcb0⟩ : ∃ x, W8b.heap.size = x := ⟨_, rfl⟩
                        have HCB0 := Lib.hid hcb0
                        rw [hcb0] at ZC hbc hwc ⊢
                        clear hcb0
                        have x4 := ZAd.out.cell 4
                        have x5 := ZAd.out.cell 5
                        have c5 := ZC.out.cell 5
                        have cf5 := ZC.out.frozen 5
                        simp only [qB, qC, qD] at x4 x5 c5
                        rw [HAQ.out] at x5
                        obtain ⟨tv, htv⟩ : ∃ tv, (if a.absent then [] else a.value.take 6) = tv := ⟨_, rfl⟩
                        have HTV := Lib.hid htv
                        have HWC := Lib.hid (show wrC a n = ⟨n, tv, aq⟩ by unfold wrC; rw [htv, HAQ.out])
                        clear htv
                        go_upto_if 124 with (fail)
                        go_cut [17] (fun v wx => v = .pointer (some ⟨cb, 0, none⟩) ∧ Blk wx cb 105 #[.int .i64 n.kind, .string (bs n.owner), .int .i64 n.num, .int .i64 n.idx, .string (bs n.text), .string (bs tv), .bool aq] ∧ Below cb W8b wx)
                        case first =>
                          cases aq with
                          | true =>
                            go_wp2_with fail
                            go_meet
                            case rel => exact ⟨rfl, by rw [← HTV.out, HAQ.out]; exact ZC.out, HCB0.out ▸ HAL.out⟩
                          | false =>
                            have HE6 := Lib.hid (ext_m a.value)
                            have HV6 := Lib.hid (show tv = a.value.take 6 by rw [← HTV.out, HAQ.out]; rfl)
                            go_wp2_with fail
                            go_meet
                            case rel => exact ⟨rfl, by rw [HE6.out, HV6.out]; exact ZC.out.set_ 5 _, (HCB0.out ▸ HAL.out).setCell (p := ⟨cb, 5, none⟩) (Nat.le_refl _) _⟩
                        case rest =>
                          obtain ⟨rfl, hzc, hbd⟩ := hcut
                          have HBD2 := Lib.hid hbd
                          have hbd' : Below W8b.heap.size W8b wc := by rw [HCB0.out]; exact hbd
                          have ZXe := Lib.hid (ZXc.out.next hbd hbc)
                          have hsz9 : cb ≤ wc.heap.size := by have := hbd'.size; rw [HCB0.out] at this; exact this
                          have HAE := Lib.hid ((Below.refl wc.heap.size wc).alloc (Nat.le_refl _) (.cells #[.int .i64 n.kind, .string (bs n.owner), .int .i64 n.num, .int .i64 n.idx, .string (bs n.text), .string (bs tv), .bool aq] 105))
                          have HRV9 := Lib.hid (OwnP.next (OwnP.next HRVc.out hbd') HAE.out)
                          have HWV9 := Lib.hid (OwnP.next (OwnP.next HWVc.out hbd') HAE.out)
                          have ZX10 := Lib.hid (ZXe.out.alloc (.cells #[.int .i64 n.kind, .string (bs n.owner), .int .i64 n.num, .int .i64 n.idx, .string (bs n.text), .string (bs tv), .bool aq] 105))
                          have z5 := ZXe.out.cell 5
                          have c0 := hzc.cell 0
                          have c1 := hzc.cell 1
                          have c2 := hzc.cell 2
                          have c3 := hzc.cell 3
                          have c4' := hzc.cell 4
                          have c5' := hzc.cell 5
                          have c6 := hzc.cell 6
                          simp only [qB, qC, qD] at z5 c0 c1 c2 c3 c4' c5' c6
                          clear hbd hbd' hzc c5 cf5 x4 x5
                          obtain ⟨i0, hi, hz0, hz1, hz2⟩ := info_parts infoCh
                          go_wp2_with (at_builtin; refine wpList_append_w _ rfl _ _ _ rfl W6.heap.size 105 i0 _ 7 80 Tryz.underlying75 hi hz0 hz1 hz2 rfl (by omega) (.slice A4 (wrsU a m).length c4) (wrsU a m).length ((wrsU a m).flatMap chC) rfl HWV9.out (.slice (some ⟨wc.heap.size, 0, none⟩) 1 1) 1 [.int .i64 n.kind, .string (bs n.owner), .int .i64 n.num, .int .i64 n.idx, .string (bs n.text), .string (bs tv), .bool aq] rfl (Rd.of_own (own_new wc 0 105 7 [.int .i64 n.kind, .string (bs n.owner), .int .i64 n.num, .int .i64 n.idx, .string (bs n.text), .string (bs tv), .bool aq] rfl (Nat.zero_le _))) (by omega) rfl (by simp [Value.oneCell']) (by unfold maxLen; omega) (by omega) (by simp; omega) ?_; intro v7 w10 hown7 hg7 hat7; obtain ⟨A7, c7, rfl, hc7⟩ := own_len hown7; have HPU := Lib.hid (box_push (c := ⟨n, tv, aq⟩) ZX10.out HWV9.out HRV9.out HAPc.out.symm hown7 hg7 hat7 5 hx6); have HZ10 := Lib.hid (ZX10.out.grown hg7 (fun e => own_blk_ne HWV9.out ZX10.out (by decide) e.symm)); have z5 := HZ10.out.cell 5; have f5 := HZ10.out.frozen 5; (simp only [qB, qC, qD] at z5); clear hown7 hg7 hat7)
                          go_roundw
                          case rel => exact ⟨m + 1, rv2, _, by omega, by go_num, HPU.out.1, HPU.out.2.2.1, by rw [HTW.out, HBW2.out, if_pos rfl, HWC.out]; exact HPU.out.2.1, HPU.out.2.2.2.1.symm, HBJ8.out.trans (HBEc.out.trans ((HBD2.out.mono (Nat.le_of_lt hbc)).trans ((HAE.out.mono (by omega)).trans HPU.out.2.2.2.2.1)))⟩
                          case measure => simp [intOf]; omega
                      | false =>
                        go_wp2_with fail
                        go_roundw
                        case rel => exact ⟨m + 1, rv2, .slice A4 (wrsU a m).length c4, by omega, by go_num, ZXc.out, HRVc.out, by rw [HTW.out, HBW2.out]; simpa using HWVc.out, HAPc.out, HBJ8.out.trans HBEc.out⟩
                        case measure => simp [intOf]; omega
              · have j7 : decide ((m : Int) < 4) = false := decide_eq_false (by omega)
                have j8 : decide (m < so54.length) = false := decide_eq_false (show ¬ m < 4 by omega)
                have ONCE : True := trivial
                go_wp2_with (clear ONCE; go_at_call 38; refine (sorted54_is _).mono ?_)
                rintro e wE ⟨g5, c5, rfl, how5, hb5⟩
                have hxr : xb < wr.heap.size := ZX.out.lt
                have ZXE := Lib.hid (ZX.out.next hb5 ZX.out.lt)
                have HBJE := Lib.hid (HBJ.out.trans (hb5.mono (Nat.le_of_lt hxr)))
                have HRVE := Lib.hid (OwnP.next HRV.out hb5)
                have HWVE := Lib.hid (OwnP.next HWV.out hb5)
                clear how5 hb5 ZX HBJ HRV HWV hxr
                have hm4 : m = 4 := by omega
                have hrv4 : OwnP 105 7 chC wE W6.heap.size rv (rdsU b.now a 4) := by rw [← hm4]; exact HRVE.out
                have hwv4 : OwnP 105 7 chC wE W6.heap.size wv (wrsU a 4) := by rw [← hm4]; exact HWVE.out
                obtain ⟨A3, c3, rfl, hc3⟩ := own_len hrv4
                obtain ⟨A4, c4, rfl, hc4⟩ := own_len hwv4
                have HRV4 := Lib.hid hrv4
                have HWV4 := Lib.hid hwv4
                clear hm4 hrv4 hwv4 HRVE HWVE hm
                obtain ⟨vs, hrow, hown⟩ := HAC1.out
                obtain ⟨A9, c9, rfl, hc9⟩ := own_len hown
                have HROW := Lib.hid hrow
                have HOWN := Lib.hid hown
                have hbl : b.l.length ≤ 20 := by have := HGD.out.len; have := HK2.out; omega
                clear hrow hown
                have HR5 := Lib.hid (HBX.out.trans (HBJE.out.mono hx5))
                have HSr := Lib.hid (HS1.out.next HR5.out)
                have hrbs : rb ≤ W5.heap.size := by have := HBW1.out.size; have := HRB.out; omega
                have HBr := Lib.hid (HBW1.out.trans (HR5.out.mono hrbs))
                have HUr := Lib.hid (HU0.out.next HBr.out (by have := HU0.out.1; have := HRB.out; omega))
                have hwl : (wrsU a 4).length ≤ 100000 := by have := wrsU_le a 4; omega
                have z0 := ZXE.out.cell 0
                have z1 := ZXE.out.cell 1
                have z2 := ZXE.out.cell 2
                have z3 := ZXE.out.cell 3
                have z4 := ZXE.out.cell 4
                have z5 := ZXE.out.cell 5
                simp only [qB, qC, qD] at z0 z1 z2 z3 z4 z5
                go_wp2_with fail
                go_at_call 21
                refine (apply_st HSr.out HGD.out.v (OwnP.rd HWV4.out) (wrs_v a) HUr.out hwl).mono ?_
                rintro e w7 ⟨q7, rfl, hq7, hb7⟩
                have HB7 := Lib.hid hb7
                have HQ7 := Lib.hid hq7
                have HR7 := Lib.hid (HR5.out.trans (hb7.mono HR5.out.size))
                have HBr7 := Lib.hid (HBW1.out.trans (HR7.out.mono hrbs))
                have HRV7 := Lib.hid (OwnP.next HRV4.out hb7)
                have HWV7 := Lib.hid (OwnP.next HWV4.out hb7)
                have ZX7 := Lib.hid (ZXE.out.next hb7 ZXE.out.lt)
                have ZW7 := Lib.hid (HZW1.out.next HR7.out HZW1.out.lt)
                have ZR7 := Lib.hid (HZR1.out.next HR7.out HZR1.out.lt)
                have HSB7 := Lib.hid (HSB1.out.next HR7.out)
                have HOWN7 := Lib.hid (own_next HOWN.out HR7.out)
                have HROW7 := Lib.hid (HROW.out.imp fun _ _ h => NAc.next HR7.out h)
                have hal := (Below.refl w7.heap.size w7).alloc (Nat.le_refl _) (.cells #[.int .i64 ky.tick, .int .i64 ky.cls, .int .i64 ky.num, .string (bs ky.lin), .slice A3 (rdsU b.now a 4).length c3, .slice A4 (wrsU a 4).length c4] 77)
                have HAL := Lib.hid hal
                have HOWN8 := Lib.hid (own_next HOWN7.out hal)
                have ZW8 := Lib.hid (ZW7.out.alloc (.cells #[.int .i64 ky.tick, .int .i64 ky.cls, .int .i64 ky.num, .string (bs ky.lin), .slice A3 (rdsU b.now a 4).length c3, .slice A4 (wrsU a 4).length c4] 77))
                have hr7 : rb ≤ w7.heap.size := by have := HR7.out.size; omega
                replace z0 := ZX7.out.cell 0
                replace z1 := ZX7.out.cell 1
                replace z2 := ZX7.out.cell 2
                replace z3 := ZX7.out.cell 3
                replace z4 := ZX7.out.cell 4
                replace z5 := ZX7.out.cell 5
                have y1 := ZW7.out.cell 1
                simp only [qB, qC, qD] at z0 z1 z2 z3 z4 z5 y1
                clear hb7 hq7 HB7 HRV4 HWV4 ZXE HOWN HROW HSr HBr HUr HR5 hal j7
                obtain ⟨i0, hi, hz0, hz1, hz2⟩ := info_parts infoAc
                go_wp2_with (at_builtin; refine wpList_append_lies _ rfl _ _ _ rfl rb 77 i0 _ 6 88 Tryz.underlying45 hi hz0 hz1 hz2 rfl (by omega) (.slice A9 b.l.length c9) b.l.length (rowC acC b.l vs) (by rfl) HOWN8.out ⟨w7.heap.size, 0, none⟩ 1 1 [.int .i64 ky.tick, .int .i64 ky.cls, .int .i64 ky.num, .string (bs ky.lin), .slice A3 (rdsU b.now a 4).length c3, .slice A4 (wrsU a 4).length c4] rfl rfl (World.news_of_block (cs := #[.int .i64 ky.tick, .int .i64 ky.cls, .int .i64 ky.num, .string (bs ky.lin), .slice A3 (rdsU b.now a 4).length c3, .slice A4 (wrsU a 4).length c4]) (t := 77) (fr := (0, 0)) (heap_alloc_new w7 _)) (by simp [Value.oneCell']) (by omega) (by unfold maxLen; omega) (by omega) (by simp; omega) (w7.heap.size + 1) (by simp) ?_; intro gg cap w8 hown8 hgrow8 hat8 hlt8; have HN8 := Lib.hid hown8; have HG8 := Lib.hid hgrow8; have ZW9 := Lib.hid (ZW8.out.grown hgrow8 (fun e => own_blk_ne HOWN8.out ZW8.out (by decide) e.symm)); have y1 := ZW9.out.cell 1; have f1 := ZW9.out.frozen 1; (simp only [qB, qC, qD] at y1); clear hown8 hgrow8 hat8 hlt8)
                go_roundw
                case rel =>
                  have hk8 := Kept.of_own [77] HOWN8.out HG8.out (by decide)
                  have hs9 := world_set ZW9.out 1 (.slice (some ⟨gg, 0, none⟩) (b.l.length + 1) cap)
                  have hB9 : Below rb w (w8.setCell ⟨wb, 1, none⟩ (.slice (some ⟨gg, 0, none⟩) (b.l.length + 1) cap)) := (below_own (HBr7.out.trans (HAL.out.mono hr7)) HOWN8.out HG8.out (Nat.le_refl _) (by simp; omega)).setCell (p := ⟨wb, 1, none⟩) (by have := HWB.out; have := HRB.out; show rb ≤ wb; omega) _
                  refine ⟨k + 1, q7, pb, _, by omega, by omega, by go_num, ?_, ?_, rfl, ?_, ?_, ?_, ZW9.out.set_ 1 _, ?_, hB9⟩
                  · rw [HST.out]
                    show _ = Value.int .i64 (inp54 b.inp a)
                    rw [HIP.out, HI2.out]
                  · rw [HST.out]
                    show _ = Value.int .i64 (b.tick + 1 + a.wait % 2)
                    rw [HTK.out, HT.out]
                  · rw [HST.out]
                    exact ((HQ7.out.next HAL.out).keep hk8 (by decide) (by decide)).keep hs9.1 (by decide) (by decide)
                  · exact ((HSB7.out.next HAL.out).keep hk8 (by decide) (by decide)).keep hs9.1 (by decide) (by decide)
                  · rw [HST.out]
                    have hp := RowOwn.push (x := (⟨ky, rdsU b.now a 4, wrsU a 4⟩ : Ac)) (W := w7) (u := (_, _)) HROW7.out HN8.out (fun _ _ h => NAc.keep hk8 (by decide) (NAc.next HAL.out h)) ⟨RdP.keep (RdP.next (OwnP.rd HRV7.out) HAL.out) hk8 (by decide), RdP.keep (RdP.next (OwnP.rd HWV7.out) HAL.out) hk8 (by decide)⟩
                    have he : (step54 b a).l = b.l ++ [⟨ky, rdsU b.now a 4, wrsU a 4⟩] := by
                      show b.l ++ [ac54 b.now (b.tick + 1 + a.wait % 2) b.inp a] = _
                      unfold ac54
                      rw [HTK.out, HT.out, HIP.out, HKY.out]
                    rw [he]
                    exact RowOwn.keep hp hs9.1 (by decide) (fun _ _ => NAc.keep hs9.1 (by decide))
                  · exact (((ZR7.out.alloc _).grown HG8.out (fun e => own_blk_ne HOWN8.out (ZR7.out.alloc _) (by decide) e.symm))).far (p := ⟨wb, 1, none⟩) (by have := HWB.out; have := HRB.out; show rb ≠ wb; omega) _
                case measure => simp [intOf]; omega
      · have hfe : fold54 (l.take k) = fold54 (l.take 20) := by rw [show k = 20 by omega]
        have j3 : decide ((k : Int) < (l.length : Int)) = true := decide_eq_true (by omega)
        have j3' : decide (k < l.length) = true := decide_eq_true hk
        have j4 : decide ((k : Int) < 20) = false := decide_eq_false (by omega)
        have HW := Lib.hid (good_W l)
        have hwe : W54 l = (fold54 (l.take k)).l := by unfold W54; rw [hfe]
        have hbl : (W54 l).length ≤ 20 := by have := HW.out.len; unfold W54; omega
        have hac2 : OwnAc wr rb lv (W54 l) := by rw [hwe]; exact hac
        have HAR := Lib.hid (show ∀ x ∈ W54 l, AcR x from fun x hx => (HW.out.all x hx).1)
        have HOK := Lib.hid (show ∀ x ∈ W54 l, okAc x = true from fun x hx => (HW.out.all x hx).2.1)
        have HKS := Lib.hid (W54_ks l)
        have HBL := Lib.hid (W54_bld l)
        obtain ⟨L, hL⟩ : ∃ L, W54 l = L := ⟨_, rfl⟩
        have HL := Lib.hid hL
        rw [hL] at hac2 HAR HOK HKS HBL hbl
        obtain ⟨vs, hrow, hown⟩ := id hac2
        obtain ⟨A9, c9, rfl, hc9⟩ := own_len hown
        have HRD := Lib.hid (RowOwn.rd hac2)
        have HZW := Lib.hid hzw
        have HZR := Lib.hid hzr
        have HSB := Lib.hid hstb
        have HUr := Lib.hid (HU0.out.next HBW.out (by have := HU0.out.1; have := HRB.out; omega))
        have hwr : rb ≤ wr.heap.size := Nat.le_of_lt HZR.out.lt
        have y0 := HZW.out.cell 0
        have y1 := HZW.out.cell 1
        simp only [qB, qC, qD] at y0 y1
        clear hrow hown hac hac2 hzw hzr hstb hst0 hwe hfe hL HW
        go_wp2_with fail
        go_at_call 39
        refine (build_is HSB.out HRD.out HUr.out HAR.out base54_v (by omega)).mono ?_
        rintro e w1 ⟨hb1, ⟨hok, gx, F, rfl, hv, hF⟩ | ⟨hbad, rfl⟩⟩
        · have HV1 := Lib.hid hv
          have HF1 := Lib.hid hF
          have HB1 := Lib.hid hb1
          have ZW1 := Lib.hid (HZW.out.next hb1 HZW.out.lt)
          have HRD1 := Lib.hid (RdAc.next HRD.out hb1)
          replace y0 := ZW1.out.cell 0
          replace y1 := ZW1.out.cell 1
          simp only [qB, qC, qD] at y0 y1
          clear hv hF hb1 hok HUr
          go_wp2_with fail
          go_at_call 23
          refine (dbuild_is HRD1.out HKS.out HAR.out HOK.out (by omega)).mono ?_
          rintro e w2 ⟨gg, rfl, hg, hb2⟩
          have HB2 := Lib.hid (HB1.out.trans (hb2.mono HB1.out.size))
          have HV2 := Lib.hid (HV1.out.next hb2)
          have HG2 := Lib.hid hg
          have ZW2 := Lib.hid (HZW.out.next HB2.out HZW.out.lt)
          have ZR2 := Lib.hid (HZR.out.next HB2.out HZR.out.lt)
          have HRD2 := Lib.hid (RdAc.next HRD.out HB2.out)
          have HSB2 := Lib.hid (HSB.out.next HB2.out)
          have n1 : ¬ rb = wb := by have := HWB.out; have := HRB.out; omega
          have n2 : ¬ wb = rb := by omega
          replace y0 := ZW2.out.cell 0
          replace y1 := ZW2.out.cell 1
          have y2 := ZW2.out.cell 2
          have y3 := ZW2.out.cell 3
          have f2 := ZW2.out.frozen 2
          have f3 := ZW2.out.frozen 3
          have r0 := ZR2.out.cell 0
          have r1 := ZR2.out.cell 1
          have r2 := ZR2.out.cell 2
          have r3 := ZR2.out.cell 3
          have g0 := ZR2.out.frozen 0
          have g1 := ZR2.out.frozen 1
          have g2 := ZR2.out.frozen 2
          have g3 := ZR2.out.frozen 3
          simp only [qB, qC, qD] at y0 y1 y2 y3 r0 r1 r2 r3
          clear hg hb2 HRD1 HB1 HV1 ZW1
          go_wp2_with fail
          have s0 := world_set ZW2.out 2 (.pointer (some ⟨gx, 0, none⟩))
          have Z1 := ZW2.out.set_ 2 (.pointer (some ⟨gx, 0, none⟩))
          have s1 := world_set Z1 3 (.pointer (some ⟨gg, 0, none⟩))
          have R2 := (ZR2.out.far (p := ⟨wb, 2, none⟩) n1 (.pointer (some ⟨gx, 0, none⟩))).far (p := ⟨wb, 3, none⟩) n1 (.pointer (some ⟨gg, 0, none⟩))
          have s2 := world_set R2 0 (.pointer pb)
          have R3 := R2.set_ 0 (.pointer pb)
          have s3 := world_set R3 1 (.slice A9 L.length c9)
          have R4 := R3.set_ 1 (.slice A9 L.length c9)
          have s4 := world_set R4 2 (.pointer (some ⟨gx, 0, none⟩))
          have R5 := R4.set_ 2 (.pointer (some ⟨gx, 0, none⟩))
          have s5 := world_set R5 3 (.pointer (some ⟨gg, 0, none⟩))
          have R6 := R5.set_ 3 (.pointer (some ⟨gg, 0, none⟩))
          have kk := ((((s0.1.trans s1.1).trans s2.1).trans s3.1).trans s4.1).trans s5.1
          have mm := ((((s0.2.trans s1.2).trans s2.2).trans s3.2).trans s4.2).trans s5.2
          have q0 := R6.cell 0
          have q1 := R6.cell 1
          have q2 := R6.cell 2
          have q3 := R6.cell 3
          simp only [pB, pC, pD, qB, qC, qD] at q0 q1 q2 q3
          have hbw : rb ≤ wb := by have := HWB.out; have := HRB.out; omega
          have HBF := Lib.hid (((((((HBW.out.trans (HB2.out.mono hwr)).setCell (p := ⟨wb, 2, none⟩) hbw (.pointer (some ⟨gx, 0, none⟩))).setCell (p := ⟨wb, 3, none⟩) hbw (.pointer (some ⟨gg, 0, none⟩))).setCell (p := ⟨rb, 0, none⟩) (Nat.le_refl _) (.pointer pb)).setCell (p := ⟨rb, 1, none⟩) (Nat.le_refl _) (.slice A9 L.length c9)).setCell (p := ⟨rb, 2, none⟩) (Nat.le_refl _) (.pointer (some ⟨gx, 0, none⟩))).setCell (p := ⟨rb, 3, none⟩) (Nat.le_refl _) (.pointer (some ⟨gg, 0, none⟩)))
          exact bodyPost_ret (v := .tuple #[.agg #[.pointer pb, .slice A9 L.length c9, .pointer (some ⟨gx, 0, none⟩), .pointer (some ⟨gg, 0, none⟩)], .bool true]) (by simp [results, Tryz.results13, go_sem, q0, q1, q2, q3]) rfl ⟨pb, _, gx, gg, F, _, rfl, HSB2.out.keep kk rfl rfl, by rw [HL.out]; exact RowRd.keep HRD2.out kk rfl (fun _ _ => NAc.keep kk rfl), by rw [HL.out]; exact HV2.out.keepB kk mm, by rw [HL.out]; exact HG2.out.keepB kk mm, fun i hi => by have := (HF1.out i hi).1; have := HRB.out; omega, by rw [HRB.out]; exact HBF.out⟩
        · exact absurd HBL.out hbad
    · have hfe : fold54 (l.take k) = fold54 (l.take 20) := by rw [List.take_of_length_le (show l.length ≤ k by omega), List.take_of_length_le (show l.length ≤ 20 by omega)]
      have j3 : decide ((k : Int) < (l.length : Int)) = false := decide_eq_false (by omega)
      have j3' : decide (k < l.length) = false := decide_eq_false hk
      have HW := Lib.hid (good_W l)
      have hwe : W54 l = (fold54 (l.take k)).l := by unfold W54; rw [hfe]
      have hbl : (W54 l).length ≤ 20 := by have := HW.out.len; unfold W54; omega
      have hac2 : OwnAc wr rb lv (W54 l) := by rw [hwe]; exact hac
      have HAR := Lib.hid (show ∀ x ∈ W54 l, AcR x from fun x hx => (HW.out.all x hx).1)
      have HOK := Lib.hid (show ∀ x ∈ W54 l, okAc x = true from fun x hx => (HW.out.all x hx).2.1)
      have HKS := Lib.hid (W54_ks l)
      have HBL := Lib.hid (W54_bld l)
      obtain ⟨L, hL⟩ : ∃ L, W54 l = L := ⟨_, rfl⟩
      have HL := Lib.hid hL
      rw [hL] at hac2 HAR HOK HKS HBL hbl
      obtain ⟨vs, hrow, hown⟩ := id hac2
      obtain ⟨A9, c9, rfl, hc9⟩ := own_len hown
      have HRD := Lib.hid (RowOwn.rd hac2)
      have HZW := Lib.hid hzw
      have HZR := Lib.hid hzr
      have HSB := Lib.hid hstb
      have HUr := Lib.hid (HU0.out.next HBW.out (by have := HU0.out.1; have := HRB.out; omega))
      have hwr : rb ≤ wr.heap.size := Nat.le_of_lt HZR.out.lt
      have y0 := HZW.out.cell 0
      have y1 := HZW.out.cell 1
      simp only [qB, qC, qD] at y0 y1
      clear hrow hown hac hac2 hzw hzr hstb hst0 hwe hfe hL HW
      go_wp2_with fail
      go_at_call 39
      refine (build_is HSB.out HRD.out HUr.out HAR.out base54_v (by omega)).mono ?_
      rintro e w1 ⟨hb1, ⟨hok, gx, F, rfl, hv, hF⟩ | ⟨hbad, rfl⟩⟩
      · have HV1 := Lib.hid hv
        have HF1 := Lib.hid hF
        have HB1 := Lib.hid hb1
        have ZW1 := Lib.hid (HZW.out.next hb1 HZW.out.lt)
        have HRD1 := Lib.hid (RdAc.next HRD.out hb1)
        replace y0 := ZW1.out.cell 0
        replace y1 := ZW1.out.cell 1
        simp only [qB, qC, qD] at y0 y1
        clear hv hF hb1 hok HUr
        go_wp2_with fail
        go_at_call 23
        refine (dbuild_is HRD1.out HKS.out HAR.out HOK.out (by omega)).mono ?_
        rintro e w2 ⟨gg, rfl, hg, hb2⟩
        have HB2 := Lib.hid (HB1.out.trans (hb2.mono HB1.out.size))
        have HV2 := Lib.hid (HV1.out.next hb2)
        have HG2 := Lib.hid hg
        have ZW2 := Lib.hid (HZW.out.next HB2.out HZW.out.lt)
        have ZR2 := Lib.hid (HZR.out.next HB2.out HZR.out.lt)
        have HRD2 := Lib.hid (RdAc.next HRD.out HB2.out)
        have HSB2 := Lib.hid (HSB.out.next HB2.out)
        have n1 : ¬ rb = wb := by have := HWB.out; have := HRB.out; omega
        have n2 : ¬ wb = rb := by omega
        replace y0 := ZW2.out.cell 0
        replace y1 := ZW2.out.cell 1
        have y2 := ZW2.out.cell 2
        have y3 := ZW2.out.cell 3
        have f2 := ZW2.out.frozen 2
        have f3 := ZW2.out.frozen 3
        have r0 := ZR2.out.cell 0
        have r1 := ZR2.out.cell 1
        have r2 := ZR2.out.cell 2
        have r3 := ZR2.out.cell 3
        have g0 := ZR2.out.frozen 0
        have g1 := ZR2.out.frozen 1
        have g2 := ZR2.out.frozen 2
        have g3 := ZR2.out.frozen 3
        simp only [qB, qC, qD] at y0 y1 y2 y3 r0 r1 r2 r3
        clear hg hb2 HRD1 HB1 HV1 ZW1
        go_wp2_with fail
        have s0 := world_set ZW2.out 2 (.pointer (some ⟨gx, 0, none⟩))
        have Z1 := ZW2.out.set_ 2 (.pointer (some ⟨gx, 0, none⟩))
        have s1 := world_set Z1 3 (.pointer (some ⟨gg, 0, none⟩))
        have R2 := (ZR2.out.far (p := ⟨wb, 2, none⟩) n1 (.pointer (some ⟨gx, 0, none⟩))).far (p := ⟨wb, 3, none⟩) n1 (.pointer (some ⟨gg, 0, none⟩))
        have s2 := world_set R2 0 (.pointer pb)
        have R3 := R2.set_ 0 (.pointer pb)
        have s3 := world_set R3 1 (.slice A9 L.length c9)
        have R4 := R3.set_ 1 (.slice A9 L.length c9)
        have s4 := world_set R4 2 (.pointer (some ⟨gx, 0, none⟩))
        have R5 := R4.set_ 2 (.pointer (some ⟨gx, 0, none⟩))
        have s5 := world_set R5 3 (.pointer (some ⟨gg, 0, none⟩))
        have R6 := R5.set_ 3 (.pointer (some ⟨gg, 0, none⟩))
        have kk := ((((s0.1.trans s1.1).trans s2.1).trans s3.1).trans s4.1).trans s5.1
        have mm := ((((s0.2.trans s1.2).trans s2.2).trans s3.2).trans s4.2).trans s5.2
        have q0 := R6.cell 0
        have q1 := R6.cell 1
        have q2 := R6.cell 2
        have q3 := R6.cell 3
        simp only [pB, pC, pD, qB, qC, qD] at q0 q1 q2 q3
        have hbw : rb ≤ wb := by have := HWB.out; have := HRB.out; omega
        have HBF := Lib.hid (((((((HBW.out.trans (HB2.out.mono hwr)).setCell (p := ⟨wb, 2, none⟩) hbw (.pointer (some ⟨gx, 0, none⟩))).setCell (p := ⟨wb, 3, none⟩) hbw (.pointer (some ⟨gg, 0, none⟩))).setCell (p := ⟨rb, 0, none⟩) (Nat.le_refl _) (.pointer pb)).setCell (p := ⟨rb, 1, none⟩) (Nat.le_refl _) (.slice A9 L.length c9)).setCell (p := ⟨rb, 2, none⟩) (Nat.le_refl _) (.pointer (some ⟨gx, 0, none⟩))).setCell (p := ⟨rb, 3, none⟩) (Nat.le_refl _) (.pointer (some ⟨gg, 0, none⟩)))
        exact bodyPost_ret (v := .tuple #[.agg #[.pointer pb, .slice A9 L.length c9, .pointer (some ⟨gx, 0, none⟩), .pointer (some ⟨gg, 0, none⟩)], .bool true]) (by simp [results, Tryz.results13, go_sem, q0, q1, q2, q3]) rfl ⟨pb, _, gx, gg, F, _, rfl, HSB2.out.keep kk rfl rfl, by rw [HL.out]; exact RowRd.keep HRD2.out kk rfl (fun _ _ => NAc.keep kk rfl), by rw [HL.out]; exact HV2.out.keepB kk mm, by rw [HL.out]; exact HG2.out.keepB kk mm, fun i hi => by have := (HF1.out i hi).1; have := HRB.out; omega, by rw [HRB.out]; exact HBF.out⟩
      · exact absurd HBL.out hbad
end Go.Proofs.YtamjllakfgphnaaGreatDoor
