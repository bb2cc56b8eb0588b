/- The walk of the law DependExplains. -/
import Derived.Test.YtmjkcanjfjfkfaaGreatZV6
namespace Go.Proofs.YtmjkcanjfjfkfaaGreat
open Go.RowKit
set_option linter.unusedSimpArgs false
set_option linter.unusedVariables false
attribute [local go_sem ↓] Go.wp_at_zero Go.wp_at_succ
theorem bitN_test (x m : Nat) : bitN x m = x.testBit m := by
  unfold bitN
  rw [Nat.testBit_eq_decide_div_mod_eq]
  by_cases h : x / 2 ^ m % 2 = 1 <;> simp [h]
theorem bitN_xor (x y m : Nat) : bitN (x ^^^ y) m = (bitN x m ^^ bitN y m) := by
  rw [bitN_test, bitN_test, bitN_test, Nat.testBit_xor]
theorem bxor8 (x y : Nat) (hx : x < 256) (hy : y < 256) : bits BinOp.xor IntKind.u8 (x : Int) (y : Int) = ((x ^^^ y : Nat) : Int) := by
  show IntKind.u8.wrap ((BitVec.ofInt 8 (x : Int) ^^^ BitVec.ofInt 8 (y : Int)).toNat : Nat) = _
  have h0 : x ^^^ y < 2 ^ 8 := Nat.xor_lt_two_pow hx hy
  have h1 : (BitVec.ofInt 8 (x : Int) ^^^ BitVec.ofInt 8 (y : Int)).toNat = x ^^^ y := by
    rw [BitVec.toNat_xor, BitVec.ofInt_natCast, BitVec.ofInt_natCast, BitVec.toNat_ofNat, BitVec.toNat_ofNat, Nat.mod_eq_of_lt hx, Nat.mod_eq_of_lt hy]
  rw [h1]; generalize x ^^^ y = z at *; have h2 : z < 256 := h0
  unfold IntKind.wrap
  simp [IntKind.signed, IntKind.bits]
  omega
theorem bxor32 (x y : Nat) (hx : x < 4294967296) (hy : y < 4294967296) : bits BinOp.xor IntKind.u32 (x : Int) (y : Int) = ((x ^^^ y : Nat) : Int) := by
  show IntKind.u32.wrap ((BitVec.ofInt 32 (x : Int) ^^^ BitVec.ofInt 32 (y : Int)).toNat : Nat) = _
  have h0 : x ^^^ y < 2 ^ 32 := Nat.xor_lt_two_pow hx hy
  have h1 : (BitVec.ofInt 32 (x : Int) ^^^ BitVec.ofInt 32 (y : Int)).toNat = x ^^^ y := by
    rw [BitVec.toNat_xor, BitVec.ofInt_natCast, BitVec.ofInt_natCast, BitVec.toNat_ofNat, BitVec.toNat_ofNat, Nat.mod_eq_of_lt hx, Nat.mod_eq_of_lt hy]
  rw [h1]; generalize x ^^^ y = z at *; have h2 : z < 4294967296 := h0
  unfold IntKind.wrap
  simp [IntKind.signed, IntKind.bits]
  omega
theorem xor_bit8 (x y m : Nat) (hx : x < 256) (hy : y < 256) (h : bitN x m ≠ bitN y m) : bits BinOp.and IntKind.u8 (bits BinOp.xor IntKind.u8 (x : Int) (y : Int) / 2 ^ m) 1 = 1 := by
  rw [bxor8 x y hx hy, bits_bit, bitN_xor]
  cases h1 : bitN x m <;> cases h2 : bitN y m <;> simp_all
theorem xor_bit32 (x y m : Nat) (hx : x < 4294967296) (hy : y < 4294967296) (h : bitN x m ≠ bitN y m) : bits BinOp.and IntKind.u32 (bits BinOp.xor IntKind.u32 (x : Int) (y : Int) / 2 ^ m) 1 = 1 := by
  rw [bxor32 x y hx hy, bits32, bitN_xor]
  cases h1 : bitN x m <;> cases h2 : bitN y m <;> simp_all
theorem whoS_ne {m n : Nat} (h1 : 1 ≤ m) (h2 : m ≤ 3) (h3 : 1 ≤ n) (h4 : n ≤ 3) (h : m ≠ n) : whoS m ≠ whoS n := by
  rcases (show m = 1 ∨ m = 2 ∨ m = 3 by omega) with rfl | rfl | rfl <;> rcases (show n = 1 ∨ n = 2 ∨ n = 3 by omega) with rfl | rfl | rfl <;> first | exact absurd rfl h | decide
open Go.MapKept Go.ChangeMaps
def leRel (N : Nat) (w : World) (i : Value) (wr : World) : Prop := ∃ j : Nat, j ≤ N ∧ i = .int .i64 (j : Int) ∧ Below w.heap.size w wr
def ldRel (M : Nat) (w : World) (i : Value) (wr : World) : Prop := ∃ t : Nat, 1 ≤ t ∧ t ≤ M ∧ i = .int .i64 (t : Int) ∧ Below w.heap.size w wr
def ltRel (n : Nat) (w : World) (t i : Value) (wr : World) : Prop := ∃ s : Nat, 1 ≤ s ∧ s ≤ 4 ∧ i = .int .u8 (s : Int) ∧ t = .bool (decide (n < s)) ∧ Below w.heap.size w wr
set_option maxRecDepth 100000 in
set_option maxHeartbeats 8000000 in
theorem law_explains {w : World} {u : Value} {ds : List De} (hd : DeAt w.heap.size w u ds) (ta tb tc td : Nat) (hta : ta < 4294967296) (htb : tb < 4294967296) (htc : tc < 256) (htd : td < 256) : Calls Tryz.prog 3 #[.agg #[u], .agg #[.int .u32 ta, .int .u32 tb, .int .u8 tc, .int .u8 td]] w fun e w' => e = .returned (.bool true) ∧ Below w.heap.size w w' := by
  obtain ⟨A, c, rfl, hc, hcm⟩ := Ra.form hd.1; have b0 := Below.refl w.heap.size w; have b1 := b0.alloc b0.size (.cells #[.slice A ds.length c] 24); have b2 := b1.alloc b1.size (.cells #[.int .u32 ta, .int .u32 tb, .int .u8 tc, .int .u8 td] 29); have z0 := ((Blk.new w 24 #[.slice A ds.length c]).alloc (.cells #[.int .u32 ta, .int .u32 tb, .int .u8 tc, .int .u8 td] 29)); have z1 := (Blk.newE (w.alloc (.cells #[.slice A ds.length c] 24)) 29 #[.int .u32 ta, .int .u32 tb, .int .u8 tc, .int .u8 td] (w.heap.size + 1) (by simp)); have HB0 := Lib.hid b2; have HDD : Hid (DeOk ds) := Lib.hid hd.2; have HR1 := Lib.hid (fun (W : World) (hW : Below ((w.alloc (.cells #[.slice A ds.length c] 24)).alloc (.cells #[.int .u32 ta, .int .u32 tb, .int .u8 tc, .int .u8 td] 29)).heap.size ((w.alloc (.cells #[.slice A ds.length c] 24)).alloc (.cells #[.int .u32 ta, .int .u32 tb, .int .u8 tc, .int .u8 td] 29)) W) => run_is ta tc ((hd.next b2 b2.size).next hW hW.size) hta htc); have HR2 := Lib.hid (fun (W : World) (hW : Below ((w.alloc (.cells #[.slice A ds.length c] 24)).alloc (.cells #[.int .u32 ta, .int .u32 tb, .int .u8 tc, .int .u8 td] 29)).heap.size ((w.alloc (.cells #[.slice A ds.length c] 24)).alloc (.cells #[.int .u32 ta, .int .u32 tb, .int .u8 tc, .int .u8 td] 29)) W) => run_is tb td ((hd.next b2 b2.size).next hW hW.size) htb htd); have HLAW := Lib.hid (fun k => expA_law HDD.out ta tc tb td k); have oa := runS_ok HDD.out ta tc; have ob := runS_ok HDD.out tb td; have HTC := Lib.hid htc; have HTD := Lib.hid htd; have HTA := Lib.hid hta; have HTB := Lib.hid htb; obtain ⟨a, haa⟩ : ∃ a, runS ds ta tc = a := ⟨_, rfl⟩; obtain ⟨b, hbb⟩ : ∃ b, runS ds tb td = b := ⟨_, rfl⟩; rw [haa] at HR1 oa HLAW; rw [hbb] at HR2 ob HLAW; have HA := Lib.hid z0; have Z1 := Lib.hid z1; clear hd haa hbb b0 b1 b2 z0 z1 hta htb htc htd
  go_enter Tryz.func3, Tryz.ntmps3
  go_upto_region 1 with (fail)
  generalize ((w.alloc (.cells #[.slice A ds.length c] 24)).alloc (.cells #[.int .u32 ta, .int .u32 tb, .int .u8 tc, .int .u8 td] 29)) = w1 at *; obtain ⟨tb_, htb⟩ : ∃ x, w.heap.size + 1 = x := ⟨_, rfl⟩; obtain ⟨wb, hwb⟩ : ∃ x, w.heap.size = x := ⟨_, rfl⟩; have HWB := Lib.hid hwb; rw [htb] at Z1 ⊢; rw [hwb] at HA ⊢; clear htb hwb; have HSS := Lib.hid (fun (W : World) (hW : Below w1.heap.size w1 W) => show W.cell? ⟨wb, 0, none⟩ = some (.slice A ds.length c) ∧ W.cell? ⟨tb_, 0, none⟩ = some (.int .u32 ta) ∧ W.cell? ⟨tb_, 1, none⟩ = some (.int .u32 tb) ∧ W.cell? ⟨tb_, 2, none⟩ = some (.int .u8 tc) ∧ W.cell? ⟨tb_, 3, none⟩ = some (.int .u8 td) from ⟨(HA.out.next hW HA.out.lt).cell 0, (Z1.out.next hW Z1.out.lt).cell 0, (Z1.out.next hW Z1.out.lt).cell 1, (Z1.out.next hW Z1.out.lt).cell 2, (Z1.out.next hW Z1.out.lt).cell 3⟩)
  refine wp_region_noPanic ?_
  refine wp_region_held_drew (S := (fun (w' : World) => w'.cell? ⟨wb, 0, none⟩ = some (.slice A ds.length c) ∧ w'.cell? ⟨tb_, 0, none⟩ = some (.int .u32 ta) ∧ w'.cell? ⟨tb_, 1, none⟩ = some (.int .u32 tb) ∧ w'.cell? ⟨tb_, 2, none⟩ = some (.int .u8 tc) ∧ w'.cell? ⟨tb_, 3, none⟩ = some (.int .u8 td))) (by kernel_rfl) ?_ (fun hHeld => ?_)
  · exact HSS.out w1 (Below.refl _ _)
  refine tk (v := ?_) 0 rfl (by kernel_rfl) (fun _ _ _ h => h) ?_ hHeld ?_; rotate_left
  · (intro w h; (try dsimp only at h); go_simp; try with_reducible rfl)
  try simp only [Act.put, pB, pC, pD]
  refine tk (v := ?_) 1 rfl (by kernel_rfl) (fun _ _ _ h => h) ?_ hHeld ?_; rotate_left
  · (intro w h; (try dsimp only at h); go_simp; try with_reducible rfl)
  try simp only [Act.put, pB, pC, pD]
  refine tk (v := ?_) 2 rfl (by kernel_rfl) (fun _ _ _ h => h) ?_ hHeld ?_; rotate_left
  · (intro w h; (try dsimp only at h); go_simp; try with_reducible rfl)
  try simp only [Act.put, pB, pC, pD]
  refine tk (v := ?_) 3 rfl (by kernel_rfl) (fun _ _ _ h => h) ?_ hHeld ?_; rotate_left
  · (intro w h; (try dsimp only at h); go_simp; try with_reducible rfl)
  try simp only [Act.put, pB, pC, pD]
  refine tk (v := ?_) 4 rfl (by kernel_rfl) (fun _ _ _ h => h) ?_ hHeld ?_; rotate_left
  · (intro w h; (try dsimp only at h); go_simp; try with_reducible rfl)
  try simp only [Act.put, pB, pC, pD]
  refine tk (v := ?_) 5 rfl (by kernel_rfl) (fun _ _ _ h => h) ?_ hHeld ?_; rotate_left
  · (intro w h; (try dsimp only at h); go_simp; try with_reducible rfl)
  try simp only [Act.put, pB, pC, pD]
  refine tk (v := ?_) 6 rfl (by kernel_rfl) (fun _ _ _ h => h) ?_ hHeld ?_; rotate_left
  · (intro w h; (try dsimp only at h); go_simp; try with_reducible rfl)
  try simp only [Act.put, pB, pC, pD]
  refine tk (v := ?_) 8 rfl (by kernel_rfl) (fun _ _ _ h => h) ?_ hHeld ?_; rotate_left
  · (intro w h; (try dsimp only at h); go_simp; try with_reducible rfl)
  try simp only [Act.put, pB, pC, pD]
  refine tk (v := ?_) 9 rfl (by kernel_rfl) (fun _ _ _ h => h) ?_ hHeld ?_; rotate_left
  · (intro w h; (try dsimp only at h); go_simp; try with_reducible rfl)
  try simp only [Act.put, pB, pC, pD]
  refine tk (v := ?_) 10 rfl (by kernel_rfl) (fun _ _ _ h => h) ?_ hHeld ?_; rotate_left
  · (intro w h; (try dsimp only at h); go_simp; try with_reducible rfl)
  try simp only [Act.put, pB, pC, pD]
  refine tk (v := ?_) 11 rfl (by kernel_rfl) (fun _ _ _ h => h) ?_ hHeld ?_; rotate_left
  · (intro w h; (try dsimp only at h); go_simp; try with_reducible rfl)
  try simp only [Act.put, pB, pC, pD]
  refine tk (v := ?_) 12 rfl (by kernel_rfl) (fun _ _ _ h => h) ?_ hHeld ?_; rotate_left
  · (intro w h; (try dsimp only at h); go_simp; try with_reducible rfl)
  try simp only [Act.put, pB, pC, pD]
  refine tk (v := ?_) 13 rfl (by kernel_rfl) (fun _ _ _ h => h) ?_ hHeld ?_; rotate_left
  · (intro w h; (try dsimp only at h); go_simp; try with_reducible rfl)
  try simp only [Act.put, pB, pC, pD]
  refine tk (v := ?_) 14 rfl (by kernel_rfl) (fun _ _ _ h => h) ?_ hHeld ?_; rotate_left
  · (intro w h; (try dsimp only at h); go_simp; try with_reducible rfl)
  try simp only [Act.put, pB, pC, pD]
  refine wpAnyH_ready (rs := [7]) (by kernel_rfl) (by simp) ?_; refine AllReadyH.cons rfl (fun K hK => ?_) AllReadyH.nil; go_simp; refine (HR1.out _ ((Below.refl w1.heap.size w1).drew)).mono ?_; rintro e w2 ⟨v1, rfl, hr1, hb'⟩; have B2 := Lib.hid (((Below.refl w1.heap.size w1).drew).trans (hb'.mono ((Below.refl w1.heap.size w1).drew).size)); have h2 := HSS.out w2 B2.out; have HV1 := Lib.hid hr1; clear hb' hr1
  try (go_wp2_with fail)
  refine hK.out _ _ ?_ (fun hNew => ?_)
  · exact h2
  clear hK K hHeld; have hHeld := hNew; clear hNew; try simp only [Act.put, pB, pC, pD]
  refine wpAnyH_ready (rs := [15]) (by kernel_rfl) (by simp) ?_; refine AllReadyH.cons rfl (fun K hK => ?_) AllReadyH.nil; go_simp; refine (HR2.out _ (B2.out)).mono ?_; rintro e w3 ⟨v2, rfl, hr2, hb'⟩; have B3 := Lib.hid ((B2.out).trans (hb'.mono (B2.out).size)); have h3 := HSS.out w3 B3.out; have HV2 := Lib.hid hr2; have HBB := Lib.hid hb'; clear hb' hr2
  try (go_wp2_with fail)
  refine hK.out _ _ ?_ (fun hNew => ?_)
  · exact h3
  clear hK K hHeld; have hHeld := hNew; clear hNew; try simp only [Act.put, pB, pC, pD]
  refine tk (v := ?_) 16 rfl (by kernel_rfl) (fun _ _ _ h => h) ?_ hHeld ?_; rotate_left
  · (intro w h; (try dsimp only at h); go_simp; try with_reducible rfl)
  try simp only [Act.put, pB, pC, pD]
  refine tk (v := ?_) 17 rfl (by kernel_rfl) (fun _ _ _ h => h) ?_ hHeld ?_; rotate_left
  · (intro w h; (try dsimp only at h); go_simp; try with_reducible rfl)
  try simp only [Act.put, pB, pC, pD]
  refine wpAnyH_done (by kernel_rfl) ?_ _; clear hHeld
  try simp only [List.getElem_toArray, List.getElem_cons_zero, List.getElem_cons_succ, Act.put, pB, pC, pD]
  refine NoPanic.normal ?_
  clear h2 h3 HSS HR1 HR2 HA; have RA := Lib.hid (RdAc.next HV1.out ((show Below w2.heap.size w2 w3 from HBB.out))); have RB := HV2; replace Z1 := Lib.hid (Z1.out.next B3.out Z1.out.lt); have B3w := Lib.hid (HB0.out.trans (B3.out.mono HB0.out.size)); clear HV1 HV2 B2 B3 HB0 HBB; obtain ⟨A1, c1_, rfl, hc1_⟩ := RowRd.form RA.out; obtain ⟨A2, c2_, rfl, hc2_⟩ := RowRd.form RB.out; have hal := oa.len; have hbl := ob.len; have OA := Lib.hid oa; have OB := Lib.hid ob; clear oa ob
  go_upto_region 4 with (go_at_call 6; refine (known47_is _).mono ?_; rintro e w4 ⟨rfl, hb⟩; have B4 := Lib.hid hb; clear hb)
  replace RA := Lib.hid (RdAc.next RA.out B4.out); replace RB := Lib.hid (RdAc.next RB.out B4.out); replace Z1 := Lib.hid (Z1.out.next B4.out Z1.out.lt); have Bw := Lib.hid (B3w.out.trans (B4.out.mono B3w.out.size)); clear B3w B4; obtain ⟨N, hN⟩ : ∃ N, a.length + b.length = N := ⟨_, rfl⟩; have HN := Lib.hid hN
  have hNl : N ≤ 70 := by omega
  clear hN; have hbe := (Below.refl w4.heap.size w4).alloc (Nat.le_refl _) (.cells #[] 38); have HBE := Lib.hid hbe; have HE0 := Lib.hid (own_empty w4 w4.heap.size 38 6 (Nat.le_refl _)); obtain ⟨ua, hua, hra⟩ := RA.out; obtain ⟨ub, hub, hrb⟩ := RB.out; have HUA := Lib.hid hua; have HUB := Lib.hid hub; have HRA := Lib.hid (hra.next hbe); have HRB := Lib.hid hrb; obtain ⟨hla, hoa⟩ := rowC_size hua; obtain ⟨hlb, hob⟩ := rowC_size hub; obtain ⟨i0, hi, hz0, hz1, hz2⟩ := info_parts infoAc47; have HMX := Lib.hid (show 70 ≤ maxLen by unfold maxLen; omega); clear hbe hua hub hra hrb
  go_upto_region 5 with (first | (at_builtin; refine wpList_append_rd _ rfl _ _ 30 rfl w4.heap.size 38 i0 _ 6 88 Tryz.underlying30 hi hz0 hz1 hz2 rfl (by decide) _ 0 [] (by rfl) HE0.out _ a.length (rowC acC a ua) (by rfl) HRA.out hla hoa (by have := HMX.out; omega) (by omega) (by simp) ?_; intro ao cap w7 hown7 hg7; (simp only [Nat.zero_add, List.nil_append] at hown7); have O7 := Lib.hid hown7; have B7 := Lib.hid (below_own HBE.out HE0.out hg7 (Nat.le_refl _) (by simp)); clear hown7 hg7; (simp only [Nat.zero_add])) | (at_builtin; refine wpList_append_rd _ rfl _ _ 30 rfl w4.heap.size 38 i0 _ 6 88 Tryz.underlying30 hi hz0 hz1 hz2 rfl (by decide) _ a.length (rowC acC a ua) (by rfl) O7.out _ b.length (rowC acC b ub) (by rfl) (HRB.out.next B7.out) hlb hob (by have := HMX.out; omega) (by omega) (by have := B7.out.size; omega) ?_; intro ao2 cap2 w8 hown8 hg8; have O8 := Lib.hid hown8; have B8 := Lib.hid (below_own B7.out O7.out hg8 (Nat.le_refl _) B7.out.size); clear hown8 hg8; rw [HN.out] at O8 ⊢))
  clear i0 hi hz0 hz1 hz2 hla hoa hlb hob HMX HRA; have RR := Lib.hid (show RdAc w8 (.slice ao2 N cap2) (a ++ b) from ⟨ua ++ ub, RowW.app (HUA.out.nx B8.out) (HUB.out.nx B8.out), by rw [List.length_append, HN.out, rowC_app acC a ua b ub HUA.out.1]; exact Rd.of_own O8.out⟩); have RA8 := Lib.hid (RdAc.next RA.out B8.out); have RB8 := Lib.hid (RdAc.next RB.out B8.out); replace Z1 := Lib.hid (Z1.out.next B8.out Z1.out.lt); have HBW := Lib.hid (Bw.out.trans (B8.out.mono Bw.out.size)); clear HE0 HBE O7 B7 O8 B8 HUA HUB HRB RA RB Bw; have HNN := Lib.hid (show (a ++ b).length = N by rw [List.length_append]; exact HN.out)
  have HKL := Lib.hid (fun (x : Ac) (hx : x ∈ a ++ b) => show x.key.lin ∈ lin5 from by
    rcases List.mem_append.1 hx with h | h
    · exact (OA.out.r x h).1.2.1
    · exact (OB.out.r x h).1.2.1)
  have H0 : Hid (leRel N w8 (.int .i64 (0 : Nat)) w8) := Lib.hid ⟨0, Nat.zero_le _, rfl, Below.refl _ _⟩
  go_wp2_with fail
  go_loopw [44] (fun i wr => leRel N w8 i wr) (fun i _ => N - (intOf i).toNat)
  case atStart => exact H0.out
  case round =>
    clear H0; obtain ⟨j, hj, rfl, hB⟩ := hrel; have HB := Lib.hid hB; clear hB
    by_cases hjN : j < N
    · have j1 : decide ((j : Int) < (N : Int)) = true := decide_eq_true (by omega)
      have j2 : (0 : Int) ≤ (j : Int) := by omega
      have j3 : (j : Int) < (N : Int) := by omega
      have hjl : j < (a ++ b).length := by rw [HNN.out]; exact hjN
      obtain ⟨xb, xo, u1, u2, hbe, hxb, hr1, hr2, y0, y1, y2, y3, y4, y5⟩ := RdAc.piece (RdAc.next RR.out HB.out) hjl; subst hbe; obtain ⟨U1, g1, hu, -⟩ := RdP.form hr1; subst hu; obtain ⟨U2, g2, hu, -⟩ := RdP.form hr2; subst hu; have hkl := HKL.out _ (List.getElem_mem hjl); obtain ⟨k, hk⟩ : ∃ k, (a ++ b)[j].key = k := ⟨_, rfl⟩; rw [hk] at y0 y1 y2 y3 hkl; obtain ⟨n1, hn1⟩ : ∃ n, (a ++ b)[j].reads.length = n := ⟨_, rfl⟩; obtain ⟨n2, hn2⟩ : ∃ n, (a ++ b)[j].writes.length = n := ⟨_, rfl⟩; rw [hn1] at y4; rw [hn2] at y5; clear hn1 hn2; have HKN := Lib.hid hkl; have HJN := Lib.hid hjN; clear hk hjl hkl hxb hr1 hr2
      go_upto_region 7 with (fail)
      have hba := (Below.refl wr.heap.size wr).alloc (Nat.le_refl _) (.cells #[.int .i64 k.tick, .int .i64 k.cls, .int .i64 k.num, .string (bs k.lin), .slice U1 n1 g1, .slice U2 n2 g2] 38); have B9 := Lib.hid (HB.out.trans (hba.mono HB.out.size)); have ZX := Lib.hid (Blk.new wr 38 #[.int .i64 k.tick, .int .i64 k.cls, .int .i64 k.num, .string (bs k.lin), .slice U1 n1 g1, .slice U2 n2 g2]); clear hba y0 y1 y2 y3 y4 y5; generalize wr.alloc (.cells #[.int .i64 k.tick, .int .i64 k.cls, .int .i64 k.num, .string (bs k.lin), .slice U1 n1 g1, .slice U2 n2 g2] 38) = w9 at *; obtain ⟨xk, hxk⟩ : ∃ xk, wr.heap.size = xk := ⟨_, rfl⟩; rw [hxk] at ZX ⊢; clear hxk; have HEX := Lib.hid (fun (W : World) (hW : Below w8.heap.size w8 W) => explain_is (RdAc.next RA8.out hW) (RdAc.next RB8.out hW) OA.out OB.out HKN.out); have HLX := Lib.hid (fun (W : World) (hW : Below w8.heap.size w8 W) => lexplain_is (RdAc.next RA8.out hW) (RdAc.next RB8.out hW) OA.out OB.out HKN.out); have HRS := Lib.hid (fun (W : World) (hW : Below w8.heap.size w8 W) => lreason_is (RdAc.next RA8.out hW) (RdAc.next RB8.out hW) OA.out OB.out HKN.out)
      unfold kyV at HEX HLX HRS
      unfold rsV at HRS
      have hRl := expA_len OA.out OB.out k; have HLN := Lib.hid (expA_lin OA.out OB.out k); obtain ⟨y, hy⟩ : ∃ y, (rsnE a b k).1 = y := ⟨_, rfl⟩; obtain ⟨ee, hee⟩ : ∃ ee, (rsnE a b k).2 = ee := ⟨_, rfl⟩; have hee3 := rsnE_err a b k; rw [hee] at hee3; obtain ⟨R, hRR⟩ : ∃ R, (expA a b k).1 = R := ⟨_, rfl⟩; have hlaw := HLAW.out k; rw [hy, hee] at HRS; rw [hee, hRR] at hlaw; rw [hRR] at HEX HLX hRl HLN; clear hy hee
      rcases hlaw with ⟨h0, hE⟩ | ⟨h0, hE, hD, l', r, hR, hT⟩
      · have hE1 : (expA a b k).2 = 8 := by rw [hE]
        rw [hE1] at HEX HLX; have e0 : decide (ee = 0) = false := decide_eq_false h0; rw [e0] at HRS; clear hE hE1 hRR h0 hee3 e0; have q0 := ZX.out.cell 0; have q1 := ZX.out.cell 1; have q2 := ZX.out.cell 2; have q3 := ZX.out.cell 3; have q4 := ZX.out.cell 4; have q5 := ZX.out.cell 5; simp only [qB, qC, qD] at q0 q1 q2 q3 q4 q5
        go_upto_region 8 with (go_at_call 7; refine (HEX.out _ B9.out).mono ?_; rintro e w10 ⟨vr, rfl, hr, hb⟩; have HRR := Lib.hid hr; replace ZX := Lib.hid (ZX.out.next hb ZX.out.lt); have B10 := Lib.hid (B9.out.trans (hb.mono B9.out.size)); clear hb hr; clear q0 q1 q2 q3 q4 q5)
        have q0 := ZX.out.cell 0; have q1 := ZX.out.cell 1; have q2 := ZX.out.cell 2; have q3 := ZX.out.cell 3; have q4 := ZX.out.cell 4; have q5 := ZX.out.cell 5; simp only [qB, qC, qD] at q0 q1 q2 q3 q4 q5
        go_upto_region 9 with (go_at_call 8; refine (HLX.out _ B10.out).mono ?_; rintro e w11 ⟨vl, rfl, hr, hb⟩; have HRL := Lib.hid hr; replace HRR := Lib.hid (RdP.next HRR.out hb); replace ZX := Lib.hid (ZX.out.next hb ZX.out.lt); have B11 := Lib.hid (B10.out.trans (hb.mono B10.out.size)); clear hb hr; clear q0 q1 q2 q3 q4 q5)
        go_upto_region 11 with (go_at_call 9; refine (eqrs_is HRR.out HRL.out (by omega) (by omega)).mono ?_; rintro e w12 ⟨rfl, hb⟩; rw [show decide (R = R) = true from decide_eq_true rfl]; replace HRR := Lib.hid (RdP.next HRR.out hb); replace ZX := Lib.hid (ZX.out.next hb ZX.out.lt); have B12 := Lib.hid (B11.out.trans (hb.mono B11.out.size)); clear hb HRL)
        have q0 := ZX.out.cell 0; have q1 := ZX.out.cell 1; have q2 := ZX.out.cell 2; have q3 := ZX.out.cell 3; have q4 := ZX.out.cell 4; have q5 := ZX.out.cell 5; simp only [qB, qC, qD] at q0 q1 q2 q3 q4 q5
        go_upto_region 12 with (go_at_call 10; refine (HRS.out _ B12.out).mono ?_; rintro e w13 ⟨rfl, hb⟩; replace HRR := Lib.hid (RdP.next HRR.out hb); have B13 := Lib.hid (B12.out.trans (hb.mono B12.out.size)); clear hb; clear q0 q1 q2 q3 q4 q5)
        have hba := (Below.refl w13.heap.size w13).alloc (Nat.le_refl _) (.cells #[.int .i64 y.key.tick, .int .i64 y.key.cls, .int .i64 y.key.num, .string (bs y.key.lin), .int .i64 y.kind, .int .i64 y.name.kind, .string (bs y.name.owner), .int .i64 y.name.num, .int .i64 y.name.idx, .string (bs y.name.text)] 47); have B14 := Lib.hid (B13.out.trans (hba.mono B13.out.size)); replace HRR := Lib.hid (RdP.next HRR.out hba); clear hba; generalize w13.alloc (.cells #[.int .i64 y.key.tick, .int .i64 y.key.cls, .int .i64 y.key.num, .string (bs y.key.lin), .int .i64 y.kind, .int .i64 y.name.kind, .string (bs y.name.owner), .int .i64 y.name.num, .int .i64 y.name.idx, .string (bs y.name.text)] 47) = w14 at *
        go_wp2_with fail
        exact ⟨⟨j + 1, HJN.out, by go_num, B14.out⟩, by have := HJN.out; simp [intOf]; omega⟩
      · subst h0
        rw [hE] at HEX HLX; rw [show decide ((0 : Int) = 0) = true from rfl] at HRS
        have hR0 : 0 < R.length := by rw [hR]; simp
        clear hE hRR hee3; have q0 := ZX.out.cell 0; have q1 := ZX.out.cell 1; have q2 := ZX.out.cell 2; have q3 := ZX.out.cell 3; have q4 := ZX.out.cell 4; have q5 := ZX.out.cell 5; simp only [qB, qC, qD] at q0 q1 q2 q3 q4 q5
        go_upto_region 8 with (go_at_call 7; refine (HEX.out _ B9.out).mono ?_; rintro e w10 ⟨vr, rfl, hr, hb⟩; have HRR := Lib.hid hr; replace ZX := Lib.hid (ZX.out.next hb ZX.out.lt); have B10 := Lib.hid (B9.out.trans (hb.mono B9.out.size)); clear hb hr; clear q0 q1 q2 q3 q4 q5)
        have q0 := ZX.out.cell 0; have q1 := ZX.out.cell 1; have q2 := ZX.out.cell 2; have q3 := ZX.out.cell 3; have q4 := ZX.out.cell 4; have q5 := ZX.out.cell 5; simp only [qB, qC, qD] at q0 q1 q2 q3 q4 q5
        go_upto_region 9 with (go_at_call 8; refine (HLX.out _ B10.out).mono ?_; rintro e w11 ⟨vl, rfl, hr, hb⟩; have HRL := Lib.hid hr; replace HRR := Lib.hid (RdP.next HRR.out hb); replace ZX := Lib.hid (ZX.out.next hb ZX.out.lt); have B11 := Lib.hid (B10.out.trans (hb.mono B10.out.size)); clear hb hr; clear q0 q1 q2 q3 q4 q5)
        go_upto_region 11 with (go_at_call 9; refine (eqrs_is HRR.out HRL.out (by omega) (by omega)).mono ?_; rintro e w12 ⟨rfl, hb⟩; rw [show decide (R = R) = true from decide_eq_true rfl]; replace HRR := Lib.hid (RdP.next HRR.out hb); replace ZX := Lib.hid (ZX.out.next hb ZX.out.lt); have B12 := Lib.hid (B11.out.trans (hb.mono B11.out.size)); clear hb HRL)
        have q0 := ZX.out.cell 0; have q1 := ZX.out.cell 1; have q2 := ZX.out.cell 2; have q3 := ZX.out.cell 3; have q4 := ZX.out.cell 4; have q5 := ZX.out.cell 5; simp only [qB, qC, qD] at q0 q1 q2 q3 q4 q5
        go_upto_region 12 with (go_at_call 10; refine (HRS.out _ B12.out).mono ?_; rintro e w13 ⟨rfl, hb⟩; replace HRR := Lib.hid (RdP.next HRR.out hb); have B13 := Lib.hid (B12.out.trans (hb.mono B12.out.size)); clear hb; clear q0 q1 q2 q3 q4 q5)
        have hba := (Below.refl w13.heap.size w13).alloc (Nat.le_refl _) (.cells #[.int .i64 y.key.tick, .int .i64 y.key.cls, .int .i64 y.key.num, .string (bs y.key.lin), .int .i64 y.kind, .int .i64 y.name.kind, .string (bs y.name.owner), .int .i64 y.name.num, .int .i64 y.name.idx, .string (bs y.name.text)] 47); have B14 := Lib.hid (B13.out.trans (hba.mono B13.out.size)); replace HRR := Lib.hid (RdP.next HRR.out hba); clear hba; generalize w13.alloc (.cells #[.int .i64 y.key.tick, .int .i64 y.key.cls, .int .i64 y.key.num, .string (bs y.key.lin), .int .i64 y.kind, .int .i64 y.name.kind, .string (bs y.name.owner), .int .i64 y.name.num, .int .i64 y.name.idx, .string (bs y.name.text)] 47) = w14 at *; obtain ⟨A3, c3_, rfl, hc3_⟩ := RdP.form HRR.out; obtain ⟨rb, ro, hbe, -, -, -, -, -, -, -, -, -, -, -⟩ := RdRs.piece HRR.out hR0; subst hbe
        have HRK := Lib.hid (fun (q : Nat) (hq : q < R.length) (W : World) (hW : Below w14.heap.size w14 W) => show W.cell? ⟨rb, ro + q * 10, none⟩ = some (.int .i64 R[q].key.tick) ∧ W.cell? ⟨rb, ro + q * 10 + 1, none⟩ = some (.int .i64 R[q].key.cls) ∧ W.cell? ⟨rb, ro + q * 10 + 2, none⟩ = some (.int .i64 R[q].key.num) ∧ W.cell? ⟨rb, ro + q * 10 + 3, none⟩ = some (.string (bs R[q].key.lin)) from by
          obtain ⟨b2, o2, hbe2, -, t0, t1, t2, t3, -, -, -, -, -, -⟩ := RdRs.piece (RdP.next HRR.out hW) hq
          injection hbe2 with hbe2
          injection hbe2 with hb2 ho2
          subst hb2; subst ho2
          exact ⟨t0, t1, t2, t3⟩)
        have HDD2 := Lib.hid hD; have HT := Lib.hid hT
        have hMl : R.length = l'.length + 1 := by rw [hR]; simp
        have HLST := Lib.hid (fun (M : Nat) (hM : M < R.length) (he : R.length = M + 1) => show R[M] = r from by
          have hMe : M = l'.length := by omega
          subst hMe
          simp only [hR, List.getElem_concat_length])
        have HML := Lib.hid hMl
        have hne : ¬ R.length = 0 := by omega
        have hne2 : (R.length == 0) = false := by simpa using hne
        have hne3 : ((R.length : Int) == 0) = false := by rw [beq_eq_false_iff_ne]; omega
        have H1 : Hid (ldRel R.length w14 (.int .i64 ((1 : Nat) : Int)) w14) := Lib.hid ⟨1, Nat.le_refl _, hR0, rfl, Below.refl _ _⟩; replace Z1 := Lib.hid (Z1.out.next B14.out Z1.out.lt); clear hD hT hR hMl
        go_upto_region 17 with (fail)
        clear hne hne2 hne3
        go_wp2_with fail
        go_loopw [16] (fun i wr => ldRel R.length w14 i wr) (fun i _ => R.length - (intOf i).toNat)
        case atStart => exact H1.out
        case round =>
          clear H1; obtain ⟨t, ht1, htR, rfl, hB⟩ := hrel; have HBL := Lib.hid hB; clear hB; obtain ⟨q, hq⟩ : ∃ q, t = q + 1 := ⟨t - 1, by omega⟩
          have hwq : IntKind.i64.wrap ((t : Int) - 1) = (q : Int) := by rw [IntWalk.i64_in _ (by omega)]; omega
          have HTQ := Lib.hid hq
          by_cases htl : t < R.length
          · have i1 : decide ((t : Int) < (R.length : Int)) = true := decide_eq_true (by omega)
            have i2 : (0 : Int) ≤ (t : Int) := by omega
            have i3 : (t : Int) < (R.length : Int) := by omega
            have i4 : (0 : Int) ≤ (q : Int) := by omega
            have i5 : (q : Int) < (R.length : Int) := by omega
            have hql : q < R.length := by omega
            have hlt : cmpK R[t].key R[q].key < 0 := by
              have h1 := HDD2.out q (by omega)
              simp only [← hq] at h1
              exact h1
            have HCM := Lib.hid (fun W => key_compare R[t].key R[q].key W (HLN.out _ (List.getElem_mem htl)) (HLN.out _ (List.getElem_mem hql))); have HS0 := Lib.hid (fun (W : World) (hW : Below w14.heap.size w14 W) => And.intro (HRK.out t htl W hW) (HRK.out q hql W hW)); obtain ⟨kx, hkx⟩ : ∃ kx, R[t].key = kx := ⟨_, rfl⟩; obtain ⟨kz, hkz⟩ : ∃ kz, R[q].key = kz := ⟨_, rfl⟩; rw [hkx, hkz] at HCM HS0 hlt
            unfold kyV at HCM
            have e0 : decide (0 ≤ cmpK kx kz) = false := decide_eq_false (by omega); have HTL := Lib.hid htl; clear hkx hkz hlt hq
            go_upto_region 20 with (fail)
            refine wp_region_noPanic ?_
            refine wp_region_held_drew (S := (fun (w' : World) => w'.cell? ⟨rb, ro + t * 10, none⟩ = some (.int .i64 kx.tick) ∧ w'.cell? ⟨rb, ro + t * 10 + 1, none⟩ = some (.int .i64 kx.cls) ∧ w'.cell? ⟨rb, ro + t * 10 + 2, none⟩ = some (.int .i64 kx.num) ∧ w'.cell? ⟨rb, ro + t * 10 + 3, none⟩ = some (.string (bs kx.lin)) ∧ w'.cell? ⟨rb, ro + q * 10, none⟩ = some (.int .i64 kz.tick) ∧ w'.cell? ⟨rb, ro + q * 10 + 1, none⟩ = some (.int .i64 kz.cls) ∧ w'.cell? ⟨rb, ro + q * 10 + 2, none⟩ = some (.int .i64 kz.num) ∧ w'.cell? ⟨rb, ro + q * 10 + 3, none⟩ = some (.string (bs kz.lin)))) (by kernel_rfl) ?_ (fun hHeld => ?_)
            · exact (by have h := HS0.out wr (HBL.out); exact ⟨h.1.1, h.1.2.1, h.1.2.2.1, h.1.2.2.2, h.2.1, h.2.2.1, h.2.2.2.1, h.2.2.2.2⟩)
            refine tk (v := ?_) 0 rfl (by kernel_rfl) (fun _ _ _ h => h) ?_ hHeld ?_; rotate_left
            · (intro w h; (try dsimp only at h); go_simp; try with_reducible rfl)
            try simp only [Act.put, pB, pC, pD]
            refine tk (v := ?_) 1 rfl (by kernel_rfl) (fun _ _ _ h => h) ?_ hHeld ?_; rotate_left
            · (intro w h; (try dsimp only at h); go_simp; try with_reducible rfl)
            try simp only [Act.put, pB, pC, pD]
            refine tk (v := ?_) 2 rfl (by kernel_rfl) (fun _ _ _ h => h) ?_ hHeld ?_; rotate_left
            · (intro w h; (try dsimp only at h); go_simp; try with_reducible rfl)
            try simp only [Act.put, pB, pC, pD]
            refine tk (v := ?_) 3 rfl (by kernel_rfl) (fun _ _ _ h => h) ?_ hHeld ?_; rotate_left
            · (intro w h; (try dsimp only at h); go_simp; try with_reducible rfl)
            try simp only [Act.put, pB, pC, pD]
            refine tk (v := ?_) 4 rfl (by kernel_rfl) (fun _ _ _ h => h) ?_ hHeld ?_; rotate_left
            · (intro w h; (try dsimp only at h); go_simp; try with_reducible rfl)
            try simp only [Act.put, pB, pC, pD]
            refine tk (v := ?_) 5 rfl (by kernel_rfl) (fun _ _ _ h => h) ?_ hHeld ?_; rotate_left
            · (intro w h; (try dsimp only at h); go_simp; try with_reducible rfl)
            try simp only [Act.put, pB, pC, pD]
            refine tk (v := ?_) 6 rfl (by kernel_rfl) (fun _ _ _ h => h) ?_ hHeld ?_; rotate_left
            · (intro w h; (try dsimp only at h); go_simp; try with_reducible rfl)
            try simp only [Act.put, pB, pC, pD]
            refine tk (v := ?_) 7 rfl (by kernel_rfl) (fun _ _ _ h => h) ?_ hHeld ?_; rotate_left
            · (intro w h; (try dsimp only at h); go_simp; try with_reducible rfl)
            try simp only [Act.put, pB, pC, pD]
            refine tk (v := ?_) 8 rfl (by kernel_rfl) (fun _ _ _ h => h) ?_ hHeld ?_; rotate_left
            · (intro w h; (try dsimp only at h); go_simp; try with_reducible rfl)
            try simp only [Act.put, pB, pC, pD]
            refine tk (v := ?_) 9 rfl (by kernel_rfl) (fun _ _ _ h => h) ?_ hHeld ?_; rotate_left
            · (intro w h; (try dsimp only at h); go_simp; try with_reducible rfl)
            try simp only [Act.put, pB, pC, pD]
            refine tk (v := ?_) 10 rfl (by kernel_rfl) (fun _ _ _ h => h) ?_ hHeld ?_; rotate_left
            · (intro w h; (try dsimp only at h); go_simp; try with_reducible rfl)
            try simp only [Act.put, pB, pC, pD]
            refine wpAnyH_ready (rs := [11]) (by kernel_rfl) (by simp) ?_; refine AllReadyH.cons rfl (fun K hK => ?_) AllReadyH.nil; go_simp; refine (HCM.out _).mono ?_; rintro e w21 ⟨rfl, hb'⟩; have B21 := Lib.hid (HBL.out.trans (((Below.refl wr.heap.size wr).drew.trans hb').mono HBL.out.size)); clear hb'
            try (go_wp2_with fail)
            refine hK.out _ _ ?_ (fun hNew => ?_)
            · exact (by have h := HS0.out w21 (B21.out); exact ⟨h.1.1, h.1.2.1, h.1.2.2.1, h.1.2.2.2, h.2.1, h.2.2.1, h.2.2.2.1, h.2.2.2.2⟩)
            clear hK K hHeld; have hHeld := hNew; clear hNew; try simp only [Act.put, pB, pC, pD]
            refine tk (v := ?_) 12 rfl (by kernel_rfl) (fun _ _ _ h => h) ?_ hHeld ?_; rotate_left
            · (intro w h; (try dsimp only at h); go_simp; try with_reducible rfl)
            try simp only [Act.put, pB, pC, pD]
            refine wpAnyH_done (by kernel_rfl) ?_ _; clear hHeld
            try simp only [List.getElem_toArray, List.getElem_cons_zero, List.getElem_cons_succ, Act.put, pB, pC, pD]
            refine NoPanic.normal ?_
            go_wp2_with fail
            go_roundw
            case rel => exact ⟨t + 1, by omega, HTL.out, by go_num, B21.out⟩
            case measure => have := HTL.out; simp [intOf]; omega
          · have hqe : R.length = q + 1 := by omega
            have hql : q < R.length := by omega
            have i4 : (0 : Int) ≤ (q : Int) := by omega
            have i5 : (q : Int) < (R.length : Int) := by omega
            have hwq2 : IntKind.i64.wrap ((R.length : Int) - 1) = (q : Int) := by rw [IntWalk.i64_in _ (by omega)]; omega
            obtain ⟨k0, k1, k2, k3⟩ := HRK.out q hql wr HBL.out; rw [HLST.out q hql hqe] at k0 k1 k2 k3; clear hqe; obtain ⟨kr, hkr⟩ : ∃ kr, r.key = kr := ⟨_, rfl⟩; have hT := HT.out; rw [hkr] at k0 k1 k2 k3 hT; clear hkr hq hwq
            go_upto_region 23 with (fail)
            have hba := (Below.refl wr.heap.size wr).alloc (Nat.le_refl _) (.cells #[.int .i64 kr.tick, .int .i64 kr.cls, .int .i64 kr.num, .string (bs kr.lin)] 35); have B22 := Lib.hid (HBL.out.trans (hba.mono HBL.out.size)); have ZK := Lib.hid (Blk.new wr 35 #[.int .i64 kr.tick, .int .i64 kr.cls, .int .i64 kr.num, .string (bs kr.lin)]); have ZT := Lib.hid (Z1.out.next B22.out Z1.out.lt); have B8 := Lib.hid (B14.out.trans (B22.out.mono B14.out.size)); clear hba k0 k1 k2 k3 hwq2; generalize wr.alloc (.cells #[.int .i64 kr.tick, .int .i64 kr.cls, .int .i64 kr.num, .string (bs kr.lin)] 35) = w22 at *; obtain ⟨kb, hkb⟩ : ∃ kb, wr.heap.size = kb := ⟨_, rfl⟩; rw [hkb] at ZK ⊢; clear hkb; have k0 := ZK.out.cell 0; have k1 := ZK.out.cell 1; have k2 := ZK.out.cell 2; have k3 := ZK.out.cell 3; simp only [qB, qC, qD] at k0 k1 k2 k3; have tt0 := ZT.out.cell 0; have tt1 := ZT.out.cell 1; have tt2 := ZT.out.cell 2; have tt3 := ZT.out.cell 3; simp only [qB, qC, qD] at tt0 tt1 tt2 tt3
            rcases hT with ⟨hc, i, hi, hnum, hbit⟩ | ⟨hc, n, hn1, hn3, hlin, hbit⟩
            · have hb32 := xor_bit32 ta tb i HTA.out HTB.out hbit
              rw [hc] at k1; rw [hnum] at k2
              have hwi : IntKind.i64.wrap ((i : Int) + 1 - 1) = (i : Int) := by rw [IntWalk.i64_in _ (by omega)]; omega
              have hwi2 : IntKind.i64.wrap (i : Int) = (i : Int) := IntWalk.i64_in _ (by omega)
              have i6 : (0 : Int) ≤ (i : Int) := by omega
              clear hc hnum hbit
              go_wp2_with fail
              exact ⟨⟨j + 1, HJN.out, by go_num, B8.out⟩, by have := HJN.out; simp [intOf]; omega⟩
            · rw [hc] at k1
              rw [hlin] at k3; clear hc hlin; have hb8 := xor_bit8 tc td n HTC.out HTD.out hbit; have HS3 := Lib.hid (fun (W : World) (hW : Below w22.heap.size w22 W) => show W.cell? ⟨kb, 3, none⟩ = some (.string (bs (whoS n))) ∧ W.cell? ⟨tb_, 2, none⟩ = some (.int .u8 tc) ∧ W.cell? ⟨tb_, 3, none⟩ = some (.int .u8 td) from ⟨(hW.cell (p := ⟨kb, 3, none⟩) ZK.out.lt).trans k3, (hW.cell (p := ⟨tb_, 2, none⟩) ZT.out.lt).trans tt2, (hW.cell (p := ⟨tb_, 3, none⟩) ZT.out.lt).trans tt3⟩); clear hbit
              go_upto_region 28 with (fail)
              clear k0 k1 k2 k3 tt0 tt1 tt2 tt3; have H2 : Hid (ltRel n w22 (.bool false) (.int .u8 ((1 : Nat) : Int)) w22) := Lib.hid ⟨1, Nat.le_refl _, by omega, rfl, by rw [decide_eq_false (by omega)], Below.refl _ _⟩
              go_loopw [18, 19] (fun t i wr => ltRel n w22 t i wr) (fun _ i _ => 4 - (intOf i).toNat)
              case atStart => exact H2.out
              case round =>
                clear H2; obtain ⟨s, hs1, hs4, rfl, rfl, hB⟩ := hrel; have HBT := Lib.hid hB; clear hB
                by_cases hs3 : s ≤ 3
                · have d1 : decide ((s : Int) ≤ 3) = true := decide_eq_true (by omega)
                  have hwu : IntKind.u8.wrap ((s : Int) + 1) = (s : Int) + 1 := by
                    rcases (show s = 1 ∨ s = 2 ∨ s = 3 by omega) with rfl | rfl | rfl <;> rfl
                  have HS13 := Lib.hid (And.intro hs1 hs3)
                  rcases Nat.lt_trichotomy n s with hns | hns | hns
                  · have et : decide (n < s) = true := decide_eq_true hns
                    have HN2 := Lib.hid (show decide (n < s + 1) = true from decide_eq_true (by omega)); rw [et]; clear hns et
                    go_upto_region 30 with (fail)
                    refine wp_region_noPanic ?_
                    refine wp_region_held_drew (S := (fun (w' : World) => w'.cell? ⟨kb, 3, none⟩ = some (.string (bs (whoS n))) ∧ w'.cell? ⟨tb_, 2, none⟩ = some (.int .u8 tc) ∧ w'.cell? ⟨tb_, 3, none⟩ = some (.int .u8 td))) (by kernel_rfl) ?_ (fun hHeld => ?_)
                    · exact HS3.out wr HBT.out
                    refine tk (v := ?_) 0 rfl (by kernel_rfl) (fun _ _ _ h => h) ?_ hHeld ?_; rotate_left
                    · (intro w h; (try dsimp only at h); go_simp; try with_reducible rfl)
                    try simp only [Act.put, pB, pC, pD]
                    refine tk (v := ?_) 1 rfl (by kernel_rfl) (fun _ _ _ h => h) ?_ hHeld ?_; rotate_left
                    · (intro w h; (try dsimp only at h); go_simp; try with_reducible rfl)
                    try simp only [Act.put, pB, pC, pD]
                    refine wpAnyH_take (i := 2) (v := undef) rfl (by kernel_rfl) (by kernel_rfl) (by kernel_rfl) (fun _ _ _ h => h) (Or.inr ⟨by kernel_rfl, rfl⟩) hHeld ?_
                    try simp only [Act.put, pB, pC, pD]
                    refine wpAnyH_take (i := 3) (v := undef) rfl (by kernel_rfl) (by kernel_rfl) (by kernel_rfl) (fun _ _ _ h => h) (Or.inr ⟨by kernel_rfl, rfl⟩) hHeld ?_
                    try simp only [Act.put, pB, pC, pD]
                    refine wpAnyH_take (i := 4) (v := undef) rfl (by kernel_rfl) (by kernel_rfl) (by kernel_rfl) (fun _ _ _ h => h) (Or.inr ⟨by kernel_rfl, rfl⟩) hHeld ?_
                    try simp only [Act.put, pB, pC, pD]
                    refine wpAnyH_take (i := 5) (v := undef) rfl (by kernel_rfl) (by kernel_rfl) (by kernel_rfl) (fun _ _ _ h => h) (Or.inr ⟨by kernel_rfl, rfl⟩) hHeld ?_
                    try simp only [Act.put, pB, pC, pD]
                    refine wpAnyH_take (i := 6) (v := undef) rfl (by kernel_rfl) (by kernel_rfl) (by kernel_rfl) (fun _ _ _ h => h) (Or.inr ⟨by kernel_rfl, rfl⟩) hHeld ?_
                    try simp only [Act.put, pB, pC, pD]
                    refine wpAnyH_take (i := 7) (v := undef) rfl (by kernel_rfl) (by kernel_rfl) (by kernel_rfl) (fun _ _ _ h => h) (Or.inr ⟨by kernel_rfl, rfl⟩) hHeld ?_
                    try simp only [Act.put, pB, pC, pD]
                    refine wpAnyH_take (i := 8) (v := undef) rfl (by kernel_rfl) (by kernel_rfl) (by kernel_rfl) (fun _ _ _ h => h) (Or.inr ⟨by kernel_rfl, rfl⟩) hHeld ?_
                    try simp only [Act.put, pB, pC, pD]
                    refine wpAnyH_take (i := 9) (v := undef) rfl (by kernel_rfl) (by kernel_rfl) (by kernel_rfl) (fun _ _ _ h => h) (Or.inr ⟨by kernel_rfl, rfl⟩) hHeld ?_
                    try simp only [Act.put, pB, pC, pD]
                    refine wpAnyH_take (i := 10) (v := undef) rfl (by kernel_rfl) (by kernel_rfl) (by kernel_rfl) (fun _ _ _ h => h) (Or.inr ⟨by kernel_rfl, rfl⟩) hHeld ?_
                    try simp only [Act.put, pB, pC, pD]
                    refine wpAnyH_take (i := 11) (v := undef) rfl (by kernel_rfl) (by kernel_rfl) (by kernel_rfl) (fun _ _ _ h => h) (Or.inr ⟨by kernel_rfl, rfl⟩) hHeld ?_
                    try simp only [Act.put, pB, pC, pD]
                    refine wpAnyH_take (i := 12) (v := undef) rfl (by kernel_rfl) (by kernel_rfl) (by kernel_rfl) (fun _ _ _ h => h) (Or.inr ⟨by kernel_rfl, rfl⟩) hHeld ?_
                    try simp only [Act.put, pB, pC, pD]
                    refine wpAnyH_take (i := 13) (v := undef) rfl (by kernel_rfl) (by kernel_rfl) (by kernel_rfl) (fun _ _ _ h => h) (Or.inr ⟨by kernel_rfl, rfl⟩) hHeld ?_
                    try simp only [Act.put, pB, pC, pD]
                    refine wpAnyH_take (i := 14) (v := undef) rfl (by kernel_rfl) (by kernel_rfl) (by kernel_rfl) (fun _ _ _ h => h) (Or.inr ⟨by kernel_rfl, rfl⟩) hHeld ?_
                    try simp only [Act.put, pB, pC, pD]
                    refine wpAnyH_take (i := 15) (v := undef) rfl (by kernel_rfl) (by kernel_rfl) (by kernel_rfl) (fun _ _ _ h => h) (Or.inr ⟨by kernel_rfl, rfl⟩) hHeld ?_
                    try simp only [Act.put, pB, pC, pD]
                    refine wpAnyH_take (i := 16) (v := undef) rfl (by kernel_rfl) (by kernel_rfl) (by kernel_rfl) (fun _ _ _ h => h) (Or.inr ⟨by kernel_rfl, rfl⟩) hHeld ?_
                    try simp only [Act.put, pB, pC, pD]
                    refine wpAnyH_take (i := 17) (v := undef) rfl (by kernel_rfl) (by kernel_rfl) (by kernel_rfl) (fun _ _ _ h => h) (Or.inr ⟨by kernel_rfl, rfl⟩) hHeld ?_
                    try simp only [Act.put, pB, pC, pD]
                    refine wpAnyH_take (i := 18) (v := undef) rfl (by kernel_rfl) (by kernel_rfl) (by kernel_rfl) (fun _ _ _ h => h) (Or.inr ⟨by kernel_rfl, rfl⟩) hHeld ?_
                    try simp only [Act.put, pB, pC, pD]
                    refine wpAnyH_take (i := 19) (v := undef) rfl (by kernel_rfl) (by kernel_rfl) (by kernel_rfl) (fun _ _ _ h => h) (Or.inr ⟨by kernel_rfl, rfl⟩) hHeld ?_
                    try simp only [Act.put, pB, pC, pD]
                    refine tk (v := ?_) 20 rfl (by kernel_rfl) (fun _ _ _ h => h) ?_ hHeld ?_; rotate_left
                    · (intro w h; (try dsimp only at h); go_simp; try with_reducible rfl)
                    try simp only [Act.put, pB, pC, pD]
                    refine tk (v := ?_) 21 rfl (by kernel_rfl) (fun _ _ _ h => h) ?_ hHeld ?_; rotate_left
                    · (intro w h; (try dsimp only at h); go_simp; try with_reducible rfl)
                    try simp only [Act.put, pB, pC, pD]
                    refine wpAnyH_done (by kernel_rfl) ?_ _; clear hHeld
                    try simp only [List.getElem_toArray, List.getElem_cons_zero, List.getElem_cons_succ, Act.put, pB, pC, pD]
                    refine NoPanic.normal ?_
                    go_wp2_with fail
                    go_roundw
                    case rel => exact ⟨s + 1, by omega, by have := HS13.out; omega, by push_cast; rfl, by rw [HN2.out], HBT.out.trans ((Below.refl wr.heap.size wr).drew.mono HBT.out.size)⟩
                    case measure => have := HS13.out; simp [intOf]; omega
                  · subst hns
                    have et : decide (n < n) = false := decide_eq_false (by omega); have HN2 := Lib.hid (show decide (n < n + 1) = true from decide_eq_true (by omega)); have ew : (whoS n == whoS n) = true := beq_self_eq_true _; rw [et]; clear et
                    go_upto_region 30 with (fail)
                    refine wp_region_noPanic ?_
                    refine wp_region_held_drew (S := (fun (w' : World) => w'.cell? ⟨kb, 3, none⟩ = some (.string (bs (whoS n))) ∧ w'.cell? ⟨tb_, 2, none⟩ = some (.int .u8 tc) ∧ w'.cell? ⟨tb_, 3, none⟩ = some (.int .u8 td))) (by kernel_rfl) ?_ (fun hHeld => ?_)
                    · exact HS3.out wr HBT.out
                    refine tk (v := ?_) 0 rfl (by kernel_rfl) (fun _ _ _ h => h) ?_ hHeld ?_; rotate_left
                    · (intro w h; (try dsimp only at h); go_simp; try with_reducible rfl)
                    try simp only [Act.put, pB, pC, pD]
                    refine tk (v := ?_) 1 rfl (by kernel_rfl) (fun _ _ _ h => h) ?_ hHeld ?_; rotate_left
                    · (intro w h; (try dsimp only at h); go_simp; try with_reducible rfl)
                    try simp only [Act.put, pB, pC, pD]
                    refine tk (v := ?_) 2 rfl (by kernel_rfl) (fun _ _ _ h => h) ?_ hHeld ?_; rotate_left
                    · (intro w h; (try dsimp only at h); go_simp; try with_reducible rfl)
                    try simp only [Act.put, pB, pC, pD]
                    refine tk (v := ?_) 4 rfl (by kernel_rfl) (fun _ _ _ h => h) ?_ hHeld ?_; rotate_left
                    · (intro w h; (try dsimp only at h); go_simp; try with_reducible rfl)
                    try simp only [Act.put, pB, pC, pD]
                    refine tk (v := ?_) 5 rfl (by kernel_rfl) (fun _ _ _ h => h) ?_ hHeld ?_; rotate_left
                    · (intro w h; (try dsimp only at h); go_simp; try with_reducible rfl)
                    try simp only [Act.put, pB, pC, pD]
                    refine wpAnyH_ready (rs := [3]) (by kernel_rfl) (by simp) ?_; refine AllReadyH.cons rfl (fun K hK => ?_) AllReadyH.nil; go_simp; refine (who_is n (by omega) (by omega) _).mono ?_; rintro e w30 ⟨rfl, hb'⟩; have B30 := Lib.hid (HBT.out.trans (((Below.refl wr.heap.size wr).drew.trans hb').mono HBT.out.size)); clear hb'
                    try (go_wp2_with fail)
                    refine hK.out _ _ ?_ (fun hNew => ?_)
                    · exact HS3.out w30 B30.out
                    clear hK K hHeld; have hHeld := hNew; clear hNew; try simp only [Act.put, pB, pC, pD]
                    refine tk (v := ?_) 6 rfl (by kernel_rfl) (fun _ _ _ h => h) ?_ hHeld ?_; rotate_left
                    · (intro w h; (try dsimp only at h); go_simp; try with_reducible rfl)
                    try simp only [Act.put, pB, pC, pD]
                    refine tk (v := ?_) 7 rfl (by kernel_rfl) (fun _ _ _ h => h) ?_ hHeld ?_; rotate_left
                    · (intro w h; (try dsimp only at h); go_simp; try with_reducible rfl)
                    try simp only [Act.put, pB, pC, pD]
                    try simp only [List.getElem_toArray, List.getElem_cons_zero, List.getElem_cons_succ, Act.put, pB, pC, pD]
                    refine tk (v := ?_) 8 rfl (by kernel_rfl) (fun _ _ _ h => h) ?_ hHeld ?_; rotate_left
                    · (intro w h; (try dsimp only at h); go_simp; try with_reducible rfl)
                    try simp only [Act.put, pB, pC, pD]
                    refine tk (v := ?_) 9 rfl (by kernel_rfl) (fun _ _ _ h => h) ?_ hHeld ?_; rotate_left
                    · (intro w h; (try dsimp only at h); go_simp; try with_reducible rfl)
                    try simp only [Act.put, pB, pC, pD]
                    refine tk (v := ?_) 10 rfl (by kernel_rfl) (fun _ _ _ h => h) ?_ hHeld ?_; rotate_left
                    · (intro w h; (try dsimp only at h); go_simp; try with_reducible rfl)
                    try simp only [Act.put, pB, pC, pD]
                    try simp only [List.getElem_toArray, List.getElem_cons_zero, List.getElem_cons_succ, Act.put, pB, pC, pD]
                    refine tk (v := ?_) 11 rfl (by kernel_rfl) (fun _ _ _ h => h) ?_ hHeld ?_; rotate_left
                    · (intro w h; (try dsimp only at h); go_simp; try with_reducible rfl)
                    try simp only [Act.put, pB, pC, pD]
                    refine tk (v := ?_) 12 rfl (by kernel_rfl) (fun _ _ _ h => h) ?_ hHeld ?_; rotate_left
                    · (intro w h; (try dsimp only at h); go_simp; try with_reducible rfl)
                    try simp only [Act.put, pB, pC, pD]
                    refine tk (v := ?_) 13 rfl (by kernel_rfl) (fun _ _ _ h => h) ?_ hHeld ?_; rotate_left
                    · (intro w h; (try dsimp only at h); go_simp; try with_reducible rfl)
                    try simp only [Act.put, pB, pC, pD]
                    try simp only [List.getElem_toArray, List.getElem_cons_zero, List.getElem_cons_succ, Act.put, pB, pC, pD]
                    refine tk (v := ?_) 14 rfl (by kernel_rfl) (fun _ _ _ h => h) ?_ hHeld ?_; rotate_left
                    · (intro w h; (try dsimp only at h); go_simp; try with_reducible rfl)
                    try simp only [Act.put, pB, pC, pD]
                    refine tk (v := ?_) 15 rfl (by kernel_rfl) (fun _ _ _ h => h) ?_ hHeld ?_; rotate_left
                    · (intro w h; (try dsimp only at h); go_simp; try with_reducible rfl)
                    try simp only [Act.put, pB, pC, pD]
                    refine tk (v := ?_) 16 rfl (by kernel_rfl) (fun _ _ _ h => h) ?_ hHeld ?_; rotate_left
                    · (intro w h; (try dsimp only at h); go_simp; try with_reducible rfl)
                    try simp only [Act.put, pB, pC, pD]
                    try simp only [List.getElem_toArray, List.getElem_cons_zero, List.getElem_cons_succ, Act.put, pB, pC, pD]
                    refine tk (v := ?_) 17 rfl (by kernel_rfl) (fun _ _ _ h => h) ?_ hHeld ?_; rotate_left
                    · (intro w h; (try dsimp only at h); go_simp; try with_reducible rfl)
                    try simp only [Act.put, pB, pC, pD]
                    refine tk (v := ?_) 18 rfl (by kernel_rfl) (fun _ _ _ h => h) ?_ hHeld ?_; rotate_left
                    · (intro w h; (try dsimp only at h); go_simp; try with_reducible rfl)
                    try simp only [Act.put, pB, pC, pD]
                    refine tk (v := ?_) 19 rfl (by kernel_rfl) (fun _ _ _ h => h) ?_ hHeld ?_; rotate_left
                    · (intro w h; (try dsimp only at h); go_simp; try with_reducible rfl)
                    try simp only [Act.put, pB, pC, pD]
                    try simp only [List.getElem_toArray, List.getElem_cons_zero, List.getElem_cons_succ, Act.put, pB, pC, pD]
                    refine tk (v := ?_) 20 rfl (by kernel_rfl) (fun _ _ _ h => h) ?_ hHeld ?_; rotate_left
                    · (intro w h; (try dsimp only at h); go_simp; try with_reducible rfl)
                    try simp only [Act.put, pB, pC, pD]
                    refine tk (v := ?_) 21 rfl (by kernel_rfl) (fun _ _ _ h => h) ?_ hHeld ?_; rotate_left
                    · (intro w h; (try dsimp only at h); go_simp; try with_reducible rfl)
                    try simp only [Act.put, pB, pC, pD]
                    refine wpAnyH_done (by kernel_rfl) ?_ _; clear hHeld
                    try simp only [List.getElem_toArray, List.getElem_cons_zero, List.getElem_cons_succ, Act.put, pB, pC, pD]
                    refine NoPanic.normal ?_
                    go_wp2_with fail
                    go_roundw
                    case rel => exact ⟨n + 1, by omega, by have := HS13.out; omega, rfl, congrArg Value.bool HN2.out.symm, B30.out⟩
                    case measure => have := HS13.out; simp [intOf]; omega
                  · have et : decide (n < s) = false := decide_eq_false (by omega)
                    have HN2 := Lib.hid (show decide (n < s + 1) = false from decide_eq_false (by omega))
                    have ew : (whoS s == whoS n) = false := by rw [beq_eq_false_iff_ne]; exact whoS_ne hs1 hs3 hn1 hn3 (by omega)
                    have ew2 : ¬ (bs (whoS s)).toList = (bs (whoS n)).toList := by rw [bs_toList, bs_toList]; exact whoS_ne hs1 hs3 hn1 hn3 (by omega)
                    have ew3 : ((bs (whoS s)).toList == (bs (whoS n)).toList) = false := by rw [eq_bs]; exact ew
                    rw [et]; clear hns et
                    go_upto_region 30 with (fail)
                    refine wp_region_noPanic ?_
                    refine wp_region_held_drew (S := (fun (w' : World) => w'.cell? ⟨kb, 3, none⟩ = some (.string (bs (whoS n))) ∧ w'.cell? ⟨tb_, 2, none⟩ = some (.int .u8 tc) ∧ w'.cell? ⟨tb_, 3, none⟩ = some (.int .u8 td))) (by kernel_rfl) ?_ (fun hHeld => ?_)
                    · exact HS3.out wr HBT.out
                    refine tk (v := ?_) 0 rfl (by kernel_rfl) (fun _ _ _ h => h) ?_ hHeld ?_; rotate_left
                    · (intro w h; (try dsimp only at h); go_simp; try with_reducible rfl)
                    try simp only [Act.put, pB, pC, pD]
                    refine tk (v := ?_) 1 rfl (by kernel_rfl) (fun _ _ _ h => h) ?_ hHeld ?_; rotate_left
                    · (intro w h; (try dsimp only at h); go_simp; try with_reducible rfl)
                    try simp only [Act.put, pB, pC, pD]
                    refine tk (v := ?_) 2 rfl (by kernel_rfl) (fun _ _ _ h => h) ?_ hHeld ?_; rotate_left
                    · (intro w h; (try dsimp only at h); go_simp; try with_reducible rfl)
                    try simp only [Act.put, pB, pC, pD]
                    refine tk (v := ?_) 4 rfl (by kernel_rfl) (fun _ _ _ h => h) ?_ hHeld ?_; rotate_left
                    · (intro w h; (try dsimp only at h); go_simp; try with_reducible rfl)
                    try simp only [Act.put, pB, pC, pD]
                    refine tk (v := ?_) 5 rfl (by kernel_rfl) (fun _ _ _ h => h) ?_ hHeld ?_; rotate_left
                    · (intro w h; (try dsimp only at h); go_simp; try with_reducible rfl)
                    try simp only [Act.put, pB, pC, pD]
                    refine wpAnyH_ready (rs := [3]) (by kernel_rfl) (by simp) ?_; refine AllReadyH.cons rfl (fun K hK => ?_) AllReadyH.nil; go_simp; refine (who_is s (by omega) (by omega) _).mono ?_; rintro e w30 ⟨rfl, hb'⟩; have B30 := Lib.hid (HBT.out.trans (((Below.refl wr.heap.size wr).drew.trans hb').mono HBT.out.size)); clear hb'
                    try (go_wp2_with fail)
                    refine hK.out _ _ ?_ (fun hNew => ?_)
                    · exact HS3.out w30 B30.out
                    clear hK K hHeld; have hHeld := hNew; clear hNew; try simp only [Act.put, pB, pC, pD]
                    refine tk (v := ?_) 6 rfl (by kernel_rfl) (fun _ _ _ h => h) ?_ hHeld ?_; rotate_left
                    · (intro w h; (try dsimp only at h); go_simp; try with_reducible rfl)
                    try simp only [Act.put, pB, pC, pD]
                    refine tk (v := ?_) 7 rfl (by kernel_rfl) (fun _ _ _ h => h) ?_ hHeld ?_; rotate_left
                    · (intro w h; (try dsimp only at h); go_simp; try with_reducible rfl)
                    try simp only [Act.put, pB, pC, pD]
                    try simp only [List.getElem_toArray, List.getElem_cons_zero, List.getElem_cons_succ, Act.put, pB, pC, pD]
                    refine wpAnyH_take (i := 8) (v := undef) rfl (by kernel_rfl) (by kernel_rfl) (by kernel_rfl) (fun _ _ _ h => h) (Or.inr ⟨by kernel_rfl, rfl⟩) hHeld ?_
                    try simp only [Act.put, pB, pC, pD]
                    refine wpAnyH_take (i := 9) (v := undef) rfl (by kernel_rfl) (by kernel_rfl) (by kernel_rfl) (fun _ _ _ h => h) (Or.inr ⟨by kernel_rfl, rfl⟩) hHeld ?_
                    try simp only [Act.put, pB, pC, pD]
                    refine wpAnyH_take (i := 10) (v := undef) rfl (by kernel_rfl) (by kernel_rfl) (by kernel_rfl) (fun _ _ _ h => h) (Or.inr ⟨by kernel_rfl, rfl⟩) hHeld ?_
                    try simp only [Act.put, pB, pC, pD]
                    try simp only [List.getElem_toArray, List.getElem_cons_zero, List.getElem_cons_succ, Act.put, pB, pC, pD]
                    refine wpAnyH_take (i := 11) (v := undef) rfl (by kernel_rfl) (by kernel_rfl) (by kernel_rfl) (fun _ _ _ h => h) (Or.inr ⟨by kernel_rfl, rfl⟩) hHeld ?_
                    try simp only [Act.put, pB, pC, pD]
                    refine wpAnyH_take (i := 12) (v := undef) rfl (by kernel_rfl) (by kernel_rfl) (by kernel_rfl) (fun _ _ _ h => h) (Or.inr ⟨by kernel_rfl, rfl⟩) hHeld ?_
                    try simp only [Act.put, pB, pC, pD]
                    refine wpAnyH_take (i := 13) (v := undef) rfl (by kernel_rfl) (by kernel_rfl) (by kernel_rfl) (fun _ _ _ h => h) (Or.inr ⟨by kernel_rfl, rfl⟩) hHeld ?_
                    try simp only [Act.put, pB, pC, pD]
                    try simp only [List.getElem_toArray, List.getElem_cons_zero, List.getElem_cons_succ, Act.put, pB, pC, pD]
                    refine wpAnyH_take (i := 14) (v := undef) rfl (by kernel_rfl) (by kernel_rfl) (by kernel_rfl) (fun _ _ _ h => h) (Or.inr ⟨by kernel_rfl, rfl⟩) hHeld ?_
                    try simp only [Act.put, pB, pC, pD]
                    refine wpAnyH_take (i := 15) (v := undef) rfl (by kernel_rfl) (by kernel_rfl) (by kernel_rfl) (fun _ _ _ h => h) (Or.inr ⟨by kernel_rfl, rfl⟩) hHeld ?_
                    try simp only [Act.put, pB, pC, pD]
                    refine wpAnyH_take (i := 16) (v := undef) rfl (by kernel_rfl) (by kernel_rfl) (by kernel_rfl) (fun _ _ _ h => h) (Or.inr ⟨by kernel_rfl, rfl⟩) hHeld ?_
                    try simp only [Act.put, pB, pC, pD]
                    try simp only [List.getElem_toArray, List.getElem_cons_zero, List.getElem_cons_succ, Act.put, pB, pC, pD]
                    refine wpAnyH_take (i := 17) (v := undef) rfl (by kernel_rfl) (by kernel_rfl) (by kernel_rfl) (fun _ _ _ h => h) (Or.inr ⟨by kernel_rfl, rfl⟩) hHeld ?_
                    try simp only [Act.put, pB, pC, pD]
                    refine wpAnyH_take (i := 18) (v := undef) rfl (by kernel_rfl) (by kernel_rfl) (by kernel_rfl) (fun _ _ _ h => h) (Or.inr ⟨by kernel_rfl, rfl⟩) hHeld ?_
                    try simp only [Act.put, pB, pC, pD]
                    try simp only [List.getElem_toArray, List.getElem_cons_zero, List.getElem_cons_succ, Act.put, pB, pC, pD]
                    refine tk (v := ?_) 19 rfl (by kernel_rfl) (fun _ _ _ h => h) ?_ hHeld ?_; rotate_left
                    · (intro w h; (try dsimp only at h); go_simp; try with_reducible rfl)
                    try simp only [Act.put, pB, pC, pD]
                    refine tk (v := ?_) 20 rfl (by kernel_rfl) (fun _ _ _ h => h) ?_ hHeld ?_; rotate_left
                    · (intro w h; (try dsimp only at h); go_simp; try with_reducible rfl)
                    try simp only [Act.put, pB, pC, pD]
                    try simp only [List.getElem_toArray, List.getElem_cons_zero, List.getElem_cons_succ, Act.put, pB, pC, pD]
                    refine tk (v := ?_) 21 rfl (by kernel_rfl) (fun _ _ _ h => h) ?_ hHeld ?_; rotate_left
                    · (intro w h; (try dsimp only at h); go_simp; try with_reducible rfl)
                    try simp only [Act.put, pB, pC, pD]
                    refine wpAnyH_done (by kernel_rfl) ?_ _; clear hHeld
                    try simp only [List.getElem_toArray, List.getElem_cons_zero, List.getElem_cons_succ, Act.put, pB, pC, pD]
                    refine NoPanic.normal ?_
                    go_wp2_with fail
                    go_roundw
                    case rel => exact ⟨s + 1, by omega, by have := HS13.out; omega, rfl, congrArg Value.bool HN2.out.symm, B30.out⟩
                    case measure => have := HS13.out; simp [intOf]; omega
                · have d1 : decide ((s : Int) ≤ 3) = false := decide_eq_false (by omega)
                  have et : decide (n < s) = true := decide_eq_true (by omega); rw [et]; have B9x := Lib.hid (B8.out.trans (HBT.out.mono B8.out.size))
                  go_wp2_with fail
                  exact ⟨⟨j + 1, HJN.out, by go_num, B9x.out⟩, by have := HJN.out; simp [intOf]; omega⟩
    · have j1 : decide ((j : Int) < (N : Int)) = false := decide_eq_false (by omega)
      go_wp2_with fail
      go_ret
      exact ⟨rfl, HBW.out.trans (HB.out.mono HBW.out.size)⟩
theorem law_explains_at (w : World) {u : Value} {ds : List De} (hd : DeAt w.heap.size w u ds) {ta tb tc td : Nat} (ht : ta < 4294967296 ∧ tb < 4294967296 ∧ tc < 256 ∧ td < 256) : Calls Tryz.prog 3 #[.agg #[u], .agg #[.int .u32 ta, .int .u32 tb, .int .u8 tc, .int .u8 td]] w fun e w' => e = .returned (.bool true) ∧ Below w.heap.size w w' :=
  law_explains hd ta tb tc td ht.1 ht.2.1 ht.2.2.1 ht.2.2.2
end Go.Proofs.YtmjkcanjfjfkfaaGreat
