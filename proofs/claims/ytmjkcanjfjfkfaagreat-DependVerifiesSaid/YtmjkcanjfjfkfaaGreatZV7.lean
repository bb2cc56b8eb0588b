/- Walks and plain facts, packed: L8. -/
import Derived.Test.YtmjkcanjfjfkfaaGreatZV6
namespace Go.Proofs.YtmjkcanjfjfkfaaGreat
open Go.RowKit
set_option linter.unusedSimpArgs false
set_option linter.unusedVariables false
attribute [local go_sem ↓] Go.wp_at_zero Go.wp_at_succ
open Go.MapKept Go.ChangeMaps
def lvRel (N : Nat) (w : World) (i : Value) (wr : World) : Prop := ∃ j : Nat, j ≤ N ∧ i = .int .i64 (j : Int) ∧ Below w.heap.size w wr
set_option maxRecDepth 100000 in
set_option maxHeartbeats 8000000 in
theorem law_verifies {w : World} {u : Value} {ds : List De} (hd : DeAt w.heap.size w u ds) (ta tb tc td : Nat) (c0 c1 c2 : Nat) (hta : ta < 4294967296) (htb : tb < 4294967296) (htc : tc < 256) (htd : td < 256) (hc0 : c0 < 256) (hc1 : c1 < 256) (hc2 : c2 < 256) : Calls Tryz.prog 4 #[.agg #[u], .agg #[.int .u32 ta, .int .u32 tb, .int .u8 tc, .int .u8 td], .agg #[.int .u8 c0, .int .u8 c1, .int .u8 c2]] w fun e w' => e = .returned (.bool true) ∧ Below w.heap.size w w' := by
  obtain ⟨A, c, rfl, hc, hcm⟩ := Ra.form hd.1; have b0 := Below.refl w.heap.size w; have b1 := b0.alloc b0.size (.cells #[.slice A ds.length c] 24); have b2 := b1.alloc b1.size (.cells #[.int .u32 ta, .int .u32 tb, .int .u8 tc, .int .u8 td] 29); have b3 := b2.alloc b2.size (.cells #[.int .u8 c0, .int .u8 c1, .int .u8 c2] 53); have z0 := (((Blk.new w 24 #[.slice A ds.length c]).alloc (.cells #[.int .u32 ta, .int .u32 tb, .int .u8 tc, .int .u8 td] 29)).alloc (.cells #[.int .u8 c0, .int .u8 c1, .int .u8 c2] 53)); have z1 := ((Blk.newE (w.alloc (.cells #[.slice A ds.length c] 24)) 29 #[.int .u32 ta, .int .u32 tb, .int .u8 tc, .int .u8 td] (w.heap.size + 1) (by simp)).alloc (.cells #[.int .u8 c0, .int .u8 c1, .int .u8 c2] 53)); have z2 := (Blk.newE ((w.alloc (.cells #[.slice A ds.length c] 24)).alloc (.cells #[.int .u32 ta, .int .u32 tb, .int .u8 tc, .int .u8 td] 29)) 53 #[.int .u8 c0, .int .u8 c1, .int .u8 c2] (w.heap.size + 1 + 1) (by simp)); have HB0 := Lib.hid b3; have HDD : Hid (DeOk ds) := Lib.hid hd.2; have HR1 := Lib.hid (fun (W : World) (hW : Below (((w.alloc (.cells #[.slice A ds.length c] 24)).alloc (.cells #[.int .u32 ta, .int .u32 tb, .int .u8 tc, .int .u8 td] 29)).alloc (.cells #[.int .u8 c0, .int .u8 c1, .int .u8 c2] 53)).heap.size (((w.alloc (.cells #[.slice A ds.length c] 24)).alloc (.cells #[.int .u32 ta, .int .u32 tb, .int .u8 tc, .int .u8 td] 29)).alloc (.cells #[.int .u8 c0, .int .u8 c1, .int .u8 c2] 53)) W) => run_is ta tc ((hd.next b3 b3.size).next hW hW.size) hta htc); have HR2 := Lib.hid (fun (W : World) (hW : Below (((w.alloc (.cells #[.slice A ds.length c] 24)).alloc (.cells #[.int .u32 ta, .int .u32 tb, .int .u8 tc, .int .u8 td] 29)).alloc (.cells #[.int .u8 c0, .int .u8 c1, .int .u8 c2] 53)).heap.size (((w.alloc (.cells #[.slice A ds.length c] 24)).alloc (.cells #[.int .u32 ta, .int .u32 tb, .int .u8 tc, .int .u8 td] 29)).alloc (.cells #[.int .u8 c0, .int .u8 c1, .int .u8 c2] 53)) W) => run_is tb td ((hd.next b3 b3.size).next hW hW.size) htb htd); have HLAW := Lib.hid (fun k => expA_law HDD.out ta tc tb td k); have oa := runS_ok HDD.out ta tc; have ob := runS_ok HDD.out tb td; have HTC := Lib.hid htc; have HTD := Lib.hid htd; have HTA := Lib.hid hta; have HTB := Lib.hid htb; obtain ⟨a, haa⟩ : ∃ a, runS ds ta tc = a := ⟨_, rfl⟩; obtain ⟨b, hbb⟩ : ∃ b, runS ds tb td = b := ⟨_, rfl⟩; rw [haa] at HR1 oa HLAW; rw [hbb] at HR2 ob HLAW; have HA := Lib.hid z0; have Z1 := Lib.hid z1; have Z2 := Lib.hid z2; clear hd haa hbb b0 b1 b2 b3 z0 z1 z2 hta htb htc htd
  go_enter Tryz.func4, Tryz.ntmps4
  go_upto_region 1 with (fail)
  generalize (((w.alloc (.cells #[.slice A ds.length c] 24)).alloc (.cells #[.int .u32 ta, .int .u32 tb, .int .u8 tc, .int .u8 td] 29)).alloc (.cells #[.int .u8 c0, .int .u8 c1, .int .u8 c2] 53)) = w1 at *; obtain ⟨cb_, hcb⟩ : ∃ x, w.heap.size + 1 + 1 = x := ⟨_, rfl⟩; rw [hcb] at Z2 ⊢; obtain ⟨tb_, htb⟩ : ∃ x, w.heap.size + 1 = x := ⟨_, rfl⟩; obtain ⟨wb, hwb⟩ : ∃ x, w.heap.size = x := ⟨_, rfl⟩; have HWB := Lib.hid hwb; rw [htb] at Z1 ⊢; rw [hwb] at HA ⊢; clear htb hwb hcb; have HSS := Lib.hid (fun (W : World) (hW : Below w1.heap.size w1 W) => show W.cell? ⟨wb, 0, none⟩ = some (.slice A ds.length c) ∧ W.cell? ⟨tb_, 0, none⟩ = some (.int .u32 ta) ∧ W.cell? ⟨tb_, 1, none⟩ = some (.int .u32 tb) ∧ W.cell? ⟨tb_, 2, none⟩ = some (.int .u8 tc) ∧ W.cell? ⟨tb_, 3, none⟩ = some (.int .u8 td) from ⟨(HA.out.next hW HA.out.lt).cell 0, (Z1.out.next hW Z1.out.lt).cell 0, (Z1.out.next hW Z1.out.lt).cell 1, (Z1.out.next hW Z1.out.lt).cell 2, (Z1.out.next hW Z1.out.lt).cell 3⟩)
  refine wp_region_noPanic ?_
  refine wp_region_held_drew (S := (fun (w' : World) => w'.cell? ⟨wb, 0, none⟩ = some (.slice A ds.length c) ∧ w'.cell? ⟨tb_, 0, none⟩ = some (.int .u32 ta) ∧ w'.cell? ⟨tb_, 1, none⟩ = some (.int .u32 tb) ∧ w'.cell? ⟨tb_, 2, none⟩ = some (.int .u8 tc) ∧ w'.cell? ⟨tb_, 3, none⟩ = some (.int .u8 td))) (by kernel_rfl) ?_ (fun hHeld => ?_)
  · exact HSS.out w1 (Below.refl _ _)
  refine tk (v := ?_) 0 rfl (by kernel_rfl) (fun _ _ _ h => h) ?_ hHeld ?_; rotate_left
  · (intro w h; (try dsimp only at h); go_simp; try with_reducible rfl)
  try simp only [Act.put, pB, pC, pD]
  refine tk (v := ?_) 1 rfl (by kernel_rfl) (fun _ _ _ h => h) ?_ hHeld ?_; rotate_left
  · (intro w h; (try dsimp only at h); go_simp; try with_reducible rfl)
  try simp only [Act.put, pB, pC, pD]
  refine tk (v := ?_) 2 rfl (by kernel_rfl) (fun _ _ _ h => h) ?_ hHeld ?_; rotate_left
  · (intro w h; (try dsimp only at h); go_simp; try with_reducible rfl)
  try simp only [Act.put, pB, pC, pD]
  refine tk (v := ?_) 3 rfl (by kernel_rfl) (fun _ _ _ h => h) ?_ hHeld ?_; rotate_left
  · (intro w h; (try dsimp only at h); go_simp; try with_reducible rfl)
  try simp only [Act.put, pB, pC, pD]
  refine tk (v := ?_) 4 rfl (by kernel_rfl) (fun _ _ _ h => h) ?_ hHeld ?_; rotate_left
  · (intro w h; (try dsimp only at h); go_simp; try with_reducible rfl)
  try simp only [Act.put, pB, pC, pD]
  refine tk (v := ?_) 5 rfl (by kernel_rfl) (fun _ _ _ h => h) ?_ hHeld ?_; rotate_left
  · (intro w h; (try dsimp only at h); go_simp; try with_reducible rfl)
  try simp only [Act.put, pB, pC, pD]
  refine tk (v := ?_) 6 rfl (by kernel_rfl) (fun _ _ _ h => h) ?_ hHeld ?_; rotate_left
  · (intro w h; (try dsimp only at h); go_simp; try with_reducible rfl)
  try simp only [Act.put, pB, pC, pD]
  refine tk (v := ?_) 8 rfl (by kernel_rfl) (fun _ _ _ h => h) ?_ hHeld ?_; rotate_left
  · (intro w h; (try dsimp only at h); go_simp; try with_reducible rfl)
  try simp only [Act.put, pB, pC, pD]
  refine tk (v := ?_) 9 rfl (by kernel_rfl) (fun _ _ _ h => h) ?_ hHeld ?_; rotate_left
  · (intro w h; (try dsimp only at h); go_simp; try with_reducible rfl)
  try simp only [Act.put, pB, pC, pD]
  refine tk (v := ?_) 10 rfl (by kernel_rfl) (fun _ _ _ h => h) ?_ hHeld ?_; rotate_left
  · (intro w h; (try dsimp only at h); go_simp; try with_reducible rfl)
  try simp only [Act.put, pB, pC, pD]
  refine tk (v := ?_) 11 rfl (by kernel_rfl) (fun _ _ _ h => h) ?_ hHeld ?_; rotate_left
  · (intro w h; (try dsimp only at h); go_simp; try with_reducible rfl)
  try simp only [Act.put, pB, pC, pD]
  refine tk (v := ?_) 12 rfl (by kernel_rfl) (fun _ _ _ h => h) ?_ hHeld ?_; rotate_left
  · (intro w h; (try dsimp only at h); go_simp; try with_reducible rfl)
  try simp only [Act.put, pB, pC, pD]
  refine tk (v := ?_) 13 rfl (by kernel_rfl) (fun _ _ _ h => h) ?_ hHeld ?_; rotate_left
  · (intro w h; (try dsimp only at h); go_simp; try with_reducible rfl)
  try simp only [Act.put, pB, pC, pD]
  refine tk (v := ?_) 14 rfl (by kernel_rfl) (fun _ _ _ h => h) ?_ hHeld ?_; rotate_left
  · (intro w h; (try dsimp only at h); go_simp; try with_reducible rfl)
  try simp only [Act.put, pB, pC, pD]
  refine wpAnyH_ready (rs := [7]) (by kernel_rfl) (by simp) ?_; refine AllReadyH.cons rfl (fun K hK => ?_) AllReadyH.nil; go_simp; refine (HR1.out _ ((Below.refl w1.heap.size w1).drew)).mono ?_; rintro e w2 ⟨v1, rfl, hr1, hb'⟩; have B2 := Lib.hid (((Below.refl w1.heap.size w1).drew).trans (hb'.mono ((Below.refl w1.heap.size w1).drew).size)); have h2 := HSS.out w2 B2.out; have HV1 := Lib.hid hr1; clear hb' hr1
  try (go_wp2_with fail)
  refine hK.out _ _ ?_ (fun hNew => ?_)
  · exact h2
  clear hK K hHeld; have hHeld := hNew; clear hNew; try simp only [Act.put, pB, pC, pD]
  refine wpAnyH_ready (rs := [15]) (by kernel_rfl) (by simp) ?_; refine AllReadyH.cons rfl (fun K hK => ?_) AllReadyH.nil; go_simp; refine (HR2.out _ (B2.out)).mono ?_; rintro e w3 ⟨v2, rfl, hr2, hb'⟩; have B3 := Lib.hid ((B2.out).trans (hb'.mono (B2.out).size)); have h3 := HSS.out w3 B3.out; have HV2 := Lib.hid hr2; have HBB := Lib.hid hb'; clear hb' hr2
  try (go_wp2_with fail)
  refine hK.out _ _ ?_ (fun hNew => ?_)
  · exact h3
  clear hK K hHeld; have hHeld := hNew; clear hNew; try simp only [Act.put, pB, pC, pD]
  refine tk (v := ?_) 16 rfl (by kernel_rfl) (fun _ _ _ h => h) ?_ hHeld ?_; rotate_left
  · (intro w h; (try dsimp only at h); go_simp; try with_reducible rfl)
  try simp only [Act.put, pB, pC, pD]
  refine tk (v := ?_) 17 rfl (by kernel_rfl) (fun _ _ _ h => h) ?_ hHeld ?_; rotate_left
  · (intro w h; (try dsimp only at h); go_simp; try with_reducible rfl)
  try simp only [Act.put, pB, pC, pD]
  refine wpAnyH_done (by kernel_rfl) ?_ _; clear hHeld
  try simp only [List.getElem_toArray, List.getElem_cons_zero, List.getElem_cons_succ, Act.put, pB, pC, pD]
  refine NoPanic.normal ?_
  clear h2 h3 HSS HR1 HR2 HA; have RA := Lib.hid (RdAc.next HV1.out ((show Below w2.heap.size w2 w3 from HBB.out))); have RB := HV2; replace Z1 := Lib.hid (Z1.out.next B3.out Z1.out.lt); replace Z2 := Lib.hid (Z2.out.next B3.out Z2.out.lt); have B3w := Lib.hid (HB0.out.trans (B3.out.mono HB0.out.size)); clear HV1 HV2 B2 B3 HB0 HBB; obtain ⟨A1, c1_, rfl, hc1_⟩ := RowRd.form RA.out; obtain ⟨A2, c2_, rfl, hc2_⟩ := RowRd.form RB.out; have hal := oa.len; have hbl := ob.len; have OA := Lib.hid oa; have OB := Lib.hid ob; clear oa ob; have HVN := Lib.hid (fun (W : World) (hW : Below w3.heap.size w3 W) => verify_is (m := []) (RdAc.next RA.out hW) (RdAc.next RB.out hW) OA.out OB.out RdP.nil (by simp) (fun h => absurd h (by simp)))
  go_upto_region 4 with (first | (go_at_call 6; refine (known47_is _).mono ?_; rintro e w4 ⟨rfl, hb⟩; have B4 := Lib.hid hb; clear hb) | (go_at_call 13; refine (HVN.out _ B4.out).mono ?_; rintro e w5 ⟨rfl, hb⟩; have B5 := Lib.hid (B4.out.trans (hb.mono B4.out.size)); clear hb))
  replace RA := Lib.hid (RdAc.next RA.out B5.out); replace RB := Lib.hid (RdAc.next RB.out B5.out); replace Z1 := Lib.hid (Z1.out.next B5.out Z1.out.lt); replace Z2 := Lib.hid (Z2.out.next B5.out Z2.out.lt); have Bw := Lib.hid (B3w.out.trans (B5.out.mono B3w.out.size)); clear B3w B4 B5 HVN; obtain ⟨N, hN⟩ : ∃ N, a.length + b.length = N := ⟨_, rfl⟩; have HN := Lib.hid hN
  have hNl : N ≤ 70 := by omega
  clear hN; have hbe := (Below.refl w5.heap.size w5).alloc (Nat.le_refl _) (.cells #[] 38); have HBE := Lib.hid hbe; have HE0 := Lib.hid (own_empty w5 w5.heap.size 38 6 (Nat.le_refl _)); obtain ⟨ua, hua, hra⟩ := RA.out; obtain ⟨ub, hub, hrb⟩ := RB.out; have HUA := Lib.hid hua; have HUB := Lib.hid hub; have HRA := Lib.hid (hra.next hbe); have HRB := Lib.hid hrb; obtain ⟨hla, hoa⟩ := rowC_size hua; obtain ⟨hlb, hob⟩ := rowC_size hub; obtain ⟨i0, hi, hz0, hz1, hz2⟩ := info_parts infoAc47; have HMX := Lib.hid (show 70 ≤ maxLen by unfold maxLen; omega); clear hbe hua hub hra hrb
  go_upto_region 5 with (first | (at_builtin; refine wpList_append_rd _ rfl _ _ 30 rfl w5.heap.size 38 i0 _ 6 88 Tryz.underlying30 hi hz0 hz1 hz2 rfl (by decide) _ 0 [] (by rfl) HE0.out _ a.length (rowC acC a ua) (by rfl) HRA.out hla hoa (by have := HMX.out; omega) (by omega) (by simp) ?_; intro ao cap w7 hown7 hg7; (simp only [Nat.zero_add, List.nil_append] at hown7); have O7 := Lib.hid hown7; have B7 := Lib.hid (below_own HBE.out HE0.out hg7 (Nat.le_refl _) (by simp)); clear hown7 hg7; (simp only [Nat.zero_add])) | (at_builtin; refine wpList_append_rd _ rfl _ _ 30 rfl w5.heap.size 38 i0 _ 6 88 Tryz.underlying30 hi hz0 hz1 hz2 rfl (by decide) _ a.length (rowC acC a ua) (by rfl) O7.out _ b.length (rowC acC b ub) (by rfl) (HRB.out.next B7.out) hlb hob (by have := HMX.out; omega) (by omega) (by have := B7.out.size; omega) ?_; intro ao2 cap2 w8 hown8 hg8; have O8 := Lib.hid hown8; have B8 := Lib.hid (below_own B7.out O7.out hg8 (Nat.le_refl _) B7.out.size); clear hown8 hg8; rw [HN.out] at O8 ⊢))
  clear i0 hi hz0 hz1 hz2 hla hoa hlb hob HMX HRA; have RR := Lib.hid (show RdAc w8 (.slice ao2 N cap2) (a ++ b) from ⟨ua ++ ub, RowW.app (HUA.out.nx B8.out) (HUB.out.nx B8.out), by rw [List.length_append, HN.out, rowC_app acC a ua b ub HUA.out.1]; exact Rd.of_own O8.out⟩); have RA8 := Lib.hid (RdAc.next RA.out B8.out); have RB8 := Lib.hid (RdAc.next RB.out B8.out); replace Z1 := Lib.hid (Z1.out.next B8.out Z1.out.lt); replace Z2 := Lib.hid (Z2.out.next B8.out Z2.out.lt); have HBW := Lib.hid (Bw.out.trans (B8.out.mono Bw.out.size)); clear HE0 HBE O7 B7 O8 B8 HUA HUB HRB RA RB Bw; have HNN := Lib.hid (show (a ++ b).length = N by rw [List.length_append]; exact HN.out)
  have HKL := Lib.hid (fun (x : Ac) (hx : x ∈ a ++ b) => show x.key.lin ∈ lin5 from by
    rcases List.mem_append.1 hx with h | h
    · exact (OA.out.r x h).1.2.1
    · exact (OB.out.r x h).1.2.1)
  have H0 : Hid (lvRel N w8 (.int .i64 (0 : Nat)) w8) := Lib.hid ⟨0, Nat.zero_le _, rfl, Below.refl _ _⟩
  go_wp2_with fail
  go_loopw [47] (fun i wr => lvRel N w8 i wr) (fun i _ => N - (intOf i).toNat)
  case atStart => exact H0.out
  case round =>
    clear H0; obtain ⟨j, hj, rfl, hB⟩ := hrel; have HB := Lib.hid hB; clear hB
    by_cases hjN : j < N
    · have j1 : decide ((j : Int) < (N : Int)) = true := decide_eq_true (by omega)
      have j2 : (0 : Int) ≤ (j : Int) := by omega
      have j3 : (j : Int) < (N : Int) := by omega
      have hjl : j < (a ++ b).length := by rw [HNN.out]; exact hjN
      obtain ⟨xb, xo, u1, u2, hbe, hxb, hr1, hr2, y0, y1, y2, y3, y4, y5⟩ := RdAc.piece (RdAc.next RR.out HB.out) hjl; subst hbe; obtain ⟨U1, g1, hu, -⟩ := RdP.form hr1; subst hu; obtain ⟨U2, g2, hu, -⟩ := RdP.form hr2; subst hu; have hkl := HKL.out _ (List.getElem_mem hjl); obtain ⟨k, hk⟩ : ∃ k, (a ++ b)[j].key = k := ⟨_, rfl⟩; rw [hk] at y0 y1 y2 y3 hkl; obtain ⟨n1, hn1⟩ : ∃ n, (a ++ b)[j].reads.length = n := ⟨_, rfl⟩; obtain ⟨n2, hn2⟩ : ∃ n, (a ++ b)[j].writes.length = n := ⟨_, rfl⟩; rw [hn1] at y4; rw [hn2] at y5; clear hn1 hn2; have HKN := Lib.hid hkl; have HJN := Lib.hid hjN; clear hk hjl hkl hxb hr1 hr2
      go_upto_region 7 with (fail)
      have hba := (Below.refl wr.heap.size wr).alloc (Nat.le_refl _) (.cells #[.int .i64 k.tick, .int .i64 k.cls, .int .i64 k.num, .string (bs k.lin), .slice U1 n1 g1, .slice U2 n2 g2] 38); have B9 := Lib.hid (HB.out.trans (hba.mono HB.out.size)); have ZX := Lib.hid (Blk.new wr 38 #[.int .i64 k.tick, .int .i64 k.cls, .int .i64 k.num, .string (bs k.lin), .slice U1 n1 g1, .slice U2 n2 g2]); clear hba y0 y1 y2 y3 y4 y5; generalize wr.alloc (.cells #[.int .i64 k.tick, .int .i64 k.cls, .int .i64 k.num, .string (bs k.lin), .slice U1 n1 g1, .slice U2 n2 g2] 38) = w9 at *; obtain ⟨xk, hxk⟩ : ∃ xk, wr.heap.size = xk := ⟨_, rfl⟩; rw [hxk] at ZX ⊢; clear hxk; have HEX := Lib.hid (fun (W : World) (hW : Below w8.heap.size w8 W) => explain_is (RdAc.next RA8.out hW) (RdAc.next RB8.out hW) OA.out OB.out HKN.out)
      unfold kyV at HEX
      rcases HLAW.out k with ⟨-, hE⟩ | ⟨-, hE, -, l', r, hR, -⟩
      · rw [hE] at HEX
        clear hE; have q0 := ZX.out.cell 0; have q1 := ZX.out.cell 1; have q2 := ZX.out.cell 2; have q3 := ZX.out.cell 3; have q4 := ZX.out.cell 4; have q5 := ZX.out.cell 5; simp only [qB, qC, qD] at q0 q1 q2 q3 q4 q5
        go_upto_region 8 with (go_at_call 7; refine (HEX.out _ B9.out).mono ?_; rintro e w10 ⟨vr, rfl, hr, hb⟩; have B10 := Lib.hid (B9.out.trans (hb.mono B9.out.size)); clear hb hr)
        clear q0 q1 q2 q3 q4 q5
        go_wp2_with fail
        go_roundw
        case rel => exact ⟨j + 1, HJN.out, by go_num, B10.out⟩
        case measure => have := HJN.out; simp [intOf]; omega
      · have HVS := Lib.hid (ver_self hE)
        have hRl := expA_len OA.out OB.out k; have HLN := Lib.hid (expA_lin OA.out OB.out k)
        have hR0 : 0 < (expA a b k).1.length := by rw [hR]; simp
        rw [hE] at HEX; obtain ⟨R, hRR⟩ : ∃ R, (expA a b k).1 = R := ⟨_, rfl⟩; rw [hRR] at HEX HVS hRl HLN hR0; clear hE hR hRR; have q0 := ZX.out.cell 0; have q1 := ZX.out.cell 1; have q2 := ZX.out.cell 2; have q3 := ZX.out.cell 3; have q4 := ZX.out.cell 4; have q5 := ZX.out.cell 5; simp only [qB, qC, qD] at q0 q1 q2 q3 q4 q5
        go_upto_region 8 with (go_at_call 7; refine (HEX.out _ B9.out).mono ?_; rintro e w10 ⟨vr, rfl, hr, hb⟩; have HRR := Lib.hid hr; have B10 := Lib.hid (B9.out.trans (hb.mono B9.out.size)); clear hb hr)
        clear q0 q1 q2 q3 q4 q5; obtain ⟨A3, c3_, rfl, hc3_⟩ := RdP.form HRR.out
        go_upto_region 11 with (go_at_call 13; refine (verify_is (m := R) (RdAc.next RA8.out B10.out) (RdAc.next RB8.out B10.out) OA.out OB.out HRR.out (by omega) (fun h => HLN.out _ (List.getElem_mem h))).mono ?_; rintro e w11 ⟨rfl, hb⟩; rw [HVS.out]; have HRX := Lib.hid (RdP.next HRR.out hb); have B11 := Lib.hid (B10.out.trans (hb.mono B10.out.size)); clear hb)
        replace Z2 := Lib.hid (Z2.out.next B11.out Z2.out.lt); have cc0 := Z2.out.cell 0; have cc1 := Z2.out.cell 1; have cc2 := Z2.out.cell 2; simp only [qB, qC, qD] at cc0 cc1 cc2
        have hrn : ¬ ((R.length : Int) = 0) := by omega
        have hrn2 : ((R.length : Int) == 0) = false := by simpa using hrn
        have hrn3 : R.length ≠ 0 := by omega
        have hbe := (Below.refl w11.heap.size w11).alloc (Nat.le_refl _) (.cells #[] 47); have HBE := Lib.hid hbe; have HE0 := Lib.hid (own_empty w11 w11.heap.size 47 10 (Nat.le_refl _)); have HRD := Lib.hid (RdP.next HRX.out hbe); have HMX := Lib.hid (show 1000 ≤ maxLen by unfold maxLen; omega); obtain ⟨i0, hi, hz0, hz1, hz2⟩ := info_parts infoRs; clear hbe
        go_upto_region 13 with (at_builtin; refine wpList_append_rd _ rfl _ _ 39 rfl w11.heap.size 47 i0 _ 10 104 Tryz.underlying39 hi hz0 hz1 hz2 rfl (by decide) _ 0 [] (by rfl) HE0.out _ R.length (R.flatMap rsC) (by rfl) HRD.out (flat_lenR R) (rs_one R) (by have := HMX.out; omega) (by omega) (by simp) ?_; intro ao cap w12 hown hg; (simp only [Nat.zero_add, List.nil_append] at hown); have O12 := Lib.hid hown; have B12 := Lib.hid (below_own HBE.out HE0.out hg (Nat.le_refl _) (by simp)); clear hown hg; (simp only [Nat.zero_add]))
        clear i0 hi hz0 hz1 hz2 HMX HRD HE0 HBE; have B13 := Lib.hid (B11.out.trans (B12.out.mono B11.out.size)); replace Z2 := Lib.hid (Z2.out.next B12.out Z2.out.lt); clear cc0 cc1 cc2 hrn hrn2 hrn3; obtain ⟨mb, hmv, hmb, hmlt, hfz⟩ := own_block O12.out hR0; subst hmv; have HMB := Lib.hid (show w8.heap.size ≤ mb from Nat.le_trans B11.out.size hmb); obtain ⟨i, hi, hil⟩ : ∃ i : Nat, ((c0 : Int) % (R.length : Int)) = (i : Int) ∧ i < R.length := ⟨c0 % R.length, by omega, Nat.mod_lt _ hR0⟩; obtain ⟨q, hq, hq4⟩ : ∃ q : Nat, ((c1 : Int) % 4) = (q : Int) ∧ q < 4 := ⟨c1 % 4, by omega, Nat.mod_lt _ (by omega)⟩; rw [hi]; clear hi; have cc0 := Z2.out.cell 0; have cc1 := Z2.out.cell 1; have cc2 := Z2.out.cell 2; simp only [qB, qC, qD] at cc0 cc1 cc2
        go_upto_region 15 with (fail)
        rw [hq]; clear hq; have HM := Lib.hid (show RdRs w12 (.slice (some ⟨mb, 0, none⟩) R.length cap) R from Rd.of_own O12.out); obtain ⟨b2, o2, hbe2, -, m0, m1, m2, m3, m4, m5, m6, m7, m8, m9⟩ := RdRs.piece HM.out hil
        injection hbe2 with hbe2
        injection hbe2 with hb2 ho2
        subst hb2; subst ho2
        simp only [Nat.zero_add] at m0 m1 m2 m3 m4 m5 m6 m7 m8 m9
        have i2 : (0 : Int) ≤ (i : Int) := by omega
        have i3 : (i : Int) < (R.length : Int) := by omega
        obtain ⟨x, hx⟩ : ∃ x, R[i] = x := ⟨_, rfl⟩; rw [hx] at m0 m1 m2 m3 m4 m5 m6 m7 m8 m9; have HIL := Lib.hid hil; have HX := Lib.hid hx; clear hx; have z0 := hfz (i * 10); have z1 := hfz (i * 10 + 4); have z5 := hfz (i * 10 + 5); have z6 := hfz (i * 10 + 6); have z7 := hfz (i * 10 + 7); have z8 := hfz (i * 10 + 8); have z9 := hfz (i * 10 + 9)
        rcases (show q = 0 ∨ q = 1 ∨ q = 2 ∨ q = 3 by omega) with rfl | rfl | rfl | rfl
        · go_upto_region 21 with (fail)
          have HXV := Lib.hid (show ∃ X, wrap64 (1 + x.kind.tmod 3) = X from ⟨_, rfl⟩); obtain ⟨X, hX⟩ := HXV.out; rw [hX]; clear hX HXV; have O14 := Lib.hid (own_set O12.out (j := i * 10 + 4) (by omega) (.int .i64 X)); have BT := Lib.hid (B13.out.setCell (p := ⟨mb, i * 10 + 4, none⟩) HMB.out (.int .i64 X)); generalize w12.setCell ⟨mb, i * 10 + 4, none⟩ (.int .i64 X) = wt at *; clear z0 z1 z5 z6 z7 z8 z9 m0 m1 m2 m3 m4 m5 m6 m7 m8 m9 hfz; have MLE := Lib.hid (show (R.set i (⟨x.key, X, x.name⟩ : Rs)).length = R.length from List.length_set)
          have MLN := Lib.hid (fun (z : Rs) (hz : z ∈ R.set i ⟨x.key, X, x.name⟩) => show z.key.lin ∈ lin5 from by
            rcases List.mem_or_eq_of_mem_set hz with h | rfl
            · exact HLN.out z h
            · exact (show x.key.lin ∈ lin5 by rw [← HX.out]; exact HLN.out _ (List.getElem_mem HIL.out)))
          have HMT := Lib.hid (show RdRs wt (.slice (some ⟨mb, 0, none⟩) R.length cap) (R.set i ⟨x.key, X, x.name⟩) by
            have h1 := Rd.of_own O14.out; have h2 := rs_set R HIL.out (j := 4) (by omega) (.int .i64 X) ⟨x.key, X, x.name⟩ (by rw [HX.out]; rfl)
            try simp only [Nat.add_zero] at h2
            rw [h2] at h1
            show Rd 47 wt _ (R.set i ⟨x.key, X, x.name⟩).length ((R.set i ⟨x.key, X, x.name⟩).flatMap rsC)
            rw [List.length_set]
            exact h1)
          obtain ⟨m, hm⟩ : ∃ m, R.set i (⟨x.key, X, x.name⟩ : Rs) = m := ⟨_, rfl⟩; rw [hm] at MLE MLN HMT; clear hm O14
          have hm0 : 0 < m.length := by rw [MLE.out]; exact hR0
          have HKM := Lib.hid (MLN.out _ (List.getElem_mem hm0)); have HV := Lib.hid (verL_at (a := a) (b := b) hm0)
          have hml : m.length ≤ 1000 := by rw [MLE.out]; omega
          have HVF := Lib.hid (fun (W : World) (hW : Below wt.heap.size wt W) => verify_is (RdAc.next RA8.out (BT.out.trans (hW.mono BT.out.size))) (RdAc.next RB8.out (BT.out.trans (hW.mono BT.out.size))) OA.out OB.out (RdP.next HMT.out hW) hml (fun h => MLN.out _ (List.getElem_mem h))); have HEX2 := Lib.hid (fun (W : World) (hW : Below wt.heap.size wt W) => lexplain_is (RdAc.next RA8.out (BT.out.trans (hW.mono BT.out.size))) (RdAc.next RB8.out (BT.out.trans (hW.mono BT.out.size))) OA.out OB.out HKM.out); obtain ⟨b2, o2, hbe2, -, t0, t1, t2, t3, -, -, -, -, -, -⟩ := RdRs.piece HMT.out hm0
          injection hbe2 with hbe2
          injection hbe2 with hb2 ho2
          subst hb2; subst ho2
          simp only [Nat.zero_add, Nat.zero_mul] at t0 t1 t2 t3
          have HEL := Lib.hid (expA_len OA.out OB.out m[0].key); obtain ⟨km, hkm⟩ : ∃ km, m[0].key = km := ⟨_, rfl⟩; rw [hkm] at t0 t1 t2 t3 HV HEX2 HKM HEL; clear hkm hm0; obtain ⟨er, her⟩ : ∃ er, (expA a b km).2 = er := ⟨_, rfl⟩; obtain ⟨Y, hY⟩ : ∃ Y, (expA a b km).1 = Y := ⟨_, rfl⟩; rw [her, hY] at HV HEX2; rw [hY] at HEL
          unfold kyV at HEX2
          clear her hY
          by_cases he : er = 0
          · subst he
            have HV2 := Lib.hid (show verL a b m = decide (Y = m) by rw [HV.out]; simp); obtain ⟨bq, hbq⟩ : ∃ bq, decide (Y = m) = bq := ⟨_, rfl⟩; rw [hbq] at HV2; rw [HV2.out] at HVF; have HBQ := Lib.hid hbq; have HML := Lib.hid hml; clear hbq
            go_upto_region 24 with (go_at_call 8; refine (HEX2.out _ (Below.refl _ _)).mono ?_; rintro e w15 ⟨vy, rfl, hy, hb⟩; have HYR := Lib.hid hy; have B15 := Lib.hid hb; clear hy hb t0 t1 t2 t3)
            go_upto_region 25 with (go_at_call 9; refine (eqrs_is HYR.out (RdP.next HMT.out B15.out) (by have := HEL.out; omega) (by have := HML.out; omega)).mono ?_; rintro e w16 ⟨rfl, hb⟩; have B16 := Lib.hid (B15.out.trans (hb.mono B15.out.size)); clear hb; rw [HBQ.out])
            go_wp2_with (go_at_call 13; refine (HVF.out _ B16.out).mono ?_; rintro e w17 ⟨rfl, hb⟩; have B17 := Lib.hid (BT.out.trans ((B16.out.trans (hb.mono B16.out.size)).mono BT.out.size)); clear hb)
            go_roundw
            case rel => exact ⟨j + 1, HJN.out, by go_num, B17.out⟩
            case measure => have := HJN.out; simp [intOf]; omega
          · have HV2 := Lib.hid (show verL a b m = false by rw [HV.out]; simp [he])
            rw [HV2.out] at HVF
            have e3 : (er == 0) = false := by simpa using he
            have e4 : decide (er = 0) = false := decide_eq_false he
            go_upto_region 24 with (go_at_call 8; refine (HEX2.out _ (Below.refl _ _)).mono ?_; rintro e w15 ⟨vy, rfl, hy, hb⟩; have B15 := Lib.hid hb; clear hy hb t0 t1 t2 t3)
            go_wp2_with (go_at_call 13; refine (HVF.out _ B15.out).mono ?_; rintro e w17 ⟨rfl, hb⟩; have B17 := Lib.hid (BT.out.trans ((B15.out.trans (hb.mono B15.out.size)).mono BT.out.size)); clear hb)
            go_roundw
            case rel => exact ⟨j + 1, HJN.out, by go_num, B17.out⟩
            case measure => have := HJN.out; simp [intOf]; omega
        · go_upto_region 21 with (go_at_call 14; refine (port_is ((c2 : Int) % 7) (by omega) (by omega) _).mono ?_; rintro e w13 ⟨rfl, hb⟩; have O13 := Lib.hid (own_next O12.out hb); have HB13 := Lib.hid (B13.out.trans (hb.mono B13.out.size)); clear hb; obtain ⟨n, hn⟩ : ∃ n, prtN (1 + (c2 : Int) % 7) = n := ⟨_, rfl⟩; rw [hn]; clear hn; (simp only [nmV, nmA]); clear z0 z1 z5 z6 z7 z8 z9 m0 m1 m2 m3 m4 m5 m6 m7 m8 m9; obtain ⟨mb', hmv', hmb', hmlt', hfz'⟩ := own_block O13.out hR0; injection hmv' with hmv'; injection hmv' with hmv'; subst hmv'; have z5 := hfz' (i * 10 + 5); have z6 := hfz' (i * 10 + 6); have z7 := hfz' (i * 10 + 7); have z8 := hfz' (i * 10 + 8); have z9 := hfz' (i * 10 + 9); have HM13 := Lib.hid (show RdRs w13 (.slice (some ⟨mb, 0, none⟩) R.length cap) R from Rd.of_own O13.out); obtain ⟨b2, o2, hbe2, -, -, -, -, -, -, m5, m6, m7, m8, m9⟩ := RdRs.piece HM13.out HIL.out; injection hbe2 with hbe2; injection hbe2 with hb2 ho2; subst hb2; subst ho2; (simp only [Nat.zero_add] at m5 m6 m7 m8 m9))
          have O14 := Lib.hid (own_set (own_set (own_set (own_set (own_set O13.out (j := i * 10 + 5) (by omega) (.int .i64 n.kind)) (j := i * 10 + 6) (by omega) (.string (bs n.owner))) (j := i * 10 + 7) (by omega) (.int .i64 n.num)) (j := i * 10 + 8) (by omega) (.int .i64 n.idx)) (j := i * 10 + 9) (by omega) (.string (bs n.text))); have BT := Lib.hid (((((HB13.out.setCell (p := ⟨mb, i * 10 + 5, none⟩) HMB.out (.int .i64 n.kind)).setCell (p := ⟨mb, i * 10 + 6, none⟩) HMB.out (.string (bs n.owner))).setCell (p := ⟨mb, i * 10 + 7, none⟩) HMB.out (.int .i64 n.num)).setCell (p := ⟨mb, i * 10 + 8, none⟩) HMB.out (.int .i64 n.idx)).setCell (p := ⟨mb, i * 10 + 9, none⟩) HMB.out (.string (bs n.text))); generalize (((((w13.setCell ⟨mb, i * 10 + 5, none⟩ (.int .i64 n.kind)).setCell ⟨mb, i * 10 + 6, none⟩ (.string (bs n.owner))).setCell ⟨mb, i * 10 + 7, none⟩ (.int .i64 n.num)).setCell ⟨mb, i * 10 + 8, none⟩ (.int .i64 n.idx)).setCell ⟨mb, i * 10 + 9, none⟩ (.string (bs n.text))) = wt at *; clear z5 z6 z7 z8 z9 m5 m6 m7 m8 m9 hfz hfz' hmb' hmlt'; have MLE := Lib.hid (show (R.set i (⟨x.key, x.kind, n⟩ : Rs)).length = R.length from List.length_set)
          have MLN := Lib.hid (fun (z : Rs) (hz : z ∈ R.set i ⟨x.key, x.kind, n⟩) => show z.key.lin ∈ lin5 from by
            rcases List.mem_or_eq_of_mem_set hz with h | rfl
            · exact HLN.out z h
            · exact (show x.key.lin ∈ lin5 by rw [← HX.out]; exact HLN.out _ (List.getElem_mem HIL.out)))
          have HMT := Lib.hid (show RdRs wt (.slice (some ⟨mb, 0, none⟩) R.length cap) (R.set i ⟨x.key, x.kind, n⟩) by
            have h1 := Rd.of_own O14.out; have h2 := rs_set5 R HIL.out n; rw [HX.out] at h2; rw [h2] at h1
            show Rd 47 wt _ (R.set i ⟨x.key, x.kind, n⟩).length ((R.set i ⟨x.key, x.kind, n⟩).flatMap rsC)
            rw [List.length_set]
            exact h1)
          obtain ⟨m, hm⟩ : ∃ m, R.set i (⟨x.key, x.kind, n⟩ : Rs) = m := ⟨_, rfl⟩; rw [hm] at MLE MLN HMT; clear hm O14
          have hm0 : 0 < m.length := by rw [MLE.out]; exact hR0
          have HKM := Lib.hid (MLN.out _ (List.getElem_mem hm0)); have HV := Lib.hid (verL_at (a := a) (b := b) hm0)
          have hml : m.length ≤ 1000 := by rw [MLE.out]; omega
          have HVF := Lib.hid (fun (W : World) (hW : Below wt.heap.size wt W) => verify_is (RdAc.next RA8.out (BT.out.trans (hW.mono BT.out.size))) (RdAc.next RB8.out (BT.out.trans (hW.mono BT.out.size))) OA.out OB.out (RdP.next HMT.out hW) hml (fun h => MLN.out _ (List.getElem_mem h))); have HEX2 := Lib.hid (fun (W : World) (hW : Below wt.heap.size wt W) => lexplain_is (RdAc.next RA8.out (BT.out.trans (hW.mono BT.out.size))) (RdAc.next RB8.out (BT.out.trans (hW.mono BT.out.size))) OA.out OB.out HKM.out); obtain ⟨b2, o2, hbe2, -, t0, t1, t2, t3, -, -, -, -, -, -⟩ := RdRs.piece HMT.out hm0
          injection hbe2 with hbe2
          injection hbe2 with hb2 ho2
          subst hb2; subst ho2
          simp only [Nat.zero_add, Nat.zero_mul] at t0 t1 t2 t3
          have HEL := Lib.hid (expA_len OA.out OB.out m[0].key); obtain ⟨km, hkm⟩ : ∃ km, m[0].key = km := ⟨_, rfl⟩; rw [hkm] at t0 t1 t2 t3 HV HEX2 HKM HEL; clear hkm hm0; obtain ⟨er, her⟩ : ∃ er, (expA a b km).2 = er := ⟨_, rfl⟩; obtain ⟨Y, hY⟩ : ∃ Y, (expA a b km).1 = Y := ⟨_, rfl⟩; rw [her, hY] at HV HEX2; rw [hY] at HEL
          unfold kyV at HEX2
          clear her hY
          by_cases he : er = 0
          · subst he
            have HV2 := Lib.hid (show verL a b m = decide (Y = m) by rw [HV.out]; simp); obtain ⟨bq, hbq⟩ : ∃ bq, decide (Y = m) = bq := ⟨_, rfl⟩; rw [hbq] at HV2; rw [HV2.out] at HVF; have HBQ := Lib.hid hbq; have HML := Lib.hid hml; clear hbq
            go_upto_region 24 with (go_at_call 8; refine (HEX2.out _ (Below.refl _ _)).mono ?_; rintro e w15 ⟨vy, rfl, hy, hb⟩; have HYR := Lib.hid hy; have B15 := Lib.hid hb; clear hy hb t0 t1 t2 t3)
            go_upto_region 25 with (go_at_call 9; refine (eqrs_is HYR.out (RdP.next HMT.out B15.out) (by have := HEL.out; omega) (by have := HML.out; omega)).mono ?_; rintro e w16 ⟨rfl, hb⟩; have B16 := Lib.hid (B15.out.trans (hb.mono B15.out.size)); clear hb; rw [HBQ.out])
            go_wp2_with (go_at_call 13; refine (HVF.out _ B16.out).mono ?_; rintro e w17 ⟨rfl, hb⟩; have B17 := Lib.hid (BT.out.trans ((B16.out.trans (hb.mono B16.out.size)).mono BT.out.size)); clear hb)
            go_roundw
            case rel => exact ⟨j + 1, HJN.out, by go_num, B17.out⟩
            case measure => have := HJN.out; simp [intOf]; omega
          · have HV2 := Lib.hid (show verL a b m = false by rw [HV.out]; simp [he])
            rw [HV2.out] at HVF
            have e3 : (er == 0) = false := by simpa using he
            have e4 : decide (er = 0) = false := decide_eq_false he
            go_upto_region 24 with (go_at_call 8; refine (HEX2.out _ (Below.refl _ _)).mono ?_; rintro e w15 ⟨vy, rfl, hy, hb⟩; have B15 := Lib.hid hb; clear hy hb t0 t1 t2 t3)
            go_wp2_with (go_at_call 13; refine (HVF.out _ B15.out).mono ?_; rintro e w17 ⟨rfl, hb⟩; have B17 := Lib.hid (BT.out.trans ((B15.out.trans (hb.mono B15.out.size)).mono BT.out.size)); clear hb)
            go_roundw
            case rel => exact ⟨j + 1, HJN.out, by go_num, B17.out⟩
            case measure => have := HJN.out; simp [intOf]; omega
        · go_upto_region 21 with (fail)
          have HXV := Lib.hid (show ∃ X, wrap64 (x.key.tick + 1) = X from ⟨_, rfl⟩); obtain ⟨X, hX⟩ := HXV.out; rw [hX]; clear hX HXV; have O14 := Lib.hid (own_set O12.out (j := i * 10) (by omega) (.int .i64 X)); have BT := Lib.hid (B13.out.setCell (p := ⟨mb, i * 10, none⟩) HMB.out (.int .i64 X)); generalize w12.setCell ⟨mb, i * 10, none⟩ (.int .i64 X) = wt at *; clear z0 z1 z5 z6 z7 z8 z9 m0 m1 m2 m3 m4 m5 m6 m7 m8 m9 hfz; have MLE := Lib.hid (show (R.set i (⟨⟨X, x.key.cls, x.key.num, x.key.lin⟩, x.kind, x.name⟩ : Rs)).length = R.length from List.length_set)
          have MLN := Lib.hid (fun (z : Rs) (hz : z ∈ R.set i ⟨⟨X, x.key.cls, x.key.num, x.key.lin⟩, x.kind, x.name⟩) => show z.key.lin ∈ lin5 from by
            rcases List.mem_or_eq_of_mem_set hz with h | rfl
            · exact HLN.out z h
            · exact (show x.key.lin ∈ lin5 by rw [← HX.out]; exact HLN.out _ (List.getElem_mem HIL.out)))
          have HMT := Lib.hid (show RdRs wt (.slice (some ⟨mb, 0, none⟩) R.length cap) (R.set i ⟨⟨X, x.key.cls, x.key.num, x.key.lin⟩, x.kind, x.name⟩) by
            have h1 := Rd.of_own O14.out; have h2 := rs_set R HIL.out (j := 0) (by omega) (.int .i64 X) ⟨⟨X, x.key.cls, x.key.num, x.key.lin⟩, x.kind, x.name⟩ (by rw [HX.out]; rfl)
            try simp only [Nat.add_zero] at h2
            rw [h2] at h1
            show Rd 47 wt _ (R.set i ⟨⟨X, x.key.cls, x.key.num, x.key.lin⟩, x.kind, x.name⟩).length ((R.set i ⟨⟨X, x.key.cls, x.key.num, x.key.lin⟩, x.kind, x.name⟩).flatMap rsC)
            rw [List.length_set]
            exact h1)
          obtain ⟨m, hm⟩ : ∃ m, R.set i (⟨⟨X, x.key.cls, x.key.num, x.key.lin⟩, x.kind, x.name⟩ : Rs) = m := ⟨_, rfl⟩; rw [hm] at MLE MLN HMT; clear hm O14
          have hm0 : 0 < m.length := by rw [MLE.out]; exact hR0
          have HKM := Lib.hid (MLN.out _ (List.getElem_mem hm0)); have HV := Lib.hid (verL_at (a := a) (b := b) hm0)
          have hml : m.length ≤ 1000 := by rw [MLE.out]; omega
          have HVF := Lib.hid (fun (W : World) (hW : Below wt.heap.size wt W) => verify_is (RdAc.next RA8.out (BT.out.trans (hW.mono BT.out.size))) (RdAc.next RB8.out (BT.out.trans (hW.mono BT.out.size))) OA.out OB.out (RdP.next HMT.out hW) hml (fun h => MLN.out _ (List.getElem_mem h))); have HEX2 := Lib.hid (fun (W : World) (hW : Below wt.heap.size wt W) => lexplain_is (RdAc.next RA8.out (BT.out.trans (hW.mono BT.out.size))) (RdAc.next RB8.out (BT.out.trans (hW.mono BT.out.size))) OA.out OB.out HKM.out); obtain ⟨b2, o2, hbe2, -, t0, t1, t2, t3, -, -, -, -, -, -⟩ := RdRs.piece HMT.out hm0
          injection hbe2 with hbe2
          injection hbe2 with hb2 ho2
          subst hb2; subst ho2
          simp only [Nat.zero_add, Nat.zero_mul] at t0 t1 t2 t3
          have HEL := Lib.hid (expA_len OA.out OB.out m[0].key); obtain ⟨km, hkm⟩ : ∃ km, m[0].key = km := ⟨_, rfl⟩; rw [hkm] at t0 t1 t2 t3 HV HEX2 HKM HEL; clear hkm hm0; obtain ⟨er, her⟩ : ∃ er, (expA a b km).2 = er := ⟨_, rfl⟩; obtain ⟨Y, hY⟩ : ∃ Y, (expA a b km).1 = Y := ⟨_, rfl⟩; rw [her, hY] at HV HEX2; rw [hY] at HEL
          unfold kyV at HEX2
          clear her hY
          by_cases he : er = 0
          · subst he
            have HV2 := Lib.hid (show verL a b m = decide (Y = m) by rw [HV.out]; simp); obtain ⟨bq, hbq⟩ : ∃ bq, decide (Y = m) = bq := ⟨_, rfl⟩; rw [hbq] at HV2; rw [HV2.out] at HVF; have HBQ := Lib.hid hbq; have HML := Lib.hid hml; clear hbq
            go_upto_region 24 with (go_at_call 8; refine (HEX2.out _ (Below.refl _ _)).mono ?_; rintro e w15 ⟨vy, rfl, hy, hb⟩; have HYR := Lib.hid hy; have B15 := Lib.hid hb; clear hy hb t0 t1 t2 t3)
            go_upto_region 25 with (go_at_call 9; refine (eqrs_is HYR.out (RdP.next HMT.out B15.out) (by have := HEL.out; omega) (by have := HML.out; omega)).mono ?_; rintro e w16 ⟨rfl, hb⟩; have B16 := Lib.hid (B15.out.trans (hb.mono B15.out.size)); clear hb; rw [HBQ.out])
            go_wp2_with (go_at_call 13; refine (HVF.out _ B16.out).mono ?_; rintro e w17 ⟨rfl, hb⟩; have B17 := Lib.hid (BT.out.trans ((B16.out.trans (hb.mono B16.out.size)).mono BT.out.size)); clear hb)
            go_roundw
            case rel => exact ⟨j + 1, HJN.out, by go_num, B17.out⟩
            case measure => have := HJN.out; simp [intOf]; omega
          · have HV2 := Lib.hid (show verL a b m = false by rw [HV.out]; simp [he])
            rw [HV2.out] at HVF
            have e3 : (er == 0) = false := by simpa using he
            have e4 : decide (er = 0) = false := decide_eq_false he
            go_upto_region 24 with (go_at_call 8; refine (HEX2.out _ (Below.refl _ _)).mono ?_; rintro e w15 ⟨vy, rfl, hy, hb⟩; have B15 := Lib.hid hb; clear hy hb t0 t1 t2 t3)
            go_wp2_with (go_at_call 13; refine (HVF.out _ B15.out).mono ?_; rintro e w17 ⟨rfl, hb⟩; have B17 := Lib.hid (BT.out.trans ((B15.out.trans (hb.mono B15.out.size)).mono BT.out.size)); clear hb)
            go_roundw
            case rel => exact ⟨j + 1, HJN.out, by go_num, B17.out⟩
            case measure => have := HJN.out; simp [intOf]; omega
        · have hcap : R.length ≤ cap := by
            rcases O12.out.2 with ⟨_, h2⟩ | ⟨g, cap', cur, hv, _, _, h5, _⟩
            · omega
            · injection hv with _ _ hv
              omega
          have hs : (1 : Int) ≤ (R.length : Int) ∧ (R.length : Int) - 1 ≤ (cap : Int) := by omega
          clear hcap
          go_upto_region 21 with (fail)
          obtain ⟨L, hL⟩ : ∃ L, R.length - 1 = L := ⟨_, rfl⟩; rw [hL]
          have hLR : L ≤ R.length := by omega
          have HMT := Lib.hid (RdRs.front HM.out hLR); have MLE := Lib.hid (show (R.take L).length = L by rw [List.length_take]; omega); have MLN := Lib.hid (fun (z : Rs) (hz : z ∈ R.take L) => HLN.out z (List.mem_of_mem_take hz)); have BT := B13; obtain ⟨wt, hwt⟩ : ∃ wt, w12 = wt := ⟨_, rfl⟩; subst hwt; obtain ⟨m, hm⟩ : ∃ m, R.take L = m := ⟨_, rfl⟩; rw [hm] at MLE MLN HMT; clear hm hs z0 z1 z5 z6 z7 z8 z9 m0 m1 m2 m3 m4 m5 m6 m7 m8 m9 hfz hL
          by_cases hL0 : 0 < L
          · skip
            have hm0 : 0 < m.length := by rw [MLE.out]; exact hL0
            have HKM := Lib.hid (MLN.out _ (List.getElem_mem hm0)); have HV := Lib.hid (verL_at (a := a) (b := b) hm0)
            have hml : m.length ≤ 1000 := by rw [MLE.out]; omega
            have HVF := Lib.hid (fun (W : World) (hW : Below w12.heap.size w12 W) => verify_is (RdAc.next RA8.out (BT.out.trans (hW.mono BT.out.size))) (RdAc.next RB8.out (BT.out.trans (hW.mono BT.out.size))) OA.out OB.out (RdP.next HMT.out hW) hml (fun h => MLN.out _ (List.getElem_mem h))); have HEX2 := Lib.hid (fun (W : World) (hW : Below w12.heap.size w12 W) => lexplain_is (RdAc.next RA8.out (BT.out.trans (hW.mono BT.out.size))) (RdAc.next RB8.out (BT.out.trans (hW.mono BT.out.size))) OA.out OB.out HKM.out); obtain ⟨b2, o2, hbe2, -, t0, t1, t2, t3, -, -, -, -, -, -⟩ := RdRs.piece HMT.out hm0
            injection hbe2 with hbe2
            injection hbe2 with hb2 ho2
            subst hb2; subst ho2
            simp only [Nat.zero_add, Nat.zero_mul] at t0 t1 t2 t3
            have HEL := Lib.hid (expA_len OA.out OB.out m[0].key); obtain ⟨km, hkm⟩ : ∃ km, m[0].key = km := ⟨_, rfl⟩; rw [hkm] at t0 t1 t2 t3 HV HEX2 HKM HEL; clear hkm hm0; obtain ⟨er, her⟩ : ∃ er, (expA a b km).2 = er := ⟨_, rfl⟩; obtain ⟨Y, hY⟩ : ∃ Y, (expA a b km).1 = Y := ⟨_, rfl⟩; rw [her, hY] at HV HEX2; rw [hY] at HEL
            unfold kyV at HEX2
            clear her hY
            by_cases he : er = 0
            · subst he
              have HV2 := Lib.hid (show verL a b m = decide (Y = m) by rw [HV.out]; simp); obtain ⟨bq, hbq⟩ : ∃ bq, decide (Y = m) = bq := ⟨_, rfl⟩; rw [hbq] at HV2; rw [HV2.out] at HVF; have HBQ := Lib.hid hbq; have HML := Lib.hid hml; clear hbq
              go_upto_region 24 with (go_at_call 8; refine (HEX2.out _ (Below.refl _ _)).mono ?_; rintro e w15 ⟨vy, rfl, hy, hb⟩; have HYR := Lib.hid hy; have B15 := Lib.hid hb; clear hy hb t0 t1 t2 t3)
              go_upto_region 25 with (go_at_call 9; refine (eqrs_is HYR.out (RdP.next HMT.out B15.out) (by have := HEL.out; omega) (by have := HML.out; omega)).mono ?_; rintro e w16 ⟨rfl, hb⟩; have B16 := Lib.hid (B15.out.trans (hb.mono B15.out.size)); clear hb; rw [HBQ.out])
              go_wp2_with (go_at_call 13; refine (HVF.out _ B16.out).mono ?_; rintro e w17 ⟨rfl, hb⟩; have B17 := Lib.hid (BT.out.trans ((B16.out.trans (hb.mono B16.out.size)).mono BT.out.size)); clear hb)
              go_roundw
              case rel => exact ⟨j + 1, HJN.out, by go_num, B17.out⟩
              case measure => have := HJN.out; simp [intOf]; omega
            · have HV2 := Lib.hid (show verL a b m = false by rw [HV.out]; simp [he])
              rw [HV2.out] at HVF
              have e3 : (er == 0) = false := by simpa using he
              have e4 : decide (er = 0) = false := decide_eq_false he
              go_upto_region 24 with (go_at_call 8; refine (HEX2.out _ (Below.refl _ _)).mono ?_; rintro e w15 ⟨vy, rfl, hy, hb⟩; have B15 := Lib.hid hb; clear hy hb t0 t1 t2 t3)
              go_wp2_with (go_at_call 13; refine (HVF.out _ B15.out).mono ?_; rintro e w17 ⟨rfl, hb⟩; have B17 := Lib.hid (BT.out.trans ((B15.out.trans (hb.mono B15.out.size)).mono BT.out.size)); clear hb)
              go_roundw
              case rel => exact ⟨j + 1, HJN.out, by go_num, B17.out⟩
              case measure => have := HJN.out; simp [intOf]; omega
          · have HVF := Lib.hid (verify_is (RdAc.next RA8.out BT.out) (RdAc.next RB8.out BT.out) OA.out OB.out HMT.out (by rw [MLE.out]; omega) (fun h => MLN.out _ (List.getElem_mem h)))
            have HV2 := Lib.hid (show verL a b m = false by
              have : m = [] := List.length_eq_zero_iff.1 (by rw [MLE.out]; omega)
              rw [this]; rfl)
            rw [HV2.out] at HVF
            go_wp2_with (go_at_call 13; refine HVF.out.mono ?_; rintro e w17 ⟨rfl, hb⟩; have B17 := Lib.hid (BT.out.trans (hb.mono BT.out.size)); clear hb)
            go_roundw
            case rel => exact ⟨j + 1, HJN.out, by go_num, B17.out⟩
            case measure => have := HJN.out; simp [intOf]; omega
    · have j1 : decide ((j : Int) < (N : Int)) = false := decide_eq_false (by omega)
      go_wp2_with fail
      go_ret
      exact ⟨rfl, HBW.out.trans (HB.out.mono HBW.out.size)⟩
theorem law_verifies_at (w : World) {u : Value} {ds : List De} (hd : DeAt w.heap.size w u ds) {ta tb tc td : Nat} (ht : ta < 4294967296 ∧ tb < 4294967296 ∧ tc < 256 ∧ td < 256) {c0 c1 c2 : Nat} (hc : c0 < 256 ∧ c1 < 256 ∧ c2 < 256) : Calls Tryz.prog 4 #[.agg #[u], .agg #[.int .u32 ta, .int .u32 tb, .int .u8 tc, .int .u8 td], .agg #[.int .u8 c0, .int .u8 c1, .int .u8 c2]] w fun e w' => e = .returned (.bool true) ∧ Below w.heap.size w w' :=
  law_verifies hd ta tb tc td c0 c1 c2 ht.1 ht.2.1 ht.2.2.1 ht.2.2.2 hc.1 hc.2.1 hc.2.2
end Go.Proofs.YtmjkcanjfjfkfaaGreat
