/- The law LexerPrints, walked. -/
import Derived.Test.YtdhfkokinnmfhaaDoorS2
import Derived.Test.YtdhfkokinnmfhaaDoorL5
namespace Go.Proofs.YtdhfkokinnmfhaaDoor
open Go.RowKit
set_option linter.unusedSimpArgs false
set_option linter.unusedVariables false
set_option maxRecDepth 100000 in
set_option maxHeartbeats 4000000 in
theorem prints_walk (s : ByteArray) (w : World) (ho : EscAt w) (hs : s.size ≤ maxLen) :
    Calls Tryd.prog 9 #[.string s] w fun e w' => e = .returned (.bool true) ∧ Below w.heap.size w w' := by
  have hzc := cutS_size s
  generalize hTT : cutS s = t at *
  have HTT := Lib.hid hTT
  clear hTT
  cases hS : scanS t with
  | err p off' er =>
    have he : (er != 0) = true := by rw [bne_iff_ne]; exact (scanS_err _ _ _ _ hS).1
    have HS := Lib.hid hS
    clear hS
    go_enter Tryd.func9, Tryd.ntmps9
    go_wp2_with (go_at_call 10; refine (cut_any s _ hs).mono ?_; rintro e w' ⟨rfl, rfl⟩; rw [HTT.out])
    refine (scan_no _ _ p off' er ho (by omega) HS.out).mono ?_
    rintro e w1 ⟨rfl, k1⟩
    go_wp2_with fail
    refine (known_any _ (ho.next k1)).mono ?_
    rintro e w2 ⟨rfl, k2⟩
    go_wp2_with fail
    refine (known_any _ (ho.next (bnext k1 k2))).mono ?_
    rintro e w3 ⟨rfl, k3⟩
    have B3 := bnext (bnext k1 k2) k3
    go_wp2
    go_ret
    exact ⟨rfl, B3⟩
  | ok l =>
    have hll := scan_len _ _ hS
    have hsz := tx_bd t l hS spS 1 spS_size l.length (by omega)
    have HBD : Hid (∀ i, i ≤ l.length → (txF spS (textAt t l) i).size ≤ 3100) := fun i hi => by have := tx_bd t l hS spS 1 spS_size i (by omega); omega
    have HTE : Hid (∀ (i : Nat) (u : Att × Nat), (toksL t l)[i]? = some u → u.1.text.size ≤ 1500) := fun i u hu => by have := (toksL_text t l hS i u hu).1; omega
    obtain ⟨L, hL1, hL2⟩ := prints_scan t l hS
    have HAG := Lib.hid (prints_again t (txF spS (textAt t l) l.length) l L hL2)
    have HLL := Lib.hid (show L.length = l.length by have := congrArg List.length hL2; simpa using this)
    have HL1 := Lib.hid hL1
    have HL2 := Lib.hid hL2
    have HS := Lib.hid hS
    clear hS hL1 hL2
    obtain ⟨m, hm⟩ : ∃ m, m = l.length := ⟨_, rfl⟩
    have HM := Lib.hid hm
    have hm2 : m ≤ 1500 := by omega
    have HP0 : Hid (txF spS (textAt t l) m = txF spS (textAt t l) l.length) := by rw [HM.out]; exact Lib.hid rfl
    rw [← hm] at hsz
    clear hm hll
    go_enter Tryd.func9, Tryd.ntmps9
    go_wp2_with (go_at_call 10; refine (cut_any s _ hs).mono ?_; rintro e w' ⟨rfl, rfl⟩; rw [HTT.out])
    refine (scan_ok _ _ l ho (by omega) HS.out).mono ?_
    rintro e w1 ⟨g, capg, rfl, hT, hg, hcg, k1⟩
    rw [← HM.out]
    rw [← HM.out] at hcg
    have hT1 : Toks w1 g t (toksL t l) := hT
    clear hT
    go_wp2_with fail
    refine (known_any _ (ho.next k1)).mono ?_
    rintro e w2 ⟨rfl, k2⟩
    have B2 := bnext k1 k2
    have hT2 := hT1.next k2
    clear hT1 k1 k2
    go_wp2_with fail
    refine (print_any g (m + 1) capg t l _ (by rw [HM.out]) (by omega) HS.out (by omega) hT2).mono ?_
    rintro e w3 ⟨rfl, k3⟩
    rw [← HP0.out]
    have B3 := bnext B2 k3
    have hT3 := hT2.next k3
    clear hT2 k3 B2
    obtain ⟨P, hP⟩ : ∃ P, P = txF spS (textAt t l) m := ⟨_, rfl⟩
    have HP := Lib.hid hP
    rw [← hP]
    rw [← hP] at hsz
    clear hP
    have HPL := Lib.hid (show scanS P = .ok L by rw [HP.out, HP0.out]; exact HL1.out)
    go_wp2_with fail
    refine (scan_ok P _ L (ho.next B3) (by omega) HPL.out).mono ?_
    rintro e w4 ⟨gm, capm, rfl, hTm0, _, hcm, k4⟩
    have HN2 := Lib.hid (show L.length + 1 = m + 1 by rw [HLL.out, HM.out])
    rw [HN2.out]
    rw [HN2.out] at hcm
    have hTm : Toks w4 gm P (toksL P L) := hTm0
    have B4 := bnext B3 k4
    have hT4 := hT3.next k4
    clear hTm0 hT3 k4 B3
    have HLEN := Lib.hid (show (toksL t l).length = m + 1 by rw [toksL_len, HM.out])
    go_wp2
    go_loop [12, 13] (fun T i => ∃ k : Nat, k ≤ m ∧ i = .int .i64 k ∧ T = .string (txF spS (textAt t l) k)) (fun _ i => m - (intOf i).toNat)
    case atStart => exact ⟨0, Nat.zero_le _, rfl, rfl⟩
    case round =>
      obtain ⟨i, hi, rfl, rfl⟩ := hrel
      by_cases hlt : i < m
      · obtain ⟨u, hu⟩ : ∃ u, (toksL t l)[i]? = some u := ⟨_, List.getElem?_eq_getElem (by rw [HLEN.out]; omega)⟩
        have HTX := Lib.hid (textAt_eq t l i u hu)
        have hte := HTE.out i u hu
        have hcell := (hT4.2 i u hu).2.1
        have hbd := HBD.out i (by have := HM.out; omega)
        generalize u.1.text = text at *
        clear hu
        by_cases h0 : i = 0
        · subst h0
          have HSI := Lib.hid (show txF spS (textAt t l) (0 + 1) = text by show (⟨#[]⟩ ++ spS 0) ++ textAt t l 0 = _; rw [HTX.out]; show ((⟨#[]⟩ : ByteArray) ++ (⟨#[]⟩ : ByteArray)) ++ text = _; rw [app_nil, app_nil])
          have HT0 := Lib.hid (show txF spS (textAt t l) 0 = (⟨#[]⟩ : ByteArray) from rfl)
          rw [HT0.out]
          clear hbd
          have HAN := Lib.hid (app_nil text)
          go_wp2
          go_round
          case rel => exact ⟨0 + 1, by omega, by go_num, by rw [HSI.out]; first | exact congrArg Value.string HAN.out | rfl | simp⟩
          case measure => simp [intOf]; omega
        · have HSI := Lib.hid (show txF spS (textAt t l) (i + 1) = (txF spS (textAt t l) i ++ ⟨#[32]⟩) ++ text by show (txF spS (textAt t l) i ++ spS i) ++ textAt t l i = _; rw [HTX.out]; unfold spS; rw [if_neg h0])
          have hi0 : 0 < i := by omega
          have hbd2 : (txF spS (textAt t l) i ++ ⟨#[32]⟩).size ≤ 3101 := by rw [size_app]; show _ + 1 ≤ _; omega
          generalize txF spS (textAt t l) i = T0 at *
          clear h0
          go_wp2
          go_round
          case rel => exact ⟨i + 1, by omega, by go_num, by rw [HSI.out]⟩
          case measure => simp [intOf]; omega
      · obtain rfl : i = m := by omega
        rw [← HP.out]
        have HRA := Lib.hid (show TkRow w4 g (i + 1) (tkF t (toksL t l)) by have := hT4.row; rwa [HLEN.out] at this)
        have HRM := Lib.hid (show TkRow w4 gm (i + 1) (tkF P (toksL P L)) by have := hTm.row; rwa [toksL_len, HN2.out] at this)
        have HSAME : Hid (∀ j, j < i + 1 → sameT (tkF t (toksL t l) j) (tkF P (toksL P L) j) = true) := fun j hj => same_att t P l L HL2.out j
        have HPP := Lib.hid (show txF spS (textAt P L) L.length = P by
          have h1 := HAG.out
          rw [← HP0.out, ← HP.out] at h1
          rw [h1, HP.out])
        go_wp2_with fail
        refine (same_eq g gm (i + 1) _ _ _ _ _ (by omega) HRA.out HRM.out true (.inl ⟨rfl, HSAME.out⟩)).mono ?_
        rintro e w5 ⟨rfl, k5⟩
        go_wp2_with fail
        refine (print_any gm (i + 1) capm P L _ HN2.out.symm (by omega) HPL.out (by omega) (hTm.next k5)).mono ?_
        rintro e w6 ⟨rfl, k6⟩
        rw [HPP.out]
        have B6 := bnext (bnext B4 k5) k6
        go_wp2
        go_ret
        exact ⟨rfl, B6⟩
end Go.Proofs.YtdhfkokinnmfhaaDoor
