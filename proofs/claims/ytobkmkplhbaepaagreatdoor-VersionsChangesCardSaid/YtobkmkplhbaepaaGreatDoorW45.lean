/- Walks of layer 46: Versions.State. -/
import Derived.Test.YtobkmkplhbaepaaGreatDoorGQ
import Derived.Test.YtobkmkplhbaepaaGreatDoorGB
namespace Go.Proofs.YtobkmkplhbaepaaGreatDoor
open Go.RowKit
set_option linter.unusedSimpArgs false
set_option linter.unusedVariables false
attribute [local go_sem ↓] Go.wp_at_zero Go.wp_at_succ
/-- What State answers. -/
def StaP (s0 : St) (l : List Ac) (t : Int) (w : World) (e : Ending) (w' : World) : Prop :=
  Below w.heap.size w w' ∧ ((0 ≤ t ∧ t ≤ l.length ∧ ∃ q, e = .returned (.tuple #[.pointer q, .int .i64 0]) ∧ StAt w' q (stS s0 (l.take t.toNat))) ∨ (¬ (0 ≤ t ∧ t ≤ l.length) ∧ e = .returned (.tuple #[.pointer none, .int .i64 2])))
def StaRel (s0 : St) (l : List Ac) (lo m : Nat) (w : World) (v i : Value) (wr : World) : Prop := ∃ (k : Nat) (q : Option Addr), k ≤ m ∧ i = .int .i64 k ∧ v = .pointer q ∧ StAt wr q (stS s0 (l.take (lo + k))) ∧ Below w.heap.size w wr
set_option maxRecDepth 100000 in
set_option maxHeartbeats 2000000 in
theorem state_is {w : World} {F : Nat → Prop} {g : Nat} {s0 : St} {l : List Ac} (t : Int) (hv : VAt w F g s0 l) (ho : VOk l) (hs : StV s0) (hu : UseAt w) : Calls Tryz.prog 33 #[.pointer (some ⟨g, 0, none⟩), .int .i64 t] w (StaP s0 l t w) := by
  obtain ⟨pb, va, vk, pl, bw, br, hv⟩ := hv
  obtain ⟨B, rfl⟩ : ∃ B, pb = some ⟨B, 0, none⟩ := by obtain ⟨B, _, _, e, _⟩ := hv.base; exact ⟨B, e⟩
  obtain ⟨Aa, ca, rfl, hca⟩ : ∃ A c, va = .slice A l.length c ∧ l.length ≤ c := by obtain ⟨us, _, ho⟩ := hv.act; exact own_len ho
  obtain ⟨Ak, ck, rfl, hck⟩ : ∃ A c, vk = .slice A (keptS s0 l).length c ∧ (keptS s0 l).length ≤ c := by obtain ⟨us, _, ho⟩ := hv.kp; exact own_len ho
  have x0 := hv.blk.cell 0
  have x1 := hv.blk.cell 1
  have x2 := hv.blk.cell 2
  have x3 := hv.blk.cell 3
  simp only [List.getElem?_toArray, List.getElem?_cons_zero, List.getElem?_cons_succ] at x0 x1 x2 x3
  have HL := Lib.hid (show RdAc w (.slice Aa l.length ca) l from RowOwn.rd hv.act)
  have HK := Lib.hid (show RowRd 27 kpC NKp w (.slice Ak (keptS s0 l).length ck) (keptS s0 l) from RowOwn.rd hv.kp)
  have HLA := Lib.hid hv.last
  have hlen := ho.len
  have HO := Lib.hid ho
  have HS := Lib.hid hs
  have HU := Lib.hid hu
  clear hv ho hs hu
  by_cases ht0 : t < 0
  · have k1 : decide (t < 0) = true := decide_eq_true ht0
    go_enter Tryz.func33, Tryz.ntmps33
    go_wp2_with (go_at_call 48; refine (none_is x0).mono ?_; rintro e w' ⟨rfl, rfl⟩)
    go_ret2
    exact ⟨Below.refl _ _, .inr ⟨by omega, rfl⟩⟩
  · obtain ⟨n, rfl⟩ : ∃ n : Nat, t = n := ⟨t.toNat, by omega⟩
    have k1 : decide ((n : Int) < 0) = false := decide_eq_false ht0
    by_cases htl : l.length < n
    · have k2 : decide ((l.length : Int) < (n : Int)) = true := decide_eq_true (by omega)
      have k3 : decide (l.length < n) = true := decide_eq_true htl
      go_enter Tryz.func33, Tryz.ntmps33
      go_wp2_with (go_at_call 48; refine (none_is x0).mono ?_; rintro e w' ⟨rfl, rfl⟩)
      go_ret2
      exact ⟨Below.refl _ _, .inr ⟨by omega, rfl⟩⟩
    · have k2 : decide ((l.length : Int) < (n : Int)) = false := decide_eq_false (by omega)
      have k3 : decide (l.length < n) = false := decide_eq_false htl
      by_cases hte : n = l.length
      · have k4 : ((n : Int) == (l.length : Int)) = true := by rw [hte]; simp
        have HT := Lib.hid (show stS s0 (l.take ((n : Int)).toNat) = stS s0 l by rw [hte]; simp)
        subst hte
        go_enter Tryz.func33, Tryz.ntmps33
        go_wp2_with (go_at_call 48; refine (none_is x0).mono ?_; rintro e w' ⟨rfl, rfl⟩)
        go_ret2
        exact ⟨Below.refl _ _, .inl ⟨by omega, by omega, _, rfl, by rw [HT.out]; exact HLA.out⟩⟩
      · have hnl : n < l.length := by omega
        have k4 : ((n : Int) == (l.length : Int)) = false := by rw [beq_eq_false_iff_ne]; omega
        have k5 : (n == l.length) = false := by rw [beq_eq_false_iff_ne]; omega
        obtain ⟨j, hj⟩ : ∃ j, n / 16 = j := ⟨_, rfl⟩
        obtain ⟨m, hm⟩ : ∃ m, n % 16 = m := ⟨_, rfl⟩
        have hjm : n = j * 16 + m := by omega
        have hm16 : m < 16 := by omega
        have hkl : (keptS s0 l).length = (l.length + 15) / 16 := keptS_len s0 l
        have hjk : j < (keptS s0 l).length := by omega
        have q1 : Int.tdiv (n : Int) 16 = (j : Int) := by rw [Int.tdiv_eq_ediv_of_nonneg (by omega)]; omega
        have q2 : Int.tmod (n : Int) 16 = (m : Int) := by rw [Int.tmod_eq_emod_of_nonneg (by omega)]; omega
        have q3 : (n : Int) / 16 = (j : Int) := by omega
        have q4 : (n : Int) % 16 = (m : Int) := by omega
        go_enter Tryz.func33, Tryz.ntmps33
        obtain ⟨bk, ok, ck', q, hbe, hbk, hkc, hkq⟩ : ∃ bk ok ck' q, Value.slice Ak (keptS s0 l).length ck = .slice (some ⟨bk, ok, none⟩) (keptS s0 l).length ck' ∧ bk < w.heap.size ∧ w.cell? ⟨bk, ok + j, none⟩ = some (.pointer q) ∧ StAt w q (stS s0 (l.take (j * 16))) := by
          obtain ⟨b, o, c, u, hv, hrest⟩ := RowRd.at_ HK.out kpC_len (keptS_get s0 l j (by omega))
          injection hv with e1 e2 e3
          subst e1 e3
          exact ⟨b, o, _, u, rfl, hrest.2.1, by have := hrest.2.2.2 0 _ rfl; simpa using this, hrest.2.2.1⟩
        injection hbe with hbe1 hbe2 hbe3
        subst hbe1 hbe3
        have HJM := Lib.hid hjm
        obtain ⟨lo, hlo⟩ : ∃ lo, j * 16 = lo := ⟨_, rfl⟩
        have e1 : n - m = lo := by omega
        have e2 : n - lo = m := by omega
        have e3 : (n : Int) - (m : Int) = (lo : Int) := by omega
        have hlol : lo + m < l.length := by omega
        have hlole : lo ≤ n := by omega
        have HLO := Lib.hid hlo
        rw [hlo] at hkq
        have HTE := Lib.hid (show stS s0 (l.take ((n : Int)).toNat) = stS s0 (l.take (lo + m)) by rw [Int.toNat_natCast]; congr 2; omega)
        obtain ⟨ba, oa, _, _, hba, hbaw, hrest⟩ := RdAc.piece HL.out (k := lo) (by omega)
        subst hba
        clear hrest
        have HKQ := Lib.hid hkq
        clear hjm hkq hlo
        go_upto_region 9 with (go_at_call 48; refine (none_is x0).mono ?_; rintro e w' ⟨rfl, rfl⟩)
        have H0 : Hid (StaRel s0 l lo m w (.pointer q) (.int .i64 (0 : Nat)) w) := Lib.hid ⟨0, q, Nat.zero_le _, rfl, rfl, HKQ.out, Below.refl _ _⟩
        go_loopw [6, 54] (fun v i wr => StaRel s0 l lo m w v i wr) (fun _ i _ => m - (intOf i).toNat)
        case atStart => exact H0.out
        case round =>
          clear H0
          obtain ⟨k, q, hkm, rfl, rfl, hst, hbw⟩ := hrel
          have HST := Lib.hid hst
          have HBW := Lib.hid hbw
          clear hst hbw
          by_cases hk : k < m
          · have j1 : (0 : Int) ≤ (k : Int) := by omega
            have j2 : (k : Int) < (m : Int) := by omega
            have j3 : decide ((k : Int) < (m : Int)) = true := decide_eq_true j2
            have hlk : lo + k < l.length := by omega
            obtain ⟨b', o', u1, u2, hbe, hbr, n1, n2, y0, y1, y2, y3, y4, y5⟩ := RdAc.piece (RdAc.next HL.out HBW.out) hlk
            injection hbe with hbe
            injection hbe with f1 f2
            subst f1 f2
            obtain ⟨a, hae⟩ : ∃ a, l[lo + k] = a := ⟨_, rfl⟩
            rw [hae] at n1 n2 y0 y1 y2 y3
            have HAR : Hid (AcR a) := Lib.hid (by rw [← hae]; exact HO.out.r _ (List.getElem_mem hlk))
            have HOA : Hid (okAc a = true) := Lib.hid (by rw [← hae]; exact HO.out.ok _ (List.getElem_mem hlk))
            have HTK := Lib.hid (show stS s0 (l.take (lo + (k + 1))) = appS (stS s0 (l.take (lo + k))) a.writes by rw [← Nat.add_assoc, stS_take s0 l (lo + k) hlk, hae])
            have HSV := Lib.hid (stS_ok HS.out (l := l.take (lo + k)) fun b hb => HO.out.ok b (List.mem_of_mem_take hb))
            obtain ⟨A1, c1, rfl, hc1⟩ := RdP.form n1
            obtain ⟨A2, c2, rfl, hc2⟩ := RdP.form n2
            have hwl : a.writes.length ≤ 10 := HAR.out.2.2.2.2
            simp only [Nat.add_mul, ← Nat.add_assoc] at y0 y1 y2 y3 y4 y5
            have N2 := Lib.hid n2
            clear hae n1 n2
            go_upto_region 11 with (fail)
            have hbb := (Below.refl wr.heap.size wr).alloc (Nat.le_refl _) (.cells #[.int .i64 a.key.tick, .int .i64 a.key.cls, .int .i64 a.key.num, .string (bs a.key.lin), .slice A1 a.reads.length c1, .slice A2 a.writes.length c2] 61)
            have zb := Blk.new wr 61 #[.int .i64 a.key.tick, .int .i64 a.key.cls, .int .i64 a.key.num, .string (bs a.key.lin), .slice A1 a.reads.length c1, .slice A2 a.writes.length c2]
            have HBB := Lib.hid (HBW.out.trans (hbb.mono HBW.out.size))
            have z5 := zb.cell 5
            simp only [List.getElem?_toArray, List.getElem?_cons_zero, List.getElem?_cons_succ] at z5
            have HN := Lib.hid (RdP.next N2.out hbb)
            have HSB := Lib.hid (HST.out.next hbb)
            clear y0 y1 y2 y3 y4 y5 hbb zb N2 HST
            generalize wr.alloc (.cells #[.int .i64 a.key.tick, .int .i64 a.key.cls, .int .i64 a.key.num, .string (bs a.key.lin), .slice A1 a.reads.length c1, .slice A2 a.writes.length c2] 61) = wb at *
            have HUB := Lib.hid (HU.out.next HBB.out HU.out.1)
            have HCV : Hid (∀ c ∈ a.writes, ChV c) := Lib.hid fun c hc => ord_ob (ok_ch HOA.out).2 c hc
            go_wp2_with (go_at_call 38; refine (apply_st HSB.out HSV.out HN.out HCV.out HUB.out (by omega)).mono ?_)
            rintro e w5 ⟨q5, rfl, hst5, hb5⟩
            have HST5 := Lib.hid hst5
            have HB5 := Lib.hid hb5
            clear hst5 hb5
            go_wp2_with fail
            go_roundw
            case rel => exact ⟨k + 1, q5, by omega, by go_num, rfl, by rw [HTK.out]; exact HST5.out, HBB.out.trans (HB5.out.mono HBB.out.size)⟩
            case measure => simp [intOf]; omega
          · have j3 : decide ((k : Int) < (m : Int)) = false := decide_eq_false (by omega)
            obtain rfl : k = m := by omega
            go_wp2_with fail
            go_ret2
            exact ⟨HBW.out, .inl ⟨by omega, by omega, _, rfl, by rw [HTE.out]; exact HST.out⟩⟩
end Go.Proofs.YtobkmkplhbaepaaGreatDoor
