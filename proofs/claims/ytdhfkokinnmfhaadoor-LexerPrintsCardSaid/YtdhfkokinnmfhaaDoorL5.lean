/- The law LexerBlanks, walked. -/
import Derived.Test.YtdhfkokinnmfhaaDoorS1
import Derived.Test.YtdhfkokinnmfhaaDoorQ13
namespace Go.Proofs.YtdhfkokinnmfhaaDoor
open Go.RowKit
set_option linter.unusedSimpArgs false
set_option linter.unusedVariables false
def BytesAt (w : World) (b off len : Nat) (zs : List Int) : Prop := b < w.heap.size ∧ ∀ i, i < len → w.cell? ⟨b, off + i, none⟩ = some (.int .u8 (zs.getD i 0)) ∧ 0 ≤ zs.getD i 0 ∧ zs.getD i 0 < 256
theorem BytesAt.next {w w' : World} {b off len : Nat} {zs : List Int} (h : BytesAt w b off len zs) (hb : Below w.heap.size w w') : BytesAt w' b off len zs :=
  ⟨Nat.lt_of_lt_of_le h.1 hb.size, fun i hi => ⟨by rw [hb.cell (p := ⟨b, off + i, none⟩) h.1]; exact (h.2 i hi).1, (h.2 i hi).2⟩⟩
def kap (len : Nat) (zs : List Int) (i : Nat) : Nat := if i < len then (zs.getD i 0 % 6).toNat else 0
def sepF (len : Nat) (zs : List Int) (i : Nat) : ByteArray := sepK (kap len zs i)
theorem sepF_ok (len : Nat) (zs : List Int) (i : Nat) : SepOK (sepF len zs i) ∧ 0 < (sepF len zs i).size ∧ (sepF len zs i).size ≤ 10 ∧ Blk (bt (sepF len zs i) 0) :=
  sepK_ok _ (by unfold kap; split <;> omega)
theorem same_att (t T : ByteArray) (l L : List (Att × Nat)) (h : L.map (·.1) = l.map (·.1)) (j : Nat) : sameT (tkF t (toksL t l) j) (tkF T (toksL T L) j) = true := by
  have hlen : L.length = l.length := by have := congrArg List.length h; simpa using this
  have e : ((toksL T L).getD j (endA, 0)).1 = ((toksL t l).getD j (endA, 0)).1 := by
    rw [List.getD_eq_getElem?_getD, List.getD_eq_getElem?_getD]
    unfold toksL
    by_cases hj : j < l.length
    · rw [List.getElem?_append_left (by omega), List.getElem?_append_left hj]
      have h2 := congrArg (fun x => x[j]?) h
      simp only [List.getElem?_map] at h2
      rw [List.getElem?_eq_getElem (by omega), List.getElem?_eq_getElem hj] at h2 ⊢
      simpa using h2
    · rw [List.getElem?_append_right (by omega), List.getElem?_append_right (by omega), hlen]
      cases hk : j - l.length with
      | zero => rfl
      | succ k => rfl
  unfold tkF tkOf sameT
  rw [e]
  simp
set_option maxRecDepth 100000 in
set_option maxHeartbeats 4000000 in
theorem blanks_nil (s : ByteArray) (a : Option Addr) (cap : Nat) (w : World) (ho : EscAt w) (hs : s.size ≤ maxLen)  :
    Calls Tryd.prog 6 #[.string s, .slice a 0 cap] w fun e w' => e = .returned (.bool true) ∧ Below w.heap.size w w' := by
  have hzc := cutS_size s
  generalize hTT : cutS s = t at *
  have HTT := Lib.hid hTT
  clear hTT
  cases hS : scanS t with
  | err p off' er =>
    have he : (er != 0) = true := by rw [bne_iff_ne]; exact (scanS_err _ _ _ _ hS).1
    have HS := Lib.hid hS
    clear hS
    go_enter Tryd.func6, Tryd.ntmps6
    go_wp2_with (go_at_call 10; refine (cut_any s _ hs).mono ?_; rintro e w' ⟨rfl, rfl⟩; rw [HTT.out])
    refine (scan_no _ _ p off' er ho (by omega) HS.out).mono ?_
    rintro e w1 ⟨rfl, k1⟩
    go_wp2_with fail
    refine (known_any _ (ho.next k1)).mono ?_
    rintro e w2 ⟨rfl, k2⟩
    go_wp2_with fail
    refine (known_any _ (ho.next (bnext k1 k2))).mono ?_
    rintro e w3 ⟨rfl, k3⟩
    have B3 := bnext (bnext k1 k2) k3
    go_wp2
    go_ret
    exact ⟨rfl, B3⟩
  | ok l =>
    have hll := scan_len _ _ hS
    have HS := Lib.hid hS
    clear hS
    by_cases h40 : 40 < l.length + 1
    · obtain ⟨n, hn⟩ : ∃ n, n = l.length + 1 := ⟨_, rfl⟩
      have HN := Lib.hid hn
      rw [← hn] at h40
      have hn2 : n ≤ 1501 := by omega
      clear hn hll
      go_enter Tryd.func6, Tryd.ntmps6
      go_wp2_with (go_at_call 10; refine (cut_any s _ hs).mono ?_; rintro e w' ⟨rfl, rfl⟩; rw [HTT.out])
      refine (scan_ok _ _ l ho (by omega) HS.out).mono ?_
      rintro e w1 ⟨g, capg, rfl, _, _, _, k1⟩
      rw [← HN.out]
      go_wp2_with fail
      refine (known_any _ (ho.next k1)).mono ?_
      rintro e w2 ⟨rfl, k2⟩
      go_wp2_with fail
      refine (known_any _ (ho.next (bnext k1 k2))).mono ?_
      rintro e w3 ⟨rfl, k3⟩
      have B3 := bnext (bnext k1 k2) k3
      go_wp2
      go_ret
      exact ⟨rfl, B3⟩
    obtain ⟨n, hn⟩ : ∃ n, n = l.length + 1 := ⟨_, rfl⟩
    have HN := Lib.hid hn
    rw [← hn] at h40
    have hn1 : n ≤ 40 := by omega
    have hn0 : 1 ≤ n := by omega
    clear hn hll h40
    obtain ⟨L, hL1, hL2⟩ := blanks_scan t l HS.out ((sepF 0 [])) (fun i => (sepF_ok _ _ i).1) (fun i => ⟨(sepF_ok _ _ i).2.1, (sepF_ok _ _ i).2.2.2⟩)
    have HSB : Hid (∀ i, ((sepF 0 []) i).size ≤ 10) := fun i => (sepF_ok _ _ i).2.2.1
    have HL1 := Lib.hid hL1
    have HL2 := Lib.hid hL2
    clear hL1 hL2
    go_enter Tryd.func6, Tryd.ntmps6
    go_wp2_with (go_at_call 10; refine (cut_any s _ hs).mono ?_; rintro e w' ⟨rfl, rfl⟩; rw [HTT.out])
    refine (scan_ok _ _ l ho (by omega) HS.out).mono ?_
    rintro e w1 ⟨g, capg, rfl, hT, hg, hcg, k1⟩
    rw [← HN.out]
    rw [← HN.out] at hcg
    go_wp2_with fail
    refine (known_any _ (ho.next k1)).mono ?_
    rintro e w2 ⟨rfl, k2⟩
    have B2 := bnext k1 k2
    have hT2 : Toks w2 g t (toksL t l) := hT.next k2
    have hgw := hT2.1
    clear k1 k2 hT
    have HLEN := Lib.hid (show (toksL t l).length = n by rw [toksL_len, HN.out])
    have HSEP : Hid (∀ k, k < 6 → ∀ wr : World, Below (w2.heap.size + 1) (w2.alloc (.cells #[.string ⟨#[32]⟩, .string ⟨#[9]⟩, .string ⟨#[10]⟩, .string ⟨#[32, 47, 47, 32, 120, 32, 61, 32, 34, 10]⟩, .string ⟨#[32, 32, 10, 10]⟩, .string ⟨#[9, 47, 47, 10]⟩] 9)) wr → wr.cell? ⟨w2.heap.size, k, none⟩ = some (.string (sepK k))) := fun k hk wr hb => by
      rw [hb.cell (p := ⟨w2.heap.size, k, none⟩) (by simp)]
      have := (StrsAt.alloc (w := w2) (zs := sepsL) (t := 9)).2 k hk
      exact this
    have HBA : Hid (∀ wr : World, Below (w2.heap.size + 1) (w2.alloc (.cells #[.string ⟨#[32]⟩, .string ⟨#[9]⟩, .string ⟨#[10]⟩, .string ⟨#[32, 47, 47, 32, 120, 32, 61, 32, 34, 10]⟩, .string ⟨#[32, 32, 10, 10]⟩, .string ⟨#[9, 47, 47, 10]⟩] 9)) wr → Below w2.heap.size w2 wr) := fun wr hb => ((Below.refl _ _).alloc (Nat.le_refl _) _).trans (hb.mono (Nat.le_succ _))
    go_wp2
    go_loopw [10, 11] (fun T i wr => ∃ k : Nat, k ≤ n ∧ i = .int .i64 k ∧ T = .string (txF (sepF 0 []) (textAt t l) k) ∧ Below (w2.heap.size + 1) (w2.alloc (.cells #[.string ⟨#[32]⟩, .string ⟨#[9]⟩, .string ⟨#[10]⟩, .string ⟨#[32, 47, 47, 32, 120, 32, 61, 32, 34, 10]⟩, .string ⟨#[32, 32, 10, 10]⟩, .string ⟨#[9, 47, 47, 10]⟩] 9)) wr) (fun _ i _ => n - (intOf i).toNat)
    case atStart => exact ⟨0, Nat.zero_le _, rfl, rfl, Below.refl _ _⟩
    case round =>
      obtain ⟨i, hi, rfl, rfl, hb⟩ := hrel
      by_cases hlt : i < n
      · obtain ⟨u, hu⟩ : ∃ u, (toksL t l)[i]? = some u := ⟨_, List.getElem?_eq_getElem (by rw [HLEN.out]; exact hlt)⟩
        have HTX := Lib.hid (textAt_eq t l i u hu)
        obtain ⟨tx1, _⟩ := toksL_text t l HS.out i u hu
        have hcell := ((hT2.next (HBA.out wr hb)).2 i u hu).2.1
        generalize u.1.text = text at *
        clear hu
        have P0 : (0 : Int) ≤ (i : Int) := by omega
        have P1 : (i : Int) < (n : Int) := by omega
        have HSK := Lib.hid (show (sepF 0 []) i = sepK 0 from rfl)
        have hsep : wr.cell? ⟨w2.heap.size, 0, none⟩ = some (.string (sepK 0)) := HSEP.out 0 (by omega) wr hb
        have Q2 : (0 : Int) < 6 := by omega
        have hsz := tx_bd t l HS.out (sepF 0 []) 10 HSB.out i (by have := HN.out; omega)
        have hsz2 := (sepK_ok 0 (by omega)).2.2.1
        have HSI := Lib.hid (show txF (sepF 0 []) (textAt t l) (i + 1) = (txF (sepF 0 []) (textAt t l) i ++ sepK 0) ++ text by show (txF (sepF 0 []) (textAt t l) i ++ (sepF 0 []) i) ++ textAt t l i = _; rw [HSK.out, HTX.out])
        have hsz3 : text.size ≤ 1500 := by omega
        have hsz4 : (txF (sepF 0 []) (textAt t l) i).size ≤ 2000 := by omega
        have hsz5 : (txF (sepF 0 []) (textAt t l) i ++ sepK 0).size ≤ 2010 := by rw [size_app]; omega
        clear hsz
        generalize txF (sepF 0 []) (textAt t l) i = T0 at *
        generalize hsk : sepK 0 = SK at *
        clear hsk
        go_wp2
        go_quiet (fail)
        go_wp2
        go_roundw
        case rel => exact ⟨i + 1, by omega, by go_num, by rw [HSI.out], below_drewN hb _⟩
        case measure => simp [intOf]; omega
      · obtain rfl : i = n := by omega
        have hsz := tx_bd t l HS.out (sepF 0 []) 10 HSB.out i (by have := HN.out; omega)
        have HFIN := Lib.hid (show scanS (txF (sepF 0 []) (textAt t l) i) = .ok L by rw [HN.out]; exact HL1.out)
        have HLL := Lib.hid (show L.length = l.length by have := congrArg List.length HL2.out; simpa using this)
        have hB3 := bnext B2 (HBA.out wr hb)
        have hTr := hT2.next (HBA.out wr hb)
        generalize txF (sepF 0 []) (textAt t l) i = T at *
        clear hb
        go_wp2_with fail
        refine (scan_ok T _ L (ho.next hB3) (by omega) HFIN.out).mono ?_
        rintro e w4 ⟨gm, capm, rfl, hTm, _, hcm, k4⟩
        have HN2 := Lib.hid (show L.length + 1 = i by rw [HLL.out, HN.out])
        rw [HN2.out]
        rw [HN2.out] at hcm
        have HRA := Lib.hid (show TkRow w4 g i (tkF t (toksL t l)) by have := (hTr.next k4).row; rwa [HLEN.out] at this)
        have HRM := Lib.hid (show TkRow w4 gm i (tkF T (toksL T L)) by have h : Toks w4 gm T (toksL T L) := hTm; have := h.row; rwa [toksL_len, HN2.out] at this)
        have HSAME : Hid (∀ j, j < i → sameT (tkF t (toksL t l) j) (tkF T (toksL T L) j) = true) := fun j hj => same_att t T l L HL2.out j
        clear hTm hTr
        go_wp2_with fail
        refine (same_eq g gm i _ _ _ _ _ (by omega) HRA.out HRM.out true (.inl ⟨rfl, HSAME.out⟩)).mono ?_
        rintro e w5 ⟨rfl, k5⟩
        have B5 := bnext (bnext hB3 k4) k5
        go_wp2
        go_ret
        exact ⟨rfl, B5⟩
set_option maxRecDepth 100000 in
set_option maxHeartbeats 4000000 in
theorem blanks_some (s : ByteArray) (b off len cap : Nat) (zs : List Int) (w : World) (ho : EscAt w) (hs : s.size ≤ maxLen) (hz : BytesAt w b off len zs) (hlc : len ≤ 9223372036854775807) (hl0 : 0 < len) :
    Calls Tryd.prog 6 #[.string s, .slice (some ⟨b, off, none⟩) len cap] w fun e w' => e = .returned (.bool true) ∧ Below w.heap.size w w' := by
  have hzc := cutS_size s
  generalize hTT : cutS s = t at *
  have HTT := Lib.hid hTT
  clear hTT
  cases hS : scanS t with
  | err p off' er =>
    have he : (er != 0) = true := by rw [bne_iff_ne]; exact (scanS_err _ _ _ _ hS).1
    have HS := Lib.hid hS
    clear hS
    go_enter Tryd.func6, Tryd.ntmps6
    go_wp2_with (go_at_call 10; refine (cut_any s _ hs).mono ?_; rintro e w' ⟨rfl, rfl⟩; rw [HTT.out])
    refine (scan_no _ _ p off' er ho (by omega) HS.out).mono ?_
    rintro e w1 ⟨rfl, k1⟩
    go_wp2_with fail
    refine (known_any _ (ho.next k1)).mono ?_
    rintro e w2 ⟨rfl, k2⟩
    go_wp2_with fail
    refine (known_any _ (ho.next (bnext k1 k2))).mono ?_
    rintro e w3 ⟨rfl, k3⟩
    have B3 := bnext (bnext k1 k2) k3
    go_wp2
    go_ret
    exact ⟨rfl, B3⟩
  | ok l =>
    have hll := scan_len _ _ hS
    have HS := Lib.hid hS
    clear hS
    by_cases h40 : 40 < l.length + 1
    · obtain ⟨n, hn⟩ : ∃ n, n = l.length + 1 := ⟨_, rfl⟩
      have HN := Lib.hid hn
      rw [← hn] at h40
      have hn2 : n ≤ 1501 := by omega
      clear hn hll
      go_enter Tryd.func6, Tryd.ntmps6
      go_wp2_with (go_at_call 10; refine (cut_any s _ hs).mono ?_; rintro e w' ⟨rfl, rfl⟩; rw [HTT.out])
      refine (scan_ok _ _ l ho (by omega) HS.out).mono ?_
      rintro e w1 ⟨g, capg, rfl, _, _, _, k1⟩
      rw [← HN.out]
      go_wp2_with fail
      refine (known_any _ (ho.next k1)).mono ?_
      rintro e w2 ⟨rfl, k2⟩
      go_wp2_with fail
      refine (known_any _ (ho.next (bnext k1 k2))).mono ?_
      rintro e w3 ⟨rfl, k3⟩
      have B3 := bnext (bnext k1 k2) k3
      go_wp2
      go_ret
      exact ⟨rfl, B3⟩
    obtain ⟨n, hn⟩ : ∃ n, n = l.length + 1 := ⟨_, rfl⟩
    have HN := Lib.hid hn
    rw [← hn] at h40
    have hn1 : n ≤ 40 := by omega
    have hn0 : 1 ≤ n := by omega
    clear hn hll h40
    obtain ⟨L, hL1, hL2⟩ := blanks_scan t l HS.out ((sepF len zs)) (fun i => (sepF_ok _ _ i).1) (fun i => ⟨(sepF_ok _ _ i).2.1, (sepF_ok _ _ i).2.2.2⟩)
    have HSB : Hid (∀ i, ((sepF len zs) i).size ≤ 10) := fun i => (sepF_ok _ _ i).2.2.1
    have HL1 := Lib.hid hL1
    have HL2 := Lib.hid hL2
    clear hL1 hL2
    go_enter Tryd.func6, Tryd.ntmps6
    go_wp2_with (go_at_call 10; refine (cut_any s _ hs).mono ?_; rintro e w' ⟨rfl, rfl⟩; rw [HTT.out])
    refine (scan_ok _ _ l ho (by omega) HS.out).mono ?_
    rintro e w1 ⟨g, capg, rfl, hT, hg, hcg, k1⟩
    rw [← HN.out]
    rw [← HN.out] at hcg
    go_wp2_with fail
    refine (known_any _ (ho.next k1)).mono ?_
    rintro e w2 ⟨rfl, k2⟩
    have B2 := bnext k1 k2
    have hT2 : Toks w2 g t (toksL t l) := hT.next k2
    have hgw := hT2.1
    clear k1 k2 hT
    have HLEN := Lib.hid (show (toksL t l).length = n by rw [toksL_len, HN.out])
    have HSEP : Hid (∀ k, k < 6 → ∀ wr : World, Below (w2.heap.size + 1) (w2.alloc (.cells #[.string ⟨#[32]⟩, .string ⟨#[9]⟩, .string ⟨#[10]⟩, .string ⟨#[32, 47, 47, 32, 120, 32, 61, 32, 34, 10]⟩, .string ⟨#[32, 32, 10, 10]⟩, .string ⟨#[9, 47, 47, 10]⟩] 9)) wr → wr.cell? ⟨w2.heap.size, k, none⟩ = some (.string (sepK k))) := fun k hk wr hb => by
      rw [hb.cell (p := ⟨w2.heap.size, k, none⟩) (by simp)]
      have := (StrsAt.alloc (w := w2) (zs := sepsL) (t := 9)).2 k hk
      exact this
    have HBA : Hid (∀ wr : World, Below (w2.heap.size + 1) (w2.alloc (.cells #[.string ⟨#[32]⟩, .string ⟨#[9]⟩, .string ⟨#[10]⟩, .string ⟨#[32, 47, 47, 32, 120, 32, 61, 32, 34, 10]⟩, .string ⟨#[32, 32, 10, 10]⟩, .string ⟨#[9, 47, 47, 10]⟩] 9)) wr → Below w2.heap.size w2 wr) := fun wr hb => ((Below.refl _ _).alloc (Nat.le_refl _) _).trans (hb.mono (Nat.le_succ _))
    go_wp2
    go_loopw [10, 11] (fun T i wr => ∃ k : Nat, k ≤ n ∧ i = .int .i64 k ∧ T = .string (txF (sepF len zs) (textAt t l) k) ∧ Below (w2.heap.size + 1) (w2.alloc (.cells #[.string ⟨#[32]⟩, .string ⟨#[9]⟩, .string ⟨#[10]⟩, .string ⟨#[32, 47, 47, 32, 120, 32, 61, 32, 34, 10]⟩, .string ⟨#[32, 32, 10, 10]⟩, .string ⟨#[9, 47, 47, 10]⟩] 9)) wr) (fun _ i _ => n - (intOf i).toNat)
    case atStart => exact ⟨0, Nat.zero_le _, rfl, rfl, Below.refl _ _⟩
    case round =>
      obtain ⟨i, hi, rfl, rfl, hb⟩ := hrel
      by_cases hlt : i < n
      · obtain ⟨u, hu⟩ : ∃ u, (toksL t l)[i]? = some u := ⟨_, List.getElem?_eq_getElem (by rw [HLEN.out]; exact hlt)⟩
        have HTX := Lib.hid (textAt_eq t l i u hu)
        obtain ⟨tx1, _⟩ := toksL_text t l HS.out i u hu
        have hcell := ((hT2.next (HBA.out wr hb)).2 i u hu).2.1
        generalize u.1.text = text at *
        clear hu
        have P0 : (0 : Int) ≤ (i : Int) := by omega
        have P1 : (i : Int) < (n : Int) := by omega
        by_cases hil : i < len
        · obtain ⟨cz, z0, z1⟩ := (hz.next (bnext B2 (HBA.out wr hb))).2 i hil
          obtain ⟨kk, hkk⟩ : ∃ kk : Nat, zs.getD i 0 % 6 = (kk : Int) := ⟨(zs.getD i 0 % 6).toNat, by omega⟩
          have hk6 : kk < 6 := by omega
          have HSK := Lib.hid (show (sepF len zs) i = sepK kk by show sepK (if i < len then (zs.getD i 0 % 6).toNat else 0) = _; rw [if_pos hil, hkk]; rfl)
          have hsep : wr.cell? ⟨w2.heap.size, kk, none⟩ = some (.string (sepK kk)) := HSEP.out kk hk6 wr hb
          have Q1 : (0 : Int) ≤ (kk : Int) := by omega
          have Q2 : (kk : Int) < 6 := by omega
          have Q3 : i < len := hil
          generalize zs.getD i 0 = z at *
          have hsz := tx_bd t l HS.out (sepF len zs) 10 HSB.out i (by have := HN.out; omega)
          have hsz2 := (sepK_ok kk (by omega)).2.2.1
          have HSI := Lib.hid (show txF (sepF len zs) (textAt t l) (i + 1) = (txF (sepF len zs) (textAt t l) i ++ sepK kk) ++ text by show (txF (sepF len zs) (textAt t l) i ++ (sepF len zs) i) ++ textAt t l i = _; rw [HSK.out, HTX.out])
          have hsz3 : text.size ≤ 1500 := by omega
          have hsz4 : (txF (sepF len zs) (textAt t l) i).size ≤ 2000 := by omega
          have hsz5 : (txF (sepF len zs) (textAt t l) i ++ sepK kk).size ≤ 2010 := by rw [size_app]; omega
          clear hsz
          generalize txF (sepF len zs) (textAt t l) i = T0 at *
          generalize hsk : sepK kk = SK at *
          clear hsk
          go_wp2
          go_quiet (fail)
          go_wp2
          go_roundw
          case rel => exact ⟨i + 1, by omega, by go_num, by rw [HSI.out], below_drewN hb _⟩
          case measure => simp [intOf]; omega
        · have HSK := Lib.hid (show (sepF len zs) i = sepK 0 by show sepK (if i < len then (zs.getD i 0 % 6).toNat else 0) = _; rw [if_neg hil])
          have hsep : wr.cell? ⟨w2.heap.size, 0, none⟩ = some (.string (sepK 0)) := HSEP.out 0 (by omega) wr hb
          have hsz := tx_bd t l HS.out (sepF len zs) 10 HSB.out i (by have := HN.out; omega)
          have hsz2 := (sepK_ok 0 (by omega)).2.2.1
          have HSI := Lib.hid (show txF (sepF len zs) (textAt t l) (i + 1) = (txF (sepF len zs) (textAt t l) i ++ sepK 0) ++ text by show (txF (sepF len zs) (textAt t l) i ++ (sepF len zs) i) ++ textAt t l i = _; rw [HSK.out, HTX.out])
          have hsz3 : text.size ≤ 1500 := by omega
          have hsz4 : (txF (sepF len zs) (textAt t l) i).size ≤ 2000 := by omega
          have hsz5 : (txF (sepF len zs) (textAt t l) i ++ sepK 0).size ≤ 2010 := by rw [size_app]; omega
          clear hsz
          generalize txF (sepF len zs) (textAt t l) i = T0 at *
          generalize hsk : sepK 0 = SK at *
          clear hsk
          go_wp2
          go_quiet (fail)
          go_wp2
          go_roundw
          case rel => exact ⟨i + 1, by omega, by go_num, by rw [HSI.out], below_drewN hb _⟩
          case measure => simp [intOf]; omega
      · obtain rfl : i = n := by omega
        have hsz := tx_bd t l HS.out (sepF len zs) 10 HSB.out i (by have := HN.out; omega)
        have HFIN := Lib.hid (show scanS (txF (sepF len zs) (textAt t l) i) = .ok L by rw [HN.out]; exact HL1.out)
        have HLL := Lib.hid (show L.length = l.length by have := congrArg List.length HL2.out; simpa using this)
        have hB3 := bnext B2 (HBA.out wr hb)
        have hTr := hT2.next (HBA.out wr hb)
        generalize txF (sepF len zs) (textAt t l) i = T at *
        clear hb
        go_wp2_with fail
        refine (scan_ok T _ L (ho.next hB3) (by omega) HFIN.out).mono ?_
        rintro e w4 ⟨gm, capm, rfl, hTm, _, hcm, k4⟩
        have HN2 := Lib.hid (show L.length + 1 = i by rw [HLL.out, HN.out])
        rw [HN2.out]
        rw [HN2.out] at hcm
        have HRA := Lib.hid (show TkRow w4 g i (tkF t (toksL t l)) by have := (hTr.next k4).row; rwa [HLEN.out] at this)
        have HRM := Lib.hid (show TkRow w4 gm i (tkF T (toksL T L)) by have h : Toks w4 gm T (toksL T L) := hTm; have := h.row; rwa [toksL_len, HN2.out] at this)
        have HSAME : Hid (∀ j, j < i → sameT (tkF t (toksL t l) j) (tkF T (toksL T L) j) = true) := fun j hj => same_att t T l L HL2.out j
        clear hTm hTr
        go_wp2_with fail
        refine (same_eq g gm i _ _ _ _ _ (by omega) HRA.out HRM.out true (.inl ⟨rfl, HSAME.out⟩)).mono ?_
        rintro e w5 ⟨rfl, k5⟩
        have B5 := bnext (bnext hB3 k4) k5
        go_wp2
        go_ret
        exact ⟨rfl, B5⟩
/-- What the walk is told of a slice of integers that came in. -/
def IsRow (k : IntKind) (w : World) (a : Option Addr) (len cap : Nat) (zs : List Int) : Prop :=
  (a = none ∧ len = 0 ∧ cap = 0 ∧ zs = []) ∨
  ∃ x, a = some x ∧ len ≤ cap ∧ cap ≤ maxLen ∧ zs.length = cap ∧ (∀ i, i < zs.length → w.cell? (x.add i) = some (.int k (zs.getD i 0))) ∧ ∀ n ∈ zs, (Lit.int k n).wf = true
theorem bnd_u8 {n : Int} (h : (Lit.int .u8 n).wf = true) : 0 ≤ n ∧ n < 256 := by
  simp only [Lit.wf, IntKind.min, IntKind.max, IntKind.signed, IntKind.bits, Bool.and_eq_true, decide_eq_true_eq] at h
  simp at h
  omega
theorem blanks_walk (s : ByteArray) (a : Option Addr) (len cap : Nat) (zs : List Int) (w : World) (ho : EscAt w) (hs : s.size ≤ maxLen) (h : IsRow .u8 w a len cap zs) :
    Calls Tryd.prog 6 #[.string s, .slice a len cap] w fun e w' => e = .returned (.bool true) ∧ Below w.heap.size w w' := by
  by_cases h0 : len = 0
  · subst h0; exact blanks_nil s a cap w ho hs
  rcases h with ⟨_, h1, _⟩ | ⟨⟨b, off, spot⟩, rfl, h1, h2, h3, h4, h5⟩
  · omega
  · have hc := h4 0 (by omega)
    have hspot : spot = none := by simpa [Addr.add] using World.cell?_spot hc
    subst hspot
    have hlt : b < w.heap.size := by
      apply Nat.lt_of_not_le
      intro hle
      have hn : w.heap[b]? = none := by simp; omega
      simp [World.cell?, Addr.add, hn] at hc
    refine blanks_some s b off len cap zs w ho hs ⟨hlt, fun i hi => ⟨?_, ?_⟩⟩ (by unfold maxLen at h2; omega) (by omega)
    · have := h4 i (by omega)
      have e : (⟨b, off, none⟩ : Addr).add i = ⟨b, off + i, none⟩ := by
        unfold Addr.add; split
        · rename_i h; subst h; rfl
        · rfl
      rw [e] at this
      exact this
    · have hi' : i < zs.length := by omega
      have hm : zs.getD i 0 ∈ zs := by rw [List.getD_eq_getElem?_getD, List.getElem?_eq_getElem hi']; simp
      exact bnd_u8 (h5 _ hm)
end Go.Proofs.YtdhfkokinnmfhaaDoor
