/- Walks of layer 41: shortWord. -/
import Derived.Test.YtiddchpkmcncdaaE1
import Derived.Test.YtiddchpkmcncdaaG4
namespace Go.Proofs.Ytiddchpkmcncdaa
open Go.RowKit
set_option linter.unusedSimpArgs false
set_option linter.unusedVariables false
def pfc (p : Pc) (_ : Unit) : List Value := pcV p
theorem pfc_len (p : Pc) (u : Unit) : (pfc p u).length = 3 := rfl
def PN (_ : World) (_ : Unit) (p : Pc) : Prop := p.text.length ≤ 9223372036854775807
/-- A word that came in, in blocks below B. -/
def AW (B : Nat) (w : World) (v : Value) (ps : Wd) : Prop := RowRa pfc PN B w v ps
def AA (B : Nat) (w : World) (v : Value) (a : Asg) : Prop := AW B w v a.value ∧ a.name.length ≤ 9223372036854775807
def AS (B : Nat) (w : World) (v : V4) (c : Sm) : Prop := RowRa asgV (AA B) B w v.a c.asg ∧ RowRa wdV (AW B) B w v.b c.words ∧ AW B w v.c c.inn ∧ AW B w v.d c.out
def AP (B : Nat) (w : World) (v : Value) (q : Pl) : Prop := RowRa smV (AS B) B w v q.stages
theorem AW.below {B : Nat} {w w' : World} {v : Value} {ps : Wd} (h : AW B w v ps) (hb : Below B w w') : AW B w' v ps := RowRa.below h hb (fun _ _ h => h)
theorem AA.below {B : Nat} {w w' : World} {v : Value} {a : Asg} (h : AA B w v a) (hb : Below B w w') : AA B w' v a := ⟨h.1.below hb, h.2⟩
theorem AS.below {B : Nat} {w w' : World} {v : V4} {c : Sm} (h : AS B w v c) (hb : Below B w w') : AS B w' v c :=
  ⟨RowRa.below h.1 hb (fun _ _ h => h.below hb), RowRa.below h.2.1 hb (fun _ _ h => h.below hb), h.2.2.1.below hb, h.2.2.2.below hb⟩
theorem AP.below {B : Nat} {w w' : World} {v : Value} {q : Pl} (h : AP B w v q) (hb : Below B w w') : AP B w' v q := RowRa.below h hb (fun _ _ h => h.below hb)
/-- The cells of every element. -/
theorem RowRa.all {α β : Type} {f : α → β → List Value} {N : World → β → α → Prop} {B : Nat} {w : World} {v : Value} {l : List α} {size : Nat} (h : RowRa f N B w v l) (hf : ∀ x u, (f x u).length = size) :
    ∃ A c, v = .slice A l.length c ∧ l.length ≤ c ∧ c ≤ maxLen ∧ ∀ i (hi : i < l.length), ∃ b o u, A = some ⟨b, o, none⟩ ∧ b < B ∧ N w u l[i] ∧ ∀ j y, (f l[i] u)[j]? = some y → w.cell? ⟨b, o + (i * size + j), none⟩ = some y := by
  obtain ⟨A, c, hv, hc, hm⟩ := h.form
  refine ⟨A, c, hv, hc, hm, fun i hi => ?_⟩
  obtain ⟨b, o, c', hv', _, _, hb, hx⟩ := RowRa.at_ h hf (by omega)
  obtain ⟨u, hN, hcell⟩ := hx i hi
  rw [hv] at hv'
  injection hv' with hA
  exact ⟨b, o, u, hA, hb, hN, hcell⟩
def cutP (p : Pc) : Pc := ⟨p.text.take 60, p.var, p.quo⟩
def cutW (ps : Wd) : Wd := (ps.take 8).map cutP
theorem cutW_len (ps : Wd) : (cutW ps).length ≤ 8 := by unfold cutW; rw [List.length_map, List.length_take]; omega
theorem cutW_tx (ps : Wd) : TxW (cutW ps) := by
  refine ⟨by have := cutW_len ps; omega, fun p hp => ?_⟩
  unfold cutW at hp
  obtain ⟨q, _, rfl⟩ := List.mem_map.1 hp
  show (q.text.take 60).length ≤ 2000
  rw [List.length_take]; omega
theorem cut_next (ps : Wd) (k : Nat) (h8 : k < 8) (hk : k < ps.length) : pcC ((ps.take (k + 1)).map cutP) = pcC ((ps.take k).map cutP) ++ pcV (cutP ps[k]) := by
  rw [List.take_succ_eq_append_getElem hk, List.map_append, List.map_singleton, pcC_snoc]
theorem ext_take (t : Bs) (n : Nat) : (bs t).extract 0 n = bs (t.take n) := by
  rw [ext_bs]
  unfold dr
  rw [bs_list, List.drop_zero, Nat.sub_zero]
def SwcRel (B : Nat) (w : World) (ps : Wd) (gk : Nat) (v i : Value) (wr : World) : Prop :=
  ∃ k, i = .int .i64 ((k : Nat) : Int) ∧ k ≤ ps.length ∧ k ≤ 8 ∧ gk + k = ps.length + 1 ∧ Below w.heap.size w wr ∧ wr.ownsRow w.heap.size 51 3 v k (pcC ((ps.take k).map cutP))
set_option maxRecDepth 100000 in
set_option maxHeartbeats 8000000 in
theorem shortWord_any (B : Nat) (w : World) (v : Value) (ps : Wd) (h : AW B w v ps) (hB : B ≤ w.heap.size) :
    Calls Try.prog 30 #[v] w fun e w' => ∃ v', e = .returned v' ∧ w'.ownsRow w.heap.size 51 3 v' (cutW ps).length (pcC (cutW ps)) ∧ Below w.heap.size w w' := by
  obtain ⟨i0, hi, hz0, hz1, hz2⟩ := info_parts info51
  obtain ⟨A, c, rfl, hc, hm, hA2⟩ := RowRa.all h pfc_len
  unfold maxLen at hm
  have HA := Lib.hid hA2
  clear h hA2
  go_enter Try.func30, Try.ntmps30
  go_wp2
  go_loopg [3, 4] (ps.length + 1) (fun gk v i wr => SwcRel B w ps gk v i wr)
  case atStart => exact ⟨0, rfl, Nat.zero_le _, by omega, by omega, Below.refl _ _, World.ownsRow_nil _ _ _ _⟩
  case round =>
    obtain ⟨k, rfl, hk, hk8, hgk, hb, hown⟩ := hrel
    have HO := Lib.hid hown
    have HB := Lib.hid hb
    obtain ⟨av, cv, rfl, _⟩ := own_len hown
    clear hown
    by_cases hlt : k < ps.length
    · have t1 : decide ((k : Int) < (ps.length : Int)) = true := decide_eq_true (by omega)
      by_cases h8 : k < 8
      · obtain ⟨b, o, u, rfl, hb0, hN, hx⟩ := HA.out k hlt
        have HNX := Lib.hid (cut_next ps k h8 hlt)
        obtain ⟨p, hp⟩ : ∃ p, ps[k] = p := ⟨_, rfl⟩
        rw [hp] at hN hx HNX
        clear hp
        have p0 := hx 0 _ rfl
        have p1 := hx 1 _ rfl
        have p2 := hx 2 _ rfl
        rw [← Nat.add_assoc] at p1 p2
        rw [Nat.add_zero] at p0
        have hbw : b < w.heap.size := Nat.lt_of_lt_of_le hb0 hB
        have e0 := ((bcell hb).1 b _ hbw).trans p0
        have e1 := ((bcell hb).1 b _ hbw).trans p1
        have e2 := ((bcell hb).1 b _ hbw).trans p2
        have hbr : b < wr.heap.size := Nat.lt_of_lt_of_le hbw hb.size
        have i1 : (0 : Int) ≤ (k : Int) := by omega
        have i2 : (k : Int) < (ps.length : Int) := by omega
        have hz : (bs p.text).size ≤ 9223372036854775807 := by rw [bs_size]; exact hN
        have t2 : decide ((k : Int) < 8) = true := decide_eq_true (by omega)
        have hcase : ∃ n, n ≤ p.text.length ∧ min ((bs p.text).size : Int) 60 = (n : Int) ∧ p.text.take n = p.text.take 60 := by
          rw [bs_size]
          rcases Nat.lt_or_ge p.text.length 60 with h | h
          · exact ⟨p.text.length, Nat.le_refl _, by omega, by rw [List.take_length, List.take_of_length_le (by omega)]⟩
          · exact ⟨60, h, by omega, rfl⟩
        obtain ⟨n, hn, hmin, htk⟩ := hcase
        have hn1 : (n : Int) ≤ ((bs p.text).size : Int) := by rw [bs_size]; omega
        have hn2 : (0 : Int) ≤ (n : Int) := by omega
        have HXT := Lib.hid (show (bs p.text).extract 0 n = bs (cutP p).text by rw [ext_take, htk]; rfl)
        have hs0 : w.heap.size ≤ wr.heap.size := hb.size
        clear hx p0 p1 p2 hb htk hn
        go_upto_region 7 with (fail)
        rw [HXT.out]
        have HB2 := Lib.hid (HB.out.alloc hs0 (.cells #[.string (bs (cutP p).text), .bool p.var, .bool p.quo] 51))
        have HO2 := Lib.hid (HO.out.alloc (.cells #[.string (bs (cutP p).text), .bool p.var, .bool p.quo] 51))
        have HT := Lib.hid (Blk.new wr 51 #[.string (bs (cutP p).text), .bool p.var, .bool p.quo])
        clear e0 e1 e2 hmin hn1 hn2 hz hbr t1 t2 i1 i2
        generalize (wr.alloc (.cells #[.string (bs (cutP p).text), .bool p.var, .bool p.quo] 51)) = wb at *
        generalize wr.heap.size = tb at *
        have t0 : wb.cell? ⟨tb, 0, none⟩ = some (.string (bs (cutP p).text)) := HT.out.cell 0
        have t1 : wb.cell? ⟨tb, 1, none⟩ = some (.bool p.var) := HT.out.cell 1
        have t2 : wb.cell? ⟨tb, 2, none⟩ = some (.bool p.quo) := HT.out.cell 2
        have hs2 : w.heap.size ≤ wb.heap.size := HB2.out.size
        go_wp2_with (at_builtin; refine wpList_append_lies _ rfl _ _ _ rfl w.heap.size 51 i0 _ 3 24 Try.underlying39 hi hz0 hz1 hz2 rfl (by omega) (.slice av k cv) k (pcC ((ps.take k).map cutP)) rfl (HO2.out.alloc _) ⟨wb.heap.size, 0, none⟩ 1 1 [.string (bs (cutP p).text), .bool p.var, .bool p.quo] rfl rfl (World.news_of_block (cs := #[.string (bs (cutP p).text), .bool p.var, .bool p.quo]) (t := 51) (fr := (0, 0)) (heap_alloc_new wb _)) (by simp [Value.oneCell']) (by omega) (by unfold maxLen; omega) (by omega) (by simp; omega) (wb.heap.size + 1) (by simp) ?_; intro gz cap w3 hown3 hgrow3 hat hlt3; have HB4 := Lib.hid (below_own (B := w.heap.size) (HB2.out.alloc hs2 _) (HO2.out.alloc _) hgrow3 (Nat.le_refl _) (by simp; omega)); have HO5 := Lib.hid (show w3.ownsRow w.heap.size 51 3 (.slice (some ⟨gz, 0, none⟩) (k + 1) cap) (k + 1) (pcC ((ps.take (k + 1)).map cutP)) from by rw [HNX.out]; exact hown3); clear hown3 hgrow3)
        go_roundg (gk - 1)
        case rel => exact ⟨k + 1, by go_num, by omega, by omega, by omega, HB4.out, HO5.out⟩
        case measure => omega
      · obtain rfl : k = 8 := by omega
        have HE := Lib.hid (show cutW ps = (ps.take 8).map cutP from rfl)
        have HEL := Lib.hid (show (cutW ps).length = 8 by unfold cutW; rw [List.length_map, List.length_take]; omega)
        go_wp2
        go_ret
        exact ⟨_, rfl, by rw [HEL.out, HE.out]; exact HO.out, hb⟩
    · obtain rfl : k = ps.length := by omega
      have HE := Lib.hid (show cutW ps = (ps.take ps.length).map cutP by unfold cutW; rw [List.take_length, List.take_of_length_le (by omega)])
      have HEL := Lib.hid (show (cutW ps).length = ps.length by unfold cutW; rw [List.length_map, List.length_take]; omega)
      go_wp2
      go_ret
      exact ⟨_, rfl, by rw [HEL.out, HE.out]; exact HO.out, hb⟩
end Go.Proofs.Ytiddchpkmcncdaa
