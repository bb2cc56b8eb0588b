/- Walks of layer 41: ofWord, toWord, SameWord. -/
import Derived.Test.YtiddchpkmcncdaaX26
namespace Go.Proofs.Ytiddchpkmcncdaa
open Go.RowKit
set_option linter.unusedSimpArgs false
set_option linter.unusedVariables false
/-- A word of the reference. -/
def RdV (w : World) (v : Value) (ps : Wd) : Prop := Rd 51 w v ps.length (pcC ps)
theorem info51 : (Try.prog.info? 51).map (fun i => (i.zero, i.size, i.bytes)) = some (some (.agg #[.string ⟨#[]⟩, .bool false, .bool false]), 3, 24) := by kernel_rfl
/-- The cells of a piece. -/
theorem Rd.piece {e : TypeId} {w : World} {v : Value} {ps : Wd} (h : Rd e w v ps.length (pcC ps)) (hn : 0 < ps.length) : ∃ b o c, v = .slice (some ⟨b, o, none⟩) ps.length c ∧ ps.length ≤ c ∧ b < w.heap.size ∧ ∀ k (hk : k < ps.length), w.cell? ⟨b, o + k * 3, none⟩ = some (.string (bs ps[k].text)) ∧ w.cell? ⟨b, o + k * 3 + 1, none⟩ = some (.bool ps[k].var) ∧ w.cell? ⟨b, o + k * 3 + 2, none⟩ = some (.bool ps[k].quo) := by
  obtain ⟨b, o, c, hv, hc, _, hb, hcell⟩ := Rd.at_ h hn
  refine ⟨b, o, c, hv, hc, hb, fun k hk => ⟨?_, ?_, ?_⟩⟩
  · exact hcell (k * 3) _ ((pcC_get ps k hk 0 (by omega)).trans rfl)
  · have := hcell (k * 3 + 1) _ ((pcC_get ps k hk 1 (by omega)).trans rfl)
    rw [← Nat.add_assoc] at this; exact this
  · have := hcell (k * 3 + 2) _ ((pcC_get ps k hk 2 (by omega)).trans rfl)
    rw [← Nat.add_assoc] at this; exact this
def CvRel (E : TypeId) (w : World) (ps : Wd) (gk : Nat) (v i : Value) (wr : World) : Prop :=
  ∃ k, i = .int .i64 ((k : Nat) : Int) ∧ k ≤ ps.length ∧ gk + k = ps.length + 1 ∧ Below w.heap.size w wr ∧ wr.ownsRow w.heap.size E 3 v k (pcC (ps.take k))
theorem pcC_take (ps : Wd) (k : Nat) (hk : k < ps.length) : pcC (ps.take (k + 1)) = pcC (ps.take k) ++ pcV ps[k] := by
  rw [List.take_succ_eq_append_getElem hk, pcC_snoc]
set_option maxRecDepth 100000 in
set_option maxHeartbeats 4000000 in
theorem ofWord_any (w : World) (v : Value) (ps : Wd) (h : Rd 61 w v ps.length (pcC ps)) (hl : ps.length ≤ 100000) :
    Calls Try.prog 21 #[v] w fun e w' => ∃ v', e = .returned v' ∧ w'.ownsRow w.heap.size 51 3 v' ps.length (pcC ps) ∧ Below w.heap.size w w' := by
  obtain ⟨i0, hi, hz0, hz1, hz2⟩ := info_parts info51
  rcases Nat.eq_zero_or_pos ps.length with h0 | h0
  · obtain ⟨A, c, rfl, _⟩ := Rd.form h
    obtain rfl := List.length_eq_zero_iff.1 h0
    clear h h0
    go_enter Try.func21, Try.ntmps21
    go_wp2
    go_loopg [3, 4] 1 (fun gk v i wr => v = .slice none 0 0 ∧ i = .int .i64 0 ∧ Below w.heap.size w wr)
    case atStart => exact ⟨rfl, rfl, Below.refl _ _⟩
    case round =>
      obtain ⟨rfl, rfl, hb⟩ := hrel
      go_wp2
      go_ret
      exact ⟨_, rfl, World.ownsRow_nil _ _ _ _, hb⟩
  · obtain ⟨b, o, c, rfl, hc, hb0, hcell⟩ := Rd.piece h h0
    have HC := Lib.hid hcell
    clear h hcell
    go_enter Try.func21, Try.ntmps21
    go_wp2
    go_loopg [3, 4] (ps.length + 1) (fun gk v i wr => CvRel 51 w ps gk v i wr)
    case atStart => exact ⟨0, rfl, Nat.zero_le _, by omega, Below.refl _ _, World.ownsRow_nil _ _ _ _⟩
    case round =>
      obtain ⟨k, rfl, hk, hgk, hb, hown⟩ := hrel
      have HO := Lib.hid hown
      obtain ⟨av, cv, rfl, _⟩ := own_len hown
      have hsz : w.heap.size ≤ wr.heap.size := hb.size
      clear hown
      by_cases hlt : k < ps.length
      · have HT1 := Lib.hid (pcC_take ps k hlt)
        obtain ⟨p0, p1, p2⟩ := HC.out k hlt
        obtain ⟨p, hp⟩ : ∃ p, ps[k] = p := ⟨_, rfl⟩
        rw [hp] at p0 p1 p2 HT1
        clear hp
        have hbr : b < wr.heap.size := Nat.lt_of_lt_of_le hb0 hb.size
        have b0 := ((bcell hb).1 b (o + k * 3) hb0).trans p0
        have b1 := ((bcell hb).1 b (o + k * 3 + 1) hb0).trans p1
        have b2 := ((bcell hb).1 b (o + k * 3 + 2) hb0).trans p2
        have i1 : (0 : Int) ≤ (k : Int) := by omega
        have i2 : (k : Int) < (ps.length : Int) := by omega
        have hn0 := World.new_ne wr ⟨b, o + k * 3, none⟩ b0
        have hn1 := World.new_ne wr ⟨b, o + k * 3 + 1, none⟩ b1
        have hn2 := World.new_ne wr ⟨b, o + k * 3 + 2, none⟩ b2
        go_upto_region 5 with (fail)
        go_region_held3 (fun w' => w'.cell? ⟨b, o + k * 3, none⟩ = some (.string (bs p.text)) ∧ w'.cell? ⟨b, o + k * 3 + 1, none⟩ = some (.bool p.var) ∧ w'.cell? ⟨b, o + k * 3 + 2, none⟩ = some (.bool p.quo))
          (first | (with_reducible exact ⟨y0, y1, y2⟩) | go_keep)
          ((refine step_append_lies _ (by rfl) _ _ _ (by rfl) w.heap.size 51 i0 _ 3 24 Try.underlying39 hi hz0 hz1 hz2 rfl (by omega) (.slice av k cv) k (pcC (ps.take k)) (by rfl) ((HO.out.alloc _).drew) ⟨wr.heap.size, 0, none⟩ 1 1 [.string (bs p.text), .bool p.var, .bool p.quo] (by rfl) (by rfl) (World.news_of_block (cs := #[.string (bs p.text), .bool p.var, .bool p.quo]) (t := 51) (fr := (0, 0)) (heap_alloc_new wr _)) (by simp [Value.oneCell']) (by omega) (by unfold maxLen; omega) (by omega) (by simp; omega) (wr.heap.size + 1) (by simp) ?_; intro gg cap w1 hown1 hgrow hat hlt1; have HB1 := Lib.hid (below_own ((hb.alloc hb.size _).drew) ((HO.out.alloc _).drew) hgrow (Nat.le_refl _) (by simp; omega)); have y0 := ((bcell HB1.out).1 b (o + k * 3) hb0).trans p0; have y1 := ((bcell HB1.out).1 b (o + k * 3 + 1) hb0).trans p1; have y2 := ((bcell HB1.out).1 b (o + k * 3 + 2) hb0).trans p2))
        all_goals
          have HO1 := Lib.hid (show w1.ownsRow w.heap.size 51 3 _ (k + 1) (pcC (ps.take (k + 1))) from by rw [HT1.out]; exact hown1)
          clear hown1 hgrow b0 b1 b2 y0 y1 y2 p0 p1 p2 hn0 hn1 hn2 hat hlt1
          go_wp2
          go_roundg (gk - 1)
          case rel => exact ⟨k + 1, by go_num, by omega, by omega, HB1.out, HO1.out⟩
          case measure => omega
      · obtain rfl : k = ps.length := by omega
        have HTK := Lib.hid (show pcC (ps.take ps.length) = pcC ps by rw [List.take_length])
        go_wp2
        go_ret
        exact ⟨_, rfl, by rw [← HTK.out]; exact HO.out, hb⟩
set_option maxRecDepth 100000 in
set_option maxHeartbeats 4000000 in
theorem toWord_any (w : World) (v : Value) (ps : Wd) (h : Rd 51 w v ps.length (pcC ps)) (hl : ps.length ≤ 100000) :
    Calls Try.prog 32 #[v] w fun e w' => ∃ v', e = .returned v' ∧ w'.ownsRow w.heap.size 61 3 v' ps.length (pcC ps) ∧ Below w.heap.size w w' := by
  obtain ⟨i0, hi, hz0, hz1, hz2⟩ := info_parts info61
  rcases Nat.eq_zero_or_pos ps.length with h0 | h0
  · obtain ⟨A, c, rfl, _⟩ := Rd.form h
    obtain rfl := List.length_eq_zero_iff.1 h0
    clear h h0
    go_enter Try.func32, Try.ntmps32
    go_wp2
    go_loopg [3, 4] 1 (fun gk v i wr => v = .slice none 0 0 ∧ i = .int .i64 0 ∧ Below w.heap.size w wr)
    case atStart => exact ⟨rfl, rfl, Below.refl _ _⟩
    case round =>
      obtain ⟨rfl, rfl, hb⟩ := hrel
      go_wp2
      go_ret
      exact ⟨_, rfl, World.ownsRow_nil _ _ _ _, hb⟩
  · obtain ⟨b, o, c, rfl, hc, hb0, hcell⟩ := Rd.piece h h0
    have HC := Lib.hid hcell
    clear h hcell
    go_enter Try.func32, Try.ntmps32
    go_wp2
    go_loopg [3, 4] (ps.length + 1) (fun gk v i wr => CvRel 61 w ps gk v i wr)
    case atStart => exact ⟨0, rfl, Nat.zero_le _, by omega, Below.refl _ _, World.ownsRow_nil _ _ _ _⟩
    case round =>
      obtain ⟨k, rfl, hk, hgk, hb, hown⟩ := hrel
      have HO := Lib.hid hown
      obtain ⟨av, cv, rfl, _⟩ := own_len hown
      have hsz : w.heap.size ≤ wr.heap.size := hb.size
      clear hown
      by_cases hlt : k < ps.length
      · have HT1 := Lib.hid (pcC_take ps k hlt)
        obtain ⟨p0, p1, p2⟩ := HC.out k hlt
        obtain ⟨p, hp⟩ : ∃ p, ps[k] = p := ⟨_, rfl⟩
        rw [hp] at p0 p1 p2 HT1
        clear hp
        have hbr : b < wr.heap.size := Nat.lt_of_lt_of_le hb0 hb.size
        have b0 := ((bcell hb).1 b (o + k * 3) hb0).trans p0
        have b1 := ((bcell hb).1 b (o + k * 3 + 1) hb0).trans p1
        have b2 := ((bcell hb).1 b (o + k * 3 + 2) hb0).trans p2
        have i1 : (0 : Int) ≤ (k : Int) := by omega
        have i2 : (k : Int) < (ps.length : Int) := by omega
        have hn0 := World.new_ne wr ⟨b, o + k * 3, none⟩ b0
        have hn1 := World.new_ne wr ⟨b, o + k * 3 + 1, none⟩ b1
        have hn2 := World.new_ne wr ⟨b, o + k * 3 + 2, none⟩ b2
        go_upto_region 5 with (fail)
        go_region_held3 (fun w' => w'.cell? ⟨b, o + k * 3, none⟩ = some (.string (bs p.text)) ∧ w'.cell? ⟨b, o + k * 3 + 1, none⟩ = some (.bool p.var) ∧ w'.cell? ⟨b, o + k * 3 + 2, none⟩ = some (.bool p.quo))
          (first | (with_reducible exact ⟨y0, y1, y2⟩) | go_keep)
          ((refine step_append_lies _ (by rfl) _ _ _ (by rfl) w.heap.size 61 i0 _ 3 24 Try.underlying42 hi hz0 hz1 hz2 rfl (by omega) (.slice av k cv) k (pcC (ps.take k)) (by rfl) ((HO.out.alloc _).drew) ⟨wr.heap.size, 0, none⟩ 1 1 [.string (bs p.text), .bool p.var, .bool p.quo] (by rfl) (by rfl) (World.news_of_block (cs := #[.string (bs p.text), .bool p.var, .bool p.quo]) (t := 61) (fr := (0, 0)) (heap_alloc_new wr _)) (by simp [Value.oneCell']) (by omega) (by unfold maxLen; omega) (by omega) (by simp; omega) (wr.heap.size + 1) (by simp) ?_; intro gg cap w1 hown1 hgrow hat hlt1; have HB1 := Lib.hid (below_own ((hb.alloc hb.size _).drew) ((HO.out.alloc _).drew) hgrow (Nat.le_refl _) (by simp; omega)); have y0 := ((bcell HB1.out).1 b (o + k * 3) hb0).trans p0; have y1 := ((bcell HB1.out).1 b (o + k * 3 + 1) hb0).trans p1; have y2 := ((bcell HB1.out).1 b (o + k * 3 + 2) hb0).trans p2))
        all_goals
          have HO1 := Lib.hid (show w1.ownsRow w.heap.size 61 3 _ (k + 1) (pcC (ps.take (k + 1))) from by rw [HT1.out]; exact hown1)
          clear hown1 hgrow b0 b1 b2 y0 y1 y2 p0 p1 p2 hn0 hn1 hn2 hat hlt1
          go_wp2
          go_roundg (gk - 1)
          case rel => exact ⟨k + 1, by go_num, by omega, by omega, HB1.out, HO1.out⟩
          case measure => omega
      · obtain rfl : k = ps.length := by omega
        have HTK := Lib.hid (show pcC (ps.take ps.length) = pcC ps by rw [List.take_length])
        go_wp2
        go_ret
        exact ⟨_, rfl, by rw [← HTK.out]; exact HO.out, hb⟩
end Go.Proofs.Ytiddchpkmcncdaa
