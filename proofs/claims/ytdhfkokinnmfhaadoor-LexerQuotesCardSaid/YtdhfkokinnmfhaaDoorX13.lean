/- Walks of layer 21: Scan. -/
import Derived.Test.YtdhfkokinnmfhaaDoorX12
import Derived.Test.YtdhfkokinnmfhaaDoorQ6
import Derived.StillTailTactics
import Derived.Deep.Draws
import Derived.Deep.RegionHeld3
import Derived.Deep.AppendLies
namespace Go.Proofs.YtdhfkokinnmfhaaDoor
open Go.RowKit
set_option linter.unusedSimpArgs false
set_option linter.unusedVariables false
/-- What Scan leaves. -/
def ScanPost (s : ByteArray) (w : World) (e : Ending) (w' : World) : Prop :=
  Below w.heap.size w w' ∧ match scanS s with
  | .ok l => ∃ v, w'.ownsRow w.heap.size 35 6 v (l.length + 1) (toksC s (l ++ [(endA, s.size)])) ∧ e = .returned (.tuple #[v, .int .i64 0, .int .i64 0, .int .i64 0])
  | .err p off er => e = .returned (.tuple #[.slice none 0 0, .int .i64 (lineN s p), .int .i64 (colN s p + off), .int .i64 er])
theorem ScanPost.ok {s : ByteArray} {w : World} {e : Ending} {w' : World} {l : List (Att × Nat)} {v : Value} (hs : scanS s = .ok l) (hb : Below w.heap.size w w') (hv : w'.ownsRow w.heap.size 35 6 v (l.length + 1) (toksC s (l ++ [(endA, s.size)]))) (he : e = .returned (.tuple #[v, .int .i64 0, .int .i64 0, .int .i64 0])) : ScanPost s w e w' := by
  refine ⟨hb, ?_⟩
  rw [hs]
  exact ⟨v, hv, he⟩
theorem ScanPost.err {s : ByteArray} {w : World} {e : Ending} {w' : World} {p : Nat} {off er : Int} (hs : scanS s = .err p off er) (hb : Below w.heap.size w w') (he : e = .returned (.tuple #[.slice none 0 0, .int .i64 (lineN s p), .int .i64 (colN s p + off), .int .i64 er])) : ScanPost s w e w' := by
  refine ⟨hb, ?_⟩
  rw [hs]
  exact he
theorem info35 : (Tryd.prog.info? 35).map (fun i => (i.zero, i.size, i.bytes)) = some (some (.agg #[.int .i64 0, .string ⟨#[]⟩, .int .i64 0, .string ⟨#[]⟩, .int .i64 0, .int .i64 0]), 6, 64) := by kernel_rfl
theorem results_tmp4 {fn : Func} {t u v x : Tmp} (h : fn.results = #[.tmp t, .tmp u, .tmp v, .tmp x]) (tmps : Array Value) (P : Program) (w : World) :
    (results fn tmps).run P w = .ok (.tuple #[tmps.getD t undef, tmps.getD u undef, tmps.getD v undef, tmps.getD x undef]) w := by simp [results, h]
theorem ScAt.next {w w' : World} {g : Nat} {s : ByteArray} {k : Nat} (h : ScAt w g s k) (hb : Below w.heap.size w w') : ScAt w' g s k := by
  unfold ScAt at *
  rw [hb.block g (sc_lt h)]; exact h
/-- What the loop of Scan keeps. -/
def ScanRel (s : ByteArray) (w : World) (gk : Nat) (v : Value) (wr : World) : Prop :=
  ∃ (p : Nat) (acc : List (Att × Nat)), p ≤ s.size ∧ s.size ≤ gk + p ∧ acc.length ≤ p ∧ wr.ownsRow (w.heap.size + 1) 35 6 v acc.length (toksC s acc) ∧ ScAt wr w.heap.size s p ∧ Below w.heap.size w wr ∧ scanS s = (scanP s (s.size + 1) p).pre acc
theorem ret_err {l c c' e : Int} (h : c = c') : Ending.returned (.tuple #[.slice none 0 0, .int .i64 l, .int .i64 c, .int .i64 e]) = .returned (.tuple #[.slice none 0 0, .int .i64 l, .int .i64 c', .int .i64 e]) := by rw [h]
theorem found_set {W0 : World} {g : Nat} {a b c d x y z u v x' y' : Value} (e : W0.heap[g]? = some (.cells #[a, b, c, d, x, y, z, u, v] 55 (0, 0))) : ((W0.setCell ⟨g, 4, none⟩ x').setCell ⟨g, 5, none⟩ y').heap[g]? = some (.cells #[a, b, c, d, x', y', z, u, v] 55 (0, 0)) := by
  simp [World.setCell, Array.getElem?_modify, e]
theorem found_new (w2 : World) (a b c d x y z u v : Value) (nq : Nat) : ((w2.alloc (.cells #[a, b, c, d, x, y, z, u, v] 55)).drewN nq).heap[w2.heap.size]? = some (.cells #[a, b, c, d, x, y, z, u, v] 55 (0, 0)) := by
  show (w2.heap.push _)[w2.heap.size]? = _
  simp
theorem found_cells {w : World} {g : Nat} {a b c d x y z u v : Value} (h : w.heap[g]? = some (.cells #[a, b, c, d, x, y, z, u, v] 55 (0, 0))) : w.cell? ⟨g, 0, none⟩ = some a ∧ w.cell? ⟨g, 1, none⟩ = some b ∧ w.cell? ⟨g, 2, none⟩ = some c ∧ w.cell? ⟨g, 3, none⟩ = some d ∧ w.cell? ⟨g, 4, none⟩ = some x ∧ w.cell? ⟨g, 5, none⟩ = some y ∧ w.cell? ⟨g, 6, none⟩ = some z := by
  refine ⟨?_, ?_, ?_, ?_, ?_, ?_, ?_⟩ <;> simp [World.cell?, h]
theorem new6 (w : World) (v0 v1 v2 v3 v4 v5 : Value) (t : TypeId) (j : Nat) (u : Value) (h : [v0, v1, v2, v3, v4, v5][j]? = some u) : (w.alloc (.cells #[v0, v1, v2, v3, v4, v5] t)).cell? ((⟨w.heap.size, 0, none⟩ : Addr).add j) = some u := by
  have e : (w.alloc (.cells #[v0, v1, v2, v3, v4, v5] t)).heap[w.heap.size]? = some (.cells #[v0, v1, v2, v3, v4, v5] t) := by
    show (w.heap.push _)[w.heap.size]? = _
    simp
  have e2 : ((⟨w.heap.size, 0, none⟩ : Addr).add j) = ⟨w.heap.size, j, none⟩ := by
    unfold Addr.add
    split
    · rename_i h; subst h; rfl
    · simp
  rw [e2]
  simp only [World.cell?, e]
  simpa using h
theorem below_drewN {B : Nat} {a w : World} (h : Below B a w) (n : Nat) : Below B a (w.drewN n) := ⟨h.os, h.tape, h.output, h.size, h.block⟩
theorem block_kept {W w3 : World} {o : Obj} {g : Nat} {row : Option Nat} {x : Obj} (h : W.heap[g]? = some x) (hg : (W.alloc o).grownBy w3 row) (hr : row ≠ some g) : w3.heap[g]? = some x := by
  have hl := sc_lt h
  rw [hg.block g (by simp; omega) (fun e => hr e.symm)]
  show (W.heap.push _)[g]? = _
  rw [Array.getElem?_push_lt hl, ← h, Array.getElem?_eq_getElem hl]
theorem own_ne {wr w2 : World} {base : Nat} {e : TypeId} {size : Nat} {v : Value} {n : Nat} {xs : List Value} (h : wr.ownsRow base e size v n xs) (k : Below wr.heap.size wr w2) : v.ownBlock ≠ some w2.heap.size := by
  intro hg
  have := k.size
  obtain ⟨_, ⟨rfl, _⟩ | ⟨g', cap', cur, rfl, hb, hh, _⟩⟩ := h
  · simp [Value.ownBlock] at hg
  · simp [Value.ownBlock] at hg
    have := sc_lt hh
    omega
theorem grown_trans {a b c : World} {row : Option Nat} (h : a.grownBy b row) (k : b.grownBy c row) : a.grownBy c row :=
  ⟨k.os.trans h.os, k.tape.trans h.tape, k.output.trans h.output, Nat.le_trans h.size k.size, fun i hi hne => (k.block i (Nat.lt_of_lt_of_le hi h.size) hne).trans (h.block i hi hne)⟩
theorem sc_drew {w : World} {g : Nat} {s : ByteArray} {k : Nat} (h : ScAt w g s k) : ScAt w.drew g s k := h
theorem own_base {w : World} {base b0 : Nat} {e : TypeId} {size : Nat} {v : Value} {n : Nat} {xs : List Value} (h : w.ownsRow base e size v n xs) (hb : b0 ≤ base) : w.ownsRow b0 e size v n xs := by
  obtain ⟨h1, h2 | ⟨g, cap, cur, hv, hg, r⟩⟩ := h
  · exact ⟨h1, .inl h2⟩
  · exact ⟨h1, .inr ⟨g, cap, cur, hv, Nat.le_trans hb hg, r⟩⟩
theorem sc_new (w : World) (s : ByteArray) : ScAt (w.alloc (.cells #[.string s, .int .i64 0, .int .i64 1, .int .i64 0] 53)) w.heap.size s 0 := by
  show (w.heap.push _)[w.heap.size]? = _
  simp [lineN, begN]
theorem own_len {w : World} {base : Nat} {e : TypeId} {v : Value} {n : Nat} {xs : List Value} (h : w.ownsRow base e 6 v n xs) : ∃ a c, v = .slice a n c := by
  obtain ⟨h1, ⟨rfl, rfl⟩ | ⟨g, cap, cur, rfl, _⟩⟩ := h
  · exact ⟨none, 0, rfl⟩
  · exact ⟨_, _, rfl⟩
set_option maxRecDepth 100000 in
set_option maxHeartbeats 4000000 in
theorem scan_any (s : ByteArray) (w : World) (ho : EscAt w) (hs : s.size ≤ 4000) :
    Calls Tryd.prog 11 #[.string s] w (ScanPost s w) := by
  obtain ⟨i0, hi, hz0, hz1, hzb⟩ := info_parts info35
  have hs2 : s.size ≤ 100000 := by omega
  go_enter Tryd.func11, Tryd.ntmps11
  go_wp2_with fail
  refine (skip_any s w.heap.size 0 _ hs2 (Nat.zero_le _) (sc_new w s)).mono ?_
  rintro e w1 ⟨rfl, hsc, hgr⟩
  have hB1 : Below w.heap.size w w1 := ((Below.refl _ _).alloc (Nat.le_refl _) _).grown hgr (by simp) (fun k e => by injection e with e; omega)
  clear hgr
  go_wp2
  go_loopg [2] s.size (fun gk v wr => ScanRel s w gk v wr)
  case atStart => exact ⟨skp s 0, [], (skp_le s 0 (Nat.zero_le _)).2, by omega, Nat.zero_le _, ⟨rfl, .inl ⟨rfl, rfl⟩⟩, hsc, hB1, by rw [Res.pre_nil]; rfl⟩
  case round =>
    obtain ⟨p, acc, hp, hgk, hacc, hown, hsc', hb, hS⟩ := hrel
    have HS := Lib.hid hS
    have HSC := Lib.hid hsc'
    have ho' : EscAt wr := ho.next hb
    clear hS hsc hB1
    obtain ⟨c0, c1, c2, c3⟩ := sc_cells hsc'
    have hle := lineN_le s p
    have hbe := begN_le s p
    clear hsc'
    obtain ⟨av, cv, rfl⟩ := own_len hown
    by_cases hlt : p < s.size
    · cases hfd : findS (s.extract p s.size) with
      | none =>
        have HF := Lib.hid hfd
        have HE := Lib.hid (HS.out.trans (congrArg (Res.pre acc) (scan_none s p hlt hfd)))
        clear hfd HS
        go_wp2_with fail
        refine (find_any _ _ ho' (by rw [size_extract s p s.size (Nat.le_refl _)]; omega) (by rw [size_extract s p s.size (Nat.le_refl _)]; omega)).mono ?_
        rintro e w2 ⟨rfl, k2⟩
        rw [HF.out]
        simp only [attR, attV, Option.getD_none, Option.getD_some, Option.isSome_none, Option.isSome_some, attE]
        have HSC2 := Lib.hid (HSC.out.next k2)
        obtain ⟨d0, d1, d2, d3⟩ := sc_cells HSC2.out
        have hz2 : w.heap.size < w2.heap.size := sc_lt HSC2.out
        clear c0 c1 c2 c3
        go_wp2
        go_quiet (fail)
        go_wp2
        go_quiet (fail)
        go_wp2
        refine bodyPost_ret (results_tmp4 rfl _ _ _) rfl (ScanPost.err HE.out ?_ ?_)
        · exact below_drewN (below_drewN ((hb.trans (k2.mono hb.size)).alloc (Nat.le_of_lt hz2) _) _) _
        · show Ending.returned (.tuple #[.slice none 0 0, .int .i64 (lineN s p), .int .i64 ((p : Int) - begN s p + 1), .int .i64 6]) = _
          exact ret_err (by unfold colN; omega)
      | some a =>
        obtain ⟨kind, text, value, bytes, size, off, e0⟩ := a
        have HF := Lib.hid hfd
        by_cases he : e0 ≠ 0
        · have HE := Lib.hid (HS.out.trans (congrArg (Res.pre acc) (scan_bad s p _ hlt hfd he)))
          have hbad := rest_bad s p _ hlt hfd he
          obtain ⟨o1, o2⟩ : 0 ≤ off ∧ (p : Int) + off ≤ s.size := ⟨hbad.1, hbad.2.1⟩
          have he' : (e0 != 0) = true := by simpa using he
          clear hfd HS he hbad
          go_wp2_with fail
          refine (find_any _ _ ho' (by rw [size_extract s p s.size (Nat.le_refl _)]; omega) (by rw [size_extract s p s.size (Nat.le_refl _)]; omega)).mono ?_
          rintro e w2 ⟨rfl, k2⟩
          rw [HF.out]
          simp only [attR, attV, Option.getD_none, Option.getD_some, Option.isSome_none, Option.isSome_some, attE]
          have HSC2 := Lib.hid (HSC.out.next k2)
          obtain ⟨d0, d1, d2, d3⟩ := sc_cells HSC2.out
          have hz2 : w.heap.size < w2.heap.size := sc_lt HSC2.out
          clear c0 c1 c2 c3
          go_wp2
          go_quiet (fail)
          go_wp2
          go_quiet (fail)
          go_wp2
          refine bodyPost_ret (results_tmp4 rfl _ _ _) rfl (ScanPost.err HE.out ?_ ?_)
          · exact below_drewN (below_drewN ((hb.trans (k2.mono hb.size)).alloc (Nat.le_of_lt hz2) _) _) _
          · show Ending.returned (.tuple #[.slice none 0 0, .int .i64 (lineN s p), .int .i64 ((p : Int) - begN s p + 1 + off), .int .i64 e0]) = _
            exact ret_err (by unfold colN; omega)
        · obtain rfl : e0 = 0 := by simpa using he
          have HE := Lib.hid (HS.out.trans (congrArg (Res.pre acc) (scan_next s p _ hlt hfd rfl)))
          obtain ⟨g1, g2, rfl, g4, g5⟩ := rest_good s p _ hlt hfd rfl
          have HR := Lib.hid (line_run s p size g5)
          clear hfd HS he g4 g5
          go_wp2_with fail
          refine (find_any _ _ ho' (by rw [size_extract s p s.size (Nat.le_refl _)]; omega) (by rw [size_extract s p s.size (Nat.le_refl _)]; omega)).mono ?_
          rintro e w2 ⟨rfl, k2⟩
          rw [HF.out]
          simp only [attR, attV, Option.getD_none, Option.getD_some, Option.isSome_none, Option.isSome_some, attE]
          have HSC2 := Lib.hid (HSC.out.next k2)
          obtain ⟨d0, d1, d2, d3⟩ := sc_cells HSC2.out
          have hz2 : w.heap.size < w2.heap.size := sc_lt HSC2.out
          clear c0 c1 c2 c3
          go_wp2
          go_quiet (fail)
          go_upto_region 16 with (fail)
          have hBW : Below w2.heap.size w2 ((((w2.alloc (.cells #[.int .i64 kind, .string text, .int .i64 value, .string bytes, .int .i64 0, .int .i64 0, .int .i64 size, .int .i64 0, .int .i64 0] 55)).drewN nq).setCell ⟨w2.heap.size, 4, none⟩ (.int .i64 (lineN s p))).setCell ⟨w2.heap.size, 5, none⟩ (.int .i64 ((p : Int) - begN s p + 1))) := ((below_drewN ((Below.refl _ _).alloc (Nat.le_refl _) _) _).setCell (Nat.le_refl _) _).setCell (Nat.le_refl _) _
          have hFB : Hid (((((w2.alloc (.cells #[.int .i64 kind, .string text, .int .i64 value, .string bytes, .int .i64 0, .int .i64 0, .int .i64 size, .int .i64 0, .int .i64 0] 55)).drewN nq).setCell ⟨w2.heap.size, 4, none⟩ (.int .i64 (lineN s p))).setCell ⟨w2.heap.size, 5, none⟩ (.int .i64 ((p : Int) - begN s p + 1))).heap[w2.heap.size]? = some (.cells #[.int .i64 kind, .string text, .int .i64 value, .string bytes, .int .i64 (lineN s p), .int .i64 ((p : Int) - begN s p + 1), .int .i64 size, .int .i64 0, .int .i64 0] 55 (0, 0))) := found_set (found_new _ _ _ _ _ _ _ _ _ _ _)
          generalize hW : ((((w2.alloc (.cells #[.int .i64 kind, .string text, .int .i64 value, .string bytes, .int .i64 0, .int .i64 0, .int .i64 size, .int .i64 0, .int .i64 0] 55)).drewN nq).setCell ⟨w2.heap.size, 4, none⟩ (.int .i64 (lineN s p))).setCell ⟨w2.heap.size, 5, none⟩ (.int .i64 ((p : Int) - begN s p + 1))) = W at *
          clear hW
          have hown2 : W.ownsRow (w.heap.size + 1) 35 6 (.slice av acc.length cv) acc.length (toksC s acc) := own_next (own_next hown k2) hBW
          have hBW2 : Below w.heap.size w W := (hb.trans (k2.mono hb.size)).trans (hBW.mono (Nat.le_of_lt hz2))
          have HSC3 := Lib.hid (HSC2.out.next hBW)
          have hfb := sc_lt hFB.out
          have HNE : Hid ((Value.slice av acc.length cv).ownBlock ≠ some w2.heap.size) := own_ne hown k2
          generalize w2.heap.size = fb at *
          clear hown k2 hBW d0 d1 d2 d3 HSC2 HSC HF hb ho'
          obtain ⟨q0, q1, q2, q3, q4, q5, q6⟩ := found_cells hFB.out
          obtain ⟨d0, d1, d2, d3⟩ := sc_cells HSC3.out
          have f1 := sc_free HSC3.out 1
          go_wp2_with (at_builtin; refine wpList_append_own _ rfl _ _ 23 rfl (w.heap.size + 1) 35 i0 (.agg #[.int .i64 0, .string ⟨#[]⟩, .int .i64 0, .string ⟨#[]⟩, .int .i64 0, .int .i64 0]) 6 64 Tryd.underlying23 hi hz0 hz1 hzb rfl (by decide) _ _ _ rfl (hown2.alloc _) ⟨W.heap.size, 0, none⟩ 1 1 [.int .i64 kind, .string text, .int .i64 value, .string bytes, .int .i64 (lineN s p), .int .i64 ((p : Int) - begN s p + 1)] rfl rfl ?c1 ?c2 ?c3 ?c4 ?c5 ?_)
          case c1 => exact fun j u h => new6 _ _ _ _ _ _ _ _ j u h
          case c2 => intro u hu; simp at hu; rcases hu with rfl | rfl | rfl | rfl | rfl | rfl <;> rfl
          case c3 => unfold maxLen; omega
          case c4 => omega
          case c5 => simp; omega
          intro v' w3 hown3 hg3 _
          have hB3 : Below w.heap.size w w3 := (hBW2.alloc hBW2.size _).grown hg3 (by have := hBW2.size; simp; omega) (fun g hg => Nat.le_of_succ_le (own_ge hown2 hg))
          have HSC4 : Hid (ScAt w3 w.heap.size s p) := block_kept HSC3.out hg3 (fun e => by have := own_ge hown2 e; omega)
          have HOWN : Hid (w3.ownsRow (w.heap.size + 1) 35 6 v' (acc ++ [((⟨kind, text, value, bytes, size, 0, 0⟩ : Att), p)]).length (toksC s (acc ++ [((⟨kind, text, value, bytes, size, 0, 0⟩ : Att), p)]))) := by
            rw [toksC_snoc, List.length_append]; exact hown3
          have hFB3 : Hid (w3.heap[fb]? = some (.cells #[.int .i64 kind, .string text, .int .i64 value, .string bytes, .int .i64 (lineN s p), .int .i64 ((p : Int) - begN s p + 1), .int .i64 size, .int .i64 0, .int .i64 0] 55 (0, 0))) := block_kept hFB.out hg3 (fun e => HNE.out e)
          clear hown2 hown3 hg3 q0 q1 q2 q3 q4 q5 q6 d0 d1 d2 d3 f1 hBW2 hFB HSC3
          obtain ⟨_, _, _, _, _, _, q6⟩ := found_cells hFB3.out
          obtain ⟨d0, d1, d2, d3⟩ := sc_cells HSC4.out
          have f1 := sc_free HSC4.out 1
          go_wp2
          have L1 : IntKind.i64.wrap ((p : Int) + (size : Int)) = (p : Int) + (size : Int) := IntWalk.i64_in _ (by omega)
          go_region
          clear L1
          go_wp2_with fail
          have hk4 := skp_le s (p + size) g2
          refine (skip_any s w.heap.size (p + size) _ hs2 g2 (sc_drew (sc_eq (k := p + size) (a := (p : Int) + (size : Int)) (b := lineN s p) (c := begN s p) (sc_set1 HSC4.out) (by omega) (by rw [HR.out.1]) (by rw [HR.out.2])))).mono ?_
          rintro e w4 ⟨rfl, hsc4, hgr4⟩
          have hG : w3.grownBy w4 (some w.heap.size) := grown_trans (only_drew (only_setCell (World.grownBy.refl _ _) (.inl rfl) _)) hgr4
          have hown4 := HOWN.out.kept hG (.inr (fun e => by have := own_ge HOWN.out e; omega))
          have hB4 : Below w.heap.size w w4 := hB3.grown hG hB3.size (fun k e => by injection e with e; omega)
          clear hG hgr4 HOWN
          go_wp2
          go_roundg (gk - 1)
          case rel => exact ⟨skp s (p + size), _, hk4.2, by omega, by simp; omega, hown4, hsc4, hB4, by rw [HE.out, Res.pre_pre]⟩
          case measure => omega
    · obtain rfl : p = s.size := by omega
      have HE := Lib.hid (HS.out.trans (congrArg (Res.pre acc) (scan_end s s.size (Nat.le_refl _))))
      clear HS
      go_wp2
      have L1 : IntKind.i64.wrap ((s.size : Int) - (begN s s.size : Int)) = (s.size : Int) - (begN s s.size : Int) := IntWalk.i64_in _ (by omega)
      have L2 : IntKind.i64.wrap ((s.size : Int) - (begN s s.size : Int) + 1) = (s.size : Int) - (begN s s.size : Int) + 1 := IntWalk.i64_in _ (by omega)
      have hfar : (Value.slice av acc.length cv).ownBlock ≠ some w.heap.size := fun e => by have := own_ge hown e; omega
      have hbs := hb.size
      have hlt0 := sc_lt HSC.out
      go_region_held3 (fun w' => w'.cell? ⟨w.heap.size, 1, none⟩ = some (.int .i64 s.size) ∧ w'.cell? ⟨w.heap.size, 2, none⟩ = some (.int .i64 (lineN s s.size)) ∧ w'.cell? ⟨w.heap.size, 3, none⟩ = some (.int .i64 (begN s s.size)))
        (first
          | go_keep
          | (go_split_ands
             refine ⟨?_, ?_, ?_⟩
             · (rw [hgrow.cell_far _ (by simp; omega) (Ne.symm hfar)]; assumption)
             · (rw [hgrow.cell_far _ (by simp; omega) (Ne.symm hfar)]; assumption)
             · (rw [hgrow.cell_far _ (by simp; omega) (Ne.symm hfar)]; assumption)))
        ((refine step_append_lies _ (by rfl) _ _ _ (by rfl) (w.heap.size + 1) 35 i0 _ 6 64 Tryd.underlying23 hi hz0 hz1 hzb rfl (by omega) (.slice av acc.length cv) acc.length (toksC s acc) (by rfl) ((hown.alloc _).drew)
            ⟨wr.heap.size, 0, none⟩ 1 1 [.int .i64 0, .string ⟨#[]⟩, .int .i64 0, .string ⟨#[]⟩, .int .i64 (lineN s s.size), .int .i64 ((s.size : Int) - begN s s.size + 1)] (by rfl) (by rfl) (World.news_of_block (cs := #[.int .i64 0, .string ⟨#[]⟩, .int .i64 0, .string ⟨#[]⟩, .int .i64 (lineN s s.size), .int .i64 ((s.size : Int) - begN s s.size + 1)]) (t := 35) (fr := (0, 0)) (heap_alloc_new wr _)) (by simp [Value.oneCell'])
            (by omega) (by unfold maxLen; omega) (by omega) (by simp; omega) (wr.heap.size + 1) (by simp) ?_; intro gg cap w1 hown1 hgrow hat hlt))
      go_wp2
      refine bodyPost_ret (results_tmp4 rfl _ _ _) rfl (ScanPost.ok (l := acc) (by rw [HE.out]; simp [Res.pre]) ?_ ?_ rfl)
      · exact ((hb.alloc hbs _).drew).grown hgrow (by simp; omega) (fun k e => Nat.le_of_succ_le (own_ge hown e))
      · rw [toksC_snoc]; exact own_base hown1 (Nat.le_succ _)
end Go.Proofs.YtdhfkokinnmfhaaDoor
