/- Walks of layer 41: scanEscape. -/
import Derived.Test.YtiddchpkmcncdaaX4
import Derived.Deep.Cut
namespace Go.Proofs.Ytiddchpkmcncdaa
open Go.RowKit
set_option linter.unusedSimpArgs false
set_option linter.unusedVariables false
theorem results_none {fn : Func} (h : fn.results = #[]) (tmps : Array Value) (P : Program) (w : World) :
    (results fn tmps).run P w = .ok (.tuple #[]) w := by simp [results, h]
/-- The byte number i. -/
def b8 (s : ByteArray) (i : Nat) : UInt8 := s.data.toList.getD i 0
theorem bt_b8 (s : ByteArray) (i : Nat) : bt s i = n8 (b8 s i) := rfl
/-- Bytes are appended to the text. -/
theorem WSt.text {w0 : World} {g : Nat} {s : ByteArray} {vt : Value} {p : Nat} {ps : Wd} {tx nt : Bs} {wh er : Int} {w W w1 : World} {vw vx v' : Value}
    (h1 : Blk w g 86 (scC s p vt vw vx wh er)) (h2 : w.ownsRow w0.heap.size 61 3 vw ps.length (pcC ps)) (h3 : w.ownsRow w0.heap.size 5 1 vx tx.length (tx.map byV)) (h4 : w0.grownBy w (some g)) (h5 : g < w0.heap.size) (h7 : p ≤ s.size)
    (hb : Below w.heap.size w W) (hk : W.grownBy w1 vx.ownBlock) (hown : w1.ownsRow w0.heap.size 5 1 v' (tx ++ nt).length ((tx ++ nt).map byV)) :
    WSt1 w0 g s vt p ps (tx ++ nt) wh er (w1.setCell ⟨g, 4, none⟩ v') ∧ Blk w1 g 86 (scC s p vt vw vx wh er) := by
  have n1 := own_blk_ne h3 h1 (by decide)
  have hB : Blk w1 g 86 (scC s p vt vw vx wh er) := Blk.grown (h1.next hb h1.lt) hk (Ne.symm n1)
  have hg1 : w1.grownBy (w1.setCell ⟨g, 4, none⟩ v') (some g) := only_setCell (p := ⟨g, 4, none⟩) (World.grownBy.refl _ _) (.inl rfl) _
  have h2' : w1.ownsRow w0.heap.size 61 3 vw ps.length (pcC ps) := (own_next h2 hb).kept hk (own_ne h2 h3 (by decide))
  refine ⟨⟨vw, v', blk_cast (hB.set_ 4 _) rfl, h2'.kept hg1 (.inr (fun e => by have := own_ge h2' e; omega)), hown.kept hg1 (.inr (fun e => by have := own_ge hown e; omega)), ?_, h5, h7⟩, hB⟩
  have a1 : w0.grownBy W (some g) := grown_trans h4 (only_of_below hb _)
  exact grown_trans (only_row a1 hk (fun i e => own_ge h3 e)) hg1
/-- The offset is set. -/
theorem WSt.go {w0 : World} {g : Nat} {s : ByteArray} {vt : Value} {p p' : Nat} {ps : Wd} {tx : Bs} {wh er q : Int} {w : World} (h : WSt1 w0 g s vt p ps tx wh er w) (hq : q = p') (h6 : ps.length + tx.length ≤ p') (h7 : p' ≤ s.size) : WSt w0 g s vt p' ps tx wh er (w.setCell ⟨g, 1, none⟩ (.int .i64 q)) := by
  subst hq
  obtain ⟨vw, vx, h1, h2, h3, h4, h5, _⟩ := h
  have hg1 : w.grownBy (w.setCell ⟨g, 1, none⟩ (.int .i64 (p' : Int))) (some g) := only_setCell (p := ⟨g, 1, none⟩) (World.grownBy.refl _ _) (.inl rfl) _
  exact ⟨vw, vx, blk_cast (h1.set_ 1 _) rfl, h2.kept hg1 (.inr (fun e => by have := own_ge h2 e; omega)), h3.kept hg1 (.inr (fun e => by have := own_ge h3 e; omega)), grown_trans h4 hg1, h5, h6, h7⟩
theorem WSt.drewN {w0 : World} {g : Nat} {s : ByteArray} {vt : Value} {p : Nat} {ps : Wd} {tx : Bs} {wh er : Int} {w : World} (h : WSt w0 g s vt p ps tx wh er w) (n : Nat) : WSt w0 g s vt p ps tx wh er (w.drewN n) := by
  obtain ⟨vw, vx, h1, h2, h3, h4, h5, h6, h7⟩ := h
  exact ⟨vw, vx, h1, h2, h3, only_drewN h4 n, h5, h6, h7⟩
set_option maxRecDepth 100000 in
theorem scanEscape_end (w0 : World) (g : Nat) (s : ByteArray) (vt : Value) (p : Nat) (ps : Wd) (tx : Bs) (q : Int) (w : World) (h : WSt w0 g s vt p ps tx 0 0 w) (hs : s.size ≤ 100000) (hp : p + 1 = s.size) :
    Calls Try.prog 97 #[ptr g, .int .i64 q] w fun r w' => r = .returned (.tuple #[]) ∧ WSt w0 g s vt s.size ps tx q 4 w' := by
  have H := Lib.hid h
  obtain ⟨vw, vx, h1, h2, h3, h4, h5, h6, h7⟩ := h
  have c0 : w.cell? ⟨g, 0, none⟩ = some (.string s) := h1.cell 0
  have c1 : w.cell? ⟨g, 1, none⟩ = some (.int .i64 p) := h1.cell 1
  have L1 : IntKind.i64.wrap ((p : Int) + 1) = (p : Int) + 1 := IntWalk.i64_in _ (by omega)
  have e1 : ((p : Int) + 1 == (s.size : Int)) = true := by simp; omega
  clear h1 h2 h3 h4 hp
  go_enter Try.func97, Try.ntmps97
  go_wp2
  go_quiet (fail)
  clear L1
  go_wp2_with fail
  refine (fail_any w0 g s vt p ps tx q 4 _ (H.out.drewN _) hs).mono ?_
  rintro e w1 ⟨rfl, k1⟩
  go_wp2
  refine bodyPost_ret (results_none rfl _ _ _) rfl ?_
  exact ⟨rfl, k1⟩
set_option maxRecDepth 100000 in
set_option maxHeartbeats 1000000 in
theorem scanEscape_any (w0 : World) (g : Nat) (s : ByteArray) (vt : Value) (p : Nat) (ps : Wd) (tx : Bs) (q : Int) (w : World) (h : WSt w0 g s vt p ps tx 0 0 w) (hs : s.size ≤ 100000) (hp : p + 1 < s.size) :
    Calls Try.prog 97 #[ptr g, .int .i64 q] w fun r w' => r = .returned (.tuple #[]) ∧ WSt w0 g s vt (p + 2) ps (tx ++ [b8 s (p + 1)]) 0 0 w' := by
  have H := Lib.hid h
  obtain ⟨vw, vx, h1, h2, h3, h4, h5, h6, h7⟩ := h
  have c0 : w.cell? ⟨g, 0, none⟩ = some (.string s) := h1.cell 0
  have c1 : w.cell? ⟨g, 1, none⟩ = some (.int .i64 p) := h1.cell 1
  have L1 : IntKind.i64.wrap ((p : Int) + 1) = (p : Int) + 1 := IntWalk.i64_in _ (by omega)
  have e1 : ((p : Int) + 1 == (s.size : Int)) = false := beq_false_of_ne (by omega)
  clear h1 h2 h3 h4
  obtain ⟨i0, hi, hz0, hz1, hz2⟩ := info_parts info5
  go_enter Try.func97, Try.ntmps97
  go_wp2
  go_quiet (fail)
  go_upto_region 2 with (fail)
  have h := H.out.drewN nq
  clear c0 c1 H vw vx
  generalize w.drewN nq = w at *
  obtain ⟨vw, vx, h1, h2, h3, h4, h5, h6, h7⟩ := h
  have H1 := Lib.hid h1
  have c0 : w.cell? ⟨g, 0, none⟩ = some (.string s) := h1.cell 0
  have c1 : w.cell? ⟨g, 1, none⟩ = some (.int .i64 p) := h1.cell 1
  have c4 : w.cell? ⟨g, 4, none⟩ = some vx := h1.cell 4
  have f4 := h1.frozen 4
  have hg : g < w.heap.size := h1.lt
  have hne := Lib.hid (own_blk_ne h3 h1 (by decide))
  obtain ⟨ax, cx, rfl, _⟩ := own_len h3
  have e2 : (0 : Int) ≤ (p : Int) + 1 := by omega
  have e3 : ((p : Int) + 1).toNat = p + 1 := by omega
  have e4 : (p : Int) + 1 < (s.size : Int) := by omega
  have hbt := bt_of s (p + 1) hp
  have hbase : w0.heap.size ≤ w.heap.size + 1 := by have := h4.size; omega
  clear h1
  go_region_law ((refine step_append_lies _ (by rfl) _ _ _ (by rfl) w0.heap.size 5 i0 _ 1 1 Try.underlying84 hi hz0 hz1 hz2 rfl (by omega) (.slice ax tx.length cx) tx.length (tx.map byV) (by rfl) ((h3.alloc _).drew) ⟨w.heap.size, 0, none⟩ 1 1 [.int .u8 (bt s (p + 1))] (by rfl) (by rfl) (World.news_of_block (cs := #[.int .u8 (bt s (p + 1))]) (t := 5) (fr := (0, 0)) (heap_alloc_new w _)) (by simp [Value.oneCell']) (by omega) (by unfold maxLen; omega) (by omega) (by simp; omega) (w.heap.size + 1) (by simp) ?_; intro gg cap w1 hown1 hgrow hat hlt; have B1 := Lib.hid (Blk.grown (Blk.drew (Blk.alloc H1.out _)) hgrow (Ne.symm hne.out)); have d1 : w1.cell? ⟨g, 1, none⟩ = some (.int .i64 p) := B1.out.cell 1; have d4 : w1.cell? ⟨g, 4, none⟩ = some (.slice ax tx.length cx) := B1.out.cell 4; have f4' := B1.out.frozen 4; have f1' := B1.out.frozen 1))
  all_goals
    have HW := Lib.hid (WSt.text (nt := [b8 s (p + 1)]) H1.out h2 h3 h4 h5 h7 (((Below.refl _ _).alloc (Nat.le_refl _) _).drew) hgrow (by rw [List.map_append, List.length_append]; exact hown1))
    clear hown1 hgrow c0 c1 c4 f4 L1 e1 e2 e3 e4 hbt
    go_wp2
    go_end0
    exact ⟨rfl, WSt.go HW.out.1 (by omega) (by simp; omega) (by omega)⟩
end Go.Proofs.Ytiddchpkmcncdaa
