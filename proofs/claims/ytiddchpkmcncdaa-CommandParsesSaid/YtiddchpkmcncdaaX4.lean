/- Walks of layer 41: fail, flush. -/
import Derived.Test.YtiddchpkmcncdaaM1
namespace Go.Proofs.Ytiddchpkmcncdaa
open Go.RowKit
set_option linter.unusedSimpArgs false
set_option linter.unusedVariables false
abbrev ptr (g : Nat) : Value := .pointer (some ⟨g, 0, none⟩)
theorem blk_cast {w : World} {g : Nat} {t : TypeId} {cs cs' : Array Value} (h : Blk w g t cs) (e : cs = cs') : Blk w g t cs' := e ▸ h
/-- The same without the bound on the pieces. -/
def WSt1 (w0 : World) (g : Nat) (s : ByteArray) (vt : Value) (p : Nat) (ps : Wd) (tx : Bs) (wh er : Int) (w : World) : Prop :=
  ∃ vw vx, Blk w g 86 (scC s p vt vw vx wh er) ∧ w.ownsRow w0.heap.size 61 3 vw ps.length (pcC ps) ∧ w.ownsRow w0.heap.size 5 1 vx tx.length (tx.map byV) ∧ w0.grownBy w (some g) ∧ g < w0.heap.size ∧ p ≤ s.size
theorem WSt.one {w0 : World} {g : Nat} {s : ByteArray} {vt : Value} {p : Nat} {ps : Wd} {tx : Bs} {wh er : Int} {w : World} (h : WSt w0 g s vt p ps tx wh er w) : WSt1 w0 g s vt p ps tx wh er w := by
  obtain ⟨vw, vx, h1, h2, h3, h4, h5, _, h7⟩ := h
  exact ⟨vw, vx, h1, h2, h3, h4, h5, h7⟩
/-- Behind stores into the scanner alone. -/
theorem WSt.set {w0 : World} {g : Nat} {s : ByteArray} {vt : Value} {p' : Nat} {ps : Wd} {tx : Bs} {wh' er' : Int} {w w' : World} {vw vx : Value}
    (h2 : w.ownsRow w0.heap.size 61 3 vw ps.length (pcC ps)) (h3 : w.ownsRow w0.heap.size 5 1 vx tx.length (tx.map byV)) (h4 : w0.grownBy w (some g)) (h5 : g < w0.heap.size) (hk : w.grownBy w' (some g))
    (h1 : Blk w' g 86 (scC s p' vt vw vx wh' er')) (h6 : ps.length + tx.length ≤ p') (h7 : p' ≤ s.size) : WSt w0 g s vt p' ps tx wh' er' w' :=
  ⟨vw, vx, h1, h2.kept hk (.inr (fun e => by have := own_ge h2 e; omega)), h3.kept hk (.inr (fun e => by have := own_ge h3 e; omega)), grown_trans h4 hk, h5, h6, h7⟩
/-- A piece is appended. -/
theorem WSt.word {w0 : World} {g : Nat} {s : ByteArray} {vt : Value} {p : Nat} {ps : Wd} {tx : Bs} {wh er : Int} {w W w1 : World} {vw vx v' : Value} {pc : Pc}
    (h1 : Blk w g 86 (scC s p vt vw vx wh er)) (h2 : w.ownsRow w0.heap.size 61 3 vw ps.length (pcC ps)) (h3 : w.ownsRow w0.heap.size 5 1 vx tx.length (tx.map byV)) (h4 : w0.grownBy w (some g)) (h5 : g < w0.heap.size) (h7 : p ≤ s.size)
    (hb : Below w.heap.size w W) (hk : W.grownBy w1 vw.ownBlock) (hown : w1.ownsRow w0.heap.size 61 3 v' (ps ++ [pc]).length (pcC (ps ++ [pc]))) :
    WSt1 w0 g s vt p (ps ++ [pc]) tx wh er (w1.setCell ⟨g, 3, none⟩ v') ∧ Blk w1 g 86 (scC s p vt vw vx wh er) := by
  have n1 := own_blk_ne h2 h1 (by decide)
  have hB : Blk w1 g 86 (scC s p vt vw vx wh er) := Blk.grown (h1.next hb h1.lt) hk (Ne.symm n1)
  have hg1 : w1.grownBy (w1.setCell ⟨g, 3, none⟩ v') (some g) := only_setCell (p := ⟨g, 3, none⟩) (World.grownBy.refl _ _) (.inl rfl) _
  have h3' : w1.ownsRow w0.heap.size 5 1 vx tx.length (tx.map byV) := (own_next h3 hb).kept hk (own_ne h3 h2 (by decide))
  refine ⟨⟨v', vx, blk_cast (hB.set_ 3 _) rfl, hown.kept hg1 (.inr (fun e => by have := own_ge hown e; omega)), h3'.kept hg1 (.inr (fun e => by have := own_ge h3' e; omega)), ?_, h5, h7⟩, hB⟩
  have a1 : w0.grownBy W (some g) := grown_trans h4 (only_of_below hb _)
  exact grown_trans (only_row a1 hk (fun i e => own_ge h2 e)) hg1
theorem WSt.clear {w0 : World} {g : Nat} {s : ByteArray} {vt : Value} {p : Nat} {ps : Wd} {tx : Bs} {wh er : Int} {w : World} (h : WSt1 w0 g s vt p ps tx wh er w) (hl : ps.length ≤ p) : WSt w0 g s vt p ps [] wh er (w.setCell ⟨g, 4, none⟩ (.slice none 0 0)) := by
  obtain ⟨vw, vx, h1, h2, h3, h4, h5, h7⟩ := h
  have hg1 : w.grownBy (w.setCell ⟨g, 4, none⟩ (.slice none 0 0)) (some g) := only_setCell (p := ⟨g, 4, none⟩) (World.grownBy.refl _ _) (.inl rfl) _
  exact ⟨vw, _, blk_cast (h1.set_ 4 _) rfl, h2.kept hg1 (.inr (fun e => by have := own_ge h2 e; omega)), World.ownsRow_nil _ _ _ _, grown_trans h4 hg1, h5, by simpa using hl, h7⟩
set_option maxRecDepth 100000 in
theorem fail_any (w0 : World) (g : Nat) (s : ByteArray) (vt : Value) (p : Nat) (ps : Wd) (tx : Bs) (q e : Int) (w : World) (h : WSt w0 g s vt p ps tx 0 0 w) (hs : s.size ≤ 100000) :
    Calls Try.prog 109 #[ptr g, .int .i64 q, .int .i64 e] w fun r w' => r = .returned (.tuple #[]) ∧ WSt w0 g s vt s.size ps tx q e w' := by
  obtain ⟨vw, vx, h1, h2, h3, h4, h5, h6, h7⟩ := h
  have H1 := Lib.hid h1
  have c0 : w.cell? ⟨g, 0, none⟩ = some (.string s) := h1.cell 0
  have c1 : w.cell? ⟨g, 1, none⟩ = some (.int .i64 p) := h1.cell 1
  have c5 : w.cell? ⟨g, 5, none⟩ = some (.int .i64 0) := h1.cell 5
  have c6 : w.cell? ⟨g, 6, none⟩ = some (.int .i64 0) := h1.cell 6
  have f1 := h1.frozen 1
  have f5 := h1.frozen 5
  have f6 := h1.frozen 6
  clear h1
  go_enter Try.func109, Try.ntmps109
  go_wp2
  go_end0
  refine ⟨rfl, WSt.set h2 h3 h4 h5 ?_ ?_ (by omega) (Nat.le_refl _)⟩
  · exact only_setCell (p := ⟨g, 1, none⟩) (only_setCell (p := ⟨g, 6, none⟩) (only_setCell (p := ⟨g, 5, none⟩) (World.grownBy.refl _ _) (.inl rfl) _) (.inl rfl) _) (.inl rfl) _
  · exact blk_cast (((H1.out.set_ 5 _).set_ 6 _).set_ 1 _) rfl
set_option maxRecDepth 100000 in
theorem fail_again (w0 : World) (g : Nat) (s : ByteArray) (vt : Value) (p : Nat) (ps : Wd) (tx : Bs) (wh er q e : Int) (w : World) (h : WSt w0 g s vt p ps tx wh er w) (he : er ≠ 0) (hs : s.size ≤ 100000) :
    Calls Try.prog 109 #[ptr g, .int .i64 q, .int .i64 e] w fun r w' => r = .returned (.tuple #[]) ∧ WSt w0 g s vt s.size ps tx wh er w' := by
  obtain ⟨vw, vx, h1, h2, h3, h4, h5, h6, h7⟩ := h
  have H1 := Lib.hid h1
  have c0 : w.cell? ⟨g, 0, none⟩ = some (.string s) := h1.cell 0
  have c1 : w.cell? ⟨g, 1, none⟩ = some (.int .i64 p) := h1.cell 1
  have c6 : w.cell? ⟨g, 6, none⟩ = some (.int .i64 er) := h1.cell 6
  have he' : (er == 0) = false := by simpa using he
  have f1 := h1.frozen 1
  clear h1 he
  go_enter Try.func109, Try.ntmps109
  go_wp2
  go_end0
  refine ⟨rfl, WSt.set h2 h3 h4 h5 ?_ ?_ (by omega) (Nat.le_refl _)⟩
  · exact only_setCell (World.grownBy.refl _ _) (.inl rfl) _
  · exact blk_cast (H1.out.set_ 1 _) rfl
set_option maxRecDepth 100000 in
theorem flush_any (w0 : World) (g : Nat) (s : ByteArray) (vt : Value) (p : Nat) (ps : Wd) (tx : Bs) (wh er : Int) (w : World) (h : WSt w0 g s vt p ps tx wh er w) (hs : s.size ≤ 100000) :
    Calls Try.prog 99 #[ptr g] w fun r w' => r = .returned (.tuple #[]) ∧ WSt w0 g s vt p (flS ps tx) [] wh er w' := by
  obtain ⟨vw, vx, h1, h2, h3, h4, h5, h6, h7⟩ := h
  have H1 := Lib.hid h1
  have c3 : w.cell? ⟨g, 3, none⟩ = some vw := h1.cell 3
  have c4 : w.cell? ⟨g, 4, none⟩ = some vx := h1.cell 4
  have f3 := h1.frozen 3
  have f4 := h1.frozen 4
  have hg : g < w.heap.size := h1.lt
  obtain ⟨av, cv, rfl, _⟩ := own_len h2
  obtain ⟨ax, cx, rfl, _⟩ := own_len h3
  clear h1
  cases tx with
  | nil =>
    have HW := Lib.hid (WSt.clear (⟨_, _, H1.out, h2, h3, h4, h5, h7⟩ : WSt1 w0 g s vt p ps [] wh er w) (by simpa using h6))
    go_enter Try.func99, Try.ntmps99
    go_wp2
    go_end0
    exact ⟨rfl, HW.out⟩
  | cons b tx' =>
    have htx := own_text h3.drew
    have hpos : 0 < (b :: tx').length := by simp
    have HF := Lib.hid (show flS ps (b :: tx') = ps ++ [lit (b :: tx')] from rfl)
    generalize b :: tx' = tx at *
    obtain ⟨i0, hi, hz0, hz1, hz2⟩ := info_parts info61
    go_enter Try.func99, Try.ntmps99
    go_wp2
    have hne := Lib.hid (own_blk_ne h2 H1.out (by decide))
    have hbase : w0.heap.size ≤ w.heap.size + 1 := by have := h4.size; omega
    go_region_law ((refine step_append_lies _ (by rfl) _ _ _ (by rfl) w0.heap.size 61 i0 _ 3 24 Try.underlying42 hi hz0 hz1 hz2 rfl (by omega) (.slice av ps.length cv) ps.length (pcC ps) (by rfl) ((h2.alloc _).drew) ⟨w.heap.size, 0, none⟩ 1 1 [.string (bs tx), .bool false, .bool false] (by rfl) (by rfl) (World.news_of_block (cs := #[.string (bs tx), .bool false, .bool false]) (t := 61) (fr := (0, 0)) (heap_alloc_new w _)) (by simp [Value.oneCell']) (by omega) (by unfold maxLen; omega) (by omega) (by simp; omega) (w.heap.size + 1) (by simp) ?_; intro gg cap w1 hown1 hgrow hat hlt; have B1 := Lib.hid (Blk.grown (Blk.drew (Blk.alloc H1.out _)) hgrow (Ne.symm hne.out)); have d3 : w1.cell? ⟨g, 3, none⟩ = some (.slice av ps.length cv) := B1.out.cell 3; have d4 : w1.cell? ⟨g, 4, none⟩ = some (.slice ax tx.length cx) := B1.out.cell 4; have e3 := B1.out.frozen 3; have e4 := B1.out.frozen 4))
    all_goals
      have HW := Lib.hid (WSt.word (pc := lit tx) H1.out h2 h3 h4 h5 h7 (((Below.refl _ _).alloc (Nat.le_refl _) _).drew) hgrow (by rw [pcC_snoc, List.length_append]; exact hown1))
      clear hown1 hgrow htx c3 c4 f3 f4
      go_wp2
      go_end0
      exact ⟨rfl, by rw [HF.out]; exact WSt.clear HW.out.1 (by simp; omega)⟩
end Go.Proofs.Ytiddchpkmcncdaa
