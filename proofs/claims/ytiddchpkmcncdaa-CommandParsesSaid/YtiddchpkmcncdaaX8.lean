/- Walks of layer 41: scanQuoted. -/
import Derived.Test.YtiddchpkmcncdaaX7
import Derived.Test.YtiddchpkmcncdaaK2
namespace Go.Proofs.Ytiddchpkmcncdaa
open Go.RowKit
set_option linter.unusedSimpArgs false
set_option linter.unusedVariables false
/-- The scanner behind a part of a word. -/
def QPost (w0 : World) (g : Nat) (s : ByteArray) (vt : Value) (r : R (Wd × Bs × Nat)) (w : World) : Prop :=
  match r with
  | .ok (ps, tx, q) => WSt w0 g s vt q ps tx 0 0 w
  | .err q e => ∃ ps tx, WSt w0 g s vt s.size ps tx q e w
/-- What the loops keep: scanning goes on, or has failed. -/
def QRel (w0 : World) (g : Nat) (s : ByteArray) (vt : Value) (f : Nat → Wd → Bs → R (Wd × Bs × Nat)) (r : R (Wd × Bs × Nat)) (lo gk : Nat) (w : World) : Prop :=
  (∃ k ps tx, WSt w0 g s vt k ps tx 0 0 w ∧ lo ≤ k ∧ k ≤ s.size ∧ s.size + 1 ≤ gk + k ∧ r = f k ps tx) ∨ ∃ ps tx q e, WSt w0 g s vt s.size ps tx (q : Nat) e w ∧ e ≠ 0 ∧ r = .err q e
theorem QPost.ok {w0 : World} {g : Nat} {s : ByteArray} {vt : Value} {r : R (Wd × Bs × Nat)} {w : World} {ps : Wd} {tx : Bs} {q : Nat} (hr : r = .ok (ps, tx, q)) (h : WSt w0 g s vt q ps tx 0 0 w) : QPost w0 g s vt r w := by subst hr; exact h
theorem QPost.bad {w0 : World} {g : Nat} {s : ByteArray} {vt : Value} {r : R (Wd × Bs × Nat)} {w : World} {ps : Wd} {tx : Bs} {q : Nat} {e : Int} (hr : r = .err q e) (h : WSt w0 g s vt s.size ps tx q e w) : QPost w0 g s vt r w := by subst hr; exact ⟨ps, tx, h⟩
theorem wst_cells {w0 : World} {g : Nat} {s : ByteArray} {vt : Value} {p : Nat} {ps : Wd} {tx : Bs} {wh er : Int} {w : World} (h : WSt w0 g s vt p ps tx wh er w) : w.cell? ⟨g, 0, none⟩ = some (.string s) ∧ w.cell? ⟨g, 1, none⟩ = some (.int .i64 p) ∧ w.frozen? ⟨g, 1, none⟩ = false := by
  obtain ⟨vw, vx, h1, _⟩ := h
  exact ⟨h1.cell 0, h1.cell 1, h1.frozen 1⟩
set_option maxRecDepth 100000 in
set_option maxHeartbeats 8000000 in
theorem scanQuoted_any (w0 : World) (g : Nat) (s : ByteArray) (vt : Value) (p : Nat) (ps : Wd) (tx : Bs) (w : World) (h : WSt w0 g s vt p ps tx 0 0 w) (hs : s.size ≤ 100000) (hp : p < s.size) :
    Calls Try.prog 96 #[ptr g] w fun r w' => r = .returned (.tuple #[]) ∧ QPost w0 g s vt (quoP s (p + 1) p ps tx) w' := by
  have H := Lib.hid h
  obtain ⟨c0, c1, f1⟩ := wst_cells h
  have hb0 := h
  obtain ⟨_, _, _, _, _, _, _, h6, h7⟩ := hb0
  obtain ⟨i0, hi, hz0, hz1, hz2⟩ := info_parts info5
  clear h
  go_enter Try.func96, Try.ntmps96
  go_wp2
  clear c0 c1 f1
  go_loopg [17] (s.size + 1) (fun gk _ wr => QRel w0 g s vt (fun k ps tx => quoP s k p ps tx) (quoP s (p + 1) p ps tx) (p + 1) gk wr)
  case atStart => exact .inl ⟨p + 1, ps, tx, WSt.go (WSt.one H.out) (by omega) (by omega) (by omega), Nat.le_refl _, hp, by omega, rfl⟩
  case round =>
    rcases hrel with ⟨k, ps1, tx1, hw, hk0, hk, hgk, hr⟩ | ⟨ps1, tx1, q, e0, hw, he, hr⟩
    · have HR := Lib.hid hr
      have HW := Lib.hid hw
      obtain ⟨c0, c1, f1⟩ := wst_cells hw
      have hb1 := hw
      obtain ⟨_, _, _, _, _, _, _, g6, g7⟩ := hb1
      clear hw hr
      by_cases hlt : k < s.size
      · have HR2 := Lib.hid (HR.out.trans (quoP_cons s k p ps1 tx1 hlt))
        have hb := bt_of s k hlt
        clear HR
        by_cases q1 : bt s k = 34
        · have HR3 := Lib.hid (HR2.out.trans (if_pos q1))
          have t1 : (bt s k == 34) = true := by simpa using q1
          clear HR2 q1
          go_wp2
          go_quiet (fail)
          go_wp2
          go_quiet (fail)
          go_wp2
          refine bodyPost_ret (results_none rfl _ _ _) rfl ⟨rfl, QPost.ok HR3.out ?_⟩
          exact WSt.go (WSt.one (HW.out.drewN _)) (by omega) (by omega) (by omega)
        have t1 : (bt s k == 34) = false := by simpa using q1
        have HR3 := Lib.hid (HR2.out.trans (if_neg q1))
        clear HR2 q1
        by_cases q2 : bt s k = 92
        · have HR4 := Lib.hid (HR3.out.trans (if_pos q2))
          have t2 : (bt s k == 92) = true := by simpa using q2
          clear HR3 q2
          by_cases q3 : k + 1 = s.size
          · have HR5 := Lib.hid (HR4.out.trans (if_pos q3))
            go_wp2
            go_quiet (fail)
            go_wp2
            go_quiet (fail)
            go_wp2_with fail
            refine (scanEscape_end w0 g s vt k ps1 tx1 p _ (HW.out.drewN _) hs q3).mono ?_
            rintro e w1 ⟨rfl, k1⟩
            clear c0 c1 f1 hb
            go_wp2
            go_roundg (gk - 1)
            case rel => exact .inr ⟨ps1, tx1, p, 4, k1, by decide, HR5.out⟩
            case measure => omega
          · have HR5 := Lib.hid (HR4.out.trans (if_neg q3))
            go_wp2
            go_quiet (fail)
            go_wp2
            go_quiet (fail)
            go_wp2_with fail
            refine (scanEscape_any w0 g s vt k ps1 tx1 p _ (HW.out.drewN _) hs (by omega)).mono ?_
            rintro e w1 ⟨rfl, k1⟩
            clear c0 c1 f1 hb
            go_wp2
            go_roundg (gk - 1)
            case rel => exact .inl ⟨k + 2, ps1, _, k1, by omega, by omega, by omega, HR5.out⟩
            case measure => omega
        have t2 : (bt s k == 92) = false := by simpa using q2
        have HR4 := Lib.hid (HR3.out.trans (if_neg q2))
        clear HR3 q2
        by_cases q3 : bt s k = 36
        · have HR5 := Lib.hid (HR4.out.trans (if_pos q3))
          have t3 : (bt s k == 36) = true := by simpa using q3
          have hnl := nm_le s (k + 1)
          clear HR4 q3
          by_cases q4 : isVarS (nmS s (k + 1)) = true
          · have HR6 := Lib.hid (HR5.out.trans (if_pos q4))
            have HQ4 := Lib.hid q4
            clear q4
            go_wp2
            go_quiet (fail)
            go_wp2
            go_quiet (fail)
            go_wp2_with fail
            refine (scanVariable_yes w0 g s vt k ps1 tx1 true _ (HW.out.drewN _) hs hlt HQ4.out).mono ?_
            rintro e w1 ⟨rfl, k1⟩
            clear c0 c1 f1 hb
            go_wp2
            go_roundg (gk - 1)
            case rel => exact .inl ⟨_, _, _, k1, by omega, by omega, by omega, HR6.out⟩
            case measure => omega
          · have HR6 := Lib.hid (HR5.out.trans (if_neg q4))
            have HQ4 := Lib.hid (show isVarS (nmS s (k + 1)) = false by simpa using q4)
            clear q4
            go_wp2
            go_quiet (fail)
            go_wp2
            go_quiet (fail)
            go_wp2_with fail
            refine (scanVariable_no w0 g s vt k ps1 tx1 true _ (HW.out.drewN _) hs hlt HQ4.out).mono ?_
            rintro e w1 ⟨rfl, k1⟩
            clear c0 c1 f1 hb
            go_wp2
            go_roundg (gk - 1)
            case rel => exact .inr ⟨ps1, tx1, k, 3, k1, by decide, HR6.out⟩
            case measure => omega
        have t3 : (bt s k == 36) = false := by simpa using q3
        have HR5 := Lib.hid (HR4.out.trans (if_neg q3))
        clear HR4 q3
        go_wp2
        go_quiet (fail)
        have HA := Lib.hid (HW.out.drewN nq)
        clear HW c0 c1 f1
        generalize wr.drewN nq = wa at *
        obtain ⟨c0, c1, f1⟩ := wst_cells HA.out
        go_wp2
        go_quiet (fail)
        have HB := Lib.hid (HA.out.drewN nq)
        clear HA c0 c1 f1
        generalize wa.drewN nq = wb at *
        go_upto_region 4 with (fail)
        obtain ⟨vw, vx, h1, h2, h3, h4, h5, h6', h7'⟩ := HB.out
        have H1 := Lib.hid h1
        have c0 : wb.cell? ⟨g, 0, none⟩ = some (.string s) := h1.cell 0
        have c1 : wb.cell? ⟨g, 1, none⟩ = some (.int .i64 k) := h1.cell 1
        have c4 : wb.cell? ⟨g, 4, none⟩ = some vx := h1.cell 4
        have f4 := h1.frozen 4
        have hg : g < wb.heap.size := h1.lt
        have hne := Lib.hid (own_blk_ne h3 h1 (by decide))
        obtain ⟨ax, cx, rfl, _⟩ := own_len h3
        have hbase : w0.heap.size ≤ wb.heap.size + 1 := by have := h4.size; omega
        have e4 : (k : Int) < (s.size : Int) := by omega
        have e5 : (0 : Int) ≤ (k : Int) := by omega
        clear h1
        go_region_law ((refine step_append_lies _ (by rfl) _ _ _ (by rfl) w0.heap.size 5 i0 _ 1 1 Try.underlying84 hi hz0 hz1 hz2 rfl (by omega) (.slice ax tx1.length cx) tx1.length (tx1.map byV) (by rfl) ((h3.alloc _).drew) ⟨wb.heap.size, 0, none⟩ 1 1 [.int .u8 (bt s k)] (by rfl) (by rfl) (World.news_of_block (cs := #[.int .u8 (bt s k)]) (t := 5) (fr := (0, 0)) (heap_alloc_new wb _)) (by simp [Value.oneCell']) (by omega) (by unfold maxLen; omega) (by omega) (by simp; omega) (wb.heap.size + 1) (by simp) ?_; intro gg cap w1 hown1 hgrow hat hlt1; have B1 := Lib.hid (Blk.grown (Blk.drew (Blk.alloc H1.out _)) hgrow (Ne.symm hne.out)); have d1 : w1.cell? ⟨g, 1, none⟩ = some (.int .i64 k) := B1.out.cell 1; have d4 : w1.cell? ⟨g, 4, none⟩ = some (.slice ax tx1.length cx) := B1.out.cell 4; have f4' := B1.out.frozen 4; have f1' := B1.out.frozen 1))
        all_goals
          have HW := Lib.hid (WSt.text (nt := [b8 s k]) H1.out h2 h3 h4 h5 h7' (((Below.refl _ _).alloc (Nat.le_refl _) _).drew) hgrow (by rw [List.map_append, List.length_append]; exact hown1))
          clear hown1 hgrow c0 c1 c4 f4 e4 e5 hb
          go_wp2
          go_roundg (gk - 1)
          case rel => exact .inl ⟨k + 1, _, _, WSt.go HW.out.1 (by omega) (by simp; omega) (by omega), by omega, by omega, by omega, HR5.out⟩
          case measure => omega
      · obtain rfl : k = s.size := by omega
        have HR2 := Lib.hid (HR.out.trans (quoP_end s s.size p ps1 tx1 (Nat.le_refl _)))
        go_wp2
        go_quiet (fail)
        go_wp2_with fail
        refine (fail_any w0 g s vt s.size ps1 tx1 p 4 _ (HW.out.drewN _) hs).mono ?_
        rintro e w1 ⟨rfl, k1⟩
        go_wp2
        go_end0
        exact ⟨rfl, QPost.bad HR2.out k1⟩
    · have HR := Lib.hid hr
      have HW := Lib.hid hw
      obtain ⟨c0, c1, f1⟩ := wst_cells hw
      clear hw hr
      go_wp2
      go_quiet (fail)
      go_wp2_with fail
      refine (fail_again w0 g s vt s.size ps1 tx1 q e0 p 4 _ (HW.out.drewN _) he hs).mono ?_
      rintro e w1 ⟨rfl, k1⟩
      go_wp2
      go_end0
      exact ⟨rfl, QPost.bad HR.out k1⟩
end Go.Proofs.Ytiddchpkmcncdaa
