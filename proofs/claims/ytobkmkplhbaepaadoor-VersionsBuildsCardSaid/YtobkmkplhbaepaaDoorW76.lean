/- Walks of layer 46: Versions.Action. -/
import Derived.Test.YtobkmkplhbaepaaDoorGQ
namespace Go.Proofs.YtobkmkplhbaepaaDoor
open Go.RowKit
set_option linter.unusedSimpArgs false
set_option linter.unusedVariables false
attribute [local go_sem ↓] Go.wp_at_zero Go.wp_at_succ
theorem set6 (w : World) (g : Nat) (a b c d e f : Value) : w.grownBy ((((((w.setCell ⟨g, 0, none⟩ a).setCell ⟨g, 1, none⟩ b).setCell ⟨g, 2, none⟩ c).setCell ⟨g, 3, none⟩ d).setCell ⟨g, 4, none⟩ e).setCell ⟨g, 5, none⟩ f) (some g) := by
  have h := fun (W : World) (j : Nat) (v : Value) => (show W.grownBy (W.setCell ⟨g, j, none⟩ v) (some g) from only_setCell (only_of_below (Below.refl _ _) _) (.inl rfl) v)
  exact grown_trans (h _ _ _) (grown_trans (h _ _ _) (grown_trans (h _ _ _) (grown_trans (h _ _ _) (grown_trans (h _ _ _) (h _ _ _)))))
/-- What Action answers. -/
def AcnP (l : List Ac) (t : Int) (w : World) (e : Ending) (w' : World) : Prop :=
  Below w.heap.size w w' ∧ ((∃ (n : Nat) (h : n < l.length) (P1 P2 : Option Addr) (k1 k2 : Nat), t = (n : Int) ∧ NAc w' (.slice P1 l[n].reads.length k1, .slice P2 l[n].writes.length k2) l[n] ∧ e = .returned (.tuple #[acV l[n] (.slice P1 l[n].reads.length k1, .slice P2 l[n].writes.length k2), .int .i64 0])) ∨
    (¬ (0 ≤ t ∧ t < (l.length : Int)) ∧ e = .returned (.tuple #[.agg #[.int .i64 0, .int .i64 0, .int .i64 0, .string ⟨#[]⟩, .slice none 0 0, .slice none 0 0], .int .i64 2])))
set_option maxRecDepth 100000 in
set_option maxHeartbeats 2000000 in
theorem action_is {w : World} {F : Nat → Prop} {g : Nat} {s0 : St} {l : List Ac} (t : Int) (hv : VAt w F g s0 l) (ho : VOk l) : Calls Tryd.prog 19 #[.pointer (some ⟨g, 0, none⟩), .int .i64 t] w (AcnP l t w) := by
  have hba := (Below.refl w.heap.size w).alloc (Nat.le_refl _) (.cells #[.int .i64 0, .int .i64 0, .int .i64 0, .string ⟨#[]⟩, .slice none 0 0, .slice none 0 0] 50)
  obtain ⟨pb, va, vk, pl, bw, br, iv⟩ := hv.next hba
  obtain ⟨B, rfl⟩ : ∃ B, pb = some ⟨B, 0, none⟩ := by obtain ⟨B, _, _, e, _⟩ := id iv.base; exact ⟨B, e⟩
  obtain ⟨_, _, hoa⟩ := id iv.act
  obtain ⟨Aa, ca, rfl, hca⟩ := own_len hoa
  have HRD := Lib.hid (show RdAc (w.alloc (.cells #[.int .i64 0, .int .i64 0, .int .i64 0, .string ⟨#[]⟩, .slice none 0 0, .slice none 0 0] 50)) (.slice Aa l.length ca) l from RowOwn.rd iv.act)
  have z0 := iv.blk.cell 0
  have z1 := iv.blk.cell 1
  have zb := Blk.new w 50 #[.int .i64 0, .int .i64 0, .int .i64 0, .string ⟨#[]⟩, .slice none 0 0, .slice none 0 0]
  have hcb := zb.lt
  have r0 := zb.cell 0
  have f0 := zb.frozen 0
  have r1 := zb.cell 1
  have f1 := zb.frozen 1
  have r2 := zb.cell 2
  have f2 := zb.frozen 2
  have r3 := zb.cell 3
  have f3 := zb.frozen 3
  have r4 := zb.cell 4
  have f4 := zb.frozen 4
  have r5 := zb.cell 5
  have f5 := zb.frozen 5
  simp only [List.getElem?_toArray, List.getElem?_cons_zero, List.getElem?_cons_succ] at z0 z1 r0 r1 r2 r3 r4 r5
  have HZB := Lib.hid zb
  have HBA := Lib.hid hba
  have HR := Lib.hid ho.r
  have hll := ho.len
  clear hv iv hoa zb hba ho
  by_cases h1 : t < 0
  · have e1 : decide (t < 0) = true := decide_eq_true h1
    have HN : Hid (¬ (0 ≤ t ∧ t < (l.length : Int))) := Lib.hid (by omega)
    clear h1
    go_enter Tryd.func19, Tryd.ntmps19
    go_wp2_with (go_at_call 40; refine (none_is z0).mono ?_; rintro e w' ⟨rfl, rfl⟩)
    exact bodyPost_ret (v := .tuple #[.agg #[.int .i64 0, .int .i64 0, .int .i64 0, .string ⟨#[]⟩, .slice none 0 0, .slice none 0 0], .int .i64 2]) (by simp [results, Tryd.results19, go_sem, r0, r1, r2, r3, r4, r5]) rfl ⟨by first | exact HBA.out | exact ((((((HBA.out.setCell (p := ⟨w.heap.size, 0, none⟩) (Nat.le_refl _) _).setCell (p := ⟨w.heap.size, 1, none⟩) (Nat.le_refl _) _).setCell (p := ⟨w.heap.size, 2, none⟩) (Nat.le_refl _) _).setCell (p := ⟨w.heap.size, 3, none⟩) (Nat.le_refl _) _).setCell (p := ⟨w.heap.size, 4, none⟩) (Nat.le_refl _) _).setCell (p := ⟨w.heap.size, 5, none⟩) (Nat.le_refl _) _), .inr ⟨HN.out, rfl⟩⟩
  · have e1 : decide (t < 0) = false := decide_eq_false h1
    obtain ⟨n, rfl⟩ := Int.eq_ofNat_of_zero_le (show 0 ≤ t by omega)
    by_cases h2 : n < l.length
    · have e2 : decide ((l.length : Int) ≤ (n : Int)) = false := decide_eq_false (by omega)
      have j1 : (0 : Int) ≤ (n : Int) := by omega
      have j2 : (n : Int) < (l.length : Int) := by omega
      obtain ⟨b, o, u1, u2, hbe, hbr, m1, m2, x0, x1, x2, x3, x4, x5⟩ := RdAc.piece HRD.out h2
      subst hbe
      obtain ⟨a, ha⟩ : ∃ a, l[n] = a := ⟨_, rfl⟩
      have har := HR.out _ (List.getElem_mem h2)
      rw [ha] at m1 m2 x0 x1 x2 x3 har
      have HA := Lib.hid ha
      have HNA := Lib.hid (show NAc (w.alloc (.cells #[.int .i64 0, .int .i64 0, .int .i64 0, .string ⟨#[]⟩, .slice none 0 0, .slice none 0 0] 50)) (u1, u2) a from ⟨m1, m2⟩)
      have HL := Lib.hid (show a.reads.length ≤ 100 ∧ a.writes.length ≤ 100 from ⟨Nat.le_trans har.2.2.2.1 (by omega), Nat.le_trans har.2.2.2.2 (by omega)⟩)
      clear h1 ha har m1 m2
      go_enter Tryd.func19, Tryd.ntmps19
      go_upto_region 5 with (go_at_call 40; refine (none_is z0).mono ?_; rintro e w' ⟨rfl, rfl⟩)
      generalize w.alloc (.cells #[.int .i64 0, .int .i64 0, .int .i64 0, .string ⟨#[]⟩, .slice none 0 0, .slice none 0 0] 50) = W at *
      obtain ⟨cb, hcbe⟩ : ∃ cb, w.heap.size = cb := ⟨_, rfl⟩
      have HCB := Lib.hid hcbe
      rw [hcbe] at r0 r1 r2 r3 r4 r5 HZB hcb ⊢
      clear hcbe f0 f1 f2 f3 f4 f5
      go_wp2_with (go_at_call 45; refine (copied_is (a := a) (u := (u1, u2)) HNA.out HL.out.1 HL.out.2).mono ?_; rintro e w6 ⟨⟨y1, y2⟩, rfl, hn6, hb6⟩; obtain ⟨P1, k1, rfl, _⟩ := RdP.form hn6.1; obtain ⟨P2, k2, rfl, _⟩ := RdP.form hn6.2; (try simp only [acV]); have HN6 := Lib.hid hn6; have HB6 := Lib.hid (HBA.out.trans (hb6.mono HBA.out.size)); have HZ6 := Lib.hid (HZB.out.next hb6 hcb); replace r0 := (hb6.cell (p := ⟨cb, 0, none⟩) hcb).trans r0; have f0 := HZ6.out.frozen 0; replace r1 := (hb6.cell (p := ⟨cb, 1, none⟩) hcb).trans r1; have f1 := HZ6.out.frozen 1; replace r2 := (hb6.cell (p := ⟨cb, 2, none⟩) hcb).trans r2; have f2 := HZ6.out.frozen 2; replace r3 := (hb6.cell (p := ⟨cb, 3, none⟩) hcb).trans r3; have f3 := HZ6.out.frozen 3; replace r4 := (hb6.cell (p := ⟨cb, 4, none⟩) hcb).trans r4; have f4 := HZ6.out.frozen 4; replace r5 := (hb6.cell (p := ⟨cb, 5, none⟩) hcb).trans r5; have f5 := HZ6.out.frozen 5;  clear hn6 hb6)
      have HNX := Lib.hid (NAc.keep (Kept.of_blk [50] HZ6.out (set6 w6 cb (.int .i64 a.key.tick) (.int .i64 a.key.cls) (.int .i64 a.key.num) (.string (bs a.key.lin)) (.slice P1 a.reads.length k1) (.slice P2 a.writes.length k2)) rfl) rfl HN6.out)
      exact bodyPost_ret (v := .tuple #[.agg #[.int .i64 a.key.tick, .int .i64 a.key.cls, .int .i64 a.key.num, .string (bs a.key.lin), .slice P1 a.reads.length k1, .slice P2 a.writes.length k2], .int .i64 0]) (by simp [results, Tryd.results19, go_sem, r0, r1, r2, r3, r4, r5]) rfl ⟨by rw [← HCB.out]; exact ((((((HB6.out.setCell (p := ⟨w.heap.size, 0, none⟩) (Nat.le_refl _) _).setCell (p := ⟨w.heap.size, 1, none⟩) (Nat.le_refl _) _).setCell (p := ⟨w.heap.size, 2, none⟩) (Nat.le_refl _) _).setCell (p := ⟨w.heap.size, 3, none⟩) (Nat.le_refl _) _).setCell (p := ⟨w.heap.size, 4, none⟩) (Nat.le_refl _) _).setCell (p := ⟨w.heap.size, 5, none⟩) (Nat.le_refl _) _), .inl ⟨n, h2, P1, P2, k1, k2, rfl, by rw [HA.out]; exact HNX.out, by rw [HA.out]; rfl⟩⟩
    · have e2 : decide ((l.length : Int) ≤ (n : Int)) = true := decide_eq_true (by omega)
      have HN : Hid (¬ (0 ≤ (n : Int) ∧ (n : Int) < (l.length : Int))) := Lib.hid (by omega)
      clear h1
      go_enter Tryd.func19, Tryd.ntmps19
      go_wp2_with (go_at_call 40; refine (none_is z0).mono ?_; rintro e w' ⟨rfl, rfl⟩)
      exact bodyPost_ret (v := .tuple #[.agg #[.int .i64 0, .int .i64 0, .int .i64 0, .string ⟨#[]⟩, .slice none 0 0, .slice none 0 0], .int .i64 2]) (by simp [results, Tryd.results19, go_sem, r0, r1, r2, r3, r4, r5]) rfl ⟨by first | exact HBA.out | exact ((((((HBA.out.setCell (p := ⟨w.heap.size, 0, none⟩) (Nat.le_refl _) _).setCell (p := ⟨w.heap.size, 1, none⟩) (Nat.le_refl _) _).setCell (p := ⟨w.heap.size, 2, none⟩) (Nat.le_refl _) _).setCell (p := ⟨w.heap.size, 3, none⟩) (Nat.le_refl _) _).setCell (p := ⟨w.heap.size, 4, none⟩) (Nat.le_refl _) _).setCell (p := ⟨w.heap.size, 5, none⟩) (Nat.le_refl _) _), .inr ⟨HN.out, rfl⟩⟩
end Go.Proofs.YtobkmkplhbaepaaDoor
