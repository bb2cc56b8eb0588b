/- Walks of layer 46: changes. -/
import Derived.Test.YtobkmkplhbaepaaDoorGV
import Derived.Test.YtobkmkplhbaepaaDoorGO
import Derived.Test.YtobkmkplhbaepaaDoorGM
import Derived.Deep.DeepCutAuto
import Derived.Test.YtobkmkplhbaepaaDoorGS
import Derived.Test.YtobkmkplhbaepaaDoorGA
import Derived.Test.YtobkmkplhbaepaaDoorGB
namespace Go.Proofs.YtobkmkplhbaepaaDoor
open Go.RowKit
set_option linter.unusedSimpArgs false
set_option linter.unusedVariables false
attribute [local go_sem ↓] Go.wp_at_zero Go.wp_at_succ
def ChgOut (l : List It) (v : Value) (w : World) (i : Nat) (v3 : Value) (wr : World) : Prop :=
  OwnP 52 7 chC wr w.heap.size v3 (chUp l i) ∧ Below w.heap.size w wr ∧ RaIt w.heap.size wr v l
def ChgRel (l : List It) (v : Value) (w : World) (v3 i : Value) (wr : World) : Prop := ∃ k : Nat, k ≤ 6 ∧ i = .int .i64 k ∧ ChgOut l v w k v3 wr
def ChgIn (l : List It) (v : Value) (w : World) (i : Nat) (v3 k : Value) (wr : World) : Prop := ∃ q : Nat, q ≤ l.length ∧ q ≤ 10 ∧ k = .int .i64 q ∧ (∀ j (hj : j < l.length), j < q → hit i l[j] = false) ∧ ChgOut l v w i v3 wr
theorem ChgOut.next {l : List It} {v : Value} {w w1 w2 : World} {i : Nat} {v3 : Value} (h : ChgOut l v w i v3 w1) (hb : Below w1.heap.size w1 w2) : ChgOut l v w i v3 w2 :=
  ⟨OwnP.next h.1 hb, h.2.1.trans (hb.mono h.2.1.size), h.2.2.below (hb.mono h.2.1.size)⟩
theorem chUp_len (l : List It) (i : Nat) : (chUp l i).length ≤ i := by
  unfold chUp
  exact Nat.le_trans (List.length_filterMap_le ..) (by simp)
theorem ob_row {w : World} {base g c : Nat} (h : w.ownsRow base 40 5 (.slice (some ⟨g, 0, none⟩) 6 c) 6 (objs.flatMap nmC)) {i : Nat} (hi : i < 6) :
    w.cell? ⟨g, i * 5, none⟩ = some (.int .i64 (obI i).kind) ∧ w.cell? ⟨g, i * 5 + 1, none⟩ = some (.string (bs (obI i).owner)) ∧ w.cell? ⟨g, i * 5 + 2, none⟩ = some (.int .i64 (obI i).num) ∧ w.cell? ⟨g, i * 5 + 3, none⟩ = some (.int .i64 (obI i).idx) ∧ w.cell? ⟨g, i * 5 + 4, none⟩ = some (.string (bs (obI i).text)) := by
  have e : objs[i]'hi = obI i := by unfold obI; rw [List.getD_eq_getElem?_getD, List.getElem?_eq_getElem (show i < objs.length from hi), Option.getD_some]; rfl
  have h' := own_cells nmC_len h (k := i) hi e
  exact ⟨h' 0 _ rfl, h' 1 _ rfl, h' 2 _ rfl, h' 3 _ rfl, h' 4 _ rfl⟩
theorem far7 {w : World} {cb : Nat} {q : Addr} {u0 u1 u2 u3 u4 u5 u6 : Value} (h : q.block ≠ cb) : (((((((w.setCell ⟨cb, 0, none⟩ u0).setCell ⟨cb, 1, none⟩ u1).setCell ⟨cb, 2, none⟩ u2).setCell ⟨cb, 3, none⟩ u3).setCell ⟨cb, 4, none⟩ u4).setCell ⟨cb, 5, none⟩ u5).setCell ⟨cb, 6, none⟩ u6).cell? q = w.cell? q := by
  repeat rw [cell_far (by exact h)]
theorem blk_cast {w : World} {g t : Nat} {cs cs' : Array Value} (h : Blk w g t cs) (e : cs = cs') : Blk w g t cs' := e ▸ h
theorem own_lt {w : World} {base e s n : Nat} {v : Value} {xs : List Value} (h : w.ownsRow base e s v n xs) {g : Nat} (hg : v.ownBlock = some g) : g < w.heap.size := by
  obtain ⟨_, ⟨rfl, _⟩ | ⟨g', cap', cur, rfl, _, hh, _⟩⟩ := h
  · simp [Value.ownBlock] at hg
  · simp [Value.ownBlock] at hg
    subst hg
    exact (Array.getElem?_eq_some_iff.1 hh).1
def ChgP (l : List It) (w : World) (e : Ending) (w' : World) : Prop := ∃ v, e = .returned v ∧ OwnP 52 7 chC w' w.heap.size v (changesS l) ∧ Below w.heap.size w w'
set_option maxRecDepth 100000 in
set_option maxHeartbeats 4000000 in
theorem changes_is {w : World} {v : Value} {l : List It} (h : RaIt w.heap.size w v l) (hm : l.length ≤ 9223372036854775807) : Calls Tryd.prog 30 #[v] w (ChgP l w) := by
  obtain ⟨i0, hi, hz0, hz1, hz2⟩ := info_parts infoCh
  obtain ⟨A, c, rfl, hc, _⟩ := h.form
  have H0 : Hid (ChgRel l (.slice A l.length c) w (.slice none 0 0) (.int .i64 (0 : Nat)) w) := Lib.hid ⟨0, by omega, rfl, OwnP.nil, Below.refl _ _, h⟩
  clear h
  go_enter Tryd.func30, Tryd.ntmps30
  go_wp2
  go_loopw [3, 4] (fun v3 i wr => ChgRel l (.slice A l.length c) w v3 i wr) (fun _ i _ => 6 - (intOf i).toNat)
  case atStart => exact H0.out
  case round =>
    clear H0
    obtain ⟨i, hi6, rfl, hrel⟩ := hrel
    have HR := Lib.hid hrel
    clear hrel
    go_wp2_with fail
    refine (objects_is _).mono ?_
    rintro e w1 ⟨g1, c1, rfl, _, hb⟩
    have HR1 := Lib.hid (HR.out.next hb)
    clear HR hb
    obtain ⟨wo, rfl⟩ : ∃ wo : World, wo = w1 := ⟨_, rfl⟩
    by_cases hlt : i < 6
    · obtain ⟨A3, c3, rfl, _⟩ := own_len HR1.out.1
      have H1 := Lib.hid (show ChgIn l (.slice A l.length c) w i (.slice A3 (chUp l i).length c3) (.int .i64 (0 : Nat)) wo from ⟨0, Nat.zero_le _, by omega, rfl, fun j hj h => by omega, HR1.out⟩)
      clear HR1
      have e6 : decide ((i : Int) < 6) = true := by rw [decide_eq_true_eq]; omega
      go_wp2
      clear e6
      go_loopw [3, 5] (fun v3 k wr => v3 = .slice A3 (chUp l i).length c3 ∧ ChgIn l (.slice A l.length c) w i (.slice A3 (chUp l i).length c3) k wr) (fun _ k _ => 10 - (intOf k).toNat)
      case atStart => exact ⟨rfl, H1.out⟩
      case round =>
        clear H1
        obtain ⟨rfl, k, hkl, hk10, rfl, hno, hout⟩ := hrel
        have HN := Lib.hid hno
        have HO := Lib.hid hout
        clear hno hout
        by_cases hk1 : k < l.length
        · by_cases hk2 : k < 10
          · obtain ⟨b, o, rfl, hb, c0, c1, c2⟩ := RaIt.piece HO.out.2.2 hk1
            obtain ⟨t, ht⟩ : ∃ t, l[k] = t := ⟨_, rfl⟩
            rw [ht] at c0 c1 c2
            have HT := Lib.hid ht
            obtain ⟨t0, t1⟩ := HO.out.2.2.2 t (by rw [← ht]; exact List.getElem_mem hk1)
            clear ht
            have hsz : w.heap.size ≤ wr.heap.size := HO.out.2.1.size
            have i1 : (0 : Int) ≤ (k : Int) := by omega
            have i2 : (k : Int) < (l.length : Int) := by omega
            have hbr : b < wr.heap.size := Nat.lt_of_lt_of_le hb hsz
            have em : Int.tmod t.which 6 = t.which % 6 := Int.tmod_eq_emod_of_nonneg t0
            have ew : IntKind.i64.wrap t.which = t.which := IntWalk.i64_in _ (by omega)
            cases hh : hit i t with
            | false =>
              have e3 : (t.which % 6 != (i : Int)) = true := by unfold hit at hh; rw [bne, hh]; rfl
              have HH := Lib.hid hh
              clear hh
              go_wp2_with fail
              refine wp_region_noPanic ?_
              refine wp_region_held_drew (S := (fun w' => w'.cell? ⟨b, o + k * 3, none⟩ = some (.int .u8 t.which))) (by kernel_rfl) ?_ (fun hHeld => ?_)
              · exact c0
              refine wpAnyH_take (i := 0) (v := ?_) rfl (by kernel_rfl) (by kernel_rfl) (by kernel_rfl) (fun _ _ _ h => h) (Or.inl ⟨by kernel_rfl, ?_⟩) hHeld ?_
              rotate_left
              · (intro w hSw; (try dsimp only at hSw); go_simp; try with_reducible rfl)
              try simp only [Act.put, List.setIfInBounds_toArray, List.set_cons_zero, List.set_cons_succ]
              refine wpAnyH_take (i := 1) (v := ?_) rfl (by kernel_rfl) (by kernel_rfl) (by kernel_rfl) (fun _ _ _ h => h) (Or.inl ⟨by kernel_rfl, ?_⟩) hHeld ?_
              rotate_left
              · (intro w hSw; (try dsimp only at hSw); go_simp; try with_reducible rfl)
              try simp only [Act.put, List.setIfInBounds_toArray, List.set_cons_zero, List.set_cons_succ]
              refine wpAnyH_take (i := 2) (v := ?_) rfl (by kernel_rfl) (by kernel_rfl) (by kernel_rfl) (fun _ _ _ h => h) (Or.inl ⟨by kernel_rfl, ?_⟩) hHeld ?_
              rotate_left
              · (intro w hSw; (try dsimp only at hSw); go_simp; try with_reducible rfl)
              try simp only [Act.put, List.setIfInBounds_toArray, List.set_cons_zero, List.set_cons_succ]
              refine wpAnyH_take (i := 3) (v := ?_) rfl (by kernel_rfl) (by kernel_rfl) (by kernel_rfl) (fun _ _ _ h => h) (Or.inl ⟨by kernel_rfl, ?_⟩) hHeld ?_
              rotate_left
              · (intro w hSw; (try dsimp only at hSw); go_simp; try with_reducible rfl)
              try simp only [Act.put, List.setIfInBounds_toArray, List.set_cons_zero, List.set_cons_succ]
              refine wpAnyH_take (i := 4) (v := ?_) rfl (by kernel_rfl) (by kernel_rfl) (by kernel_rfl) (fun _ _ _ h => h) (Or.inl ⟨by kernel_rfl, ?_⟩) hHeld ?_
              rotate_left
              · (intro w hSw; (try dsimp only at hSw); go_simp; try with_reducible rfl)
              try simp only [Act.put, List.setIfInBounds_toArray, List.set_cons_zero, List.set_cons_succ]
              refine wpAnyH_take (i := 5) (v := ?_) rfl (by kernel_rfl) (by kernel_rfl) (by kernel_rfl) (fun _ _ _ h => h) (Or.inl ⟨by kernel_rfl, ?_⟩) hHeld ?_
              rotate_left
              · (intro w hSw; (try dsimp only at hSw); go_simp; try with_reducible rfl)
              try simp only [Act.put, List.setIfInBounds_toArray, List.set_cons_zero, List.set_cons_succ]
              refine wpAnyH_take (i := 9) (v := ?_) rfl (by kernel_rfl) (by kernel_rfl) (by kernel_rfl) (fun _ _ _ h => h) (Or.inl ⟨by kernel_rfl, ?_⟩) hHeld ?_
              rotate_left
              · (intro w hSw; (try dsimp only at hSw); go_simp; try with_reducible rfl)
              try simp only [Act.put, List.setIfInBounds_toArray, List.set_cons_zero, List.set_cons_succ]
              refine wpAnyH_ready (rs := [6]) (by kernel_rfl) (by simp) ?_
              refine AllReadyH.cons rfl (fun K hK => ?_) AllReadyH.nil
              go_simp
              refine (objects_is _).mono ?_; rintro e w2 ⟨g2, c2', rfl, _, hb2⟩; have HB2 := Lib.hid ((Below.refl wr.heap.size wr).drew.trans hb2); have HO2 := Lib.hid (HO.out.next HB2.out); have x0 : w2.cell? ⟨b, o + k * 3, none⟩ = some (.int .u8 t.which) := (hb2.cell (p := ⟨b, o + k * 3, none⟩) hbr).trans c0; clear hb2
              try (go_wp2_with fail)
              refine hK.out _ _ ?_ (fun hNew => ?_)
              · exact x0
              clear hK K hHeld
              have hHeld := hNew
              clear hNew
              try simp only [Act.put, List.setIfInBounds_toArray, List.set_cons_zero, List.set_cons_succ]
              refine wpAnyH_take (i := 7) (v := ?_) rfl (by kernel_rfl) (by kernel_rfl) (by kernel_rfl) (fun _ _ _ h => h) (Or.inl ⟨by kernel_rfl, ?_⟩) hHeld ?_
              rotate_left
              · (intro w hSw; (try dsimp only at hSw); go_simp; try with_reducible rfl)
              try simp only [Act.put, List.setIfInBounds_toArray, List.set_cons_zero, List.set_cons_succ]
              refine wpAnyH_take (i := 8) (v := ?_) rfl (by kernel_rfl) (by kernel_rfl) (by kernel_rfl) (fun _ _ _ h => h) (Or.inl ⟨by kernel_rfl, ?_⟩) hHeld ?_
              rotate_left
              · (intro w hSw; (try dsimp only at hSw); go_simp; try with_reducible rfl)
              try simp only [Act.put, List.setIfInBounds_toArray, List.set_cons_zero, List.set_cons_succ]
              refine wpAnyH_take (i := 10) (v := ?_) rfl (by kernel_rfl) (by kernel_rfl) (by kernel_rfl) (fun _ _ _ h => h) (Or.inl ⟨by kernel_rfl, ?_⟩) hHeld ?_
              rotate_left
              · (intro w hSw; (try dsimp only at hSw); go_simp; try with_reducible rfl)
              try simp only [Act.put, List.setIfInBounds_toArray, List.set_cons_zero, List.set_cons_succ]
              refine wpAnyH_done (by kernel_rfl) ?_ _
              clear hHeld
              try simp only [List.getElem_toArray, List.getElem_cons_zero, List.getElem_cons_succ, Act.put, List.setIfInBounds_toArray, List.set_cons_zero, List.set_cons_succ]
              refine NoPanic.normal ?_
              clear c0 c1 c2 x0 ew em e3
              go_wp2
              go_roundw
              case rel =>
                refine ⟨rfl, k + 1, by omega, by omega, by go_num, fun j hj hjk => ?_, HO2.out⟩
                by_cases e : j = k
                · subst e; rw [HT.out]; exact HH.out
                · exact HN.out j hj (by omega)
              case measure => simp [intOf]; omega
            | true =>
              have e3 : (t.which % 6 != (i : Int)) = false := by unfold hit at hh; rw [bne, hh]; rfl
              have HH := Lib.hid hh
              clear hh
              go_wp2_with fail
              refine wp_region_noPanic ?_
              refine wp_region_held_drew (S := (fun w' => w'.cell? ⟨b, o + k * 3, none⟩ = some (.int .u8 t.which))) (by kernel_rfl) ?_ (fun hHeld => ?_)
              · exact c0
              refine wpAnyH_take (i := 0) (v := ?_) rfl (by kernel_rfl) (by kernel_rfl) (by kernel_rfl) (fun _ _ _ h => h) (Or.inl ⟨by kernel_rfl, ?_⟩) hHeld ?_
              rotate_left
              · (intro w hSw; (try dsimp only at hSw); go_simp; try with_reducible rfl)
              try simp only [Act.put, List.setIfInBounds_toArray, List.set_cons_zero, List.set_cons_succ]
              refine wpAnyH_take (i := 1) (v := ?_) rfl (by kernel_rfl) (by kernel_rfl) (by kernel_rfl) (fun _ _ _ h => h) (Or.inl ⟨by kernel_rfl, ?_⟩) hHeld ?_
              rotate_left
              · (intro w hSw; (try dsimp only at hSw); go_simp; try with_reducible rfl)
              try simp only [Act.put, List.setIfInBounds_toArray, List.set_cons_zero, List.set_cons_succ]
              refine wpAnyH_take (i := 2) (v := ?_) rfl (by kernel_rfl) (by kernel_rfl) (by kernel_rfl) (fun _ _ _ h => h) (Or.inl ⟨by kernel_rfl, ?_⟩) hHeld ?_
              rotate_left
              · (intro w hSw; (try dsimp only at hSw); go_simp; try with_reducible rfl)
              try simp only [Act.put, List.setIfInBounds_toArray, List.set_cons_zero, List.set_cons_succ]
              refine wpAnyH_take (i := 3) (v := ?_) rfl (by kernel_rfl) (by kernel_rfl) (by kernel_rfl) (fun _ _ _ h => h) (Or.inl ⟨by kernel_rfl, ?_⟩) hHeld ?_
              rotate_left
              · (intro w hSw; (try dsimp only at hSw); go_simp; try with_reducible rfl)
              try simp only [Act.put, List.setIfInBounds_toArray, List.set_cons_zero, List.set_cons_succ]
              refine wpAnyH_take (i := 4) (v := ?_) rfl (by kernel_rfl) (by kernel_rfl) (by kernel_rfl) (fun _ _ _ h => h) (Or.inl ⟨by kernel_rfl, ?_⟩) hHeld ?_
              rotate_left
              · (intro w hSw; (try dsimp only at hSw); go_simp; try with_reducible rfl)
              try simp only [Act.put, List.setIfInBounds_toArray, List.set_cons_zero, List.set_cons_succ]
              refine wpAnyH_take (i := 5) (v := ?_) rfl (by kernel_rfl) (by kernel_rfl) (by kernel_rfl) (fun _ _ _ h => h) (Or.inl ⟨by kernel_rfl, ?_⟩) hHeld ?_
              rotate_left
              · (intro w hSw; (try dsimp only at hSw); go_simp; try with_reducible rfl)
              try simp only [Act.put, List.setIfInBounds_toArray, List.set_cons_zero, List.set_cons_succ]
              refine wpAnyH_take (i := 9) (v := ?_) rfl (by kernel_rfl) (by kernel_rfl) (by kernel_rfl) (fun _ _ _ h => h) (Or.inl ⟨by kernel_rfl, ?_⟩) hHeld ?_
              rotate_left
              · (intro w hSw; (try dsimp only at hSw); go_simp; try with_reducible rfl)
              try simp only [Act.put, List.setIfInBounds_toArray, List.set_cons_zero, List.set_cons_succ]
              refine wpAnyH_ready (rs := [6]) (by kernel_rfl) (by simp) ?_
              refine AllReadyH.cons rfl (fun K hK => ?_) AllReadyH.nil
              go_simp
              refine (objects_is _).mono ?_; rintro e w2 ⟨g2, c2', rfl, _, hb2⟩; have HB2 := Lib.hid ((Below.refl wr.heap.size wr).drew.trans hb2); have HO2 := Lib.hid (HO.out.next HB2.out); have x0 : w2.cell? ⟨b, o + k * 3, none⟩ = some (.int .u8 t.which) := (hb2.cell (p := ⟨b, o + k * 3, none⟩) hbr).trans c0; clear hb2
              try (go_wp2_with fail)
              refine hK.out _ _ ?_ (fun hNew => ?_)
              · exact x0
              clear hK K hHeld
              have hHeld := hNew
              clear hNew
              try simp only [Act.put, List.setIfInBounds_toArray, List.set_cons_zero, List.set_cons_succ]
              refine wpAnyH_take (i := 7) (v := ?_) rfl (by kernel_rfl) (by kernel_rfl) (by kernel_rfl) (fun _ _ _ h => h) (Or.inl ⟨by kernel_rfl, ?_⟩) hHeld ?_
              rotate_left
              · (intro w hSw; (try dsimp only at hSw); go_simp; try with_reducible rfl)
              try simp only [Act.put, List.setIfInBounds_toArray, List.set_cons_zero, List.set_cons_succ]
              refine wpAnyH_take (i := 8) (v := ?_) rfl (by kernel_rfl) (by kernel_rfl) (by kernel_rfl) (fun _ _ _ h => h) (Or.inl ⟨by kernel_rfl, ?_⟩) hHeld ?_
              rotate_left
              · (intro w hSw; (try dsimp only at hSw); go_simp; try with_reducible rfl)
              try simp only [Act.put, List.setIfInBounds_toArray, List.set_cons_zero, List.set_cons_succ]
              refine wpAnyH_take (i := 10) (v := ?_) rfl (by kernel_rfl) (by kernel_rfl) (by kernel_rfl) (fun _ _ _ h => h) (Or.inl ⟨by kernel_rfl, ?_⟩) hHeld ?_
              rotate_left
              · (intro w hSw; (try dsimp only at hSw); go_simp; try with_reducible rfl)
              try simp only [Act.put, List.setIfInBounds_toArray, List.set_cons_zero, List.set_cons_succ]
              refine wpAnyH_done (by kernel_rfl) ?_ _
              clear hHeld
              try simp only [List.getElem_toArray, List.getElem_cons_zero, List.getElem_cons_succ, Act.put, List.setIfInBounds_toArray, List.set_cons_zero, List.set_cons_succ]
              refine NoPanic.normal ?_
              have x1 : w2.cell? ⟨b, o + k * 3 + 1, none⟩ = some (.string (bs t.value)) := (HB2.out.cell (p := ⟨b, o + k * 3 + 1, none⟩) hbr).trans c1
              have x2 : w2.cell? ⟨b, o + k * 3 + 2, none⟩ = some (.bool t.absent) := (HB2.out.cell (p := ⟨b, o + k * 3 + 2, none⟩) hbr).trans c2
              have hbr2 : b < w2.heap.size := Nat.lt_of_lt_of_le hbr HB2.out.size
              have HE : Hid (chAt l i = some (itCh i t)) := Lib.hid (by rw [← HT.out]; exact find_some_take hk1 hk2 HN.out (by rw [HT.out]; exact HH.out))
              clear c0 c1 c2 x0 ew em e3 t0 t1 HN HO
              obtain ⟨nm, hnm⟩ : ∃ nm, obI i = nm := ⟨_, rfl⟩
              have HNM := Lib.hid hnm
              clear hnm
              have i3 : (0 : Int) ≤ (i : Int) := by omega
              have i4 : (i : Int) < (6 : Int) := by omega
              go_wp2_with fail
              refine wp_region_noPanic ?_
              refine wp_region_held_drew (S := (fun w' => w'.cell? ⟨b, o + k * 3 + 2, none⟩ = some (.bool t.absent))) (by kernel_rfl) ?_ (fun hHeld => ?_)
              · exact x2
              refine wpAnyH_take (i := 1) (v := ?_) rfl (by kernel_rfl) (by kernel_rfl) (by kernel_rfl) (fun _ _ _ h => h) (Or.inl ⟨by kernel_rfl, ?_⟩) hHeld ?_
              rotate_left
              · (intro w hSw; (try dsimp only at hSw); go_simp; try with_reducible rfl)
              try simp only [Act.put, List.setIfInBounds_toArray, List.set_cons_zero, List.set_cons_succ]
              refine wpAnyH_take (i := 4) (v := ?_) rfl (by kernel_rfl) (by kernel_rfl) (by kernel_rfl) (fun _ _ _ h => h) (Or.inl ⟨by kernel_rfl, ?_⟩) hHeld ?_
              rotate_left
              · (intro w hSw; (try dsimp only at hSw); go_simp; try with_reducible rfl)
              try simp only [Act.put, List.setIfInBounds_toArray, List.set_cons_zero, List.set_cons_succ]
              refine wpAnyH_take (i := 5) (v := ?_) rfl (by kernel_rfl) (by kernel_rfl) (by kernel_rfl) (fun _ _ _ h => h) (Or.inl ⟨by kernel_rfl, ?_⟩) hHeld ?_
              rotate_left
              · (intro w hSw; (try dsimp only at hSw); go_simp; try with_reducible rfl)
              try simp only [Act.put, List.setIfInBounds_toArray, List.set_cons_zero, List.set_cons_succ]
              refine wpAnyH_take (i := 6) (v := ?_) rfl (by kernel_rfl) (by kernel_rfl) (by kernel_rfl) (fun _ _ _ h => h) (Or.inl ⟨by kernel_rfl, ?_⟩) hHeld ?_
              rotate_left
              · (intro w hSw; (try dsimp only at hSw); go_simp; try with_reducible rfl)
              try simp only [Act.put, List.setIfInBounds_toArray, List.set_cons_zero, List.set_cons_succ]
              refine wpAnyH_take (i := 7) (v := ?_) rfl (by kernel_rfl) (by kernel_rfl) (by kernel_rfl) (fun _ _ _ h => h) (Or.inl ⟨by kernel_rfl, ?_⟩) hHeld ?_
              rotate_left
              · (intro w hSw; (try dsimp only at hSw); go_simp; try with_reducible rfl)
              try simp only [Act.put, List.setIfInBounds_toArray, List.set_cons_zero, List.set_cons_succ]
              refine wpAnyH_take (i := 8) (v := ?_) rfl (by kernel_rfl) (by kernel_rfl) (by kernel_rfl) (fun _ _ _ h => h) (Or.inl ⟨by kernel_rfl, ?_⟩) hHeld ?_
              rotate_left
              · (intro w hSw; (try dsimp only at hSw); go_simp; try with_reducible rfl)
              try simp only [Act.put, List.setIfInBounds_toArray, List.set_cons_zero, List.set_cons_succ]
              refine wpAnyH_ready (rs := [0, 10]) (by kernel_rfl) (by simp) ?_
              refine AllReadyH.cons rfl (fun K hK => ?_) (AllReadyH.cons rfl (fun K hK => ?_) AllReadyH.nil)
              · go_simp
                refine (objects_is _).mono ?_
                rintro e w3 ⟨g3, c3', rfl, hown3, hb3⟩
                have hq := ob_row hown3 hlt
                rw [HNM.out] at hq
                obtain ⟨n0, n1, n2, n3, n4⟩ := hq
                have hg3 : w2.drew.heap.size ≤ g3 := own_ge hown3 rfl
                have hg3' : g3 < w3.heap.size := own_lt hown3 rfl
                have y2 : w3.cell? ⟨b, o + k * 3 + 2, none⟩ = some (.bool t.absent) := (hb3.cell (p := ⟨b, o + k * 3 + 2, none⟩) (by simpa using hbr2)).trans x2
                have HB3 := Lib.hid ((Below.refl w2.heap.size w2).drew.trans hb3)
                have hbr3 : b < w3.heap.size := Nat.lt_of_lt_of_le hbr2 HB3.out.size
                clear hb3 hown3
                try (go_wp2_with fail)
                refine hK.out _ _ ?_ (fun hNew => ?_)
                · exact y2
                clear hK K hHeld
                have hHeld := hNew
                clear hNew
                try simp only [Act.put, List.setIfInBounds_toArray, List.set_cons_zero, List.set_cons_succ]
                refine wpAnyH_more (S' := (fun (w' : World) => w'.cell? ⟨b, o + k * 3 + 2, none⟩ = some (.bool t.absent) ∧ w'.cell? ⟨g3, i * 5, none⟩ = some (.int .i64 nm.kind) ∧ w'.cell? ⟨g3, i * 5 + 1, none⟩ = some (.string (bs nm.owner)) ∧ w'.cell? ⟨g3, i * 5 + 2, none⟩ = some (.int .i64 nm.num) ∧ w'.cell? ⟨g3, i * 5 + 3, none⟩ = some (.int .i64 nm.idx) ∧ w'.cell? ⟨g3, i * 5 + 4, none⟩ = some (.string (bs nm.text)))) (fun _ h => h.1) ?_
                clear hHeld
                have hHeld : (fun (w' : World) => w'.cell? ⟨b, o + k * 3 + 2, none⟩ = some (.bool t.absent) ∧ w'.cell? ⟨g3, i * 5, none⟩ = some (.int .i64 nm.kind) ∧ w'.cell? ⟨g3, i * 5 + 1, none⟩ = some (.string (bs nm.owner)) ∧ w'.cell? ⟨g3, i * 5 + 2, none⟩ = some (.int .i64 nm.num) ∧ w'.cell? ⟨g3, i * 5 + 3, none⟩ = some (.int .i64 nm.idx) ∧ w'.cell? ⟨g3, i * 5 + 4, none⟩ = some (.string (bs nm.text))) _ := ⟨y2, n0, n1, n2, n3, n4⟩
                refine wpAnyH_take (i := 2) (v := ?_) rfl (by kernel_rfl) (by kernel_rfl) (by kernel_rfl) (fun _ _ _ h => h) (Or.inl ⟨by kernel_rfl, ?_⟩) hHeld ?_
                rotate_left
                · (intro w hSw; (try dsimp only at hSw); go_simp; try with_reducible rfl)
                try simp only [Act.put, List.setIfInBounds_toArray, List.set_cons_zero, List.set_cons_succ]
                refine wpAnyH_take (i := 3) (v := ?_) rfl (by kernel_rfl) (by kernel_rfl) (by kernel_rfl) (fun _ _ _ h => h) (Or.inl ⟨by kernel_rfl, ?_⟩) hHeld ?_
                rotate_left
                · (intro w hSw; (try dsimp only at hSw); go_simp; try with_reducible rfl)
                try simp only [Act.put, List.setIfInBounds_toArray, List.set_cons_zero, List.set_cons_succ]
                refine wpAnyH_take (i := 9) (v := ?_) rfl (by kernel_rfl) (by kernel_rfl) (by kernel_rfl) (fun _ _ _ h => h) (Or.inl ⟨by kernel_rfl, ?_⟩) hHeld ?_
                rotate_left
                · (intro w hSw; (try dsimp only at hSw); go_simp; try with_reducible rfl)
                try simp only [Act.put, List.setIfInBounds_toArray, List.set_cons_zero, List.set_cons_succ]
                refine wpAnyH_ready (rs := [10]) (by kernel_rfl) (by simp) ?_
                refine AllReadyH.cons rfl (fun K hK => ?_) AllReadyH.nil
                go_simp
                refine hK.out _ _ ?_ (fun hNew => ?_)
                · exact ⟨(World.cell?_alloc_lt w3 _ _ (by dsimp only; omega)).trans y2, (World.cell?_alloc_lt w3 _ _ (by dsimp only; omega)).trans n0, (World.cell?_alloc_lt w3 _ _ (by dsimp only; omega)).trans n1, (World.cell?_alloc_lt w3 _ _ (by dsimp only; omega)).trans n2, (World.cell?_alloc_lt w3 _ _ (by dsimp only; omega)).trans n3, (World.cell?_alloc_lt w3 _ _ (by dsimp only; omega)).trans n4⟩
                clear hK K hHeld
                have hHeld := hNew
                clear hNew
                try simp only [Act.put, List.setIfInBounds_toArray, List.set_cons_zero, List.set_cons_succ]
                refine wpAnyH_ready (rs := [11]) (by kernel_rfl) (by simp) ?_
                refine AllReadyH.cons rfl (fun K hK => ?_) AllReadyH.nil
                go_simp
                refine hK.out _ _ ?_ (fun hNew => ?_)
                · exact ⟨(World.cell?_alloc_lt w3 _ _ (by dsimp only; omega)).trans y2, (World.cell?_alloc_lt w3 _ _ (by dsimp only; omega)).trans n0, (World.cell?_alloc_lt w3 _ _ (by dsimp only; omega)).trans n1, (World.cell?_alloc_lt w3 _ _ (by dsimp only; omega)).trans n2, (World.cell?_alloc_lt w3 _ _ (by dsimp only; omega)).trans n3, (World.cell?_alloc_lt w3 _ _ (by dsimp only; omega)).trans n4⟩
                clear hK K hHeld
                have hHeld := hNew
                clear hNew
                try simp only [Act.put, List.setIfInBounds_toArray, List.set_cons_zero, List.set_cons_succ]
                refine wpAnyH_done (by kernel_rfl) ?_ _
                clear hHeld
                try simp only [List.getElem_toArray, List.getElem_cons_zero, List.getElem_cons_succ, Act.put, List.setIfInBounds_toArray, List.set_cons_zero, List.set_cons_succ]
                refine NoPanic.normal ?_
                have HCBf := Lib.hid (Blk.new w3 52 #[.int .i64 nm.kind, .string (bs nm.owner), .int .i64 nm.num, .int .i64 nm.idx, .string (bs nm.text), .string ⟨#[]⟩, .bool t.absent])
                have HBf := Lib.hid (HB3.out.alloc HB3.out.size (.cells #[.int .i64 nm.kind, .string (bs nm.owner), .int .i64 nm.num, .int .i64 nm.idx, .string (bs nm.text), .string ⟨#[]⟩, .bool t.absent] 52))
                have hcb : w2.heap.size ≤ w3.heap.size := HB3.out.size
                clear n0 n1 n2 n3 n4 y2
                generalize (w3.alloc (.cells #[.int .i64 nm.kind, .string (bs nm.owner), .int .i64 nm.num, .int .i64 nm.idx, .string (bs nm.text), .string ⟨#[]⟩, .bool t.absent] 52)) = w4 at *
                generalize w3.heap.size = cb at *
                have HO4 := Lib.hid (HO2.out.next HBf.out)
                have v1 : w4.cell? ⟨b, o + k * 3 + 1, none⟩ = some (.string (bs t.value)) := (HBf.out.cell (p := ⟨b, o + k * 3 + 1, none⟩) hbr2).trans x1
                have hi5 := chUp_len l i
                have hbs4 : w.heap.size ≤ w4.heap.size := HO4.out.2.1.size
                clear x1 x2 HB2 HB3 hbr3 hg3 hg3'
                obtain ⟨ab, hab⟩ : ∃ ab, t.absent = ab := ⟨_, rfl⟩
                rw [hab] at HCBf
                have HAB := Lib.hid hab
                clear hab
                have q0 := HCBf.out.cell 0
                have q1 := HCBf.out.cell 1
                have q2 := HCBf.out.cell 2
                have q3 := HCBf.out.cell 3
                have q4 := HCBf.out.cell 4
                have q5 := HCBf.out.cell 5
                have q6 := HCBf.out.cell 6
                have r5 := HCBf.out.frozen 5
                simp only [List.getElem?_toArray, List.getElem?_cons_zero, List.getElem?_cons_succ] at q0 q1 q2 q3 q4 q5 q6
                cases ab with
                | true =>
                  have HOW := Lib.hid HO4.out.1
                  have HOO := Lib.hid HO4.out
                  clear v1 r5
                  go_wp2_with (at_builtin; refine wpList_append_lies _ rfl _ _ _ rfl w.heap.size 52 i0 _ 7 80 Tryd.underlying48 hi hz0 hz1 hz2 rfl (by omega) (.slice A3 (chUp l i).length c3) (chUp l i).length ((chUp l i).flatMap chC) (by rfl) (HOW.out.alloc _) ⟨w4.heap.size, 0, none⟩ 1 1 [.int .i64 nm.kind, .string (bs nm.owner), .int .i64 nm.num, .int .i64 nm.idx, .string (bs nm.text), .string ⟨#[]⟩, .bool true] rfl rfl (World.news_of_block (cs := #[.int .i64 nm.kind, .string (bs nm.owner), .int .i64 nm.num, .int .i64 nm.idx, .string (bs nm.text), .string ⟨#[]⟩, .bool true]) (t := 52) (fr := (0, 0)) (heap_alloc_new w4 _)) (by simp [Value.oneCell']) (by omega) (by unfold maxLen; omega) (by omega) (by simp; omega) (w4.heap.size + 1) (by simp) ?_; intro gg cap w5 hown5 hgrow5 hat5 hlt5; have HN5 := Lib.hid hown5; have HG5 := Lib.hid hgrow5; clear hown5 hgrow5 hat5 hlt5)
                  go_roundw
                  case rel =>
                    refine ⟨i + 1, by omega, by go_num, ?_⟩
                    have hbn := below_own (HOO.out.2.1.alloc HOO.out.2.1.size (.cells #[.int .i64 nm.kind, .string (bs nm.owner), .int .i64 nm.num, .int .i64 nm.idx, .string (bs nm.text), .string ⟨#[]⟩, .bool true] 52)) (HOW.out.alloc (.cells #[.int .i64 nm.kind, .string (bs nm.owner), .int .i64 nm.num, .int .i64 nm.idx, .string (bs nm.text), .string ⟨#[]⟩, .bool true] 52)) HG5.out (Nat.le_refl _) (by have := HOO.out.2.1.size; simp; omega)
                    refine ⟨?_, hbn, ?_⟩
                    · rw [chUp_succ, HE.out]
                      refine OwnP.snoc ?_
                      have e : chC (itCh i t) = [.int .i64 nm.kind, .string (bs nm.owner), .int .i64 nm.num, .int .i64 nm.idx, .string (bs nm.text), .string ⟨#[]⟩, .bool true] := by
                        unfold itCh chC
                        rw [HNM.out, HAB.out]
                        rfl
                      rw [e]
                      exact HN5.out
                    · have hg := (HOO.out.2.2.below (((Below.refl w.heap.size w4).alloc HOO.out.2.1.size (.cells #[.int .i64 nm.kind, .string (bs nm.owner), .int .i64 nm.num, .int .i64 nm.idx, .string (bs nm.text), .string ⟨#[]⟩, .bool true] 52))))
                      exact hg.below (below_own (Below.refl w.heap.size _) (HOW.out.alloc (.cells #[.int .i64 nm.kind, .string (bs nm.owner), .int .i64 nm.num, .int .i64 nm.idx, .string (bs nm.text), .string ⟨#[]⟩, .bool true] 52)) HG5.out (Nat.le_refl _) (by have := HOO.out.2.1.size; simp; omega))
                  case measure => simp [intOf]; omega
                | false =>
                  obtain ⟨nn, hmin, hle, hext⟩ : ∃ nn : Nat, (if (20 : Int) < ((bs t.value).size : Int) then (20 : Int) else ((bs t.value).size : Int)) = (nn : Int) ∧ nn ≤ (bs t.value).size ∧ (bs t.value).extract 0 nn = bs (t.value.take 20) := by
                    refine ⟨min t.value.length 20, by rw [bs_size]; split <;> omega, by rw [bs_size]; omega, ?_⟩
                    rw [← bs_of ((bs t.value).extract 0 _), Lib.extract_data, bs_list]
                    refine congrArg bs ?_
                    rw [Nat.sub_zero, List.drop_zero]
                    by_cases h : t.value.length ≤ 20
                    · rw [Nat.min_eq_left h, List.take_length, List.take_of_length_le h]
                    · rw [Nat.min_eq_right (by omega)]
                  have HX := Lib.hid hext
                  have hn0 : (0 : Int) ≤ (nn : Int) := by omega
                  have hn1 : (nn : Int) ≤ ((bs t.value).size : Int) := by omega
                  clear hext
                  go_wp2_with fail
                  refine wp_region_still_tail 14 (by kernel_rfl) (by kernel_rfl) ?_
                  simp only [List.take_succ_cons, List.take_zero, List.drop_succ_cons, List.drop_zero]
                  iterate 14 still_step
                  refine wpStill_nil ?_
                  show wpList _ _ _ _ _ w4.drew
                  go_upto_region 12 with (fail)
                  rw [HX.out]
                  have HCB5 : Hid (Blk ((w4.setCell ⟨cb, 5, none⟩ (.string (bs (t.value.take 20)))).drew) cb 52 #[.int .i64 nm.kind, .string (bs nm.owner), .int .i64 nm.num, .int .i64 nm.idx, .string (bs nm.text), .string (bs (t.value.take 20)), .bool false]) := Lib.hid (blk_cast ((HCBf.out.set_ 5 _).drew) rfl)
                  have HOO := Lib.hid (HO2.out.next ((HBf.out.setCell (p := ⟨cb, 5, none⟩) hcb (.string (bs (t.value.take 20)))).drew))
                  clear q0 q1 q2 q3 q4 q5 q6 r5 v1 HX hn0 hn1 hle hmin HCBf HBf HO2 HO4
                  generalize ((w4.setCell ⟨cb, 5, none⟩ (.string (bs (t.value.take 20)))).drew) = w6 at *
                  have q0 := HCB5.out.cell 0
                  have q1 := HCB5.out.cell 1
                  have q2 := HCB5.out.cell 2
                  have q3 := HCB5.out.cell 3
                  have q4 := HCB5.out.cell 4
                  have q5 := HCB5.out.cell 5
                  have q6 := HCB5.out.cell 6
                  simp only [List.getElem?_toArray, List.getElem?_cons_zero, List.getElem?_cons_succ] at q0 q1 q2 q3 q4 q5 q6
                  have HOW := Lib.hid HOO.out.1
                  have hbs6 : w.heap.size ≤ w6.heap.size := HOO.out.2.1.size
                  go_wp2_with (at_builtin; refine wpList_append_lies _ rfl _ _ _ rfl w.heap.size 52 i0 _ 7 80 Tryd.underlying48 hi hz0 hz1 hz2 rfl (by omega) (.slice A3 (chUp l i).length c3) (chUp l i).length ((chUp l i).flatMap chC) (by rfl) (HOW.out.alloc _) ⟨w6.heap.size, 0, none⟩ 1 1 [.int .i64 nm.kind, .string (bs nm.owner), .int .i64 nm.num, .int .i64 nm.idx, .string (bs nm.text), .string (bs (t.value.take 20)), .bool false] rfl rfl (World.news_of_block (cs := #[.int .i64 nm.kind, .string (bs nm.owner), .int .i64 nm.num, .int .i64 nm.idx, .string (bs nm.text), .string (bs (t.value.take 20)), .bool false]) (t := 52) (fr := (0, 0)) (heap_alloc_new w6 _)) (by simp [Value.oneCell']) (by omega) (by unfold maxLen; omega) (by omega) (by simp; omega) (w6.heap.size + 1) (by simp) ?_; intro gg cap w5 hown5 hgrow5 hat5 hlt5; have HN5 := Lib.hid hown5; have HG5 := Lib.hid hgrow5; clear hown5 hgrow5 hat5 hlt5)
                  go_roundw
                  case rel =>
                    refine ⟨i + 1, by omega, by go_num, ?_⟩
                    have hbn := below_own (HOO.out.2.1.alloc HOO.out.2.1.size (.cells #[.int .i64 nm.kind, .string (bs nm.owner), .int .i64 nm.num, .int .i64 nm.idx, .string (bs nm.text), .string (bs (t.value.take 20)), .bool false] 52)) (HOW.out.alloc (.cells #[.int .i64 nm.kind, .string (bs nm.owner), .int .i64 nm.num, .int .i64 nm.idx, .string (bs nm.text), .string (bs (t.value.take 20)), .bool false] 52)) HG5.out (Nat.le_refl _) (by have := HOO.out.2.1.size; simp; omega)
                    refine ⟨?_, hbn, ?_⟩
                    · rw [chUp_succ, HE.out]
                      refine OwnP.snoc ?_
                      have e : chC (itCh i t) = [.int .i64 nm.kind, .string (bs nm.owner), .int .i64 nm.num, .int .i64 nm.idx, .string (bs nm.text), .string (bs (t.value.take 20)), .bool false] := by
                        unfold itCh chC
                        rw [HNM.out, HAB.out]
                        rfl
                      rw [e]
                      exact HN5.out
                    · have hg := (HOO.out.2.2.below (((Below.refl w.heap.size w6).alloc HOO.out.2.1.size (.cells #[.int .i64 nm.kind, .string (bs nm.owner), .int .i64 nm.num, .int .i64 nm.idx, .string (bs nm.text), .string (bs (t.value.take 20)), .bool false] 52))))
                      exact hg.below (below_own (Below.refl w.heap.size _) (HOW.out.alloc (.cells #[.int .i64 nm.kind, .string (bs nm.owner), .int .i64 nm.num, .int .i64 nm.idx, .string (bs nm.text), .string (bs (t.value.take 20)), .bool false] 52)) HG5.out (Nat.le_refl _) (by have := HOO.out.2.1.size; simp; omega))
                  case measure => simp [intOf]; omega
              · go_simp
                refine hK.out _ _ ?_ (fun hNew => ?_)
                · exact (World.cell?_alloc_lt w2.drew _ _ (by simpa using hbr2)).trans x2
                clear hK K hHeld
                have hHeld := hNew
                clear hNew
                try simp only [Act.put, List.setIfInBounds_toArray, List.set_cons_zero, List.set_cons_succ]
                refine wpAnyH_ready (rs := [0]) (by kernel_rfl) (by simp) ?_
                refine AllReadyH.cons rfl (fun K hK => ?_) AllReadyH.nil
                go_simp
                refine (objects_is _).mono ?_
                rintro e w3 ⟨g3, c3', rfl, hown3, hb3⟩
                have hq := ob_row hown3 hlt
                rw [HNM.out] at hq
                obtain ⟨n0, n1, n2, n3, n4⟩ := hq
                have hg3 : (w2.drew.alloc (.cells #[.int .i64 0, .string ⟨#[]⟩, .int .i64 0, .int .i64 0, .string ⟨#[]⟩, .string ⟨#[]⟩, .bool false] 52)).heap.size ≤ g3 := own_ge hown3 rfl
                have hg3' : g3 < w3.heap.size := own_lt hown3 rfl
                have y2 : w3.cell? ⟨b, o + k * 3 + 2, none⟩ = some (.bool t.absent) := (hb3.cell (p := ⟨b, o + k * 3 + 2, none⟩) (by simp; omega)).trans ((World.cell?_alloc_lt w2.drew _ _ (by simpa using hbr2)).trans x2)
                have HB3 := Lib.hid ((((Below.refl w2.heap.size w2).drew).alloc (Nat.le_refl _) (.cells #[.int .i64 0, .string ⟨#[]⟩, .int .i64 0, .int .i64 0, .string ⟨#[]⟩, .string ⟨#[]⟩, .bool false] 52)).trans (hb3.mono (by simp)))
                have HCB : Hid (Blk w3 w2.heap.size 52 #[.int .i64 0, .string ⟨#[]⟩, .int .i64 0, .int .i64 0, .string ⟨#[]⟩, .string ⟨#[]⟩, .bool false]) := Lib.hid ((Blk.new w2.drew 52 #[.int .i64 0, .string ⟨#[]⟩, .int .i64 0, .int .i64 0, .string ⟨#[]⟩, .string ⟨#[]⟩, .bool false]).next hb3 (by simp))
                have z0 := HCB.out.cell 0
                have z1 := HCB.out.cell 1
                have z2 := HCB.out.cell 2
                have z3 := HCB.out.cell 3
                have z4 := HCB.out.cell 4
                have z5 := HCB.out.cell 5
                have z6 := HCB.out.cell 6
                have zf0 := HCB.out.frozen 0
                have zf1 := HCB.out.frozen 1
                have zf2 := HCB.out.frozen 2
                have zf3 := HCB.out.frozen 3
                have zf4 := HCB.out.frozen 4
                have zf5 := HCB.out.frozen 5
                have zf6 := HCB.out.frozen 6
                simp only [List.getElem?_toArray, List.getElem?_cons_zero, List.getElem?_cons_succ] at z0 z1 z2 z3 z4 z5 z6
                have hne1 : b ≠ w2.heap.size := by omega
                have hne2 : g3 ≠ w2.heap.size := by simp at hg3; omega
                have hbr3 : b < w3.heap.size := Nat.lt_of_lt_of_le hbr2 HB3.out.size
                clear hb3 hown3
                try (go_wp2_with fail)
                refine hK.out _ _ ?_ (fun hNew => ?_)
                · exact y2
                clear hK K hHeld
                have hHeld := hNew
                clear hNew
                try simp only [Act.put, List.setIfInBounds_toArray, List.set_cons_zero, List.set_cons_succ]
                refine wpAnyH_more (S' := (fun (w' : World) => w'.cell? ⟨b, o + k * 3 + 2, none⟩ = some (.bool t.absent) ∧ w'.cell? ⟨g3, i * 5, none⟩ = some (.int .i64 nm.kind) ∧ w'.cell? ⟨g3, i * 5 + 1, none⟩ = some (.string (bs nm.owner)) ∧ w'.cell? ⟨g3, i * 5 + 2, none⟩ = some (.int .i64 nm.num) ∧ w'.cell? ⟨g3, i * 5 + 3, none⟩ = some (.int .i64 nm.idx) ∧ w'.cell? ⟨g3, i * 5 + 4, none⟩ = some (.string (bs nm.text)))) (fun _ h => h.1) ?_
                clear hHeld
                have hHeld : (fun (w' : World) => w'.cell? ⟨b, o + k * 3 + 2, none⟩ = some (.bool t.absent) ∧ w'.cell? ⟨g3, i * 5, none⟩ = some (.int .i64 nm.kind) ∧ w'.cell? ⟨g3, i * 5 + 1, none⟩ = some (.string (bs nm.owner)) ∧ w'.cell? ⟨g3, i * 5 + 2, none⟩ = some (.int .i64 nm.num) ∧ w'.cell? ⟨g3, i * 5 + 3, none⟩ = some (.int .i64 nm.idx) ∧ w'.cell? ⟨g3, i * 5 + 4, none⟩ = some (.string (bs nm.text))) _ := ⟨y2, n0, n1, n2, n3, n4⟩
                refine wpAnyH_take (i := 2) (v := ?_) rfl (by kernel_rfl) (by kernel_rfl) (by kernel_rfl) (fun _ _ _ h => h) (Or.inl ⟨by kernel_rfl, ?_⟩) hHeld ?_
                rotate_left
                · (intro w hSw; (try dsimp only at hSw); go_simp; try with_reducible rfl)
                try simp only [Act.put, List.setIfInBounds_toArray, List.set_cons_zero, List.set_cons_succ]
                refine wpAnyH_take (i := 3) (v := ?_) rfl (by kernel_rfl) (by kernel_rfl) (by kernel_rfl) (fun _ _ _ h => h) (Or.inl ⟨by kernel_rfl, ?_⟩) hHeld ?_
                rotate_left
                · (intro w hSw; (try dsimp only at hSw); go_simp; try with_reducible rfl)
                try simp only [Act.put, List.setIfInBounds_toArray, List.set_cons_zero, List.set_cons_succ]
                refine wpAnyH_take (i := 9) (v := ?_) rfl (by kernel_rfl) (by kernel_rfl) (by kernel_rfl) (fun _ _ _ h => h) (Or.inl ⟨by kernel_rfl, ?_⟩) hHeld ?_
                rotate_left
                · (intro w hSw; (try dsimp only at hSw); go_simp; try with_reducible rfl)
                try simp only [Act.put, List.setIfInBounds_toArray, List.set_cons_zero, List.set_cons_succ]
                refine wpAnyH_ready (rs := [11]) (by kernel_rfl) (by simp) ?_
                refine AllReadyH.cons rfl (fun K hK => ?_) AllReadyH.nil
                go_simp
                refine hK.out _ _ ?_ (fun hNew => ?_)
                · exact ⟨(far7 hne1).trans y2, (far7 hne2).trans n0, (far7 hne2).trans n1, (far7 hne2).trans n2, (far7 hne2).trans n3, (far7 hne2).trans n4⟩
                clear hK K hHeld
                have hHeld := hNew
                clear hNew
                try simp only [Act.put, List.setIfInBounds_toArray, List.set_cons_zero, List.set_cons_succ]
                refine wpAnyH_done (by kernel_rfl) ?_ _
                clear hHeld
                try simp only [List.getElem_toArray, List.getElem_cons_zero, List.getElem_cons_succ, Act.put, List.setIfInBounds_toArray, List.set_cons_zero, List.set_cons_succ]
                refine NoPanic.normal ?_
                have HCBf : Hid (Blk (((((((w3.setCell ⟨w2.heap.size, 0, none⟩ (.int .i64 nm.kind)).setCell ⟨w2.heap.size, 1, none⟩ (.string (bs nm.owner))).setCell ⟨w2.heap.size, 2, none⟩ (.int .i64 nm.num)).setCell ⟨w2.heap.size, 3, none⟩ (.int .i64 nm.idx)).setCell ⟨w2.heap.size, 4, none⟩ (.string (bs nm.text))).setCell ⟨w2.heap.size, 5, none⟩ (.string ⟨#[]⟩)).setCell ⟨w2.heap.size, 6, none⟩ (.bool t.absent)) w2.heap.size 52 #[.int .i64 nm.kind, .string (bs nm.owner), .int .i64 nm.num, .int .i64 nm.idx, .string (bs nm.text), .string ⟨#[]⟩, .bool t.absent]) := Lib.hid (blk_cast (((((((HCB.out.set_ 0 (.int .i64 nm.kind)).set_ 1 (.string (bs nm.owner))).set_ 2 (.int .i64 nm.num)).set_ 3 (.int .i64 nm.idx)).set_ 4 (.string (bs nm.text))).set_ 5 (.string ⟨#[]⟩)).set_ 6 (.bool t.absent)) rfl)
                have HBf : Hid (Below w2.heap.size w2 (((((((w3.setCell ⟨w2.heap.size, 0, none⟩ (.int .i64 nm.kind)).setCell ⟨w2.heap.size, 1, none⟩ (.string (bs nm.owner))).setCell ⟨w2.heap.size, 2, none⟩ (.int .i64 nm.num)).setCell ⟨w2.heap.size, 3, none⟩ (.int .i64 nm.idx)).setCell ⟨w2.heap.size, 4, none⟩ (.string (bs nm.text))).setCell ⟨w2.heap.size, 5, none⟩ (.string ⟨#[]⟩)).setCell ⟨w2.heap.size, 6, none⟩ (.bool t.absent))) := Lib.hid (((((((HB3.out.setCell (p := ⟨w2.heap.size, 0, none⟩) (Nat.le_refl _) _).setCell (p := ⟨w2.heap.size, 1, none⟩) (Nat.le_refl _) _).setCell (p := ⟨w2.heap.size, 2, none⟩) (Nat.le_refl _) _).setCell (p := ⟨w2.heap.size, 3, none⟩) (Nat.le_refl _) _).setCell (p := ⟨w2.heap.size, 4, none⟩) (Nat.le_refl _) _).setCell (p := ⟨w2.heap.size, 5, none⟩) (Nat.le_refl _) _).setCell (p := ⟨w2.heap.size, 6, none⟩) (Nat.le_refl _) _)
                clear n0 n1 n2 n3 n4 y2 z0 z1 z2 z3 z4 z5 z6 zf0 zf1 zf2 zf3 zf4 zf5 zf6 HCB
                generalize (((((((w3.setCell ⟨w2.heap.size, 0, none⟩ (.int .i64 nm.kind)).setCell ⟨w2.heap.size, 1, none⟩ (.string (bs nm.owner))).setCell ⟨w2.heap.size, 2, none⟩ (.int .i64 nm.num)).setCell ⟨w2.heap.size, 3, none⟩ (.int .i64 nm.idx)).setCell ⟨w2.heap.size, 4, none⟩ (.string (bs nm.text))).setCell ⟨w2.heap.size, 5, none⟩ (.string ⟨#[]⟩)).setCell ⟨w2.heap.size, 6, none⟩ (.bool t.absent)) = w4 at *
                obtain ⟨cb, hcbe, hcb⟩ : ∃ cb, w2.heap.size = cb ∧ w2.heap.size ≤ cb := ⟨_, rfl, Nat.le_refl _⟩
                rw [hcbe] at HCBf ⊢
                clear hcbe
                have HO4 := Lib.hid (HO2.out.next HBf.out)
                have v1 : w4.cell? ⟨b, o + k * 3 + 1, none⟩ = some (.string (bs t.value)) := (HBf.out.cell (p := ⟨b, o + k * 3 + 1, none⟩) hbr2).trans x1
                have hi5 := chUp_len l i
                have hbs4 : w.heap.size ≤ w4.heap.size := HO4.out.2.1.size
                clear x1 x2 HB2 HB3 hbr3 hg3 hg3'
                obtain ⟨ab, hab⟩ : ∃ ab, t.absent = ab := ⟨_, rfl⟩
                rw [hab] at HCBf
                have HAB := Lib.hid hab
                clear hab
                have q0 := HCBf.out.cell 0
                have q1 := HCBf.out.cell 1
                have q2 := HCBf.out.cell 2
                have q3 := HCBf.out.cell 3
                have q4 := HCBf.out.cell 4
                have q5 := HCBf.out.cell 5
                have q6 := HCBf.out.cell 6
                have r5 := HCBf.out.frozen 5
                simp only [List.getElem?_toArray, List.getElem?_cons_zero, List.getElem?_cons_succ] at q0 q1 q2 q3 q4 q5 q6
                cases ab with
                | true =>
                  have HOW := Lib.hid HO4.out.1
                  have HOO := Lib.hid HO4.out
                  clear v1 r5
                  go_wp2_with (at_builtin; refine wpList_append_lies _ rfl _ _ _ rfl w.heap.size 52 i0 _ 7 80 Tryd.underlying48 hi hz0 hz1 hz2 rfl (by omega) (.slice A3 (chUp l i).length c3) (chUp l i).length ((chUp l i).flatMap chC) (by rfl) (HOW.out.alloc _) ⟨w4.heap.size, 0, none⟩ 1 1 [.int .i64 nm.kind, .string (bs nm.owner), .int .i64 nm.num, .int .i64 nm.idx, .string (bs nm.text), .string ⟨#[]⟩, .bool true] rfl rfl (World.news_of_block (cs := #[.int .i64 nm.kind, .string (bs nm.owner), .int .i64 nm.num, .int .i64 nm.idx, .string (bs nm.text), .string ⟨#[]⟩, .bool true]) (t := 52) (fr := (0, 0)) (heap_alloc_new w4 _)) (by simp [Value.oneCell']) (by omega) (by unfold maxLen; omega) (by omega) (by simp; omega) (w4.heap.size + 1) (by simp) ?_; intro gg cap w5 hown5 hgrow5 hat5 hlt5; have HN5 := Lib.hid hown5; have HG5 := Lib.hid hgrow5; clear hown5 hgrow5 hat5 hlt5)
                  go_roundw
                  case rel =>
                    refine ⟨i + 1, by omega, by go_num, ?_⟩
                    have hbn := below_own (HOO.out.2.1.alloc HOO.out.2.1.size (.cells #[.int .i64 nm.kind, .string (bs nm.owner), .int .i64 nm.num, .int .i64 nm.idx, .string (bs nm.text), .string ⟨#[]⟩, .bool true] 52)) (HOW.out.alloc (.cells #[.int .i64 nm.kind, .string (bs nm.owner), .int .i64 nm.num, .int .i64 nm.idx, .string (bs nm.text), .string ⟨#[]⟩, .bool true] 52)) HG5.out (Nat.le_refl _) (by have := HOO.out.2.1.size; simp; omega)
                    refine ⟨?_, hbn, ?_⟩
                    · rw [chUp_succ, HE.out]
                      refine OwnP.snoc ?_
                      have e : chC (itCh i t) = [.int .i64 nm.kind, .string (bs nm.owner), .int .i64 nm.num, .int .i64 nm.idx, .string (bs nm.text), .string ⟨#[]⟩, .bool true] := by
                        unfold itCh chC
                        rw [HNM.out, HAB.out]
                        rfl
                      rw [e]
                      exact HN5.out
                    · have hg := (HOO.out.2.2.below (((Below.refl w.heap.size w4).alloc HOO.out.2.1.size (.cells #[.int .i64 nm.kind, .string (bs nm.owner), .int .i64 nm.num, .int .i64 nm.idx, .string (bs nm.text), .string ⟨#[]⟩, .bool true] 52))))
                      exact hg.below (below_own (Below.refl w.heap.size _) (HOW.out.alloc (.cells #[.int .i64 nm.kind, .string (bs nm.owner), .int .i64 nm.num, .int .i64 nm.idx, .string (bs nm.text), .string ⟨#[]⟩, .bool true] 52)) HG5.out (Nat.le_refl _) (by have := HOO.out.2.1.size; simp; omega))
                  case measure => simp [intOf]; omega
                | false =>
                  obtain ⟨nn, hmin, hle, hext⟩ : ∃ nn : Nat, (if (20 : Int) < ((bs t.value).size : Int) then (20 : Int) else ((bs t.value).size : Int)) = (nn : Int) ∧ nn ≤ (bs t.value).size ∧ (bs t.value).extract 0 nn = bs (t.value.take 20) := by
                    refine ⟨min t.value.length 20, by rw [bs_size]; split <;> omega, by rw [bs_size]; omega, ?_⟩
                    rw [← bs_of ((bs t.value).extract 0 _), Lib.extract_data, bs_list]
                    refine congrArg bs ?_
                    rw [Nat.sub_zero, List.drop_zero]
                    by_cases h : t.value.length ≤ 20
                    · rw [Nat.min_eq_left h, List.take_length, List.take_of_length_le h]
                    · rw [Nat.min_eq_right (by omega)]
                  have HX := Lib.hid hext
                  have hn0 : (0 : Int) ≤ (nn : Int) := by omega
                  have hn1 : (nn : Int) ≤ ((bs t.value).size : Int) := by omega
                  clear hext
                  go_wp2_with fail
                  refine wp_region_still_tail 14 (by kernel_rfl) (by kernel_rfl) ?_
                  simp only [List.take_succ_cons, List.take_zero, List.drop_succ_cons, List.drop_zero]
                  iterate 14 still_step
                  refine wpStill_nil ?_
                  show wpList _ _ _ _ _ w4.drew
                  go_upto_region 12 with (fail)
                  rw [HX.out]
                  have HCB5 : Hid (Blk ((w4.setCell ⟨cb, 5, none⟩ (.string (bs (t.value.take 20)))).drew) cb 52 #[.int .i64 nm.kind, .string (bs nm.owner), .int .i64 nm.num, .int .i64 nm.idx, .string (bs nm.text), .string (bs (t.value.take 20)), .bool false]) := Lib.hid (blk_cast ((HCBf.out.set_ 5 _).drew) rfl)
                  have HOO := Lib.hid (HO2.out.next ((HBf.out.setCell (p := ⟨cb, 5, none⟩) hcb (.string (bs (t.value.take 20)))).drew))
                  clear q0 q1 q2 q3 q4 q5 q6 r5 v1 HX hn0 hn1 hle hmin HCBf HBf HO2 HO4
                  generalize ((w4.setCell ⟨cb, 5, none⟩ (.string (bs (t.value.take 20)))).drew) = w6 at *
                  have q0 := HCB5.out.cell 0
                  have q1 := HCB5.out.cell 1
                  have q2 := HCB5.out.cell 2
                  have q3 := HCB5.out.cell 3
                  have q4 := HCB5.out.cell 4
                  have q5 := HCB5.out.cell 5
                  have q6 := HCB5.out.cell 6
                  simp only [List.getElem?_toArray, List.getElem?_cons_zero, List.getElem?_cons_succ] at q0 q1 q2 q3 q4 q5 q6
                  have HOW := Lib.hid HOO.out.1
                  have hbs6 : w.heap.size ≤ w6.heap.size := HOO.out.2.1.size
                  go_wp2_with (at_builtin; refine wpList_append_lies _ rfl _ _ _ rfl w.heap.size 52 i0 _ 7 80 Tryd.underlying48 hi hz0 hz1 hz2 rfl (by omega) (.slice A3 (chUp l i).length c3) (chUp l i).length ((chUp l i).flatMap chC) (by rfl) (HOW.out.alloc _) ⟨w6.heap.size, 0, none⟩ 1 1 [.int .i64 nm.kind, .string (bs nm.owner), .int .i64 nm.num, .int .i64 nm.idx, .string (bs nm.text), .string (bs (t.value.take 20)), .bool false] rfl rfl (World.news_of_block (cs := #[.int .i64 nm.kind, .string (bs nm.owner), .int .i64 nm.num, .int .i64 nm.idx, .string (bs nm.text), .string (bs (t.value.take 20)), .bool false]) (t := 52) (fr := (0, 0)) (heap_alloc_new w6 _)) (by simp [Value.oneCell']) (by omega) (by unfold maxLen; omega) (by omega) (by simp; omega) (w6.heap.size + 1) (by simp) ?_; intro gg cap w5 hown5 hgrow5 hat5 hlt5; have HN5 := Lib.hid hown5; have HG5 := Lib.hid hgrow5; clear hown5 hgrow5 hat5 hlt5)
                  go_roundw
                  case rel =>
                    refine ⟨i + 1, by omega, by go_num, ?_⟩
                    have hbn := below_own (HOO.out.2.1.alloc HOO.out.2.1.size (.cells #[.int .i64 nm.kind, .string (bs nm.owner), .int .i64 nm.num, .int .i64 nm.idx, .string (bs nm.text), .string (bs (t.value.take 20)), .bool false] 52)) (HOW.out.alloc (.cells #[.int .i64 nm.kind, .string (bs nm.owner), .int .i64 nm.num, .int .i64 nm.idx, .string (bs nm.text), .string (bs (t.value.take 20)), .bool false] 52)) HG5.out (Nat.le_refl _) (by have := HOO.out.2.1.size; simp; omega)
                    refine ⟨?_, hbn, ?_⟩
                    · rw [chUp_succ, HE.out]
                      refine OwnP.snoc ?_
                      have e : chC (itCh i t) = [.int .i64 nm.kind, .string (bs nm.owner), .int .i64 nm.num, .int .i64 nm.idx, .string (bs nm.text), .string (bs (t.value.take 20)), .bool false] := by
                        unfold itCh chC
                        rw [HNM.out, HAB.out]
                        rfl
                      rw [e]
                      exact HN5.out
                    · have hg := (HOO.out.2.2.below (((Below.refl w.heap.size w6).alloc HOO.out.2.1.size (.cells #[.int .i64 nm.kind, .string (bs nm.owner), .int .i64 nm.num, .int .i64 nm.idx, .string (bs nm.text), .string (bs (t.value.take 20)), .bool false] 52))))
                      exact hg.below (below_own (Below.refl w.heap.size _) (HOW.out.alloc (.cells #[.int .i64 nm.kind, .string (bs nm.owner), .int .i64 nm.num, .int .i64 nm.idx, .string (bs nm.text), .string (bs (t.value.take 20)), .bool false] 52)) HG5.out (Nat.le_refl _) (by have := HOO.out.2.1.size; simp; omega))
                  case measure => simp [intOf]; omega
          · go_wp2_with fail
            go_roundw
            case rel =>
              refine ⟨i + 1, by omega, by go_num, ?_⟩
              have e : chAt l i = none := find_none_take (k := k) (by omega) HN.out
              obtain ⟨q1, q2, q3⟩ := HO.out
              exact ⟨by rw [chUp_succ, e]; simpa using q1, q2, q3⟩
            case measure => simp [intOf]; omega
        · go_wp2_with fail
          go_roundw
          case rel =>
            refine ⟨i + 1, by omega, by go_num, ?_⟩
            have e : chAt l i = none := find_none_take (k := k) (by omega) HN.out
            obtain ⟨q1, q2, q3⟩ := HO.out
            exact ⟨by rw [chUp_succ, e]; simpa using q1, q2, q3⟩
          case measure => simp [intOf]; omega
    · have HI := Lib.hid (show i = 6 by omega)
      go_wp2
      go_ret
      obtain ⟨h1, h2, _⟩ := HR1.out
      rw [HI.out] at h1
      exact ⟨_, rfl, h1, h2⟩
end Go.Proofs.YtobkmkplhbaepaaDoor
/- Walks of layer 46: the first state of a run. -/
namespace Go.Proofs.YtobkmkplhbaepaaDoor
open Go.RowKit
set_option linter.unusedSimpArgs false
set_option linter.unusedVariables false
attribute [local go_sem ↓] Go.wp_at_zero Go.wp_at_succ
theorem mem_changes {l : List It} {c : Ch} (h : c ∈ changesS l) : ∃ i t, i < 6 ∧ t ∈ l ∧ c = itCh i t := by
  unfold changesS chUp at h
  obtain ⟨i, hi, h⟩ := List.mem_filterMap.1 h
  unfold chAt at h
  cases hf : (l.take 10).find? (hit i) with
  | none => rw [hf] at h; cases h
  | some t =>
    rw [hf] at h
    injection h with h
    exact ⟨i, t, List.mem_range.1 hi, List.mem_of_mem_take (List.mem_of_find?_eq_some hf), h.symm⟩
theorem changes_v {l : List It} : ∀ c ∈ changesS l, ChV c := by
  intro c h
  obtain ⟨i, t, hi, _, rfl⟩ := mem_changes h
  refine ⟨obI_ob hi, ?_⟩
  unfold itCh
  simp only
  split
  · simp
  · have := List.length_take_le 20 t.value
    omega
theorem changes_len (l : List It) : (changesS l).length ≤ 6 := chUp_len l 6
theorem st0_v : StV [] := ⟨⟨List.Pairwise.nil, by simp⟩, by simp⟩
/-- The first state of a run. -/
def baseS (r : Rn) : St := appS [] (changesS r.base)
theorem base_v (r : Rn) : StV (baseS r) := StV.appS st0_v changes_v
set_option maxRecDepth 100000 in
set_option maxHeartbeats 1000000 in
theorem base_is {w : World} {v1 v2 : Value} {r : Rn} (h : RaIt w.heap.size w v1 r.base) (hl : r.base.length ≤ 9223372036854775807) (hu : UseAt w) : Calls Tryd.prog 8 #[.agg #[v1, v2]] w (NewP (baseS r) w) := by
  have hb1 : Below w.heap.size w (w.alloc (.cells #[v1, v2] 25)) := (Below.refl _ _).alloc (Nat.le_refl _) _
  have HK := Lib.hid (Blk.new w 25 #[v1, v2])
  have HU := Lib.hid (hu.below hb1)
  have HA := Lib.hid (h.below hb1)
  have HB := Lib.hid hb1
  obtain ⟨A, c, rfl, _⟩ := h.form
  clear h hu hb1
  go_enter Tryd.func8, Tryd.ntmps8
  go_wp2_with fail
  generalize (w.alloc (.cells #[.slice A r.base.length c, v2] 25)) = W at *
  generalize hB : w.heap.size = B0 at *
  have hbW : B0 ≤ W.heap.size := by have := HB.out.size; omega
  have HBB := Lib.hid hB
  clear hB
  have c0 : W.cell? ⟨B0, 0, none⟩ = some (.slice A r.base.length c) := HK.out.cell 0
  refine wp_region_noPanic ?_
  refine wp_region_held_drew (S := (fun w' => w'.cell? ⟨B0, 0, none⟩ = some (.slice A r.base.length c))) (by kernel_rfl) ?_ (fun hHeld => ?_)
  · exact c0
  refine wpAnyH_take (i := 1) (v := ?_) rfl (by kernel_rfl) (by kernel_rfl) (by kernel_rfl) (fun _ _ _ h => h) (Or.inl ⟨by kernel_rfl, ?_⟩) hHeld ?_
  rotate_left
  · (intro w hSw; (try dsimp only at hSw); go_simp; try with_reducible rfl)
  try simp only [Act.put, List.setIfInBounds_toArray, List.set_cons_zero, List.set_cons_succ]
  refine wpAnyH_take (i := 2) (v := ?_) rfl (by kernel_rfl) (by kernel_rfl) (by kernel_rfl) (fun _ _ _ h => h) (Or.inl ⟨by kernel_rfl, ?_⟩) hHeld ?_
  rotate_left
  · (intro w hSw; (try dsimp only at hSw); go_simp; try with_reducible rfl)
  try simp only [Act.put, List.setIfInBounds_toArray, List.set_cons_zero, List.set_cons_succ]
  refine wpAnyH_ready (rs := [0]) (by kernel_rfl) (by simp) ?_
  refine AllReadyH.cons rfl (fun K hK => ?_) AllReadyH.nil
  go_simp
  refine (new_is _).mono ?_; rintro e w2 ⟨p2, rfl, hs2, hb2⟩; have hb2' := (Below.refl W.heap.size W).drew.trans hb2; have HS2 := Lib.hid hs2; have HB2 := Lib.hid (HB.out.trans (hb2'.mono hbW)); have hbW2 : B0 ≤ w2.heap.size := Nat.le_trans hbW hb2'.size; have HK2 := Lib.hid (HK.out.next hb2' HK.out.lt); have HU2 := Lib.hid (HU.out.below hb2'); have HA2 := Lib.hid (HA.out.below (hb2'.mono hbW)); have x2 : w2.cell? ⟨B0, 0, none⟩ = some (.slice A r.base.length c) := HK2.out.cell 0; clear hb2 hb2' hs2
  try (go_wp2_with fail)
  refine hK.out _ _ ?_ (fun hNew => ?_)
  · exact x2
  clear hK K hHeld
  have hHeld := hNew
  clear hNew
  try simp only [Act.put, List.setIfInBounds_toArray, List.set_cons_zero, List.set_cons_succ]
  refine wpAnyH_ready (rs := [3]) (by kernel_rfl) (by simp) ?_
  refine AllReadyH.cons rfl (fun K hK => ?_) AllReadyH.nil
  go_simp
  refine (changes_is (l := r.base) (HA2.out.next_ hbW2) hl).mono ?_; rintro e w3 ⟨v3, rfl, ho3, hb3⟩; have HO3 := Lib.hid ho3; have HS3 := Lib.hid (HS2.out.next hb3); have HB3 := Lib.hid (HB2.out.trans (hb3.mono hbW2)); have hbW3 : B0 ≤ w3.heap.size := Nat.le_trans hbW2 hb3.size; have HK3 := Lib.hid (HK2.out.next hb3 HK2.out.lt); have HU3 := Lib.hid (HU2.out.below hb3); have x3 : w3.cell? ⟨B0, 0, none⟩ = some (.slice A r.base.length c) := HK3.out.cell 0; clear hb3 ho3
  try (go_wp2_with fail)
  refine hK.out _ _ ?_ (fun hNew => ?_)
  · exact x3
  clear hK K hHeld
  have hHeld := hNew
  clear hNew
  try simp only [Act.put, List.setIfInBounds_toArray, List.set_cons_zero, List.set_cons_succ]
  refine wpAnyH_ready (rs := [4]) (by kernel_rfl) (by simp) ?_
  refine AllReadyH.cons rfl (fun K hK => ?_) AllReadyH.nil
  go_simp
  refine (apply_st (l := changesS r.base) HS3.out st0_v HO3.out.rd changes_v HU3.out (by have := changes_len r.base; omega)).mono ?_; rintro e w4 ⟨q, rfl, hs4, hb4⟩; have HS4 := Lib.hid hs4; have HB4 := Lib.hid (HB3.out.trans (hb4.mono hbW3)); have HK4 := Lib.hid (HK3.out.next hb4 HK3.out.lt); have x4 : w4.cell? ⟨B0, 0, none⟩ = some (.slice A r.base.length c) := HK4.out.cell 0; clear hb4 hs4
  try (go_wp2_with fail)
  refine hK.out _ _ ?_ (fun hNew => ?_)
  · exact x4
  clear hK K hHeld
  have hHeld := hNew
  clear hNew
  try simp only [Act.put, List.setIfInBounds_toArray, List.set_cons_zero, List.set_cons_succ]
  refine wpAnyH_take (i := 5) (v := ?_) rfl (by kernel_rfl) (by kernel_rfl) (by kernel_rfl) (fun _ _ _ h => h) (Or.inl ⟨by kernel_rfl, ?_⟩) hHeld ?_
  rotate_left
  · (intro w hSw; (try dsimp only at hSw); go_simp; try with_reducible rfl)
  try simp only [Act.put, List.setIfInBounds_toArray, List.set_cons_zero, List.set_cons_succ]
  refine wpAnyH_take (i := 6) (v := ?_) rfl (by kernel_rfl) (by kernel_rfl) (by kernel_rfl) (fun _ _ _ h => h) (Or.inl ⟨by kernel_rfl, ?_⟩) hHeld ?_
  rotate_left
  · (intro w hSw; (try dsimp only at hSw); go_simp; try with_reducible rfl)
  try simp only [Act.put, List.setIfInBounds_toArray, List.set_cons_zero, List.set_cons_succ]
  refine wpAnyH_take (i := 7) (v := ?_) rfl (by kernel_rfl) (by kernel_rfl) (by kernel_rfl) (fun _ _ _ h => h) (Or.inl ⟨by kernel_rfl, ?_⟩) hHeld ?_
  rotate_left
  · (intro w hSw; (try dsimp only at hSw); go_simp; try with_reducible rfl)
  try simp only [Act.put, List.setIfInBounds_toArray, List.set_cons_zero, List.set_cons_succ]
  refine wpAnyH_take (i := 8) (v := ?_) rfl (by kernel_rfl) (by kernel_rfl) (by kernel_rfl) (fun _ _ _ h => h) (Or.inl ⟨by kernel_rfl, ?_⟩) hHeld ?_
  rotate_left
  · (intro w hSw; (try dsimp only at hSw); go_simp; try with_reducible rfl)
  try simp only [Act.put, List.setIfInBounds_toArray, List.set_cons_zero, List.set_cons_succ]
  refine wpAnyH_take (i := 9) (v := ?_) rfl (by kernel_rfl) (by kernel_rfl) (by kernel_rfl) (fun _ _ _ h => h) (Or.inl ⟨by kernel_rfl, ?_⟩) hHeld ?_
  rotate_left
  · (intro w hSw; (try dsimp only at hSw); go_simp; try with_reducible rfl)
  try simp only [Act.put, List.setIfInBounds_toArray, List.set_cons_zero, List.set_cons_succ]
  refine wpAnyH_done (by kernel_rfl) ?_ _
  clear hHeld
  try simp only [List.getElem_toArray, List.getElem_cons_zero, List.getElem_cons_succ, Act.put, List.setIfInBounds_toArray, List.set_cons_zero, List.set_cons_succ]
  refine NoPanic.normal ?_
  go_wp2
  go_ret
  rw [← HBB.out] at HB4
  exact ⟨q, rfl, HS4.out, HB4.out⟩
end Go.Proofs.YtobkmkplhbaepaaDoor
/- Plain facts of layer 46: the actions of the runs are as wanted. -/
namespace Go.Proofs.YtobkmkplhbaepaaDoor
set_option linter.unusedVariables false
theorem chR_of {c : Ch} (h : ChV c) : ChR c := ⟨.inl h.1, Nat.le_trans h.2 (by omega)⟩
theorem acts_r1 {t : Int} {a : Act} (h1 : 0 ≤ t) (h2 : t ≤ 100) (h3 : 0 ≤ a.num) (h4 : a.num < 256) : AcR (oneA t a) := by
  have hr : ∀ c ∈ changesS a.reads, ChR c := fun c hc => chR_of (changes_v c hc)
  have hw : ∀ c ∈ changesS a.writes, ChR c := fun c hc => chR_of (changes_v c hc)
  have lr := changes_len a.reads
  have lw := changes_len a.writes
  have o0 : IsOb (obI 0) := obI_ob (by omega)
  have o1 : IsOb (obI 1) := obI_ob (by omega)
  unfold oneA spoilC plainA
  split
  · exact ⟨⟨by simp, by simp, rfl, by simp only; omega, by simp only; omega, rfl⟩, hr, hw, by simp only; omega, by simp only; omega⟩
  split
  · refine ⟨⟨by simp only; omega, by simp only; omega, rfl, by simp only; omega, by simp only; omega, rfl⟩, hr, fun c hc => ?_, by simp only; omega, by simp only [List.length_append, List.length_cons, List.length_nil]; omega⟩
    rcases List.mem_append.1 hc with h | h
    · exact hw c h
    · simp only [List.mem_cons, List.not_mem_nil, or_false] at h
      rcases h with rfl | rfl <;> exact ⟨.inl o0, by simp⟩
  split
  · refine ⟨⟨by simp only; omega, by simp only; omega, rfl, by simp only; omega, by simp only; omega, rfl⟩, fun c hc => ?_, hw, by simp only [List.length_append, List.length_cons, List.length_nil]; omega, by simp only; omega⟩
    rcases List.mem_append.1 hc with h | h
    · exact hr c h
    · simp only [List.mem_cons, List.not_mem_nil, or_false] at h
      subst h
      exact ⟨.inr rfl, by simp⟩
  split
  · refine ⟨⟨by simp only; omega, by simp only; omega, rfl, by simp only; omega, by simp only; omega, rfl⟩, hr, fun c hc => ?_, by simp only; omega, by simp only [List.length_cons, List.length_nil]; omega⟩
    simp only [List.mem_cons, List.not_mem_nil, or_false] at hc
    subst hc
    exact ⟨.inl o1, by simp⟩
  split
  · refine ⟨⟨by simp only; omega, by simp only; omega, rfl, by simp only; omega, by simp only; omega, rfl⟩, hr, fun c hc => ?_, by simp only; omega, by simp only [List.length_cons, List.length_nil]; omega⟩
    simp only [List.mem_cons, List.not_mem_nil, or_false] at hc
    subst hc
    exact ⟨.inl o1, by simp only [List.length_replicate]; omega⟩
  · exact ⟨⟨by simp only; omega, by simp only; omega, rfl, by simp only; omega, by simp only; omega, rfl⟩, hr, hw, by simp only; omega, by simp only; omega⟩
def ActOk (a : Act) : Prop := 0 ≤ a.wait ∧ 0 ≤ a.num ∧ a.num < 256
theorem acts_rT : ∀ (l : List Act) (t : Int), 0 ≤ t → t + 2 * l.length ≤ 100 → (∀ a ∈ l, ActOk a) → ∀ b ∈ actsT t l, AcR b
  | [], t, _, _, _, b, hb => by cases hb
  | a :: l, t, h1, h2, h, b, hb => by
    have e1 : 0 ≤ a.wait % 3 := Int.emod_nonneg _ (by decide)
    have e2 : a.wait % 3 < 3 := Int.emod_lt_of_pos _ (by decide)
    simp only [List.length_cons] at h2
    have ha := h a (by simp)
    unfold actsT at hb
    rcases List.mem_cons.1 hb with rfl | hb
    · exact acts_r1 (by omega) (by omega) ha.2.1 ha.2.2
    · exact acts_rT l _ (by omega) (by omega) (fun c hc => h c (by simp [hc])) b hb
theorem acts_r {r : Rn} (h : ∀ a ∈ r.acts, ActOk a) : ∀ b ∈ actsS r, AcR b := by
  unfold actsS
  refine acts_rT _ 1 (by omega) ?_ fun a ha => h a (List.mem_of_mem_take ha)
  rw [List.length_take]
  omega
end Go.Proofs.YtobkmkplhbaepaaDoor
