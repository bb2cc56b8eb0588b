/- Walks of layer 41: scan. -/
import Derived.Test.YtiddchpkmcncdaaX10
import Derived.Test.YtiddchpkmcncdaaK3
import Derived.Test.YtiddchpkmcncdaaM2
namespace Go.Proofs.Ytiddchpkmcncdaa
open Go.RowKit
set_option linter.unusedSimpArgs false
set_option linter.unusedVariables false
/-- What the loop of scan keeps. -/
def TRel (w : World) (g : Nat) (s : ByteArray) (gk : Nat) (wr : World) : Prop :=
  (∃ k acc vt vw vx, Blk wr g 86 (scC s (k : Nat) vt vw vx 0 0) ∧ TkOwn wr w.heap.size vt acc ∧ w.grownBy wr (some g) ∧ k ≤ s.size ∧ acc.length ≤ k ∧ s.size + 1 ≤ gk + k ∧ toksP s 0 = (toksP s k).pre acc) ∨
  ∃ vt vw vx q e, Blk wr g 86 (scC s s.size vt vw vx (q : Nat) e) ∧ w.grownBy wr (some g) ∧ e ≠ 0 ∧ toksP s 0 = .err q e
/-- What scan leaves. -/
def TPost (w : World) (g : Nat) (s : ByteArray) (e : Ending) (w' : World) : Prop :=
  e = .returned (.tuple #[]) ∧ w.grownBy w' (some g) ∧ ∃ vt vw vx, match toksP s 0 with
    | .ok l => TkOwn w' w.heap.size vt l ∧ Blk w' g 86 (scC s s.size vt vw vx 0 0)
    | .err q e => e ≠ 0 ∧ Blk w' g 86 (scC s s.size vt vw vx q e)
theorem TPost.ok {w : World} {g : Nat} {s : ByteArray} {w' : World} {l : List Tk} {vt vw vx : Value} (hr : toksP s 0 = .ok l) (h1 : w.grownBy w' (some g)) (h2 : TkOwn w' w.heap.size vt l) (h3 : Blk w' g 86 (scC s s.size vt vw vx 0 0)) : TPost w g s (.returned (.tuple #[])) w' :=
  ⟨rfl, h1, vt, vw, vx, by rw [hr]; exact ⟨h2, h3⟩⟩
theorem TPost.bad {w : World} {g : Nat} {s : ByteArray} {w' : World} {q : Nat} {e : Int} {vt vw vx : Value} (hr : toksP s 0 = .err q e) (he : e ≠ 0) (h1 : w.grownBy w' (some g)) (h3 : Blk w' g 86 (scC s s.size vt vw vx q e)) : TPost w g s (.returned (.tuple #[])) w' :=
  ⟨rfl, h1, vt, vw, vx, by rw [hr]; exact ⟨he, h3⟩⟩
theorem TkOwn.drewN {w : World} {base : Nat} {v : Value} {l : List Tk} (h : TkOwn w base v l) (n : Nat) : TkOwn (w.drewN n) base v l := h
theorem TkOwn.drew {w : World} {base : Nat} {v : Value} {l : List Tk} (h : TkOwn w base v l) : TkOwn w.drew base v l := h
/-- Behind stores into a block of another type. -/
theorem TkOwn.blk {w w' : World} {base g : Nat} {t : TypeId} {cs : Array Value} {v : Value} {l : List Tk} (h : TkOwn w base v l) (hb : Blk w g t cs) (hg : w.grownBy w' (some g)) (h1 : 61 ≠ t) (h2 : 128 ≠ t) : TkOwn w' base v l := by
  obtain ⟨vs, k1, k2⟩ := h
  exact ⟨vs, k1.imp (fun _ _ h => Rd.blk h hb hg h1), k2.kept hg (.inr (own_blk_ne k2 hb h2))⟩
theorem TkOwn.next {w w' : World} {base : Nat} {v : Value} {l : List Tk} (h : TkOwn w base v l) (hb : Below w.heap.size w w') : TkOwn w' base v l := by
  obtain ⟨vs, k1, k2⟩ := h
  exact ⟨vs, k1.imp (fun _ _ h => Rd.next h hb), own_next k2 hb⟩
theorem own_lt_ne {w : World} {base : Nat} {v : Value} {l : List Tk} (h : TkOwn w base v l) : v.ownBlock ≠ some w.heap.size := by
  obtain ⟨vs, _, h2⟩ := h
  intro e
  have := (h2.lt _ e).2
  omega
theorem TkOwn.set {w : World} {base tb : Nat} {cs : Array Value} {v : Value} {l : List Tk} (h : TkOwn w base v l) (hb : Blk w tb 128 cs) (hne : v.ownBlock ≠ some tb) (i : Nat) (u : Value) : TkOwn (w.setCell ⟨tb, i, none⟩ u) base v l := by
  obtain ⟨vs, k1, k2⟩ := h
  have hg : w.grownBy (w.setCell ⟨tb, i, none⟩ u) (some tb) := only_setCell (p := ⟨tb, i, none⟩) (World.grownBy.refl _ _) (.inl rfl) _
  exact ⟨vs, k1.imp (fun _ _ h => Rd.blk h hb hg (by decide)), k2.kept hg (.inr hne)⟩
theorem S_keep {w : World} {g tb : Nat} {x y : Value} (hg : g ≠ tb) (h : w.cell? ⟨g, 0, none⟩ = some x ∧ w.cell? ⟨tb, 0, none⟩ = some y) (i : Nat) (hi : i ≠ 0) (u : Value) : (w.setCell ⟨tb, i, none⟩ u).cell? ⟨g, 0, none⟩ = some x ∧ (w.setCell ⟨tb, i, none⟩ u).cell? ⟨tb, 0, none⟩ = some y := by
  constructor
  · rw [World.cell?_setCell_other w _ _ u (by intro e; injection e with e; omega)]; exact h.1
  · rw [World.cell?_setCell_other w _ _ u (by intro e; injection e with _ e; omega)]; exact h.2
theorem assigned_at (s : ByteArray) (k : Nat) (w : World) (hs : s.size ≤ 100000) :
    Calls Try.prog 73 #[.string (s.extract k s.size)] w fun e w' => e = .returned (.string (bs (asgS (dr s k)))) ∧ ∃ m, w' = w.drewN m := by
  refine (assigned_any (s.extract k s.size) w (by rw [size_extract s k s.size (Nat.le_refl _)]; omega)).mono ?_
  rintro e w' ⟨rfl, hm⟩
  exact ⟨ret_str (by rw [ext_end, bs_list]), hm⟩
/-- A token is appended. -/
theorem scan_push {w W W' w1 : World} {g : Nat} {s : ByteArray} {p : Nat} {vt vw vx v' wv : Value} {wh er : Int} {acc : List Tk} {vs : List Value} {t : Tk}
    (h1 : Blk W g 86 (scC s p vt vw vx wh er)) (h2 : TkW W acc vs) (h3 : W.ownsRow w.heap.size 128 4 vt acc.length (tkC acc vs)) (h4 : w.grownBy W (some g)) (hg : g < w.heap.size)
    (hb : Below W.heap.size W W') (hk : W'.grownBy w1 vt.ownBlock) (hown : w1.ownsRow w.heap.size 128 4 v' (acc.length + 1) (tkC acc vs ++ tkV t wv)) (hv : RdW W wv t.word) :
    TkOwn (w1.setCell ⟨g, 2, none⟩ v') w.heap.size v' (acc ++ [t]) ∧ Blk (w1.setCell ⟨g, 2, none⟩ v') g 86 (scC s p v' vw vx wh er) ∧ w.grownBy (w1.setCell ⟨g, 2, none⟩ v') (some g) ∧ Blk w1 g 86 (scC s p vt vw vx wh er) := by
  have n1 := own_blk_ne h3 h1 (by decide)
  have hB : Blk w1 g 86 (scC s p vt vw vx wh er) := Blk.grown (h1.next hb h1.lt) hk (Ne.symm n1)
  have hg1 : w1.grownBy (w1.setCell ⟨g, 2, none⟩ v') (some g) := only_setCell (p := ⟨g, 2, none⟩) (World.grownBy.refl _ _) (.inl rfl) _
  have a1 : w.grownBy W' (some g) := grown_trans h4 (only_of_below hb _)
  have imp : ∀ v ps, RdW W v ps → RdW (w1.setCell ⟨g, 2, none⟩ v') v ps := fun v ps h => Rd.blk (Rd.far (Rd.next h hb) (own_next h3 hb) hk (by decide)) hB hg1 (by decide)
  refine ⟨⟨vs ++ [wv], (h2.imp imp).snoc (imp _ _ hv), ?_⟩, blk_cast (hB.set_ 2 _) rfl, grown_trans (only_row a1 hk (fun i e => own_ge h3 e)) hg1, hB⟩
  rw [tkC_snoc _ _ _ _ h2.1, List.length_append]
  exact hown.kept hg1 (.inr (own_blk_ne hown hB (by decide)))
set_option maxRecDepth 100000 in
set_option maxHeartbeats 16000000 in
theorem scan_any (w : World) (g : Nat) (s : ByteArray) (vw vx : Value) (h : Blk w g 86 (scC s 0 (.slice none 0 0) vw vx 0 0)) (hs : s.size ≤ 100000) :
    Calls Try.prog 40 #[ptr g] w fun r w' => TPost w g s r w' := by
  obtain ⟨i0, hi, hz0, hz1, hz2⟩ := info_parts info128
  have H := Lib.hid h
  have hgl := h.lt
  clear h
  go_enter Try.func40, Try.ntmps40
  go_wp2
  go_loopg [6] (s.size + 1) (fun gk _ wr => TRel w g s gk wr)
  case atStart => exact .inl ⟨0, [], _, _, _, H.out, ⟨[], ⟨rfl, fun i t v h => by simp at h⟩, World.ownsRow_nil _ _ _ _⟩, World.grownBy.refl _ _, Nat.zero_le _, Nat.le_refl _, by omega, by rw [R.pre_nil]⟩
  case round =>
    rcases hrel with ⟨k, acc, vt, vw, vx, hw, ht, hgr, hk, hacc, hgk, hr⟩ | ⟨vt, vw, vx, q, e0, hw, hgr, he, hr⟩
    · have HR := Lib.hid hr
      have HW := Lib.hid hw
      have HT := Lib.hid ht
      have c0 : wr.cell? ⟨g, 0, none⟩ = some (.string s) := hw.cell 0
      have c1 : wr.cell? ⟨g, 1, none⟩ = some (.int .i64 k) := hw.cell 1
      have f1 := hw.frozen 1
      have hg1 : g < wr.heap.size := hw.lt
      clear hw hr ht
      by_cases hlt : k < s.size
      · have hb := bt_of s k hlt
        have e4 : (k : Int) < (s.size : Int) := by omega
        have e5 : (0 : Int) ≤ (k : Int) := by omega
        cases b1 : blkI (bt s k) with
        | true =>
          have HR2 := Lib.hid (HR.out.trans (by rw [toksP_blank s k hlt b1]))
          have HB1 := Lib.hid b1
          clear HR b1
          go_wp2
          go_quiet (fail)
          have HW2 := Lib.hid (HW.out.drewN nq)
          have HT2 := Lib.hid (HT.out.drewN nq)
          have hgr2 := only_drewN hgr nq
          clear HW HT hgr c0 c1 f1
          generalize wr.drewN nq = wa at *
          have c0 : wa.cell? ⟨g, 0, none⟩ = some (.string s) := HW2.out.cell 0
          have c1 : wa.cell? ⟨g, 1, none⟩ = some (.int .i64 k) := HW2.out.cell 1
          have f1 := HW2.out.frozen 1
          go_wp2
          go_quiet ((go_at_call 70; exact quiet_left (isBlank_at _ true HB1.out _)))
          go_wp2
          have hG : wa.grownBy ((wa.drewN nq).setCell ⟨g, 1, none⟩ (.int .i64 ((k : Int) + 1))) (some g) := only_setCell (p := ⟨g, 1, none⟩) (only_drewN (World.grownBy.refl _ _) nq) (.inl rfl) _
          go_roundg (gk - 1)
          case rel => exact .inl ⟨k + 1, acc, vt, vw, vx, blk_cast ((HW2.out.drewN nq).set_ 1 _) rfl, HT2.out.blk HW2.out hG (by decide) (by decide), grown_trans hgr2 hG, by omega, by omega, by omega, HR2.out⟩
          case measure => omega
        | false =>
          have HB1 := Lib.hid b1
          clear b1
          go_wp2
          go_quiet (fail)
          have HW2 := Lib.hid (HW.out.drewN nq)
          have HT2 := Lib.hid (HT.out.drewN nq)
          have hgr2 := only_drewN hgr nq
          clear HW HT hgr c0 c1 f1
          generalize wr.drewN nq = wa at *
          have c0 : wa.cell? ⟨g, 0, none⟩ = some (.string s) := HW2.out.cell 0
          have c1 : wa.cell? ⟨g, 1, none⟩ = some (.int .i64 k) := HW2.out.cell 1
          go_wp2
          go_quiet ((go_at_call 70; exact quiet_left (isBlank_at _ false HB1.out _)))
          have HW := Lib.hid (HW2.out.drewN nq)
          have HT := Lib.hid (HT2.out.drewN nq)
          have hgr := only_drewN hgr2 nq
          clear HW2 HT2 hgr2 c0 c1
          generalize wa.drewN nq = wb at *
          have c0 : wb.cell? ⟨g, 0, none⟩ = some (.string s) := HW.out.cell 0
          have c1 : wb.cell? ⟨g, 1, none⟩ = some (.int .i64 k) := HW.out.cell 1
          have hg2 : g < wb.heap.size := HW.out.lt
          have hn0 := World.new_ne wb ⟨g, 0, none⟩ c0
          have hn1 := World.new_ne wb ⟨g, 1, none⟩ c1
          obtain ⟨o, ho⟩ : ∃ o, opAt (dr s k) = o := ⟨_, rfl⟩
          have HO := Lib.hid ho
          clear ho
          go_wp2
          go_region_held3 (fun w' => w'.cell? ⟨g, 0, none⟩ = some (.string s) ∧ w'.cell? ⟨g, 1, none⟩ = some (.int .i64 k)) (go_keep) (first | (go_at_call 71; refine (operatorAt_at s k o HO.out _ hk hs).mono ?_; rintro e w' ⟨rfl, rfl⟩))
          all_goals
            have hT := Lib.hid (show Blk ((wb.alloc (.cells #[.int .i64 (k : Int), .string (bs o), .slice none 0 0, .string ⟨#[]⟩] 128)).drew) wb.heap.size 128 #[.int .i64 (k : Int), .string (bs o), .slice none 0 0, .string ⟨#[]⟩] from (Blk.new wb 128 _).drew)
            have HWc := Lib.hid ((HW.out.alloc (.cells #[.int .i64 (k : Int), .string (bs o), .slice none 0 0, .string ⟨#[]⟩] 128)).drew)
            have HTc := Lib.hid (TkOwn.drew (HT.out.next ((Below.refl _ _).alloc (Nat.le_refl _) (.cells #[.int .i64 (k : Int), .string (bs o), .slice none 0 0, .string ⟨#[]⟩] 128))))
            have hgrc := only_drew (only_alloc hgr (.cells #[.int .i64 (k : Int), .string (bs o), .slice none 0 0, .string ⟨#[]⟩] 128))
            have htb : w.heap.size ≤ wb.heap.size := hgr.size
            have HLT : Hid (vt.ownBlock ≠ some wb.heap.size) := own_lt_ne HT.out
            clear HW HT hgr c0 c1 hn0 hn1
            go_upto_region 4 with (fail)
            generalize ((wb.alloc (.cells #[.int .i64 (k : Int), .string (bs o), .slice none 0 0, .string ⟨#[]⟩] 128)).drew) = wc at *
            generalize wb.heap.size = tb at *
            have t0 : wc.cell? ⟨tb, 0, none⟩ = some (.int .i64 (k : Int)) := hT.out.cell 0
            have t1 : wc.cell? ⟨tb, 1, none⟩ = some (.string (bs o)) := hT.out.cell 1
            have t2 : wc.cell? ⟨tb, 2, none⟩ = some (.slice none 0 0) := hT.out.cell 2
            have t3 : wc.cell? ⟨tb, 3, none⟩ = some (.string ⟨#[]⟩) := hT.out.cell 3
            have tf2 := hT.out.frozen 2
            have tf3 := hT.out.frozen 3
            have c0 : wc.cell? ⟨g, 0, none⟩ = some (.string s) := HWc.out.cell 0
            have c1 : wc.cell? ⟨g, 1, none⟩ = some (.int .i64 k) := HWc.out.cell 1
            have f1 := HWc.out.frozen 1
            have hgt : g ≠ tb := by omega
            have hgt' : ¬ tb = g := by omega
            by_cases o1 : o = []
            · subst o1
              have t1' : wc.cell? ⟨tb, 1, none⟩ = some (.string ⟨#[]⟩) := t1
              clear t1
              have hcell : Hid (∀ (w1 : World), wc.grownBy w1 (some g) → Blk w1 tb 128 #[.int .i64 (k : Int), .string (bs []), .slice none 0 0, .string ⟨#[]⟩]) := fun w1 h => hT.out.grown h (by intro e; injection e with e; omega)
              rcases toksP_word s k hlt HB1.out HO.out with ⟨ps, tx, q, hwp, hq1, hq2, htk⟩ | ⟨q, e0, hwp, he, htk⟩
              · have HWP := Lib.hid hwp
                have HR2 := Lib.hid (show toksP s 0 = (toksP s q).pre (acc ++ [⟨k, [], finS ps tx, asgS (dr s k)⟩]) by rw [HR.out, htk, R.pre_cons])
                clear hwp htk HR
                go_wp2
                go_region_held3 (fun w' => w'.cell? ⟨g, 0, none⟩ = some (.string s) ∧ w'.cell? ⟨tb, 0, none⟩ = some (.int .i64 k))
                  (first | (with_reducible exact ⟨d0, d1⟩) | (exact S_keep hgt ⟨d0, d1⟩ _ (by decide) _) | (exact S_keep hgt (S_keep hgt ⟨d0, d1⟩ _ (by decide) _) _ (by decide) _) | go_keep)
                  (first
                    | (go_at_call 72; refine (scanWord_any _ g s vt vw vx k (Blk.drew HWc.out) hs hk).mono ?_; rintro e w1 ⟨wv, vw1, vx1, ps1, rfl, hown, hgro, hm⟩; rw [HWP.out] at hm; obtain ⟨rfl, hB⟩ := hm; obtain ⟨av, cv, rfl, _⟩ := own_len hown; have HBB := Lib.hid hB; have HGG := Lib.hid (grown_trans (only_drew (World.grownBy.refl wc (some g))) hgro); have d0 : w1.cell? ⟨g, 0, none⟩ = some (.string s) := hB.cell 0; have hTT := Lib.hid (hcell.out w1 HGG.out); have d1 : w1.cell? ⟨tb, 0, none⟩ = some (.int .i64 k) := hTT.out.cell 0; have d2 : w1.cell? ⟨tb, 2, none⟩ = some (.slice none 0 0) := hTT.out.cell 2; have d3 : w1.cell? ⟨tb, 3, none⟩ = some (.string ⟨#[]⟩) := hTT.out.cell 3; have k2 := hTT.out.frozen 2; have k3 := hTT.out.frozen 3; have HOW := Lib.hid hown; clear hB hgro hown)
                    | (go_at_call 73; refine (assigned_at s k _ hs).mono ?_; rintro e w2 ⟨rfl, m, rfl⟩))
                all_goals
                  go_upto_region 7 with (fail)
                  have hT1 := Lib.hid ((hTT.out.drewN m).set_ 2 (.slice av (finS ps tx).length cv))
                  have hTd := Lib.hid (show Blk (((w1.drewN m).setCell ⟨tb, 2, none⟩ (.slice av (finS ps tx).length cv)).setCell ⟨tb, 3, none⟩ (.string (bs (asgS (dr s k))))) tb 128 #[.int .i64 (k : Int), .string (bs []), .slice av (finS ps tx).length cv, .string (bs (asgS (dr s k)))] from blk_cast (hT1.out.set_ 3 (.string (bs (asgS (dr s k))))) rfl)
                  have HWd := Lib.hid (show Blk (((w1.drewN m).setCell ⟨tb, 2, none⟩ (.slice av (finS ps tx).length cv)).setCell ⟨tb, 3, none⟩ (.string (bs (asgS (dr s k))))) g 86 (scC s (q : Nat) vt vw1 vx1 0 0) from ((HBB.out.drewN m).far (p := ⟨tb, 2, none⟩) hgt _).far (p := ⟨tb, 3, none⟩) hgt _)
                  have HTd := Lib.hid (show TkOwn (((w1.drewN m).setCell ⟨tb, 2, none⟩ (.slice av (finS ps tx).length cv)).setCell ⟨tb, 3, none⟩ (.string (bs (asgS (dr s k))))) w.heap.size vt acc from (((HTc.out.blk HWc.out HGG.out (by decide) (by decide)).drewN m).set (hTT.out.drewN m) HLT.out 2 _).set hT1.out HLT.out 3 _)
                  have hgrd : w.grownBy (((w1.drewN m).setCell ⟨tb, 2, none⟩ (.slice av (finS ps tx).length cv)).setCell ⟨tb, 3, none⟩ (.string (bs (asgS (dr s k))))) (some g) := only_setCell (p := ⟨tb, 3, none⟩) (only_setCell (p := ⟨tb, 2, none⟩) (only_drewN (grown_trans hgrc HGG.out) m) (.inr htb) _) (.inr htb) _
                  have HRD := Lib.hid (show RdW (((w1.drewN m).setCell ⟨tb, 2, none⟩ (.slice av (finS ps tx).length cv)).setCell ⟨tb, 3, none⟩ (.string (bs (asgS (dr s k))))) (.slice av (finS ps tx).length cv) (finS ps tx) from Rd.blk (Rd.blk (Rd.drewN (Rd.of_own HOW.out) m) (hTT.out.drewN m) (only_setCell (p := ⟨tb, 2, none⟩) (World.grownBy.refl _ _) (.inl rfl) _) (by decide)) hT1.out (only_setCell (p := ⟨tb, 3, none⟩) (World.grownBy.refl _ _) (.inl rfl) _) (by decide))
                  clear HWc HTc hgrc hT t0 t1' t2 t3 c0 c1 f1 tf2 tf3 d0 d1 d2 d3 k2 k3 hTT HBB HGG HOW hT1 HLT hcell
                  generalize (((w1.drewN m).setCell ⟨tb, 2, none⟩ (.slice av (finS ps tx).length cv)).setCell ⟨tb, 3, none⟩ (.string (bs (asgS (dr s k))))) = wd at *
                  go_upto_region 7 with (fail)
                  obtain ⟨vs, hvs, hrow⟩ := HTd.out
                  have HVS := Lib.hid hvs
                  obtain ⟨at0, ct0, rfl, _⟩ := own_len hrow
                  have g2 : wd.cell? ⟨g, 2, none⟩ = some (.slice at0 acc.length ct0) := HWd.out.cell 2
                  have f2 := HWd.out.frozen 2
                  have t0 : wd.cell? ⟨tb, 0, none⟩ = some (.int .i64 (k : Int)) := hTd.out.cell 0
                  have t1 : wd.cell? ⟨tb, 1, none⟩ = some (.string (bs [])) := hTd.out.cell 1
                  have t2 : wd.cell? ⟨tb, 2, none⟩ = some (.slice av (finS ps tx).length cv) := hTd.out.cell 2
                  have t3 : wd.cell? ⟨tb, 3, none⟩ = some (.string (bs (asgS (dr s k)))) := hTd.out.cell 3
                  have hbase : w.heap.size ≤ wd.heap.size + 1 := by have := hgrd.size; omega
                  have hgd : g < wd.heap.size := HWd.out.lt
                  have htd : tb < wd.heap.size := hTd.out.lt
                  have hne := Lib.hid (own_blk_ne hrow HWd.out (by decide))
                  clear hvs HTd
                  go_region_law ((refine step_append_lies _ (by rfl) _ _ _ (by rfl) w.heap.size 128 i0 _ 4 64 Try.underlying83 hi hz0 hz1 hz2 rfl (by omega) (.slice at0 acc.length ct0) acc.length (tkC acc vs) (by rfl) ((hrow.alloc _).drew) ⟨wd.heap.size, 0, none⟩ 1 1 [.int .i64 (k : Int), .string (bs []), .slice av (finS ps tx).length cv, .string (bs (asgS (dr s k)))] (by rfl) (by rfl) (World.news_of_block (cs := #[.int .i64 (k : Int), .string (bs []), .slice av (finS ps tx).length cv, .string (bs (asgS (dr s k)))]) (t := 128) (fr := (0, 0)) (heap_alloc_new wd _)) (by simp [Value.oneCell']) (by omega) (by unfold maxLen; omega) (by omega) (by simp; omega) (wd.heap.size + 1) (by simp) ?_; intro gg cap w1 hown1 hgrow hat hlt1; have B1 := Lib.hid (Blk.grown (Blk.drew (Blk.alloc HWd.out _)) hgrow (Ne.symm hne.out)); have m2 : w1.cell? ⟨g, 2, none⟩ = some (.slice at0 acc.length ct0) := B1.out.cell 2; have f2' := B1.out.frozen 2))
                  all_goals
                    have HP := Lib.hid (scan_push (w := w) (t := ⟨k, [], (finS ps tx), asgS (dr s k)⟩) (wv := .slice av (finS ps tx).length cv) HWd.out HVS.out hrow hgrd hgl (((Below.refl _ _).alloc (Nat.le_refl _) _).drew) hgrow hown1 (HRD.out))
                    clear hown1 hgrow g2 f2 t0 t1 t2 t3 hrow
                    go_wp2
                    go_roundg (gk - 1)
                    case rel => exact .inl ⟨q, acc ++ [⟨k, [], finS ps tx, asgS (dr s k)⟩], _, vw1, vx1, HP.out.2.1, HP.out.1, HP.out.2.2.1, hq2, by simp; omega, by omega, HR2.out⟩
                    case measure => omega
              · have HWP := Lib.hid hwp
                have HR2 := Lib.hid (show toksP s 0 = .err q e0 by rw [HR.out, htk]; rfl)
                clear hwp htk HR
                go_wp2
                go_region_held3 (fun w' => w'.cell? ⟨g, 0, none⟩ = some (.string s) ∧ w'.cell? ⟨tb, 0, none⟩ = some (.int .i64 k))
                  (first | (with_reducible exact ⟨d0, d1⟩) | (exact S_keep hgt ⟨d0, d1⟩ _ (by decide) _) | (exact S_keep hgt (S_keep hgt ⟨d0, d1⟩ _ (by decide) _) _ (by decide) _) | go_keep)
                  (first
                    | (go_at_call 72; refine (scanWord_any _ g s vt vw vx k (Blk.drew HWc.out) hs hk).mono ?_; rintro e w1 ⟨wv, vw1, vx1, ps1, rfl, hown, hgro, hm⟩; rw [HWP.out] at hm; have hB := hm; obtain ⟨av, cv, rfl, _⟩ := own_len hown; have HBB := Lib.hid hB; have HGG := Lib.hid (grown_trans (only_drew (World.grownBy.refl wc (some g))) hgro); have d0 : w1.cell? ⟨g, 0, none⟩ = some (.string s) := hB.cell 0; have hTT := Lib.hid (hcell.out w1 HGG.out); have d1 : w1.cell? ⟨tb, 0, none⟩ = some (.int .i64 k) := hTT.out.cell 0; have d2 : w1.cell? ⟨tb, 2, none⟩ = some (.slice none 0 0) := hTT.out.cell 2; have d3 : w1.cell? ⟨tb, 3, none⟩ = some (.string ⟨#[]⟩) := hTT.out.cell 3; have k2 := hTT.out.frozen 2; have k3 := hTT.out.frozen 3; have HOW := Lib.hid hown; clear hB hgro hown hm)
                    | (go_at_call 73; refine (assigned_at s k _ hs).mono ?_; rintro e w2 ⟨rfl, m, rfl⟩))
                all_goals
                  go_upto_region 7 with (fail)
                  have hT1 := Lib.hid ((hTT.out.drewN m).set_ 2 (.slice av ps1.length cv))
                  have hTd := Lib.hid (show Blk (((w1.drewN m).setCell ⟨tb, 2, none⟩ (.slice av ps1.length cv)).setCell ⟨tb, 3, none⟩ (.string (bs (asgS (dr s k))))) tb 128 #[.int .i64 (k : Int), .string (bs []), .slice av ps1.length cv, .string (bs (asgS (dr s k)))] from blk_cast (hT1.out.set_ 3 (.string (bs (asgS (dr s k))))) rfl)
                  have HWd := Lib.hid (show Blk (((w1.drewN m).setCell ⟨tb, 2, none⟩ (.slice av ps1.length cv)).setCell ⟨tb, 3, none⟩ (.string (bs (asgS (dr s k))))) g 86 (scC s (s.size : Nat) vt vw1 vx1 q e0) from ((HBB.out.drewN m).far (p := ⟨tb, 2, none⟩) hgt _).far (p := ⟨tb, 3, none⟩) hgt _)
                  have HTd := Lib.hid (show TkOwn (((w1.drewN m).setCell ⟨tb, 2, none⟩ (.slice av ps1.length cv)).setCell ⟨tb, 3, none⟩ (.string (bs (asgS (dr s k))))) w.heap.size vt acc from (((HTc.out.blk HWc.out HGG.out (by decide) (by decide)).drewN m).set (hTT.out.drewN m) HLT.out 2 _).set hT1.out HLT.out 3 _)
                  have hgrd : w.grownBy (((w1.drewN m).setCell ⟨tb, 2, none⟩ (.slice av ps1.length cv)).setCell ⟨tb, 3, none⟩ (.string (bs (asgS (dr s k))))) (some g) := only_setCell (p := ⟨tb, 3, none⟩) (only_setCell (p := ⟨tb, 2, none⟩) (only_drewN (grown_trans hgrc HGG.out) m) (.inr htb) _) (.inr htb) _
                  have HRD := Lib.hid (show RdW (((w1.drewN m).setCell ⟨tb, 2, none⟩ (.slice av ps1.length cv)).setCell ⟨tb, 3, none⟩ (.string (bs (asgS (dr s k))))) (.slice av ps1.length cv) ps1 from Rd.blk (Rd.blk (Rd.drewN (Rd.of_own HOW.out) m) (hTT.out.drewN m) (only_setCell (p := ⟨tb, 2, none⟩) (World.grownBy.refl _ _) (.inl rfl) _) (by decide)) hT1.out (only_setCell (p := ⟨tb, 3, none⟩) (World.grownBy.refl _ _) (.inl rfl) _) (by decide))
                  clear HWc HTc hgrc hT t0 t1' t2 t3 c0 c1 f1 tf2 tf3 d0 d1 d2 d3 k2 k3 hTT HBB HGG HOW hT1 HLT hcell
                  generalize (((w1.drewN m).setCell ⟨tb, 2, none⟩ (.slice av ps1.length cv)).setCell ⟨tb, 3, none⟩ (.string (bs (asgS (dr s k))))) = wd at *
                  go_upto_region 7 with (fail)
                  obtain ⟨vs, hvs, hrow⟩ := HTd.out
                  have HVS := Lib.hid hvs
                  obtain ⟨at0, ct0, rfl, _⟩ := own_len hrow
                  have g2 : wd.cell? ⟨g, 2, none⟩ = some (.slice at0 acc.length ct0) := HWd.out.cell 2
                  have f2 := HWd.out.frozen 2
                  have t0 : wd.cell? ⟨tb, 0, none⟩ = some (.int .i64 (k : Int)) := hTd.out.cell 0
                  have t1 : wd.cell? ⟨tb, 1, none⟩ = some (.string (bs [])) := hTd.out.cell 1
                  have t2 : wd.cell? ⟨tb, 2, none⟩ = some (.slice av ps1.length cv) := hTd.out.cell 2
                  have t3 : wd.cell? ⟨tb, 3, none⟩ = some (.string (bs (asgS (dr s k)))) := hTd.out.cell 3
                  have hbase : w.heap.size ≤ wd.heap.size + 1 := by have := hgrd.size; omega
                  have hgd : g < wd.heap.size := HWd.out.lt
                  have htd : tb < wd.heap.size := hTd.out.lt
                  have hne := Lib.hid (own_blk_ne hrow HWd.out (by decide))
                  clear hvs HTd
                  go_region_law ((refine step_append_lies _ (by rfl) _ _ _ (by rfl) w.heap.size 128 i0 _ 4 64 Try.underlying83 hi hz0 hz1 hz2 rfl (by omega) (.slice at0 acc.length ct0) acc.length (tkC acc vs) (by rfl) ((hrow.alloc _).drew) ⟨wd.heap.size, 0, none⟩ 1 1 [.int .i64 (k : Int), .string (bs []), .slice av ps1.length cv, .string (bs (asgS (dr s k)))] (by rfl) (by rfl) (World.news_of_block (cs := #[.int .i64 (k : Int), .string (bs []), .slice av ps1.length cv, .string (bs (asgS (dr s k)))]) (t := 128) (fr := (0, 0)) (heap_alloc_new wd _)) (by simp [Value.oneCell']) (by omega) (by unfold maxLen; omega) (by omega) (by simp; omega) (wd.heap.size + 1) (by simp) ?_; intro gg cap w1 hown1 hgrow hat hlt1; have B1 := Lib.hid (Blk.grown (Blk.drew (Blk.alloc HWd.out _)) hgrow (Ne.symm hne.out)); have m2 : w1.cell? ⟨g, 2, none⟩ = some (.slice at0 acc.length ct0) := B1.out.cell 2; have f2' := B1.out.frozen 2))
                  all_goals
                    have HP := Lib.hid (scan_push (w := w) (t := ⟨k, [], ps1, asgS (dr s k)⟩) (wv := .slice av ps1.length cv) HWd.out HVS.out hrow hgrd hgl (((Below.refl _ _).alloc (Nat.le_refl _) _).drew) hgrow hown1 (HRD.out))
                    clear hown1 hgrow g2 f2 t0 t1 t2 t3 hrow
                    go_wp2
                    go_roundg (gk - 1)
                    case rel => exact .inr ⟨_, vw1, vx1, q, e0, HP.out.2.1, HP.out.2.2.1, he, HR2.out⟩
                    case measure => omega
            · have o2 : (bs o).toList.isEmpty = false := isEmpty_of _ (by rw [bs_size]; intro h0; exact o1 (List.length_eq_zero_iff.1 h0))
              obtain ⟨hol, htk⟩ := toksP_op s k hlt HB1.out o HO.out o1
              have hpo : 0 < o.length := List.length_pos_iff.2 o1
              have HR2 := Lib.hid (show toksP s 0 = (toksP s (k + o.length)).pre (acc ++ [⟨k, o, [], []⟩]) by rw [HR.out, htk, R.pre_cons])
              have HZ := Lib.hid (bs_size o)
              have hzo : (bs o).size = o.length := bs_size o
              have hzle : (bs o).size ≤ 100000 := by rw [hzo]; omega
              clear htk o1 HR hzo
              have L1 : IntKind.i64.wrap ((k : Int) + ((bs o).size : Int)) = (k : Int) + ((bs o).size : Int) := IntWalk.i64_in _ (by omega)
              go_wp2
              go_region
              clear L1
              have hG : wc.grownBy ((wc.setCell ⟨g, 1, none⟩ (.int .i64 ((k : Int) + ((bs o).size : Int)))).drew) (some g) := only_drew (only_setCell (p := ⟨g, 1, none⟩) (World.grownBy.refl _ _) (.inl rfl) _)
              have hkq : (k : Int) + ((bs o).size : Int) = ((k + o.length : Nat) : Int) := by rw [HZ.out]; omega
              have HWd := Lib.hid (show Blk ((wc.setCell ⟨g, 1, none⟩ (.int .i64 ((k : Int) + ((bs o).size : Int)))).drew) g 86 (scC s ((k + o.length : Nat) : Int) vt vw vx 0 0) by rw [hkq]; exact blk_cast ((HWc.out.set_ 1 _).drew) rfl)
              have HTd := Lib.hid (HTc.out.blk HWc.out hG (by decide) (by decide))
              have hgrd := grown_trans hgrc hG
              have hTd := Lib.hid (hT.out.grown hG (by intro e; injection e with e; omega))
              clear HWc HTc hgrc hT t0 t1 t2 t3 c0 c1 f1 hG hkq tf2 tf3
              generalize ((wc.setCell ⟨g, 1, none⟩ (.int .i64 ((k : Int) + ((bs o).size : Int)))).drew) = wd at *
              go_upto_region 7 with (fail)
              obtain ⟨vs, hvs, hrow⟩ := HTd.out
              have HVS := Lib.hid hvs
              obtain ⟨at0, ct0, rfl, _⟩ := own_len hrow
              have g2 : wd.cell? ⟨g, 2, none⟩ = some (.slice at0 acc.length ct0) := HWd.out.cell 2
              have f2 := HWd.out.frozen 2
              have t0 : wd.cell? ⟨tb, 0, none⟩ = some (.int .i64 (k : Int)) := hTd.out.cell 0
              have t1 : wd.cell? ⟨tb, 1, none⟩ = some (.string (bs o)) := hTd.out.cell 1
              have t2 : wd.cell? ⟨tb, 2, none⟩ = some (.slice none 0 0) := hTd.out.cell 2
              have t3 : wd.cell? ⟨tb, 3, none⟩ = some (.string ⟨#[]⟩) := hTd.out.cell 3
              have hbase : w.heap.size ≤ wd.heap.size + 1 := by have := hgrd.size; omega
              have hgd : g < wd.heap.size := HWd.out.lt
              have htd : tb < wd.heap.size := hTd.out.lt
              have hne := Lib.hid (own_blk_ne hrow HWd.out (by decide))
              clear hvs HTd
              go_region_law ((refine step_append_lies _ (by rfl) _ _ _ (by rfl) w.heap.size 128 i0 _ 4 64 Try.underlying83 hi hz0 hz1 hz2 rfl (by omega) (.slice at0 acc.length ct0) acc.length (tkC acc vs) (by rfl) ((hrow.alloc _).drew) ⟨wd.heap.size, 0, none⟩ 1 1 [.int .i64 (k : Int), .string (bs o), .slice none 0 0, .string ⟨#[]⟩] (by rfl) (by rfl) (World.news_of_block (cs := #[.int .i64 (k : Int), .string (bs o), .slice none 0 0, .string ⟨#[]⟩]) (t := 128) (fr := (0, 0)) (heap_alloc_new wd _)) (by simp [Value.oneCell']) (by omega) (by unfold maxLen; omega) (by omega) (by simp; omega) (wd.heap.size + 1) (by simp) ?_; intro gg cap w1 hown1 hgrow hat hlt1; have B1 := Lib.hid (Blk.grown (Blk.drew (Blk.alloc HWd.out _)) hgrow (Ne.symm hne.out)); have m2 : w1.cell? ⟨g, 2, none⟩ = some (.slice at0 acc.length ct0) := B1.out.cell 2; have f2' := B1.out.frozen 2))
              all_goals
                have HP := Lib.hid (scan_push (w := w) (t := ⟨k, o, [], []⟩) (wv := .slice none 0 0) HWd.out HVS.out hrow hgrd hgl (((Below.refl _ _).alloc (Nat.le_refl _) _).drew) hgrow hown1 (⟨none, 0, rfl, Nat.le_refl _, Nat.zero_le _, .inl ⟨rfl, rfl⟩⟩))
                clear hown1 hgrow g2 f2 t0 t1 t2 t3 hrow
                go_wp2
                go_roundg (gk - 1)
                case rel => exact .inl ⟨k + o.length, acc ++ [⟨k, o, [], []⟩], _, vw, vx, HP.out.2.1, HP.out.1, HP.out.2.2.1, hol, by simp; omega, by omega, HR2.out⟩
                case measure => omega
      · obtain rfl : k = s.size := by omega
        have HR2 := Lib.hid (show toksP s 0 = .ok acc by rw [HR.out, toksP_end s s.size (Nat.le_refl _)]; simp [R.pre])
        go_wp2
        go_quiet (fail)
        go_wp2
        go_end0
        exact TPost.ok HR2.out (only_drewN hgr _) (HT.out.drewN _) (HW.out.drewN _)
    · have HR := Lib.hid hr
      have HW := Lib.hid hw
      have c0 : wr.cell? ⟨g, 0, none⟩ = some (.string s) := hw.cell 0
      have c1 : wr.cell? ⟨g, 1, none⟩ = some (.int .i64 s.size) := hw.cell 1
      clear hw hr
      go_wp2
      go_quiet (fail)
      go_wp2
      go_end0
      exact TPost.bad HR.out he (only_drewN hgr _) (HW.out.drewN _)
end Go.Proofs.Ytiddchpkmcncdaa
