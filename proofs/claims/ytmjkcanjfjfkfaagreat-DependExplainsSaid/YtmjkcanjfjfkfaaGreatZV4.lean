/- Walks and plain facts, packed: T11, T2, C1, T3, E4, T4, T5, T6, T7, L2, Z2, Z3, Z4, Z5. -/
import Derived.Shelf.Spec.SlicesGrow
import Derived.Test.YtmjkcanjfjfkfaaGreatZV3
namespace Go.Proofs.YtmjkcanjfjfkfaaGreat
open Go.RowKit
set_option linter.unusedSimpArgs false
set_option linter.unusedVariables false
attribute [local go_sem ↓] Go.wp_at_zero Go.wp_at_succ
open Go.MapKept Go.ChangeMaps
theorem DeAt.piece {B : Nat} {w : World} {A : Option Addr} {n c : Nat} {l : List De} (h : DeAt B w (.slice A n c) l) {k : Nat} (hk : k < l.length) : ∃ b o, A = some ⟨b, o, none⟩ ∧ b < B ∧
    w.cell? ⟨b, o + k * 5, none⟩ = some (.int .u8 l[k].who) ∧ w.cell? ⟨b, o + k * 5 + 1, none⟩ = some (.int .u8 l[k].reads) ∧ w.cell? ⟨b, o + k * 5 + 2, none⟩ = some (.int .u8 l[k].writes) ∧ w.cell? ⟨b, o + k * 5 + 3, none⟩ = some (.int .u8 l[k].spawn) ∧ w.cell? ⟨b, o + k * 5 + 4, none⟩ = some (.bool l[k].same) := by
  obtain ⟨b, o, c', hv, _, _, hb, hc⟩ := h.1.at_ (by omega)
  injection hv with hv _ _
  have hg := fun j v (hj : j < 5) (hv : (deC l[k])[j]? = some v) => hc (k * 5 + j) v ((fm_get deC_len l k hk j hj).trans hv)
  exact ⟨b, o, hv, hb, hg 0 _ (by omega) rfl, hg 1 _ (by omega) rfl, hg 2 _ (by omega) rfl, hg 3 _ (by omega) rfl, hg 4 _ (by omega) rfl⟩
def OwnA (w : World) (base : Nat) (v : Value) (l : List Ac) : Prop := ∃ us, RowW NAc w l us ∧ w.ownsRow base 38 6 v l.length (rowC acC l us)
theorem OwnA.nil {w : World} {base : Nat} : OwnA w base (.slice none 0 0) [] := ⟨[], RowW.nil _ _, World.ownsRow_nil _ _ _ _⟩
theorem OwnA.keep {w w' : World} {base : Nat} {v : Value} {l : List Ac} {L : List TypeId} (h : OwnA w base v l) (k : Kept L w w') (h1 : L.contains 38 = false) (h2 : L.contains 92 = false) : OwnA w' base v l := by
  obtain ⟨us, a, b⟩ := h
  exact ⟨us, a.imp fun _ _ h => NAc.keep k h2 h, own_keep b k h1⟩
theorem OwnA.next {w w' : World} {base : Nat} {v : Value} {l : List Ac} (h : OwnA w base v l) (hb : Below w.heap.size w w') : OwnA w' base v l := h.keep (Kept.of_below [] hb) rfl rfl
theorem OwnA.rd {w : World} {base : Nat} {v : Value} {l : List Ac} (h : OwnA w base v l) : RdAc w v l := by
  obtain ⟨us, a, b⟩ := h
  exact ⟨us, a, Rd.of_own b⟩
theorem OwnA.form {w : World} {base : Nat} {v : Value} {l : List Ac} (h : OwnA w base v l) : ∃ A c, v = .slice A l.length c := by
  obtain ⟨us, a, b⟩ := h; obtain ⟨A, c, hv, _⟩ := own_len b
  exact ⟨A, c, hv⟩
theorem kept_out {w w' : World} {sb : Nat} {s : S47} (h : Outer (fun i => i = sb) w w') (hs : SMap w sb s) : Kept [] w w' :=
  ⟨h.size, fun i cs e fr hc _ => (h.block i (Array.getElem?_eq_some_iff.1 hc).1 (fun e => by subst e; exact hs.isMap hc)).trans hc⟩
theorem infoAc47 : (Tryz.prog.info? 38).map (fun i => (i.zero, i.size, i.bytes)) = some (some (.agg #[.int .i64 0, .int .i64 0, .int .i64 0, .string ⟨#[]⟩, .slice none 0 0, .slice none 0 0]), 6, 88) := by kernel_rfl
structure RS (w : World) (u : Value) (wr : World) (st : S47 × List Ac) (v : Value) : Prop where
  fr : Below w.heap.size w wr
  bx : Blk wr w.heap.size 24 #[u]
  sm : SMap wr (w.heap.size + 1) st.1
  out : OwnA wr w.heap.size v st.2
theorem RS.next {w wr w' : World} {u v : Value} {st : S47 × List Ac} (h : RS w u wr st v) (hb : Below wr.heap.size wr w') : RS w u w' st v :=
  ⟨h.fr.trans (hb.mono h.fr.size), h.bx.next hb h.bx.lt, h.sm.next hb, h.out.next hb⟩
theorem RS.perf {w wr w' : World} {u v : Value} {st : S47 × List Ac} {s' : S47} (h : RS w u wr st v) (ho : Outer (fun i => i = w.heap.size + 1) wr w') (hs : SMap w' (w.heap.size + 1) s') : RS w u w' (s', st.2) v := by
  have k := kept_out ho h.sm
  exact ⟨h.fr.trans (ho.below h.fr.size fun i hi => by rw [hi]; omega), h.bx.keep k rfl, hs, h.out.keep k rfl rfl⟩
theorem RS.app {w wr w1 : World} {u v v' : Value} {st : S47 × List Ac} {a : Ac} {uu : Value × Value} {us : List (Value × Value)} (h : RS w u wr st v) (hus : RowW NAc wr st.2 us) (how : wr.ownsRow w.heap.size 38 6 v st.2.length (rowC acC st.2 us)) (hu : NAc wr uu a) (hg : wr.grownBy w1 v.ownBlock) (hown : w1.ownsRow w.heap.size 38 6 v' (st.2.length + 1) (rowC acC st.2 us ++ acC a uu)) : RS w u w1 (st.1, st.2 ++ [a]) v' := by
  have k : Kept [38] wr w1 := Kept.of_own _ how hg rfl
  refine ⟨h.fr.grown hg h.fr.size (fun k hk => own_ge how hk), h.bx.keep k rfl, h.sm.same (hg.block _ h.sm.lt (fun e => by obtain ⟨l, ⟨es, c, hm, _⟩, _⟩ := h.sm; exact own_not_map how hm e.symm)), ?_⟩
  refine ⟨us ++ [uu], (hus.imp fun _ _ h => NAc.keep k rfl h).snoc (NAc.keep k rfl hu), ?_⟩
  rw [rowC_snoc _ _ _ _ _ hus.1, List.length_append]
  exact hown
theorem bits32 (x m : Nat) : bits BinOp.and IntKind.u32 ((x : Int) / 2 ^ m) 1 = if bitN x m then 1 else 0 := by
  have h1 : ((x : Int) / 2 ^ m) = ((x / 2 ^ m : Nat) : Int) := by push_cast; rfl
  rw [h1]; generalize hy : x / 2 ^ m = y
  have h2 : bits BinOp.and IntKind.u32 (y : Int) 1 = ((y % 2 : Nat) : Int) := by
    show IntKind.u32.wrap ((BitVec.ofInt 32 (y : Int) &&& BitVec.ofInt 32 1).toNat : Nat) = _
    have h1 : (BitVec.ofInt 32 (y : Int) &&& BitVec.ofInt 32 1).toNat = y % 2 := by
      rw [BitVec.toNat_and, BitVec.ofInt_natCast, BitVec.toNat_ofNat]
      show y % 2 ^ 32 &&& 1 = y % 2
      rw [Nat.and_one_is_mod]
      omega
    rw [h1]
    rcases (show y % 2 = 0 ∨ y % 2 = 1 by omega) with h | h <;> rw [h] <;> rfl
  rw [h2]
  unfold bitN
  rw [hy]
  rcases (show y % 2 = 0 ∨ y % 2 = 1 by omega) with h | h <;> rw [h] <;> rfl
theorem RS.cell {w wr : World} {u v : Value} {st : S47 × List Ac} {tb : Nat} {cs : Array Value} (h : RS w u wr st v) (hb : Blk wr tb 61 cs) (hB : w.heap.size ≤ tb) (i : Nat) (x : Value) : RS w u (wr.setCell ⟨tb, i, none⟩ x) st v := by
  have hg : wr.grownBy (wr.setCell ⟨tb, i, none⟩ x) (some tb) := only_setCell (g := tb) (p := ⟨tb, i, none⟩) (only_of_below (Below.refl wr.heap.size wr) (some tb)) (.inl rfl) x; have k : Kept [61] wr (wr.setCell ⟨tb, i, none⟩ x) := Kept.of_blk _ hb hg rfl
  refine ⟨h.fr.setCell (p := ⟨tb, i, none⟩) hB x, h.bx.keep k rfl, h.sm.same (hg.block _ h.sm.lt (fun e => ?_)), h.out.keep k rfl rfl⟩
  obtain ⟨l, hl, _⟩ := h.sm
  exact hl.noCells hb e.symm
theorem RS.six {w wr wr2 : World} {u v v2 : Value} {st st2 : S47 × List Ac} {xb o : Nat} {a0 a1 a2 a3 a4 : Value} (h : RS w u wr st v) (hx : xb < w.heap.size) (y0 : wr.cell? ⟨xb, o, none⟩ = some a0) (y1 : wr.cell? ⟨xb, o + 1, none⟩ = some a1) (y2 : wr.cell? ⟨xb, o + 2, none⟩ = some a2) (y3 : wr.cell? ⟨xb, o + 3, none⟩ = some a3) (y4 : wr.cell? ⟨xb, o + 4, none⟩ = some a4) (h2 : RS w u wr2 st2 v2) :
    wr2.cell? ⟨w.heap.size, 0, none⟩ = some u ∧ wr2.cell? ⟨xb, o, none⟩ = some a0 ∧ wr2.cell? ⟨xb, o + 1, none⟩ = some a1 ∧ wr2.cell? ⟨xb, o + 2, none⟩ = some a2 ∧ wr2.cell? ⟨xb, o + 3, none⟩ = some a3 ∧ wr2.cell? ⟨xb, o + 4, none⟩ = some a4 := by
  have hb := h2.bx.cell 0
  simp only [List.getElem?_toArray, List.getElem?_cons_zero] at hb
  have go : ∀ j x, wr.cell? ⟨xb, j, none⟩ = some x → wr2.cell? ⟨xb, j, none⟩ = some x := fun j x y => (h2.fr.cell (p := ⟨xb, j, none⟩) hx).trans ((h.fr.cell (p := ⟨xb, j, none⟩) hx).symm.trans y)
  exact ⟨hb, go _ _ y0, go _ _ y1, go _ _ y2, go _ _ y3, go _ _ y4⟩
def appD (st : S47 × List Ac) (m k : Nat) (o : Option De) : S47 × List Ac := match o with
  | none => st
  | some d => stp st (kyP m k) d
def prPre (ds : List De) (p : Nat → Bool) (m : Nat) (pl : List Nat) (s1 : S47 × List Ac) (k : Nat) : S47 × List Ac := ([1, 2, 3].take (k - 1)).foldl (prF ds p m pl) s1
theorem prPre_succ (ds : List De) (p : Nat → Bool) (m : Nat) (pl : List Nat) (s1 : S47 × List Ac) {k : Nat} (h1 : 1 ≤ k) (h2 : k < 4) : prPre ds p m pl s1 (k + 1) = prF ds p m pl (prPre ds p m pl s1 k) k := by
  rcases (show k = 1 ∨ k = 2 ∨ k = 3 by omega) with rfl | rfl | rfl <;> rfl
theorem prPre_vl {ds : List De} (hd : DeOk ds) (p : Nat → Bool) (m : Nat) (pl : List Nat) (s1 : S47 × List Ac) (h : VL s1.1) : ∀ k, k ≤ 4 → VL (prPre ds p m pl s1 k).1 ∧ (prPre ds p m pl s1 k).2.length ≤ s1.2.length + k
  | 0, _ => ⟨h, by simp [prPre]⟩
  | 1, _ => ⟨h, by simp [prPre]⟩
  | k + 2, hk => by
    obtain ⟨a, b⟩ := prPre_vl hd p m pl s1 h (k + 1) (by omega); rw [prPre_succ ds p m pl s1 (k := k + 1) (by omega) (by omega)]
    refine ⟨prF_vl hd p m pl _ (by omega) (by omega) a, Nat.le_trans (prF_len ..) (by omega)⟩
def orD (a b : Option De) : Option De := match a with
  | some d => some d
  | none => b
theorem fstD_snoc (ds : List De) (n : Nat) (p : Nat → Bool) (g : Nat) {d : De} (hd : ds[g]? = some d) : ∀ l : List Nat, fstD ds n p (l ++ [g]) = orD (fstD ds n p l) (if d.who % 4 = n ∧ p n = true then some d else none)
  | [] => by
    simp only [List.nil_append, fstD, hd]
    rfl
  | i :: l => by
    have ih := fstD_snoc ds n p g hd l
    simp only [List.cons_append, fstD]
    cases ds[i]? with
    | none => exact ih
    | some d2 =>
      simp only
      split
      · rfl
      · exact ih
def thrC (s : S47) (k : Nat) : Array Value := #[.bool false, .bool (decide (1 < k) && thr s 1), .bool (decide (2 < k) && thr s 2), .bool (decide (3 < k) && thr s 3)]
def cRel (w : World) (u : Value) (ds : List De) (p : Nat → Bool) (m : Nat) (s1 : S47 × List Ac) (tb : Nat) (v8 i : Value) (wr : World) : Prop := ∃ k : Nat, 1 ≤ k ∧ k ≤ 4 ∧ i = .int .u8 k ∧ RS w u wr (prPre ds p m (places ds.length m) s1 k) v8 ∧ Blk wr tb 61 (thrC s1.1 4)
def dRel (w : World) (u : Value) (ds : List De) (p : Nat → Bool) (m f k : Nat) (s1 st : S47 × List Ac) (tb : Nat) (v8 v16 i : Value) (wr : World) : Prop := ∃ j : Nat, j ≤ (places ds.length m).length ∧ i = .int .i64 ((f + j : Nat) : Int) ∧ v16 = .bool (fstD ds k p ((places ds.length m).take j)).isSome ∧ RS w u wr (appD st m k (fstD ds k p ((places ds.length m).take j))) v8 ∧ Blk wr tb 61 (thrC s1.1 4)
def thrRel (w : World) (u : Value) (st : S47 × List Ac) (v8 : Value) (tb : Nat) (i : Value) (wr : World) : Prop := ∃ k : Nat, 1 ≤ k ∧ k ≤ 4 ∧ i = .int .u8 k ∧ RS w u wr st v8 ∧ Blk wr tb 61 (thrC st.1 k)
theorem thrC_succ (s : S47) {k : Nat} (h1 : 1 ≤ k) (h2 : k < 4) : (thrC s k).setIfInBounds k (.bool (thr s k)) = thrC s (k + 1) := by
  rcases (show k = 1 ∨ k = 2 ∨ k = 3 by omega) with rfl | rfl | rfl <;> simp [thrC]
theorem thrC_get (s : S47) {k : Nat} (h1 : 1 ≤ k) (h2 : k < 4) : (thrC s 4)[k]? = some (.bool (thr s k)) := by
  rcases (show k = 1 ∨ k = 2 ∨ k = 3 by omega) with rfl | rfl | rfl <;> simp [thrC]
def runRel (w : World) (u : Value) (ds : List De) (ins prs : Nat) (v8 v9 : Value) (wr : World) : Prop := ∃ m : Nat, m ≤ ticks ds ∧ v9 = .int .i64 ((4 * m : Nat) : Int) ∧ RS w u wr (runTo ds ins prs m) v8
def inRel (w : World) (u : Value) (ds : List De) (ins m f : Nat) (st : S47 × List Ac) (v8 i : Value) (wr : World) : Prop := ∃ j : Nat, j ≤ (places ds.length m).length ∧ i = .int .i64 ((f + j : Nat) : Int) ∧ RS w u wr (((places ds.length m).take j).foldl (inF ds ins m) st) v8
set_option maxRecDepth 100000 in
set_option maxHeartbeats 40000000 in
theorem run_is {w : World} {u : Value} {ds : List De} (ins prs : Nat) (hd : DeAt w.heap.size w u ds) (h1 : ins < 4294967296) (h2 : prs < 256) : Calls Tryz.prog 5 #[.agg #[u], .int .u32 ins, .int .u8 prs] w fun e w' => ∃ v, e = .returned v ∧ RdAc w' v (runS ds ins prs) ∧ Below w.heap.size w w' := by
  obtain ⟨A, c, rfl, hc, hcm⟩ := Ra.form hd.1; have HD := Lib.hid hd; have HDO : Hid (DeOk ds) := Lib.hid hd.2; have hmm := @run_makeMap Tryz.prog
  have hNm : ds.length ≤ 9223372036854775807 := by unfold maxLen at hcm; omega
  have ha := ((Below.refl w.heap.size w).alloc (Nat.le_refl _) (.cells #[.slice A ds.length c] 24)).alloc (by simp) (.map #[] 0); have H0 : Hid (runRel w (.slice A ds.length c) ds ins prs (.slice none 0 0) (.int .i64 0) ((w.alloc (.cells #[.slice A ds.length c] 24)).alloc (.map #[] 0))) := Lib.hid ⟨0, Nat.zero_le _, rfl, ha, (Blk.new w 24 #[.slice A ds.length c]).next ((Below.refl _ _).alloc (Nat.le_refl _) _) (Blk.new w _ _).lt, ⟨[], by have := MapAt.new (w.alloc (.cells #[.slice A ds.length c] 24)); rw [World.size_alloc] at this; exact this, fun n => rfl⟩, OwnA.nil⟩; clear hd ha
  go_enter Tryz.func5, Tryz.ntmps5
  go_wp2_with fail
  generalize (w.alloc (.cells #[.slice A ds.length c] 24)).alloc (.map #[] 0) = W0 at *
  go_loopw [8, 9] (fun v8 v9 wr => runRel w (.slice A ds.length c) ds ins prs v8 v9 wr) (fun _ v9 _ => 24 - (intOf v9).toNat)
  case atStart => exact H0.out
  case round =>
    clear H0; obtain ⟨m, hm, rfl, hRS⟩ := hrel; obtain ⟨f, hf⟩ : ∃ f, 4 * m = f := ⟨_, rfl⟩; have HF := Lib.hid hf; rw [hf]; have hx := hRS.bx.cell 0
    simp only [List.getElem?_toArray, List.getElem?_cons_zero] at hx
    obtain ⟨A8, c8, rfl⟩ := hRS.out.form; have S1 := Lib.hid hRS; have VLM := Lib.hid (runTo_vl HDO.out ins prs m); have HTS := Lib.hid (show ticks ds = (min ds.length 20 + 3) / 4 from rfl); clear hRS
    by_cases hmt : m < ticks ds
    · have hf1 : f < ds.length := by have := HTS.out; omega
      have hf2 : f < 20 := by have := HTS.out; omega
      have e1 : decide ((f : Int) < (ds.length : Int)) = true := decide_eq_true (by omega); have e2 : decide ((f : Int) < 20) = true := decide_eq_true (by omega); have e3 : decide (f < ds.length) = true := decide_eq_true hf1; have e4 : decide (f < 20) = true := decide_eq_true hf2
      have hq4 : (f : Int) / 4 = (m : Int) := by have := HF.out; omega
      have hq5 : Int.tdiv (f : Int) 4 = (m : Int) := by rw [Int.tdiv_eq_ediv_of_nonneg (by omega)]; exact hq4
      have hf16 : f ≤ 16 := by have := HF.out; omega
      obtain ⟨tt, htt⟩ : ∃ tt, min (min ds.length (f + 4)) 20 = tt := ⟨_, rfl⟩; have HT2 := Lib.hid (show tt = min ds.length (f + 4) by omega); have HPL := Lib.hid (show (places ds.length m).length = tt - f by rw [places_len, HF.out, htt])
      have hft : f ≤ tt := by have := HT2.out; omega
      have htn : tt ≤ ds.length := by have := HT2.out; omega
      clear htt
      go_upto_region 7 with (fail)
      go_cut [11] (fun v11 wx => v11 = .int .i64 tt ∧ wr = wx)
      case first =>
        by_cases h4 : f + 4 < ds.length
        · have g1 : decide ((f : Int) + 4 < (ds.length : Int)) = true := decide_eq_true (by omega)
          have g2 : decide ((20 : Int) < (f : Int) + 4) = false := decide_eq_false (by omega)
          have g3 : ¬ (20 : Int) < (f : Int) + 4 := by omega
          have htv : tt = f + 4 := by have := HT2.out; omega
          have HTV := Lib.hid htv; clear htv
          go_wp2_with fail
          go_meet
          case rel => exact ⟨by rw [HTV.out]; rfl, rfl⟩
        · have g1 : decide ((f : Int) + 4 < (ds.length : Int)) = false := decide_eq_false (by omega)
          have g2 : decide ((20 : Int) < (ds.length : Int)) = false := decide_eq_false (by omega)
          have g3 : ¬ 20 < ds.length := by omega
          have HTV := Lib.hid (show tt = ds.length by have := HT2.out; omega)
          go_wp2_with fail
          go_meet
          case rel => exact ⟨by rw [HTV.out], rfl⟩
      case rest =>
      obtain ⟨rfl, rfl⟩ := hcut; obtain ⟨st0, hst0⟩ : ∃ st0, runTo ds ins prs m = st0 := ⟨_, rfl⟩; have HS0 := Lib.hid hst0; have HRS := Lib.hid (runTo_succ ds ins prs m)
      have hm5 : m ≤ 4 := by have := HF.out; omega
      rw [hst0] at S1 VLM HRS; clear hst0 hq4 hq5; have H1 : Hid (inRel w (.slice A ds.length c) ds ins m f st0 (.slice A8 st0.2.length c8) (.int .i64 f) wr) := Lib.hid ⟨0, Nat.zero_le _, rfl, S1.out⟩; rw [HS0.out]; clear e1 e2 e3 e4 hf1 hf2 hx
      go_wp2_with fail
      go_loopw [8, 12] (fun v8 v12 wr => inRel w (.slice A ds.length c) ds ins m f st0 v8 v12 wr) (fun _ v12 _ => 24 - (intOf v12).toNat)
      case atStart => exact H1.out
      case round =>
        clear H1; obtain ⟨j, hj, rfl, hRS⟩ := hrel; obtain ⟨g, hg⟩ : ∃ g, f + j = g := ⟨_, rfl⟩; have HG := Lib.hid hg; rw [hg]; have hjl := Lib.hid hj; obtain ⟨st, hst⟩ : ∃ st, ((places ds.length m).take j).foldl (inF ds ins m) st0 = st := ⟨_, rfl⟩; have HST := Lib.hid hst; have VLS := Lib.hid (fold_vl HDO.out ins m ((places ds.length m).take j) st0 VLM.out.1); rw [hst] at hRS VLS; have HLE : Hid (st.2.length ≤ 100) := Lib.hid (by have h3 := VLS.out.2; have h4 := VLM.out.2; rw [List.length_take] at h3; have := HPL.out; have := places_le ds.length m; omega); have VS := Lib.hid VLS.out.1; have hx := hRS.bx.cell 0
        simp only [List.getElem?_toArray, List.getElem?_cons_zero] at hx
        obtain ⟨A8, c8, rfl⟩ := hRS.out.form; have S2 := Lib.hid hRS; clear hst hRS hj hg
        by_cases hgt : g < tt
        · have k1 : decide ((g : Int) < (tt : Int)) = true := decide_eq_true (by omega)
          have hgn : g < ds.length := by omega
          have hg20 : g ≤ 20 := by have := HT2.out; omega
          have k2 : (0 : Int) ≤ (g : Int) := by omega
          have k3 : (g : Int) < (ds.length : Int) := by omega
          obtain ⟨xb, xo, hbe, hxb, y0, y1, y2, y3, y4⟩ := DeAt.piece (HD.out.below S2.out.fr) hgn; subst hbe; have HGD : Hid (ds[g]? = some ds[g]) := Lib.hid (List.getElem?_eq_getElem hgn); have HDM0 := List.getElem_mem hgn; obtain ⟨d, hd⟩ : ∃ d, ds[g] = d := ⟨_, rfl⟩; rw [hd] at y0 y1 y2 y3 y4 HGD HDM0; have HDM := Lib.hid HDM0
          have hjp : j < (places ds.length m).length := by have := HPL.out; have := HG.out; omega
          have HTK := Lib.hid (show ((places ds.length m).take (j + 1)).foldl (inF ds ins m) st0 = inF ds ins m st g by
            rw [List.take_succ_eq_append_getElem hjp, List.foldl_append, HST.out, places_get, HF.out, HG.out]
            rfl)
          have HIF : Hid (inF ds ins m st g = if d.who % 4 = 0 ∧ bitN ins g = false then stp st (kyI m g) d else st) := Lib.hid (by unfold inF; rw [HGD.out]); have HJN := Lib.hid (show j + 1 ≤ (places ds.length m).length from hjp); have HGN := Lib.hid (show f + (j + 1) = g + 1 by have := HG.out; omega)
          have hw4 : (d.who : Int) % 4 = ((d.who % 4 : Nat) : Int) := by omega
          have hbb := bits32 ins g; clear hd HDM0 hjp
          by_cases h0 : d.who % 4 = 0
          · have c1 : ((d.who : Int) % 4 == 0) = true := by rw [beq_iff_eq]; omega
            have c2 : (d.who % 4 == 0) = true := by rw [beq_iff_eq]; exact h0
            cases hbt : bitN ins g with
            | true =>
              have c3 : (bits BinOp.and IntKind.u32 ((ins : Int) / 2 ^ g) 1 == 0) = false := by rw [hbb, hbt]; rfl
              have HI2 := Lib.hid (show inF ds ins m st g = st by rw [HIF.out, hbt, if_neg (by simp)]); clear hbb hbt h0 hw4
              go_wp2_with fail
              go_roundw
              case rel => exact ⟨j + 1, HJN.out, by rw [HGN.out]; go_num, by rw [HTK.out, HI2.out]; exact S2.out⟩
              case measure => simp [intOf]; omega
            | false =>
              have c3 : (bits BinOp.and IntKind.u32 ((ins : Int) / 2 ^ g) 1 == 0) = true := by rw [hbb, hbt]; rfl
              have HI2 := Lib.hid (show inF ds ins m st g = stp st (kyI m g) d by rw [HIF.out, hbt, if_pos ⟨h0, rfl⟩]); clear hbb hbt h0 hw4; have hpf := perform_is (k := kyI m g) (d := d) S2.out.sm (pinI VS.out HDO.out HDM.out m g); rw [show kyV (kyI m g) = .agg #[.int .i64 (m : Int), .int .i64 0, .int .i64 ((g : Int) + 1), .string ⟨#[]⟩] from rfl] at hpf; have HPF := Lib.hid hpf; clear hpf
              go_wp2_with fail
              go_at_call 15
              refine HPF.out.mono ?_
              rintro e w5 ⟨u1, u2, rfl, hna, hsm, hou⟩; obtain ⟨B1, d1, rfl, _⟩ := RdP.form hna.1; obtain ⟨B2, d2, rfl, _⟩ := RdP.form hna.2; have S3 := Lib.hid (S2.out.perf hou hsm); have NA3 := Lib.hid hna; clear hna hsm hou y0 y1 y2 y3 y4 hxb; have hal := (Below.refl w5.heap.size w5).alloc (Nat.le_refl _) (.cells #[.int .i64 (prf st.1 (kyI m g) d).key.tick, .int .i64 (prf st.1 (kyI m g) d).key.cls, .int .i64 (prf st.1 (kyI m g) d).key.num, .string (bs (prf st.1 (kyI m g) d).key.lin), .slice B1 (prf st.1 (kyI m g) d).reads.length d1, .slice B2 (prf st.1 (kyI m g) d).writes.length d2] 38); have S4 := Lib.hid (S3.out.next hal); have NA4 := Lib.hid (NAc.next hal NA3.out); obtain ⟨us, hus, how⟩ := S4.out.out; have HUS := Lib.hid hus; have HOW := Lib.hid how; have hws := S3.out.fr.size; have hlel := HLE.out; obtain ⟨i0, hi, hz0, hz1, hz2⟩ := info_parts infoAc47; clear hal hus how
              go_wp2_with (at_builtin; refine wpList_append_w _ rfl _ _ _ rfl w.heap.size 38 i0 _ 6 88 Tryz.underlying30 hi hz0 hz1 hz2 rfl (by omega) (.slice A8 st.2.length c8) st.2.length (rowC acC st.2 us) rfl HOW.out (.slice (some ⟨w5.heap.size, 0, none⟩) 1 1) 1 [.int .i64 (prf st.1 (kyI m g) d).key.tick, .int .i64 (prf st.1 (kyI m g) d).key.cls, .int .i64 (prf st.1 (kyI m g) d).key.num, .string (bs (prf st.1 (kyI m g) d).key.lin), .slice B1 (prf st.1 (kyI m g) d).reads.length d1, .slice B2 (prf st.1 (kyI m g) d).writes.length d2] rfl (Rd.of_own (own_new w5 0 38 6 [.int .i64 (prf st.1 (kyI m g) d).key.tick, .int .i64 (prf st.1 (kyI m g) d).key.cls, .int .i64 (prf st.1 (kyI m g) d).key.num, .string (bs (prf st.1 (kyI m g) d).key.lin), .slice B1 (prf st.1 (kyI m g) d).reads.length d1, .slice B2 (prf st.1 (kyI m g) d).writes.length d2] rfl (Nat.zero_le _))) (by omega) rfl (by simp [Value.oneCell']) (by unfold maxLen; omega) (by omega) (by simp; omega) ?_; intro v8 w8 hown8 hg8 hat8; have HO8 := Lib.hid hown8; have HG8 := Lib.hid hg8; clear hown8 hg8 hat8)
              have S8 := Lib.hid (S4.out.app HUS.out HOW.out NA4.out HG8.out HO8.out); clear hlel hws i0 hi hz0 hz1 hz2
              go_wp2_with fail
              go_roundw
              case rel => exact ⟨j + 1, HJN.out, by rw [HGN.out]; go_num, by rw [HTK.out, HI2.out]; exact S8.out⟩
              case measure => simp [intOf]; omega
          · have c1 : ((d.who : Int) % 4 == 0) = false := by rw [beq_eq_false_iff_ne]; omega
            have c2 : (d.who % 4 == 0) = false := by rw [beq_eq_false_iff_ne]; exact h0
            have HI2 := Lib.hid (show inF ds ins m st g = st by rw [HIF.out, if_neg (fun h => h0 h.1)]); clear hbb h0 hw4
            go_wp2_with fail
            go_roundw
            case rel => exact ⟨j + 1, HJN.out, by rw [HGN.out]; go_num, by rw [HTK.out, HI2.out]; exact S2.out⟩
            case measure => simp [intOf]; omega
        · have k1 : decide ((g : Int) < (tt : Int)) = false := decide_eq_false (by omega)
          have HSF := Lib.hid (show (places ds.length m).foldl (inF ds ins m) st0 = st by rw [← HST.out, List.take_of_length_le (by have := HPL.out; have := HG.out; omega)]); have hfz := Lib.hid hgt; have hfb := (Below.refl wr.heap.size wr).alloc (Nat.le_refl _) (.cells #[.bool false, .bool false, .bool false, .bool false] 61); have H2 : Hid (thrRel w (.slice A ds.length c) st (.slice A8 st.2.length c8) wr.heap.size (.int .u8 (1 : Nat)) (wr.alloc (.cells #[.bool false, .bool false, .bool false, .bool false] 61))) := Lib.hid ⟨1, by omega, by omega, rfl, S2.out.next hfb, by have := Blk.new wr 61 #[.bool false, .bool false, .bool false, .bool false]; simpa [thrC] using this⟩; have HTB := Lib.hid (show w.heap.size ≤ wr.heap.size from S2.out.fr.size); clear hfb
          go_wp2_with fail
          generalize wr.alloc (.cells #[.bool false, .bool false, .bool false, .bool false] 61) = wA at *; obtain ⟨tb, htb⟩ : ∃ tb, wr.heap.size = tb := ⟨_, rfl⟩; rw [htb] at H2 HTB ⊢; clear htb S2 hx
          go_loopw [14] (fun v14 wr => thrRel w (.slice A ds.length c) st (.slice A8 st.2.length c8) tb v14 wr) (fun v14 _ => 4 - (intOf v14).toNat)
          case atStart => exact H2.out
          case round =>
            clear H2; obtain ⟨k, hk1, hk4, rfl, hRS, hTB⟩ := hrel; have S5 := Lib.hid hRS; have T5 := Lib.hid hTB; clear hRS hTB
            by_cases hk3 : k < 4
            · have q1 : decide ((k : Int) ≤ 3) = true := decide_eq_true (by omega)
              have q2 : decide (k ≤ 3) = true := decide_eq_true (by omega)
              have q3 : (0 : Int) ≤ (k : Int) := by omega
              have q4 : (k : Int) < 4 := by omega
              have hk256 : k < 256 := by omega
              obtain ⟨x, hx⟩ : ∃ x, (st.1 (prcN (whoS k))).getD [] = x := ⟨_, rfl⟩; have HLK := Lib.hid (fun W (h : SMap W (w.heap.size + 1) st.1) => h.ok (prcN (whoS k)) hx (show (st.1 (prcN (whoS k))).isSome = thr st.1 k from rfl)); have HTC := Lib.hid (thrC_succ st.1 hk1 hk3); clear hx
              go_wp2_with fail
              go_at_call 12; refine (who_is k hk1 hk256 _).mono ?_; rintro e w5 ⟨rfl, hb⟩; have S6 := Lib.hid (S5.out.next hb); have T6 := Lib.hid (T5.out.next hb T5.out.lt); clear hb
              go_wp2_with fail
              go_at_call 16; refine (ofproc_is _ _).mono ?_; rintro e w6 ⟨rfl, hb⟩; have S7 := Lib.hid (S6.out.next hb); have T7 := Lib.hid (T6.out.next hb T6.out.lt); have hlk := HLK.out w6 S7.out.sm; have f7 := T7.out.frozen k; have t7 := T7.out.cell k
              obtain ⟨old, hold⟩ : ∃ old, (thrC st.1 k)[k]? = some old := by
                rcases (show k = 1 ∨ k = 2 ∨ k = 3 by omega) with rfl | rfl | rfl <;> exact ⟨_, rfl⟩
              rw [hold] at t7; clear hb hold; have S9 := Lib.hid (S7.out.cell T7.out HTB.out k (.bool (thr st.1 k))); have T9 := Lib.hid (T7.out.set_ k (.bool (thr st.1 k))); rw [HTC.out] at T9
              go_wp2_with fail
              exact ⟨⟨k + 1, by omega, by omega, by go_num, S9.out, T9.out⟩, by simp [intOf]; omega⟩
            · have q1 : decide ((k : Int) ≤ 3) = false := decide_eq_false (by omega)
              have q2 : decide (k ≤ 3) = false := decide_eq_false (by omega); have HK4 := Lib.hid (show k = 4 by omega); rw [HK4.out] at T5; obtain ⟨p, hp⟩ : ∃ p : Nat → Bool, (fun n => thr st.1 n && !bitN prs n) = p := ⟨_, rfl⟩; have HPP := Lib.hid (fun n => (congrFun hp n).symm)
              have HTF : Hid (runTo ds ins prs (m + 1) = prPre ds p m (places ds.length m) st 4) := Lib.hid (by
                rw [HRS.out]
                unfold tickF
                rw [HSF.out, hp]
                rfl)
              have H3 : Hid (cRel w (.slice A ds.length c) ds p m st tb (.slice A8 st.2.length c8) (.int .u8 (1 : Nat)) wr) := Lib.hid ⟨1, by omega, by omega, rfl, S5.out, T5.out⟩; clear hp S5 T5
              go_wp2_with fail
              go_loopw [8, 15] (fun v8 v15 wr => cRel w (.slice A ds.length c) ds p m st tb v8 v15 wr) (fun _ v15 _ => 4 - (intOf v15).toNat)
              case atStart => exact H3.out
              case round =>
                clear H3; obtain ⟨n, hn1, hn4, rfl, hRS, hTB⟩ := hrel; obtain ⟨s2, hs2⟩ : ∃ s2, prPre ds p m (places ds.length m) st n = s2 := ⟨_, rfl⟩; have HS2 := Lib.hid hs2; have VL2 := Lib.hid (prPre_vl HDO.out p m (places ds.length m) st VS.out n hn4); rw [hs2] at hRS VL2; obtain ⟨A9, c9, rfl⟩ := hRS.out.form; have S6 := Lib.hid hRS; have T6 := Lib.hid hTB; clear hRS hTB hs2
                by_cases hn3 : n < 4
                · have q1 : decide ((n : Int) ≤ 3) = true := decide_eq_true (by omega)
                  have q2 : decide (n ≤ 3) = true := decide_eq_true (by omega); have HPS := Lib.hid (prPre_succ ds p m (places ds.length m) st hn1 hn3); have H4 : Hid (dRel w (.slice A ds.length c) ds p m f n st s2 tb (.slice A9 s2.2.length c9) (.bool false) (.int .i64 f) wr) := Lib.hid ⟨0, Nat.zero_le _, rfl, rfl, S6.out, T6.out⟩; clear S6 T6
                  go_wp2_with fail
                  go_loopw [8, 16, 17] (fun v8 v16 v17 wr => dRel w (.slice A ds.length c) ds p m f n st s2 tb v8 v16 v17 wr) (fun _ _ v17 _ => 24 - (intOf v17).toNat)
                  case atStart => exact H4.out
                  case round =>
                    clear H4; obtain ⟨j2, hj2, rfl, rfl, hRS, hTB⟩ := hrel; obtain ⟨fo, hfo⟩ : ∃ fo, fstD ds n p ((places ds.length m).take j2) = fo := ⟨_, rfl⟩; have HFO := Lib.hid hfo; rw [hfo] at hRS ⊢; obtain ⟨g2, hg2⟩ : ∃ g2, f + j2 = g2 := ⟨_, rfl⟩; have HG2 := Lib.hid hg2; rw [hg2]; have HJ2 := Lib.hid hj2; have hx := hRS.bx.cell 0; have tn := hTB.cell n; rw [thrC_get st.1 hn1 hn3] at tn
                    simp only [List.getElem?_toArray, List.getElem?_cons_zero] at hx
                    obtain ⟨A7, c7, rfl⟩ := hRS.out.form; have S7 := Lib.hid hRS; have T7 := Lib.hid hTB; clear hRS hTB hfo hj2 hg2
                    by_cases hgt2 : g2 < tt
                    · have k1 : decide ((g2 : Int) < (tt : Int)) = true := decide_eq_true (by omega)
                      have hgn : g2 < ds.length := by omega
                      have k2 : (0 : Int) ≤ (g2 : Int) := by omega
                      have k3 : (g2 : Int) < (ds.length : Int) := by omega
                      have k4 : (0 : Int) ≤ (n : Int) := by omega
                      have k5 : (n : Int) < 4 := by omega
                      obtain ⟨xb, xo, hbe, hxb, y0, y1, y2, y3, y4⟩ := DeAt.piece (HD.out.below S7.out.fr) hgn; subst hbe; have HGD : Hid (ds[g2]? = some ds[g2]) := Lib.hid (List.getElem?_eq_getElem hgn); have HDM0 := List.getElem_mem hgn; obtain ⟨d, hd⟩ : ∃ d, ds[g2] = d := ⟨_, rfl⟩; rw [hd] at y0 y1 y2 y3 y4 HGD HDM0; have HDM := Lib.hid HDM0
                      have hjp : j2 < (places ds.length m).length := by have := HPL.out; have := HG2.out; omega
                      have HSN : Hid (fstD ds n p ((places ds.length m).take (j2 + 1)) = orD fo (if d.who % 4 = n ∧ p n = true then some d else none)) := Lib.hid (by
                        rw [List.take_succ_eq_append_getElem hjp, places_get, HF.out, HG2.out, fstD_snoc ds n p g2 HGD.out, HFO.out])
                      have hg20 : g2 ≤ 20 := by have := HT2.out; omega
                      have HJN := Lib.hid (show j2 + 1 ≤ (places ds.length m).length from hjp); have HGN := Lib.hid (show f + (j2 + 1) = g2 + 1 by have := HG2.out; omega); have hpn := HPP.out n; have hbb := bits_bit prs n; clear hd HDM0 hjp
                      by_cases h0 : d.who % 4 = n
                      · have c1 : ((d.who : Int) % 4 == (n : Int)) = true := by rw [beq_iff_eq]; omega
                        have c2 : (d.who % 4 == n) = true := by rw [beq_iff_eq]; exact h0
                        cases hth : thr st.1 n with
                        | false =>
                          rw [hth] at tn; have HFN := Lib.hid (show fstD ds n p ((places ds.length m).take (j2 + 1)) = fo by rw [HSN.out]; cases fo with | some d => rfl | none => exact if_neg (fun h => by have h2 := h.2; rw [hpn, hth] at h2; simp at h2)); clear hbb hth h0 hpn
                          go_wp2_with fail
                          exact ⟨⟨j2 + 1, HJN.out, by rw [HGN.out]; go_num, by rw [HFN.out], by rw [HFN.out]; exact S7.out, T7.out⟩, by simp [intOf]; omega⟩
                        | true =>
                          rw [hth] at tn
                          cases hbt : bitN prs n with
                          | true =>
                            have c3 : (bits BinOp.and IntKind.u8 ((prs : Int) / 2 ^ n) 1 == 0) = false := by rw [hbb, hbt]; rfl
                            have HFN := Lib.hid (show fstD ds n p ((places ds.length m).take (j2 + 1)) = fo by rw [HSN.out]; cases fo with | some d => rfl | none => exact if_neg (fun h => by have h2 := h.2; rw [hpn, hth, hbt] at h2; simp at h2)); clear hbb hth hbt h0 hpn
                            go_wp2_with fail
                            exact ⟨⟨j2 + 1, HJN.out, by rw [HGN.out]; go_num, by rw [HFN.out], by rw [HFN.out]; exact S7.out, T7.out⟩, by simp [intOf]; omega⟩
                          | false =>
                            have c3 : (bits BinOp.and IntKind.u8 ((prs : Int) / 2 ^ n) 1 == 0) = true := by rw [hbb, hbt]; rfl
                            cases fo with
                            | some d0 =>
                              have HFN := Lib.hid (show fstD ds n p ((places ds.length m).take (j2 + 1)) = some d0 by rw [HSN.out]; rfl); have c4 : (some d0).isSome = true := rfl; clear hbb hth hbt h0 hpn
                              go_wp2_with fail
                              exact ⟨⟨j2 + 1, HJN.out, by rw [HGN.out]; go_num, by rw [HFN.out], by rw [HFN.out]; exact S7.out, T7.out⟩, by simp [intOf]; omega⟩
                            | none =>
                              have HFN := Lib.hid (show fstD ds n p ((places ds.length m).take (j2 + 1)) = some d by rw [HSN.out]; exact if_pos ⟨h0, by rw [hpn, hth, hbt]; rfl⟩); have S2 : Hid (RS w (.slice (some ⟨xb, xo, none⟩) ds.length c) wr s2 (.slice A7 (appD s2 m n none).2.length c7)) := Lib.hid S7.out; have hws0 := S2.out.fr.size; have c4 : (none : Option De).isSome = false := rfl; have HLE2 : Hid (s2.2.length ≤ 104) := Lib.hid (by have := VL2.out.2; have := HLE.out; omega); have HY6 := Lib.hid (fun W st2 v2 h2 => RS.six (wr2 := W) (st2 := st2) (v2 := v2) S2.out hxb y0 y1 y2 y3 y4 h2); clear hbb hth hbt h0 hpn S7
                              go_wp2_with fail
                              refine wp_region_noPanic ?_
                              refine wp_region_last (S := (fun (w' : World) => w'.cell? ⟨w.heap.size, 0, none⟩ = some (.slice (some ⟨xb, xo, none⟩) ds.length c) ∧ w'.cell? ⟨xb, xo + g2 * 5, none⟩ = some (.int .u8 d.who) ∧ w'.cell? ⟨xb, xo + g2 * 5 + 1, none⟩ = some (.int .u8 d.reads) ∧ w'.cell? ⟨xb, xo + g2 * 5 + 2, none⟩ = some (.int .u8 d.writes) ∧ w'.cell? ⟨xb, xo + g2 * 5 + 3, none⟩ = some (.int .u8 d.spawn) ∧ w'.cell? ⟨xb, xo + g2 * 5 + 4, none⟩ = some (.bool d.same))) 14 14 rfl (by kernel_rfl) (by kernel_rfl) ?_ (fun hHeld => ?_)
                              · exact ⟨hx, y0, y1, y2, y3, y4⟩
                              refine tk (v := ?_) 0 rfl (by kernel_rfl) (fun _ _ _ h => h) ?_ hHeld ?_; rotate_left
                              · (intro w h; (try dsimp only at h); go_simp; try with_reducible rfl)
                              try simp only [Act.put, pB, pC, pD]
                              refine tk (v := ?_) 1 rfl (by kernel_rfl) (fun _ _ _ h => h) ?_ hHeld ?_; rotate_left
                              · (intro w h; (try dsimp only at h); go_simp; try with_reducible rfl)
                              try simp only [Act.put, pB, pC, pD]
                              refine tk (v := ?_) 2 rfl (by kernel_rfl) (fun _ _ _ h => h) ?_ hHeld ?_; rotate_left
                              · (intro w h; (try dsimp only at h); go_simp; try with_reducible rfl)
                              try simp only [Act.put, pB, pC, pD]
                              refine tk (v := ?_) 3 rfl (by kernel_rfl) (fun _ _ _ h => h) ?_ hHeld ?_; rotate_left
                              · (intro w h; (try dsimp only at h); go_simp; try with_reducible rfl)
                              try simp only [Act.put, pB, pC, pD]
                              refine tk (v := ?_) 6 rfl (by kernel_rfl) (fun _ _ _ h => h) ?_ hHeld ?_; rotate_left
                              · (intro w h; (try dsimp only at h); go_simp; try with_reducible rfl)
                              try simp only [Act.put, pB, pC, pD]
                              refine tk (v := ?_) 7 rfl (by kernel_rfl) (fun _ _ _ h => h) ?_ hHeld ?_; rotate_left
                              · (intro w h; (try dsimp only at h); go_simp; try with_reducible rfl)
                              try simp only [Act.put, pB, pC, pD]
                              refine tk (v := ?_) 8 rfl (by kernel_rfl) (fun _ _ _ h => h) ?_ hHeld ?_; rotate_left
                              · (intro w h; (try dsimp only at h); go_simp; try with_reducible rfl)
                              try simp only [Act.put, pB, pC, pD]
                              refine tk (v := ?_) 9 rfl (by kernel_rfl) (fun _ _ _ h => h) ?_ hHeld ?_; rotate_left
                              · (intro w h; (try dsimp only at h); go_simp; try with_reducible rfl)
                              try simp only [Act.put, pB, pC, pD]
                              refine tk (v := ?_) 10 rfl (by kernel_rfl) (fun _ _ _ h => h) ?_ hHeld ?_; rotate_left
                              · (intro w h; (try dsimp only at h); go_simp; try with_reducible rfl)
                              try simp only [Act.put, pB, pC, pD]
                              refine wpAnyH_ready (rs := [4]) (by kernel_rfl) (by simp) ?_; refine AllReadyH.cons rfl (fun K hK => ?_) AllReadyH.nil; go_simp; refine (who_is n hn1 (by omega) _).mono ?_; rintro e w4 ⟨rfl, hb⟩; have S2a := S2.out.next (Below.refl wr.heap.size wr).drew; have T2a := T7.out.next (Below.refl wr.heap.size wr).drew T7.out.lt; have S2b := Lib.hid (S2a.next hb); have T2b := Lib.hid (T2a.next hb T2a.lt); have hpf := perform_is (k := kyP m n) (d := d) S2b.out.sm (pinP VL2.out.1 HDO.out HDM.out m hn1 (by omega)); rw [show kyV (kyP m n) = .agg #[.int .i64 (m : Int), .int .i64 2, .int .i64 0, .string (bs (whoS n))] from rfl] at hpf; have HPF := Lib.hid hpf; clear hpf hb S2 T7 S2a T2a
                              try (go_wp2_with fail)
                              refine hK.out _ _ ?_ (fun hNew => ?_)
                              · exact HY6.out _ _ _ S2b.out
                              clear hK K hHeld; have hHeld := hNew; clear hNew; try simp only [Act.put, pB, pC, pD]
                              refine tk (v := ?_) 5 rfl (by kernel_rfl) (fun _ _ _ h => h) ?_ hHeld ?_; rotate_left
                              · (intro w h; (try dsimp only at h); go_simp; try with_reducible rfl)
                              try simp only [Act.put, pB, pC, pD]
                              refine wpAnyH_ready (rs := [11]) (by kernel_rfl) (by simp) ?_; refine AllReadyH.cons rfl (fun K hK => ?_) AllReadyH.nil; go_simp
                              refine HPF.out.mono ?_; rintro e w5 ⟨u1, u2, rfl, hna, hsm, hou⟩; obtain ⟨B1, d1, rfl, _⟩ := RdP.form hna.1; obtain ⟨B2, d2, rfl, _⟩ := RdP.form hna.2; have S3 := Lib.hid (S2b.out.perf hou hsm); have T3 := Lib.hid (T2b.out.keep (kept_out hou S2b.out.sm) rfl); have NA3 := Lib.hid hna; clear hna hsm hou; have hal := (Below.refl w5.heap.size w5).alloc (Nat.le_refl _) (.cells #[.int .i64 (prf s2.1 (kyP m n) d).key.tick, .int .i64 (prf s2.1 (kyP m n) d).key.cls, .int .i64 (prf s2.1 (kyP m n) d).key.num, .string (bs (prf s2.1 (kyP m n) d).key.lin), .slice B1 (prf s2.1 (kyP m n) d).reads.length d1, .slice B2 (prf s2.1 (kyP m n) d).writes.length d2] 38); have S4 := Lib.hid (S3.out.next hal); have T4 := Lib.hid (T3.out.next hal T3.out.lt); have NA4 := Lib.hid (NAc.next hal NA3.out); obtain ⟨us, hus, how⟩ := S4.out.out; have HUS := Lib.hid hus; have HOW := Lib.hid how; have hws := S3.out.fr.size; have hlel := HLE2.out; obtain ⟨i0, hi, hz0, hz1, hz2⟩ := info_parts infoAc47; clear hal hus how
                              try (go_wp2_with fail)
                              refine hK.out _ _ ?_ (fun hNew => ?_)
                              · exact HY6.out _ _ _ S3.out
                              clear hK K hHeld; have hHeld := hNew; clear hNew; try simp only [Act.put, pB, pC, pD]
                              refine wpAnyH_ready (rs := [12]) (by kernel_rfl) (by simp) ?_; refine AllReadyH.cons rfl (fun K hK => ?_) AllReadyH.nil; go_simp
                              refine hK.out _ _ ?_ (fun hNew => ?_)
                              · exact HY6.out _ _ _ S4.out
                              clear hK K hHeld; have hHeld := hNew; clear hNew; try simp only [Act.put, pB, pC, pD]
                              refine wpAnyH_ready (rs := [13]) (by kernel_rfl) (by simp) ?_; refine AllReadyH.cons rfl (fun K hK => ?_) AllReadyH.nil
                              refine step_append_w _ (by rfl) _ _ _ (by rfl) w.heap.size 38 i0 _ 6 88 Tryz.underlying30 hi hz0 hz1 hz2 rfl (by omega) (.slice A7 s2.2.length c7) s2.2.length (rowC acC s2.2 us) (by rfl) HOW.out (.slice (some ⟨w5.heap.size, 0, none⟩) 1 1) 1 [.int .i64 (prf s2.1 (kyP m n) d).key.tick, .int .i64 (prf s2.1 (kyP m n) d).key.cls, .int .i64 (prf s2.1 (kyP m n) d).key.num, .string (bs (prf s2.1 (kyP m n) d).key.lin), .slice B1 (prf s2.1 (kyP m n) d).reads.length d1, .slice B2 (prf s2.1 (kyP m n) d).writes.length d2] (by rfl) (Rd.of_own (own_new w5 0 38 6 [.int .i64 (prf s2.1 (kyP m n) d).key.tick, .int .i64 (prf s2.1 (kyP m n) d).key.cls, .int .i64 (prf s2.1 (kyP m n) d).key.num, .string (bs (prf s2.1 (kyP m n) d).key.lin), .slice B1 (prf s2.1 (kyP m n) d).reads.length d1, .slice B2 (prf s2.1 (kyP m n) d).writes.length d2] rfl (Nat.zero_le _))) (by omega) (by rfl) (by simp [Value.oneCell']) (by unfold maxLen; omega) (by omega) (by simp; omega) ?_; intro v8 w8 hown8 hg8 hat8; have S8 := Lib.hid (S4.out.app HUS.out HOW.out NA4.out hg8 hown8); have T8 := Lib.hid (T4.out.keep (Kept.of_own [38] HOW.out hg8 rfl) rfl); clear hown8 hg8 hat8
                              refine hK.out _ _ ?_ (fun hNew => ?_)
                              · exact HY6.out _ _ _ S8.out
                              clear hK K hHeld; have hHeld := hNew; clear hNew; try simp only [Act.put, pB, pC, pD]
                              refine wpAnyH_done (by kernel_rfl) ?_ _
                              refine lastQ_step rfl (fun K hK => ?_)
                              clear hHeld; go_simp
                              refine hK _ _ ?_
                              clear hK K
                              refine NoPanic.normal ?_
                              try go_wp2_with fail
                              exact ⟨⟨j2 + 1, HJN.out, by rw [HGN.out]; go_num, by rw [HFN.out]; rfl, by rw [HFN.out]; exact S8.out, T8.out⟩, by simp [intOf]; omega⟩
                      · have c1 : ((d.who : Int) % 4 == (n : Int)) = false := by rw [beq_eq_false_iff_ne]; omega
                        have c2 : (d.who % 4 == n) = false := by rw [beq_eq_false_iff_ne]; exact h0
                        have HFN := Lib.hid (show fstD ds n p ((places ds.length m).take (j2 + 1)) = fo by rw [HSN.out]; cases fo with | some d => rfl | none => exact if_neg (fun h => h0 h.1)); clear hbb h0 hpn
                        go_wp2_with fail
                        exact ⟨⟨j2 + 1, HJN.out, by rw [HGN.out]; go_num, by rw [HFN.out], by rw [HFN.out]; exact S7.out, T7.out⟩, by simp [intOf]; omega⟩
                    · have k1 : decide ((g2 : Int) < (tt : Int)) = false := decide_eq_false (by omega)
                      have HFF : Hid (prPre ds p m (places ds.length m) st (n + 1) = appD s2 m n fo) := Lib.hid (by
                        rw [HPS.out, HS2.out]
                        unfold prF
                        rw [← HFO.out, List.take_of_length_le (by have := HPL.out; have := HG2.out; omega)]
                        rfl)
                      go_wp2_with fail
                      exact ⟨⟨n + 1, by omega, by omega, by go_num, by rw [HFF.out]; exact S7.out, T7.out⟩, by simp [intOf]; omega⟩
                · have q1 : decide ((n : Int) ≤ 3) = false := decide_eq_false (by omega)
                  have q2 : decide (n ≤ 3) = false := decide_eq_false (by omega); have HN4 := Lib.hid (show n = 4 by omega); have HFI := Lib.hid (show runTo ds ins prs (m + 1) = s2 by rw [HTF.out, ← HS2.out, HN4.out]); have HMM := Lib.hid (show m + 1 ≤ ticks ds from hmt); have HFF := Lib.hid (show ((4 * (m + 1) : Nat) : Int) = (f : Int) + 4 by have := HF.out; omega)
                  go_wp2_with fail
                  exact ⟨⟨m + 1, HMM.out, by rw [HFF.out], by rw [HFI.out]; exact S6.out⟩, by simp [intOf]; omega⟩
    · have HMT := Lib.hid (show m = ticks ds by omega)
      by_cases hf1 : f < ds.length
      · have hf2 : ¬ f < 20 := by have := HTS.out; omega
        have e1 : decide ((f : Int) < (ds.length : Int)) = true := decide_eq_true (by omega); have e2 : decide ((f : Int) < 20) = false := decide_eq_false (by omega); have e3 : decide (f < ds.length) = true := decide_eq_true hf1; have e4 : decide (f < 20) = false := decide_eq_false hf2
        go_wp2_with fail
        go_ret
        exact ⟨_, rfl, by unfold runS; rw [← HMT.out]; exact S1.out.out.rd, S1.out.fr⟩
      · have e1 : decide ((f : Int) < (ds.length : Int)) = false := decide_eq_false (by omega)
        have e3 : decide (f < ds.length) = false := decide_eq_false hf1
        go_wp2_with fail
        go_ret
        exact ⟨_, rfl, by unfold runS; rw [← HMT.out]; exact S1.out.out.rd, S1.out.fr⟩
end Go.Proofs.YtmjkcanjfjfkfaaGreat
namespace Go.Proofs
open Go.Shelf Go.Lib
shelf_lay_g Lays8.n4 Nm8 4 at Tryz 68 as YtmjkcanjfjfkfaaGreat.laidGrow
end Go.Proofs
namespace Go.Proofs.YtmjkcanjfjfkfaaGreat
open Go.RowKit
set_option linter.unusedSimpArgs false
set_option linter.unusedVariables false
attribute [local go_sem ↓] Go.wp_at_zero Go.wp_at_succ
set_option maxRecDepth 100000 in
theorem eqLk (a0 b0 a1 b1 a2 b2 : Int) (a3 b3 : ByteArray) (a4 b4 a5 b5 : Int) (a6 b6 : ByteArray) (w : World) : (Op.equalIn 10000 77 (.agg #[.int .i64 a0, .int .i64 a1, .int .i64 a2, .string a3, .int .i64 a4, .int .i64 a5, .string a6]) (.agg #[.int .i64 b0, .int .i64 b1, .int .i64 b2, .string b3, .int .i64 b4, .int .i64 b5, .string b6])).run Tryz.prog w = .ok (a0 == b0 && a1 == b1 && (a2 == b2 && a3.toList == b3.toList && a4 == b4 && a5 == b5 && a6.toList == b6.toList)) w := by
  have u1 := Tryz.underlying3; have u2 := Tryz.underlying9; have u3 := Tryz.underlying4; have u4 := Tryz.underlying33
  have hS : Tryz.prog.underlying 77 = some (.struct (Tryz.prog.fieldsOf 77)) := by kernel_rfl
  have hp : Tryz.prog.stoodInHeld 77 = false := by kernel_rfl
  rw [show (10000 : Nat) = 9999 + 1 from rfl, run_equalIn_agg w 9999 77 _ _ hS hp]
  simp only [Program.fieldsOf, Tryz.underlying77]
  go_simp
  by_cases h0 : a0 = b0 <;> by_cases h1 : a1 = b1 <;> by_cases h2 : a2 = b2 <;> by_cases h3 : a3.toList = b3.toList <;> by_cases h4 : a4 = b4 <;> by_cases h5 : a5 = b5 <;> by_cases h6 : a6.toList = b6.toList <;> simp [h0, h1, h2, h3, h4, h5, h6]
theorem guardLk : Tryz.prog.eqGuardType Tryz.prog.depth 77 = false := by kernel_rfl
theorem lk_dec (p q : Lk) : decide (p = q) = (p.frm == q.frm && p.to_ == q.to_ && (p.name.kind == q.name.kind && p.name.owner == q.name.owner && p.name.num == q.name.num && p.name.idx == q.name.idx && p.name.text == q.name.text)) := by
  obtain ⟨f, t, ⟨k, o, n, i, x⟩⟩ := p; obtain ⟨f2, t2, ⟨k2, o2, n2, i2, x2⟩⟩ := q
  simp [bool_dec, beq_dec, Bool.and_assoc]
theorem neqLk (p q : Lk) (b : Bool) (hb : decide (p = q) = b) (w : World) : (binOp .neq 77 (lkV p) (lkV q)).run Tryz.prog w = .ok (.bool (!b)) w := by
  subst hb
  unfold lkV
  rw [run_neq_struct, eqLk, lk_dec]
  simp only [bs_tl]
  rfl
def eqlk_isRel (a b : List Lk) (w : World) (i : Value) (wr : World) : Prop := ∃ k : Nat, k ≤ a.length ∧ i = .int .i64 k ∧ (∀ j (h1 : j < a.length) (h2 : j < b.length), j < k → a[j] = b[j]) ∧ Below w.heap.size w wr
set_option maxRecDepth 100000 in
theorem eqlk_is {w : World} {v1 v2 : Value} {a b : List Lk} (h1 : RdLk w v1 a) (h2 : RdLk w v2 b) (l1 : a.length ≤ 100000) (l2 : b.length ≤ 100000) : Calls Tryz.prog 22 #[v1, v2] w fun e w' => e = .returned (.bool (decide (a = b))) ∧ Below w.heap.size w w' := by
  obtain ⟨A1, c1, rfl, hc1⟩ := RdP.form h1; obtain ⟨A2, c2, rfl, hc2⟩ := RdP.form h2; have H1 := Lib.hid h1; have H2 := Lib.hid h2; clear h1 h2
  by_cases hl : a.length = b.length
  · have k1 : ((a.length : Int) == (b.length : Int)) = true := by rw [hl]; simp
    have HLL := Lib.hid hl; rw [← hl] at hc2; have H0 : Hid (eqlk_isRel a b w (.int .i64 (0 : Nat)) w) := Lib.hid ⟨0, Nat.zero_le _, rfl, fun j _ _ h => by omega, Below.refl _ _⟩
    go_enter Tryz.func22, Tryz.ntmps22
    rw [← HLL.out]; clear hl
    go_wp2_with fail
    go_loopw [13] (fun i wr => eqlk_isRel a b w i wr) (fun i _ => a.length - (intOf i).toNat)
    case atStart => exact H0.out
    case round =>
      clear H0; obtain ⟨k, hkl, rfl, hz, hbw⟩ := hrel; have HZ := Lib.hid hz; have HBW := Lib.hid hbw; clear hz hbw
      by_cases hk : k < a.length
      · have j1 : (0 : Int) ≤ (k : Int) := by omega
        have j2 : (k : Int) < (a.length : Int) := by omega
        have j3 : decide ((k : Int) < (a.length : Int)) = true := decide_eq_true j2
        have hkb : k < b.length := by rw [← HLL.out]; exact hk
        obtain ⟨b1, o1, hbe, hb1, x0, x1, x2, x3, x4, x5, x6⟩ := RdLk.piece (RdP.next H1.out HBW.out) hk; subst hbe; obtain ⟨b2, o2, hbe, hb2, y0, y1, y2, y3, y4, y5, y6⟩ := RdLk.piece (RdP.next H2.out HBW.out) hkb; subst hbe; obtain ⟨x, hx⟩ : ∃ x, a[k] = x := ⟨_, rfl⟩; obtain ⟨y, hy⟩ : ∃ y, b[k] = y := ⟨_, rfl⟩; rw [hx] at x0 x1 x2 x3 x4 x5 x6; rw [hy] at y0 y1 y2 y3 y4 y5 y6; have HX := Lib.hid hx; have HY := Lib.hid hy; clear hx hy; obtain ⟨bq, hbq⟩ : ∃ bq, decide (x = y) = bq := ⟨_, rfl⟩
        have he := fun W => neqLk x y bq hbq W
        have hg := guardLk
        unfold lkV at he
        go_upto_region 6 with (fail)
        refine wp_region_noPanic ?_
        refine wp_region_held_drew (S := (fun (w' : World) => w'.cell? ⟨b1, o1 + k * 7, none⟩ = some (.int .i64 x.frm) ∧ w'.cell? ⟨b1, o1 + k * 7 + 1, none⟩ = some (.int .i64 x.to_) ∧ w'.cell? ⟨b1, o1 + k * 7 + 2, none⟩ = some (.int .i64 x.name.kind) ∧ w'.cell? ⟨b1, o1 + k * 7 + 3, none⟩ = some (.string (bs x.name.owner)) ∧ w'.cell? ⟨b1, o1 + k * 7 + 4, none⟩ = some (.int .i64 x.name.num) ∧ w'.cell? ⟨b1, o1 + k * 7 + 5, none⟩ = some (.int .i64 x.name.idx) ∧ w'.cell? ⟨b1, o1 + k * 7 + 6, none⟩ = some (.string (bs x.name.text)) ∧ w'.cell? ⟨b2, o2 + k * 7, none⟩ = some (.int .i64 y.frm) ∧ w'.cell? ⟨b2, o2 + k * 7 + 1, none⟩ = some (.int .i64 y.to_) ∧ w'.cell? ⟨b2, o2 + k * 7 + 2, none⟩ = some (.int .i64 y.name.kind) ∧ w'.cell? ⟨b2, o2 + k * 7 + 3, none⟩ = some (.string (bs y.name.owner)) ∧ w'.cell? ⟨b2, o2 + k * 7 + 4, none⟩ = some (.int .i64 y.name.num) ∧ w'.cell? ⟨b2, o2 + k * 7 + 5, none⟩ = some (.int .i64 y.name.idx) ∧ w'.cell? ⟨b2, o2 + k * 7 + 6, none⟩ = some (.string (bs y.name.text)))) (by kernel_rfl) ?_ (fun hHeld => ?_)
        · exact ⟨x0, x1, x2, x3, x4, x5, x6, y0, y1, y2, y3, y4, y5, y6⟩
        refine tk (v := ?_) 0 rfl (by kernel_rfl) (fun _ _ _ h => h) ?_ hHeld ?_; rotate_left
        · (intro w h; (try dsimp only at h); go_simp; try with_reducible rfl)
        try simp only [Act.put, pB, pC, pD]
        refine tk (v := ?_) 1 rfl (by kernel_rfl) (fun _ _ _ h => h) ?_ hHeld ?_; rotate_left
        · (intro w h; (try dsimp only at h); go_simp; try with_reducible rfl)
        try simp only [Act.put, pB, pC, pD]
        refine tk (v := ?_) 2 rfl (by kernel_rfl) (fun _ _ _ h => h) ?_ hHeld ?_; rotate_left
        · (intro w h; (try dsimp only at h); go_simp; try with_reducible rfl)
        try simp only [Act.put, pB, pC, pD]
        refine tk (v := ?_) 3 rfl (by kernel_rfl) (fun _ _ _ h => h) ?_ hHeld ?_; rotate_left
        · (intro w h; (try dsimp only at h); go_simp; try with_reducible rfl)
        try simp only [Act.put, pB, pC, pD]
        refine tk (v := ?_) 4 rfl (by kernel_rfl) (fun _ _ _ h => h) ?_ hHeld ?_; rotate_left
        · (intro w h; (try dsimp only at h); go_simp; try with_reducible rfl)
        try simp only [Act.put, pB, pC, pD]
        refine tk (v := ?_) 5 rfl (by kernel_rfl) (fun _ _ _ h => h) ?_ hHeld ?_; rotate_left
        · (intro w h; (try dsimp only at h); go_simp; try with_reducible rfl)
        try simp only [Act.put, pB, pC, pD]
        refine tk (v := ?_) 6 rfl (by kernel_rfl) (fun _ _ _ h => h) ?_ hHeld ?_; rotate_left
        · (intro w h; (try dsimp only at h); go_simp; try with_reducible rfl)
        try simp only [Act.put, pB, pC, pD]
        refine tk (v := ?_) 7 rfl (by kernel_rfl) (fun _ _ _ h => h) ?_ hHeld ?_; rotate_left
        · (intro w h; (try dsimp only at h); go_simp; try with_reducible rfl)
        try simp only [Act.put, pB, pC, pD]
        refine tk (v := ?_) 8 rfl (by kernel_rfl) (fun _ _ _ h => h) ?_ hHeld ?_; rotate_left
        · (intro w h; (try dsimp only at h); go_simp; try with_reducible rfl)
        try simp only [Act.put, pB, pC, pD]
        refine wpAnyH_done (by kernel_rfl) ?_ _; clear hHeld
        try simp only [List.getElem_toArray, List.getElem_cons_zero, List.getElem_cons_succ, Act.put, pB, pC, pD]
        refine NoPanic.normal ?_
        cases bq with
        | true =>
          have HE := Lib.hid (of_decide_eq_true hbq); clear hbq
          go_wp2_with fail
          go_roundw
          case rel => exact ⟨k + 1, by omega, by go_num, fun j h1 h2 hjk => by
            by_cases e : j = k
            · subst e
              rw [HX.out, HY.out, HE.out]
            · exact HZ.out j h1 h2 (by omega), HBW.out.drew⟩
          case measure => simp [intOf]; omega
        | false =>
          have HE := Lib.hid (of_decide_eq_false hbq); clear hbq
          go_wp2_with fail
          go_ret
          have hne : ¬ a = b := fun e => HE.out (by rw [← HX.out, ← HY.out]; subst e; rfl)
          exact ⟨by rw [decide_eq_false hne]; rfl, HBW.out.drew⟩
      · have j3 : decide ((k : Int) < (a.length : Int)) = false := decide_eq_false (by omega)
        have HK := Lib.hid (show k = a.length by omega)
        go_wp2_with fail
        go_ret
        have he : a = b := List.ext_getElem HLL.out fun j h1 h2 => HZ.out j h1 h2 (by have := HK.out; omega)
        exact ⟨by rw [decide_eq_true he]; rfl, HBW.out⟩
  · have k1 : ((a.length : Int) == (b.length : Int)) = false := by rw [beq_eq_false_iff_ne]; omega
    have k2 : (a.length == b.length) = false := by rw [beq_eq_false_iff_ne]; omega
    have HE : Hid (¬ a = b) := Lib.hid fun e => hl (by rw [e])
    clear hl
    go_enter Tryz.func22, Tryz.ntmps22
    go_wp2_with fail
    go_ret
    exact ⟨by rw [decide_eq_false HE.out]; rfl, Below.refl _ _⟩
def RdLL (w : World) (v : Value) (ls : List (List Lk)) : Prop := ∃ A c, v = .slice A ls.length c ∧ ∀ k (hk : k < ls.length), ∃ bl A2 c2, A = some ⟨bl, 0, none⟩ ∧ bl < w.heap.size ∧ w.cell? ⟨bl, k, none⟩ = some (.slice A2 ls[k].length c2) ∧ RdLk w (.slice A2 ls[k].length c2) ls[k]
theorem RdLL.next {w w' : World} {v : Value} {ls : List (List Lk)} (h : RdLL w v ls) (hb : Below w.heap.size w w') : RdLL w' v ls := by
  obtain ⟨A, c, hv, h⟩ := h
  refine ⟨A, c, hv, fun k hk => ?_⟩
  obtain ⟨bl, A2, c2, h1, h2, h3, h4⟩ := h k hk
  exact ⟨bl, A2, c2, h1, Nat.lt_of_lt_of_le h2 hb.size, (hb.cell (p := ⟨bl, k, none⟩) h2).trans h3, RdP.next h4 hb⟩
theorem RdLL.piece {w : World} {A : Option Addr} {n c : Nat} {ls : List (List Lk)} (h : RdLL w (.slice A n c) ls) {k : Nat} (hk : k < ls.length) : ∃ bl A2 c2, A = some ⟨bl, 0, none⟩ ∧ bl < w.heap.size ∧ w.cell? ⟨bl, k, none⟩ = some (.slice A2 ls[k].length c2) ∧ RdLk w (.slice A2 ls[k].length c2) ls[k] := by
  obtain ⟨A', c', hv, h⟩ := h
  injection hv with hA _ _
  rw [hA]
  exact h k hk
theorem LU.rd {w : World} {B : Nat} {vl : Value} {vL : List Value} {L : List (List Lk)} {vu : Value} {vU : List Value} {U : List (List Lk)} (h : LU w B vl vL L vu vU U) : RdLL w vl L := by
  obtain ⟨hlen, ⟨hv, h0⟩ | ⟨bl, c, cur, hv, hg, hh, h1, h2, h3, h4⟩⟩ := id h.ln
  · refine ⟨none, 0, by rw [hv, h0], fun k hk => by omega⟩
  · refine ⟨some ⟨bl, 0, none⟩, c, hv, fun k hk => ?_⟩
    subst hv
    have hkl : k < vL.length := by rw [h.lenL]; exact hk
    have hx := own_cell1 h.ln (List.getElem?_eq_getElem hkl); have he := h.el k _ _ (List.getElem?_eq_getElem hkl) (List.getElem?_eq_getElem hk); obtain ⟨A, c2, hv2, _⟩ := own_len he; rw [hv2] at hx he
    exact ⟨bl, A, c2, rfl, (Array.getElem?_eq_some_iff.1 hh).1, hx, Rd.of_own he⟩
theorem GAt.links {w : World} {B g : Nat} {l : List Ac} (h : GAt w B g l) : ∃ v, w.cell? ⟨g, 1, none⟩ = some v ∧ RdLL w v (lnkD l) := by
  obtain ⟨vk, vl, vu, bw, vL, vU, h⟩ := h
  exact ⟨vl, by rw [h.blk.cell 1]; rfl, h.lu.rd⟩
theorem grow_is (n : Nat) (hn : n ≤ 100000) (w : World) : Calls Tryz.prog 68 #[.slice none 0 0, .int .i64 n] w fun e w' => ∃ v, e = .returned v ∧ w'.ownsRow w.heap.size 77 7 v 0 [] ∧ Below w.heap.size w w' := by
  by_cases h0 : n = 0
  · subst h0
    refine (Any8.slices_Grow_room laidGrow none 0 0 0 w (by omega) (by omega) (by omega) (by omega)).mono ?_; rintro e w' ⟨rfl, rfl⟩
    exact ⟨_, rfl, World.ownsRow_nil _ _ _ _, Below.refl _ _⟩
  · obtain ⟨i0, hi, hz0, hz1, hz2⟩ := info_parts infoLk
    refine (Any8.slices_Grow_grow laidGrow i0 _ hi hz0 (by rw [hz1]; omega) none 0 0 n [] w (by omega) (by omega) (by rw [hz2]; omega) (by omega) (by simp) (fun _ => rfl) (fun a h => by cases h)).mono ?_; rintro e w' ⟨rfl, rfl⟩
    refine ⟨_, rfl, ⟨rfl, .inr ⟨w.heap.size, _, _, rfl, Nat.le_refl _, heap_alloc_new w.drew _, Nat.zero_le _, grownCap_le_maxLen w (0 + n) 0 _ (by unfold maxLen; omega), ?_, by simp⟩⟩, (Below.refl w.heap.size w).drew.alloc (Nat.le_refl _) _⟩
    have hge := grownCap_ge w (0 + n) 0 77; have e0 : (Value.agg #[.int .i64 0, .int .i64 0, .int .i64 0, .string ⟨#[]⟩, .int .i64 0, .int .i64 0, .string ⟨#[]⟩]).cells.size = 7 := rfl; rw [show YtmjkcanjfjfkfaaGreat.laidGrow_ren.t 25 = 77 from rfl, Array.size_append, Array.size_append, size_zeroCells, size_zeroCells, e0]
    simp only [List.size_toArray, List.length_nil]
    omega
def sumL (ls : List (List Lk)) : Nat := (ls.map List.length).sum
theorem sumL_take (ls : List (List Lk)) (k : Nat) (hk : k < ls.length) : sumL (ls.take (k + 1)) = sumL (ls.take k) + ls[k].length := by
  unfold sumL
  rw [List.take_succ_eq_append_getElem hk, List.map_append, List.sum_append]
  simp
theorem flat_take (ls : List (List Lk)) (k : Nat) (hk : k < ls.length) : (ls.take (k + 1)).flatten = (ls.take k).flatten ++ ls[k] := by
  rw [List.take_succ_eq_append_getElem hk, List.flatten_append]
  simp
theorem sumL_le {ls : List (List Lk)} (h : ∀ x ∈ ls, x.length ≤ 10) : ∀ k, sumL (ls.take k) ≤ ls.length * 10
  | k => by
    have : ∀ l : List (List Lk), (∀ x ∈ l, x.length ≤ 10) → sumL l ≤ l.length * 10 := by
      intro l
      induction l with
      | nil => intro _; simp [sumL]
      | cons a l ih =>
        intro hl
        have h1 := hl a (by simp)
        have h2 := ih fun x hx => hl x (by simp [hx])
        unfold sumL at h2 ⊢
        simp only [List.map_cons, List.sum_cons, List.length_cons]
        omega
    refine Nat.le_trans (this (ls.take k) fun x hx => h x (List.mem_of_mem_take hx)) ?_
    rw [List.length_take]
    omega
theorem flat_len (ls : List (List Lk)) : ls.flatten.length = sumL ls := by
  unfold sumL
  rw [List.length_flatten]
def conRel1 (ls : List (List Lk)) (w : World) (z i : Value) (wr : World) : Prop := ∃ k : Nat, k ≤ ls.length ∧ i = .int .i64 k ∧ z = .int .i64 (sumL (ls.take k)) ∧ w = wr
def conRel2 (ls : List (List Lk)) (w : World) (v i : Value) (wr : World) : Prop := ∃ k : Nat, k ≤ ls.length ∧ i = .int .i64 k ∧ wr.ownsRow w.heap.size 77 7 v ((ls.take k).flatten).length (((ls.take k).flatten).flatMap lkC) ∧ Below w.heap.size w wr
theorem lk_one (l : List Lk) : ∀ u ∈ l.flatMap lkC, u.oneCell' = true := by
  intro u hu
  obtain ⟨p, _, h⟩ := List.mem_flatMap.1 hu
  simp only [lkC, List.mem_cons, List.not_mem_nil, or_false] at h
  rcases h with rfl | rfl | rfl | rfl | rfl | rfl | rfl <;> rfl
set_option maxRecDepth 100000 in
set_option maxHeartbeats 1000000 in
theorem concat_is {w : World} {v : Value} {ls : List (List Lk)} (h : RdLL w v ls) (hl : ls.length ≤ 100) (h10 : ∀ x ∈ ls, x.length ≤ 10) : Calls Tryz.prog 49 #[v] w fun e w' => ∃ v', e = .returned v' ∧ RdLk w' v' ls.flatten ∧ Below w.heap.size w w' := by
  obtain ⟨A, c, rfl, hx⟩ := id h; have H := Lib.hid h; have HS := Lib.hid (sumL_le h10); have H10 := Lib.hid h10; have H0 : Hid (conRel1 ls w (.int .i64 0) (.int .i64 (0 : Nat)) w) := Lib.hid ⟨0, Nat.zero_le _, rfl, by simp [sumL], rfl⟩; have HX := Lib.hid hx; clear h hx h10
  go_enter Tryz.func49, Tryz.ntmps49
  go_wp2_with fail
  go_loopw [3, 11] (fun z i wr => conRel1 ls w z i wr) (fun _ i _ => ls.length - (intOf i).toNat)
  case atStart => exact H0.out
  case round =>
    clear H0; obtain ⟨k, hkl, rfl, rfl, rfl⟩ := hrel
    by_cases hk : k < ls.length
    · have j1 : (0 : Int) ≤ (k : Int) := by omega
      have j2 : (k : Int) < (ls.length : Int) := by omega
      have j3 : decide ((k : Int) < (ls.length : Int)) = true := decide_eq_true j2; obtain ⟨bl, A2, c2, rfl, g1, g2, g3⟩ := HX.out k hk; have HST := Lib.hid (sumL_take ls k hk); have hsl := HS.out k; have hsl2 := HS.out (k + 1); rw [HST.out] at hsl2; obtain ⟨n, hn⟩ : ∃ n, ls[k].length = n := ⟨_, rfl⟩; obtain ⟨q, hq⟩ : ∃ q, sumL (ls.take k) = q := ⟨_, rfl⟩; rw [hn] at HST g2 g3 hsl2; rw [hq] at HST hsl hsl2 ⊢; clear hn hq g3; have j4 : decide ((q : Int) + (n : Int) < 0) = false := decide_eq_false (by omega)
      go_wp2_with fail
      go_roundw
      case rel => exact ⟨k + 1, by omega, by go_num, by rw [HST.out]; go_num, rfl⟩
      case measure => simp [intOf]; omega
    · have j3 : decide ((k : Int) < (ls.length : Int)) = false := decide_eq_false (by omega)
      have HK := Lib.hid (show k = ls.length by omega)
      go_wp2_with fail
      obtain ⟨q, hq⟩ : ∃ q, sumL (ls.take k) = q := ⟨_, rfl⟩; have hqm := HS.out k; rw [hq] at hqm ⊢; clear hq; have HG := Lib.hid (grow_is q (by omega) w)
      go_wp2_with (go_at_call 68; refine HG.out.mono ?_; rintro e w1 ⟨v1, rfl, hown1, hb1⟩; have HOW1 := Lib.hid hown1; have HB1 := Lib.hid hb1; clear hown1 hb1)
      have H2 : Hid (conRel2 ls w v1 (.int .i64 (0 : Nat)) w1) := Lib.hid ⟨0, Nat.zero_le _, rfl, by simpa using HOW1.out, HB1.out⟩; clear HG HOW1 HB1 hqm
      go_loopw [6, 27] (fun z i wr => conRel2 ls w z i wr) (fun _ i _ => ls.length - (intOf i).toNat)
      case atStart => exact H2.out
      case round =>
        clear H2; obtain ⟨m, hml, rfl, hown, hbw⟩ := hrel
        by_cases hm : m < ls.length
        · have j1 : (0 : Int) ≤ (m : Int) := by omega
          have j2 : (m : Int) < (ls.length : Int) := by omega
          have j4 : decide ((m : Int) < (ls.length : Int)) = true := decide_eq_true j2; obtain ⟨bl, A2, c2, rfl, g1, g2, g3⟩ := (RdLL.next H.out hbw).piece hm; have HFT := Lib.hid (flat_take ls m hm)
          have hfl : ((ls.take m).flatten).length ≤ ls.length * 10 := by rw [flat_len]; exact HS.out m
          have hrl := H10.out _ (List.getElem_mem hm); obtain ⟨row, hrow⟩ : ∃ row, ls[m] = row := ⟨_, rfl⟩; obtain ⟨fl, hfe⟩ : ∃ fl, (ls.take m).flatten = fl := ⟨_, rfl⟩; rw [hrow] at HFT g2 g3 hrl; rw [hfe] at HFT hown hfl; obtain ⟨A6, c6, rfl, hc6⟩ := own_len hown; have HOW := Lib.hid hown; have HBW := Lib.hid hbw; have G3 := Lib.hid g3; obtain ⟨i0, hi, hz0, hz1, hz2⟩ := info_parts infoLk; clear hown hbw g3 hrow hfe
          go_wp2_with (at_builtin; refine wpList_append_rd _ rfl _ _ 71 rfl w.heap.size 77 i0 _ 7 72 Tryz.underlying71 hi hz0 hz1 hz2 rfl (by decide) _ _ _ rfl HOW.out _ _ _ rfl G3.out (fm_len lkC_len row) ?c2 ?c3 ?c4 ?c5 ?_)
          case c2 => exact lk_one row
          case c3 => unfold maxLen; omega
          case c4 => omega
          case c5 => exact HBW.out.size
          intro ao cap w8 hown8 hg8
          have HOW8 := Lib.hid (show w8.ownsRow w.heap.size 77 7 (.slice ao (fl.length + row.length) cap) ((ls.take (m + 1)).flatten).length (((ls.take (m + 1)).flatten).flatMap lkC) by
            rw [HFT.out, List.length_append, List.flatMap_append]
            exact hown8)
          have HB8 := Lib.hid (HBW.out.grown hg8 HBW.out.size (fun k hk => own_ge HOW.out hk)); clear hown8 hg8 g2 i0 hi hz0 hz1 hz2
          go_wp2_with fail
          go_roundw
          case rel => exact ⟨m + 1, by omega, by go_num, HOW8.out, HB8.out⟩
          case measure => simp [intOf]; omega
        · have j4 : decide ((m : Int) < (ls.length : Int)) = false := decide_eq_false (by omega)
          have HM := Lib.hid (show ls.take m = ls by rw [List.take_of_length_le (by omega)]); rw [HM.out] at hown; have HOW := Lib.hid hown; have HBW := Lib.hid hbw; clear hown hbw HM; obtain ⟨A6, c6, rfl, _⟩ := own_len HOW.out
          go_wp2_with fail
          go_ret
          exact ⟨_, rfl, Rd.of_own HOW.out, HBW.out⟩
theorem glinks_is {w : World} {B g : Nat} {l : List Ac} (hg : GAt w B g l) (hl : l.length ≤ 100) (hr : ∀ a ∈ l, a.reads.length ≤ 10) : Calls Tryz.prog 23 #[.pointer (some ⟨g, 0, none⟩)] w fun e w' => ∃ v', e = .returned v' ∧ RdLk w' v' (lnkD l).flatten ∧ Below w.heap.size w w' := by
  obtain ⟨v, hv, hx⟩ := hg.links; have HC := Lib.hid (concat_is hx (by rw [lnkD_len]; exact hl) (lnkF_row_len [] l hr)); have hgl := hg.lt; clear hx hg
  go_enter Tryz.func23, Tryz.ntmps23
  go_wp2_with (go_at_call 49; refine HC.out.mono ?_; rintro e w1 ⟨v1, rfl, hr1, hb1⟩)
  go_ret
  exact ⟨_, rfl, hr1, hb1⟩
end Go.Proofs.YtmjkcanjfjfkfaaGreat
namespace Go.Proofs.YtmjkcanjfjfkfaaGreat
set_option linter.unusedSimpArgs false
set_option linter.unusedVariables false
abbrev VSt := (Bs → List Int) × List Int
def upT (t : Bs → List Int) (k : Bs) : Bs → List Int := fun m => if m = k then [] else t m
section
variable (succ : Int → List Int) (own : Int → Option Bs)
def visF : Nat → VSt → Int → VSt
  | 0, st, _ => st
  | n + 1, st, i => if i ∈ st.2 then st else
      match own i with
      | none => (succ i).foldl (visF n) (st.1, st.2 ++ [i])
      | some k => (((succ i).foldl (visF n) (st.1, st.2 ++ [i])).1 k).foldl (visF n) (upT ((succ i).foldl (visF n) (st.1, st.2 ++ [i])).1 k, ((succ i).foldl (visF n) (st.1, st.2 ++ [i])).2)
structure VOk47 (N : Nat) (st : VSt) : Prop where
  nd : st.2.Nodup
  rg : ∀ x ∈ st.2, 0 ≤ x ∧ x < (N : Int)
  tr : ∀ k, ∀ x ∈ st.1 k, 0 ≤ x ∧ x < (N : Int)
structure VExt (N : Nat) (a b : VSt) : Prop where
  ok : VOk47 N b
  sub : ∀ x ∈ a.2, x ∈ b.2
  tr : ∀ k, b.1 k = a.1 k ∨ (b.1 k = [] ∧ ∀ x ∈ a.1 k, x ∈ b.2)
  new : ∀ x ∈ b.2, x ∉ a.2 → (∀ y ∈ succ x, y ∈ b.2) ∧ ∀ k, own x = some k → b.1 k = []
variable {succ own}
theorem VExt.refl {N : Nat} {a : VSt} (h : VOk47 N a) : VExt succ own N a a := ⟨h, fun _ h => h, fun _ => .inl rfl, fun x h1 h2 => absurd h1 h2⟩
theorem VExt.trans {N : Nat} {a b c : VSt} (h : VExt succ own N a b) (g : VExt succ own N b c) : VExt succ own N a c where
  ok := g.ok
  sub x hx := g.sub x (h.sub x hx)
  tr k := by
    rcases h.tr k with h1 | ⟨h1, h2⟩ <;> rcases g.tr k with g1 | ⟨g1, g2⟩
    · exact .inl (g1.trans h1)
    · exact .inr ⟨g1, fun x hx => g2 x (by rw [h1]; exact hx)⟩
    · exact .inr ⟨g1.trans h1, fun x hx => g.sub x (h2 x hx)⟩
    · exact .inr ⟨g1, fun x hx => g.sub x (h2 x hx)⟩
  new x hx hn := by
    by_cases hb : x ∈ b.2
    · obtain ⟨h1, h2⟩ := h.new x hb hn
      refine ⟨fun y hy => g.sub y (h1 y hy), fun k hk => ?_⟩
      have h3 := h2 k hk
      rcases g.tr k with g1 | ⟨g1, _⟩
      · exact g1.trans h3
      · exact g1
    · exact g.new x hx hb
theorem full_range {N : Nat} : ∀ {l : List Int}, l.Nodup → (∀ x ∈ l, 0 ≤ x ∧ x < (N : Int)) → l.length ≤ N := by
  intro l hn hr
  have h1 : (l.map Int.toNat).Nodup := by
    unfold List.Nodup
    rw [List.pairwise_map]
    refine hn.imp_of_mem ?_
    intro a b ha hb hab e
    have := hr a ha; have := hr b hb
    exact hab (by omega)
  have h2 : (l.map Int.toNat) ⊆ List.range N := by
    intro x hx
    obtain ⟨y, hy, rfl⟩ := List.mem_map.1 hx; have := hr y hy; rw [List.mem_range]
    omega
  have := h1.length_le_of_subset h2
  simpa using this
theorem VOk47.step {N : Nat} {st : VSt} (h : VOk47 N st) {i : Int} (hi : i ∉ st.2) (hr : 0 ≤ i ∧ i < (N : Int)) : VOk47 N (st.1, st.2 ++ [i]) where
  nd := by
    rw [List.nodup_append]
    refine ⟨h.nd, by simp, ?_⟩
    intro a ha b hb
    rw [List.mem_singleton] at hb; subst hb
    exact fun e => hi (e ▸ ha)
  rg x hx := by
    rcases List.mem_append.1 hx with hx | hx
    · exact h.rg x hx
    · rw [List.mem_singleton] at hx; subst hx; exact hr
  tr := h.tr
theorem VOk47.up {N : Nat} {st : VSt} (h : VOk47 N st) (k : Bs) : VOk47 N (upT st.1 k, st.2) where
  nd := h.nd
  rg := h.rg
  tr m x hx := by
    unfold upT at hx
    simp only at hx
    split at hx
    · cases hx
    · exact h.tr m x hx
theorem foldVis {N n : Nat} (hv : ∀ st i, VOk47 N st → N ≤ st.2.length + n → 0 ≤ i ∧ i < (N : Int) → VExt succ own N st (visF succ own n st i) ∧ i ∈ (visF succ own n st i).2) : ∀ (xs : List Int) (st : VSt), VOk47 N st → N ≤ st.2.length + n → (∀ x ∈ xs, 0 ≤ x ∧ x < (N : Int)) →
    VExt succ own N st (xs.foldl (visF succ own n) st) ∧ (∀ x ∈ xs, x ∈ (xs.foldl (visF succ own n) st).2)
  | [], st, h, _, _ => ⟨VExt.refl h, by simp⟩
  | x :: xs, st, h, hn, hx => by
    obtain ⟨h1, h2⟩ := hv st x h hn (hx x (by simp))
    have hl : st.2.length ≤ (visF succ own n st x).2.length := by
      have := (h.nd).length_le_of_subset (l₂ := (visF succ own n st x).2) (fun y hy => h1.sub y hy)
      exact this
    obtain ⟨h3, h4⟩ := foldVis hv xs (visF succ own n st x) h1.ok (by omega) fun y hy => hx y (by simp [hy])
    refine ⟨h1.trans h3, fun y hy => ?_⟩
    rcases List.mem_cons.1 hy with rfl | hy
    · exact h3.sub _ h2
    · exact h4 y hy
theorem visF_ext {N : Nat} (hs : ∀ i : Int, 0 ≤ i ∧ i < (N : Int) → ∀ x ∈ succ i, 0 ≤ x ∧ x < (N : Int)) : ∀ (n : Nat) (st : VSt) (i : Int), VOk47 N st → N ≤ st.2.length + n → 0 ≤ i ∧ i < (N : Int) → VExt succ own N st (visF succ own n st i) ∧ i ∈ (visF succ own n st i).2
  | 0, st, i, h, hn, hi => by
    refine ⟨VExt.refl h, ?_⟩
    show i ∈ st.2
    by_cases hm : i ∈ st.2
    · exact hm
    · have := full_range (h.step hm hi).nd (h.step hm hi).rg
      simp at this
      omega
  | n + 1, st, i, h, hn, hi => by
    by_cases hm : i ∈ st.2
    · have e : visF succ own (n + 1) st i = st := by simp [visF, hm]
      rw [e]
      exact ⟨VExt.refl h, hm⟩
    · have ih := foldVis (visF_ext hs n)
      have h0 := h.step hm hi; obtain ⟨h1, h2⟩ := ih (succ i) (st.1, st.2 ++ [i]) h0 (by simp; omega) (hs i hi); have hin : i ∈ ((succ i).foldl (visF succ own n) (st.1, st.2 ++ [i])).2 := h1.sub i (by simp)
      cases ho : own i with
      | none =>
        have e : visF succ own (n + 1) st i = (succ i).foldl (visF succ own n) (st.1, st.2 ++ [i]) := by rw [visF, if_neg hm, ho]
        rw [e]
        refine ⟨⟨h1.ok, fun x hx => h1.sub x (by simp [hx]), h1.tr, fun x hx hn2 => ?_⟩, hin⟩
        by_cases hxi : x = i
        · subst hxi
          exact ⟨h2, fun k hk => by rw [ho] at hk; cases hk⟩
        · exact h1.new x hx (by simp [hxi]; exact hn2)
      | some k =>
        have e : visF succ own (n + 1) st i = (((succ i).foldl (visF succ own n) (st.1, st.2 ++ [i])).1 k).foldl (visF succ own n) (upT ((succ i).foldl (visF succ own n) (st.1, st.2 ++ [i])).1 k, ((succ i).foldl (visF succ own n) (st.1, st.2 ++ [i])).2) := by rw [visF, if_neg hm, ho]
        rw [e]; obtain ⟨s1, hs1⟩ : ∃ s1, (succ i).foldl (visF succ own n) (st.1, st.2 ++ [i]) = s1 := ⟨_, rfl⟩; rw [hs1] at h1 h2 hin ⊢
        have hl1 : st.2.length + 1 ≤ s1.2.length := by
          have := h0.nd.length_le_of_subset (l₂ := s1.2) (fun y hy => h1.sub y hy)
          simpa using this
        obtain ⟨g1, g2⟩ := ih (s1.1 k) (upT s1.1 k, s1.2) (h1.ok.up k) (by show N ≤ s1.2.length + n; omega) (h1.ok.tr k); obtain ⟨s2, hs2⟩ : ∃ s2, (s1.1 k).foldl (visF succ own n) (upT s1.1 k, s1.2) = s2 := ⟨_, rfl⟩; rw [hs2] at g1 g2 ⊢
        have hk0 : s2.1 k = [] := by
          rcases g1.tr k with g | ⟨g, _⟩
          · rw [g]; simp [upT]
          · exact g
        have hmono : ∀ m, s1.1 m = [] → s2.1 m = [] := fun m hm0 => by
          rcases g1.tr m with g | ⟨g, _⟩
          · rw [g]
            simp only [upT]
            split
            · rfl
            · exact hm0
          · exact g
        refine ⟨⟨g1.ok, fun x hx => g1.sub x (h1.sub x (by simp [hx])), fun m => ?_, fun x hx hn2 => ?_⟩, g1.sub i hin⟩
        · by_cases hmk : m = k
          · subst hmk
            refine .inr ⟨hk0, fun x hx => ?_⟩
            rcases h1.tr m with h3 | ⟨_, h3⟩
            · exact g2 x (by rw [h3]; exact hx)
            · exact g1.sub x (h3 x hx)
          · have hup : (upT s1.1 k) m = s1.1 m := by simp [upT, hmk]
            rcases h1.tr m with h3 | ⟨h3, h4⟩
            · rcases g1.tr m with g3 | ⟨g3, g4⟩
              · exact .inl (g3.trans (hup.trans h3))
              · exact .inr ⟨g3, fun x hx => g4 x (by show x ∈ (upT s1.1 k) m; rw [hup, h3]; exact hx)⟩
            · exact .inr ⟨hmono m h3, fun x hx => g1.sub x (h4 x hx)⟩
        · by_cases hx1 : x ∈ s1.2
          · by_cases hxi : x = i
            · subst hxi
              exact ⟨fun y hy => g1.sub y (h2 y hy), fun m hm2 => by rw [ho] at hm2; injection hm2 with hm2; rw [← hm2]; exact hk0⟩
            · obtain ⟨h5, h6⟩ := h1.new x hx1 (by simp [hxi]; exact hn2)
              exact ⟨fun y hy => g1.sub y (h5 y hy), fun m hm2 => hmono m (h6 m hm2)⟩
          · exact g1.new x hx hx1
end
end Go.Proofs.YtmjkcanjfjfkfaaGreat
namespace Go.Proofs.YtmjkcanjfjfkfaaGreat
open Go.RowKit
set_option linter.unusedSimpArgs false
set_option linter.unusedVariables false
attribute [local go_sem ↓] Go.wp_at_zero Go.wp_at_succ
open Go.MapKept Go.ChangeMaps
structure VP where
  W0 : World
  B1 : Nat
  g : Nat
  gb : Nat
  sb : Nat
  rb : Nat
  nb : Nat
  vb : Nat
  mb : Nat
  N : Nat
  nx : Value
  succ : Int → List Int
  own : Int → Option Bs
  J : World → (Bs → List Int) → Prop
abbrev ptrV (b : Nat) : Value := .pointer (some ⟨b, 0, none⟩)
def visV (p : VP) : Value := .func (.func 66) #[] #[ptrV p.sb, ptrV p.rb, ptrV p.nb, ptrV p.vb]
structure VS (p : VP) (w : World) (R : List Int) : Prop where
  fr : Below p.W0.heap.size p.W0 w
  b0 : p.W0.heap.size ≤ p.B1
  b1 : p.B1 ≤ w.heap.size
  gbx : Blk w p.gb 64 #[ptrV p.g]
  seen : Blk w p.sb 138 #[.map (some p.mb)]
  set : SetAt w p.mb R
  row : ∃ v, Blk w p.rb 68 #[v] ∧ w.ownsRow p.B1 3 1 v R.length (R.flatMap inC)
  nxt : Blk w p.nb 118 #[p.nx]
  vis : Blk w p.vb 117 #[visV p]
  mB : p.B1 ≤ p.mb
  rB : p.B1 ≤ p.rb
theorem VS.next {p : VP} {w w' : World} {R : List Int} (h : VS p w R) (hb : Below w.heap.size w w') : VS p w' R := by
  obtain ⟨v, h1, h2⟩ := h.row
  exact ⟨h.fr.trans (hb.mono h.fr.size), h.b0, Nat.le_trans h.b1 hb.size, h.gbx.next hb h.gbx.lt, h.seen.next hb h.seen.lt, h.set.next hb, ⟨v, h1.next hb h1.lt, own_next h2 hb⟩, h.nxt.next hb h.nxt.lt, h.vis.next hb h.vis.lt, h.mB, h.rB⟩
def nxtF (succ : Int → List Int) (own : Int → Option Bs) (n : Nat) (st : VSt) (i : Int) : VSt :=
  match own i with
  | none => (succ i).foldl (visF succ own n) st
  | some k => (((succ i).foldl (visF succ own n) st).1 k).foldl (visF succ own n) (upT ((succ i).foldl (visF succ own n) st).1 k, ((succ i).foldl (visF succ own n) st).2)
theorem visF_in_ (succ : Int → List Int) (own : Int → Option Bs) (n : Nat) (st : VSt) {i : Int} (h : i ∈ st.2) : visF succ own n st i = st := by
  cases n with
  | zero => rfl
  | succ n => rw [visF, if_pos h]
theorem visF_new (succ : Int → List Int) (own : Int → Option Bs) (n : Nat) (st : VSt) {i : Int} (h : i ∉ st.2) : visF succ own (n + 1) st i = nxtF succ own n (st.1, st.2 ++ [i]) i := by
  rw [visF, if_neg h]
  rfl
def VisSaid (p : VP) (n : Nat) : Prop := ∀ (w : World) (R : List Int) (t : Bs → List Int) (i : Int), VS p w R → p.J w t → VOk47 p.N (t, R) → p.N ≤ R.length + n → 0 ≤ i → i < (p.N : Int) →
  Calls Tryz.prog 66 #[.int .i64 i, ptrV p.sb, ptrV p.rb, ptrV p.nb, ptrV p.vb] w fun e w' => e = .returned (.tuple #[]) ∧ VS p w' (visF p.succ p.own n (t, R) i).2 ∧ p.J w' (visF p.succ p.own n (t, R) i).1
theorem zeroB47 (w : World) : (zeroValue 4).run Tryz.prog w = .ok (.bool false) w := by kernel_rfl
theorem look_set47 (n : Int) : ∀ D : List Int, (lookM n (D.map fun n => (n, Value.bool true))).getD (.bool false) = .bool (decide (n ∈ D))
  | [] => by simp [lookM]
  | a :: D => by
    simp only [List.map_cons, lookM]
    by_cases h : a = n
    · rw [if_pos h]; simp [h]
    · rw [if_neg h, look_set47 n D]
      have : ¬ n = a := fun e => h e.symm
      simp [this]
theorem SetAt.look {w : World} {b : Nat} {D : List Int} (h : SetAt w b D) (n : Int) {q : Bool} (hq : decide (n ∈ D) = q) : (Instr.lookup 138 (.map (some b)) (.int .i64 n) false).run Tryz.prog w = .ok (.bool q) w := by
  have := map_lookI h n Tryz.underlying138 (zeroB47 w); rw [look_set47, hq] at this
  exact this
theorem SetAt.noCells {w : World} {b g : Nat} {D : List Int} (h : SetAt w b D) {t : TypeId} {cs : Array Value} (hb : Blk w g t cs) : some g ≠ some b := by
  intro e
  injection e with e
  subst e
  exact h.noInt cs (0, 0) hb
theorem Blk.ne {w : World} {g g' : Nat} {t t' : TypeId} {cs cs' : Array Value} (h : Blk w g t cs) (h' : Blk w g' t' cs') (hne : t ≠ t') : g ≠ g' := by
  rintro rfl
  unfold Blk at h h'
  rw [h] at h'
  injection h' with h'
  injection h' with _ h' _
  exact hne h'
theorem own_apart_blk {w : World} {base e s n g : Nat} {t : TypeId} {v : Value} {xs : List Value} {cs : Array Value} (h : w.ownsRow base e s v n xs) (hb : Blk w g t cs) (hne : e ≠ t) : some g ≠ v.ownBlock := by
  intro he
  exact own_blk_ne h hb hne he.symm
def sucC (row : List Lk) : List Int := (srcs row).map Lk.frm
theorem sucC_sub {row : List Lk} {m : Nat} {z : Int} (h : z ∈ sucC (row.take m)) : z ∈ sucC row := by
  unfold sucC srcs at h ⊢
  obtain ⟨x, hx, rfl⟩ := List.mem_map.1 h; rw [List.mem_filter] at hx
  exact List.mem_map.2 ⟨x, List.mem_filter.2 ⟨List.mem_of_mem_take hx.1, hx.2⟩, rfl⟩
def NxtSaidC (p : VP) (gb_ : Nat) (n : Nat) : Prop := ∀ (w : World) (R : List Int) (t : Bs → List Int) (i : Int), VS p w R → p.J w t → VOk47 p.N (t, R) → p.N ≤ R.length + n → 0 ≤ i → i < (p.N : Int) →
  Calls Tryz.prog 46 #[.int .i64 i, visV p, ptrV gb_] w fun e w' => e = .returned (.tuple #[]) ∧ VS p w' (nxtF p.succ p.own n (t, R) i).2 ∧ p.J w' (nxtF p.succ p.own n (t, R) i).1
set_option maxRecDepth 100000 in
set_option maxHeartbeats 1000000 in
theorem visitC (p : VP) (gb_ : Nat) (hNl : p.N ≤ 100) (hnx : p.nx = .func (.func 46) #[] #[ptrV gb_]) (hJ : ∀ w w' t, p.J w t → (∀ i, i < p.B1 → i < w.heap.size → w'.heap[i]? = w.heap[i]?) → p.J w' t) (n : Nat) (hN : 0 < n → NxtSaidC p gb_ (n - 1)) : VisSaid p n := by
  intro w R t i hS hT hO hn h0 h1
  obtain ⟨v, hv, hrow⟩ := hS.row; have S := Lib.hid hS; have c0 := hS.seen.cell 0
  simp only [List.getElem?_toArray, List.getElem?_cons_zero] at c0
  by_cases hm : i ∈ R
  · have hlk := hS.set.look i (decide_eq_true hm)
    rw [visF_in_ _ _ _ _ hm]; have T := Lib.hid hT; clear hS hT hO hn hv hrow hm hN hJ hnx
    go_enter Tryz.func66, Tryz.ntmps66
    go_wp2_with fail
    exact bodyPost_end (results_none (by kernel_rfl) _ _ _) rfl ⟨rfl, S.out, T.out⟩
  · have hlk := hS.set.look i (decide_eq_false hm)
    cases n with
    | zero =>
      exfalso
      have := full_range (hO.step hm ⟨h0, h1⟩).nd (hO.step hm ⟨h0, h1⟩).rg
      simp at this
      omega
    | succ n =>
    rw [visF_new _ _ _ _ hm]; have hO2 := Lib.hid (hO.step hm ⟨h0, h1⟩); have hRl := full_range hO.nd hO.rg; obtain ⟨w1, hput, hset1, hg1⟩ := hS.set.put hm; have z1 := hv.grown hg1 (hS.set.noCells hv)
    have r1 : w1.ownsRow p.B1 3 1 v R.length (R.flatMap inC) := own_same hrow fun q hq => by
      obtain ⟨cur, hc⟩ := own_cells_of hrow hq
      exact hg1.block q (Array.getElem?_eq_some_iff.1 hc).1 (hS.set.noCells (show Blk w q _ _ from hc))
    have G1 := Lib.hid (hS.gbx.grown hg1 (hS.set.noCells hS.gbx)); have s1 := Lib.hid (hS.seen.grown hg1 (hS.set.noCells hS.seen)); have n1 := Lib.hid (hS.nxt.grown hg1 (hS.set.noCells hS.nxt)); have v1 := Lib.hid (hS.vis.grown hg1 (hS.set.noCells hS.vis)); have hsz1 := hg1.size; have FR1 := Lib.hid (hS.fr.grown hg1 hS.fr.size (fun k hk => by injection hk with hk; have := hS.mB; have := hS.b0; omega)); have c1 := s1.out.cell 0; have c2 := z1.cell 0; have f2 := z1.frozen 0
    simp only [List.getElem?_toArray, List.getElem?_cons_zero] at c1 c2
    obtain ⟨A, c, rfl, hc⟩ := own_len r1; have K1 := Lib.hid (fun j (hj : j < p.B1) (hw : j < w.heap.size) => hg1.block j hw (fun e => by injection e with e; have := hS.mB; omega)); have Z1 := Lib.hid z1; have R1 := Lib.hid r1; have ST1 := Lib.hid hset1; have T := Lib.hid hT; have HN : Hid (NxtSaidC p gb_ n) := Lib.hid (hN (by omega)); have HJ := Lib.hid hJ; have HNX := Lib.hid hnx; have hb1 := hS.b1; have hb0 := hS.b0; have hrB := hS.rB; have hmB := Lib.hid hS.mB; have hNn : Hid (p.N ≤ (R ++ [i]).length + n) := Lib.hid (by rw [List.length_append, List.length_singleton]; omega); clear hS hT hO hv hrow hm hN hJ hnx z1 r1 hset1 hg1; obtain ⟨i0, hi, hz0, hz1, hz2⟩ := info_parts infoIn
    go_enter Tryz.func66, Tryz.ntmps66
    go_upto_region 2 with (fail)
    clear hput hlk c0; have ha := (Below.refl w1.heap.size w1).alloc (Nat.le_refl _) (.cells #[.int .i64 i] 3); have Z2 := Lib.hid (Z1.out.next ha Z1.out.lt); have R2 := Lib.hid (own_next R1.out ha); have X2 := Lib.hid (rd_new1 w1 i)
    go_wp2_with (at_builtin; refine wpList_append_rd _ rfl _ _ 68 rfl p.B1 3 i0 _ 1 8 Tryz.underlying68 hi hz0 hz1 hz2 rfl (by decide) _ _ _ rfl R2.out _ _ _ rfl X2.out rfl ?c2 ?c3 ?c4 ?c5 ?_)
    case c2 => intro u hu; simp only [List.flatMap_cons, List.flatMap_nil, List.append_nil, inC, List.mem_cons, List.not_mem_nil, or_false] at hu; subst hu; rfl
    case c3 => unfold maxLen; omega
    case c4 => omega
    case c5 => omega
    intro ao cap w3 hown3 hg3
    have hv3 := own_apart_blk R2.out Z2.out (by decide); have Z3 := Lib.hid (Z2.out.grown hg3 hv3); have s3 := Lib.hid ((s1.out.next ha s1.out.lt).grown hg3 (own_apart_blk R2.out (s1.out.next ha s1.out.lt) (by decide))); have g3 := Lib.hid ((G1.out.next ha G1.out.lt).grown hg3 (own_apart_blk R2.out (G1.out.next ha G1.out.lt) (by decide))); have n3 := Lib.hid ((n1.out.next ha n1.out.lt).grown hg3 (own_apart_blk R2.out (n1.out.next ha n1.out.lt) (by decide))); have v3 := Lib.hid ((v1.out.next ha v1.out.lt).grown hg3 (own_apart_blk R2.out (v1.out.next ha v1.out.lt) (by decide)))
    have ST3 := Lib.hid ((ST1.out.next ha).same (hg3.block _ (ST1.out.next ha).lt (fun e => by
      obtain ⟨cur, hcc⟩ := own_cells_of R2.out e.symm
      exact (ST1.out.next ha).noCells (show Blk _ _ _ _ from hcc) rfl)))
    have HB3 := Lib.hid (((Below.refl p.B1 w1).alloc (Nat.le_trans hb1 hsz1) (.cells #[.int .i64 i] 3)).grown hg3 (by rw [World.size_alloc]; omega) (fun k hk => own_ge R2.out hk)); have HOW3 := Lib.hid hown3; have f3 := Z3.out.frozen 0; have c3 := Z3.out.cell 0
    simp only [List.getElem?_toArray, List.getElem?_cons_zero] at c3
    have HB4 := Lib.hid (HB3.out.setCell (p := ⟨p.rb, 0, none⟩) hrB (.slice ao (R.length + 1) cap)); have S4 : Hid (VS p (w3.setCell ⟨p.rb, 0, none⟩ (.slice ao (R.length + 1) cap)) (R ++ [i])) := Lib.hid {
      fr := FR1.out.trans (HB4.out.mono hb0)
      b0 := hb0
      b1 := Nat.le_trans (Nat.le_trans hb1 hsz1) HB4.out.size
      gbx := g3.out.far (g3.out.ne Z3.out (by decide)) _
      seen := s3.out.far (s3.out.ne Z3.out (by decide)) _
      set := ST3.out.same (Below.heap_setCell w3 ⟨p.rb, 0, none⟩ _ _ (fun e => ST3.out.noCells Z3.out (congrArg some e.symm)))
      row := ⟨_, Z3.out.set_ 0 _, by
        rw [List.length_append, List.flatMap_append]
        exact own_same (by simpa [inC] using HOW3.out) fun q hq => Below.heap_setCell w3 ⟨p.rb, 0, none⟩ _ _ (fun e => own_blk_ne HOW3.out Z3.out (by decide) (hq.trans (congrArg some e)))⟩
      nxt := n3.out.far (n3.out.ne Z3.out (by decide)) _
      vis := v3.out.far (v3.out.ne Z3.out (by decide)) _
      mB := hmB.out
      rB := hrB }
    have J4 := Lib.hid (HJ.out w _ t T.out fun j hj hw => (HB4.out.block j hj).trans (K1.out j hj hw)); have d0 := S4.out.nxt.cell 0; have d1 := S4.out.vis.cell 0; rw [HNX.out] at d0
    simp only [List.getElem?_toArray, List.getElem?_cons_zero] at d0 d1
    clear hown3 hg3 hv3 c2 f2 Z2 R2 X2 i0 hi hz0 hz1 hz2 ha G1 s1 n1 v1 Z1 R1 ST1 hc c1
    go_wp2_with fail
    go_at_call 46; refine (HN.out _ _ t i S4.out J4.out hO2.out hNn.out h0 h1).mono ?_; rintro e w5 ⟨rfl, S5, J5⟩
    go_wp2_with fail
    exact bodyPost_end (results_none (by kernel_rfl) _ _ _) rfl ⟨rfl, S5, J5⟩
def frCRel (p : VP) (n : Nat) (row : List Lk) (st : VSt) (i : Value) (wr : World) : Prop := ∃ m : Nat, m ≤ row.length ∧ i = .int .i64 m ∧ VS p wr (((sucC (row.take m))).foldl (visF p.succ p.own n) st).2 ∧ p.J wr ((sucC (row.take m)).foldl (visF p.succ p.own n) st).1
set_option maxRecDepth 100000 in
set_option maxHeartbeats 2000000 in
theorem nextC (p : VP) (l : List Ac) (B : Nat) (hg : GAt p.W0 B p.g l) (hl : l.length ≤ 100) (hr : ∀ a ∈ l, a.reads.length ≤ 10) (hN : p.N = l.length) (hsu : p.succ = fun i => sucC ((lnkD l).getD i.toNat [])) (how : p.own = fun _ => none) (hrg : ∀ i : Int, 0 ≤ i ∧ i < (p.N : Int) → ∀ x ∈ p.succ i, 0 ≤ x ∧ x < (p.N : Int)) (hJ : ∀ w w' t, p.J w t → (∀ i, i < p.B1 → i < w.heap.size → w'.heap[i]? = w.heap[i]?) → p.J w' t) (n : Nat) (hV : VisSaid p n) : NxtSaidC p p.gb n := by
  intro w R t i hS hT hO hn h0 h1
  obtain ⟨k, rfl⟩ : ∃ k : Nat, i = (k : Int) := ⟨i.toNat, by omega⟩
  have hk : k < l.length := by omega
  obtain ⟨bl, c, A, c2, gl0, gl1, gl2, gl3⟩ := hg.lrow hk
  have hRW : p.succ (k : Int) = sucC ((lnkD l)[k]'(by rw [lnkD_len]; exact hk)) := by
    rw [hsu]
    simp only [Int.toNat_natCast]
    rw [List.getD_eq_getElem?_getD, List.getElem?_eq_getElem (by rw [lnkD_len]; exact hk), Option.getD_some]
  have hnx : nxtF p.succ p.own n (t, R) (k : Int) = (p.succ (k : Int)).foldl (visF p.succ p.own n) (t, R) := by unfold nxtF; rw [how]
  rw [hnx]
  have hrl : ((lnkD l)[k]'(by rw [lnkD_len]; exact hk)).length ≤ 10000 := by
    exact Nat.le_trans (lnkF_row_len [] l hr _ (List.getElem_mem _)) (by omega)
  obtain ⟨row, hrow⟩ : ∃ row, (lnkD l)[k]'(by rw [lnkD_len]; exact hk) = row := ⟨_, rfl⟩; rw [hrow] at hRW gl2 gl3 hrl; have HX := Lib.hid gl3; have y0 := hS.gbx.cell 0
  simp only [List.getElem?_toArray, List.getElem?_cons_zero] at y0
  have y1 := (hS.fr.cell (p := ⟨p.g, 1, none⟩) hg.lt).trans gl1; have y2 := (hS.fr.cell (p := ⟨bl, k, none⟩) gl0).trans gl2
  have j0 : (0 : Int) ≤ (k : Int) := by omega
  have j1 : (k : Int) < (l.length : Int) := by omega
  have FX := Lib.hid (foldVis (visF_ext (own := p.own) hrg n)); have SU := Lib.hid hRW; have RG := Lib.hid (fun x (hx : x ∈ sucC row) => hrg (k : Int) ⟨h0, h1⟩ x (by rw [hRW]; exact hx)); have HV := Lib.hid hV; have HJ := Lib.hid hJ; have HO := Lib.hid hO; have HN := Lib.hid hn; have H0 : Hid (frCRel p n row (t, R) (.int .i64 (0 : Nat)) w) := Lib.hid ⟨0, Nat.zero_le _, rfl, by simpa [sucC, srcs] using hS, by simpa [sucC, srcs] using hT⟩; rw [hRW]; clear hg hS hT hO hn hRW hnx hrow gl0 gl1 gl2 gl3 hsu how hrg hV hJ hr
  unfold visV
  go_enter Tryz.func46, Tryz.ntmps46
  go_wp2_with fail
  clear y0 y1 y2
  go_loopw [15] (fun i wr => frCRel p n row (t, R) i wr) (fun i _ => row.length - (intOf i).toNat)
  case atStart => exact H0.out
  case round =>
    clear H0; obtain ⟨m, hml, rfl, hS, hT⟩ := hrel; have S := Lib.hid hS; have T := Lib.hid hT
    by_cases hm : m < row.length
    · have j4 : (0 : Int) ≤ (m : Int) := by omega
      have j5 : (m : Int) < (row.length : Int) := by omega
      have j6 : decide ((m : Int) < (row.length : Int)) = true := decide_eq_true j5; obtain ⟨xb, xo, hbe, hxb, y0, y1, y2, y3, y4, y5, y6⟩ := RdLk.piece (RdP.next HX.out hS.fr) hm; subst hbe; have HTK := Lib.hid (show row.take (m + 1) = row.take m ++ [row[m]] from List.take_succ_eq_append_getElem hm); obtain ⟨x, hx⟩ : ∃ x, row[m] = x := ⟨_, rfl⟩; rw [hx] at y0 y1 y2 y3 y4 y5 y6 HTK; have HMX := Lib.hid (show x ∈ row by rw [← hx]; exact List.getElem_mem hm); obtain ⟨st, hst⟩ : ∃ st, (sucC (row.take m)).foldl (visF p.succ p.own n) (t, R) = st := ⟨_, rfl⟩; rw [hst] at S T; have HST := Lib.hid hst; have HE := Lib.hid (FX.out (sucC (row.take m)) (t, R) HO.out HN.out (fun z hz => RG.out z (sucC_sub hz))); rw [hst] at HE; clear hx hS hT hst
      go_upto_region 3 with (fail)
      have hba := (Below.refl wr.heap.size wr).alloc (Nat.le_refl _) (.cells #[.int .i64 x.frm, .int .i64 x.to_, .int .i64 x.name.kind, .string (bs x.name.owner), .int .i64 x.name.num, .int .i64 x.name.idx, .string (bs x.name.text)] 77); have S6 := Lib.hid (S.out.next hba); have hb1 := S.out.b1; have T6 := Lib.hid (HJ.out wr _ _ T.out (fun j hj hw => hba.block j hw)); have ZX := Lib.hid (Blk.new wr 77 #[.int .i64 x.frm, .int .i64 x.to_, .int .i64 x.name.kind, .string (bs x.name.owner), .int .i64 x.name.num, .int .i64 x.name.idx, .string (bs x.name.text)])
      have HN6 : Hid (p.N ≤ st.2.length + n) := Lib.hid (by
        have h2 := HO.out.nd.length_le_of_subset (l₂ := st.2) (fun y hy => HE.out.1.sub y hy); have h3 := HN.out
        simp only at h2
        omega)
      clear y0 y1 y2 y3 y4 y5 y6 hba hxb; generalize wr.alloc (.cells #[.int .i64 x.frm, .int .i64 x.to_, .int .i64 x.name.kind, .string (bs x.name.owner), .int .i64 x.name.num, .int .i64 x.name.idx, .string (bs x.name.text)] 77) = W6 at *; obtain ⟨cb, hcb⟩ : ∃ cb, wr.heap.size = cb := ⟨_, rfl⟩; rw [hcb] at ZX ⊢; clear hcb; have x0 := ZX.out.cell 0; have x1 := ZX.out.cell 1; simp only [qB, qC, qD] at x0 x1
      by_cases hp : 0 ≤ x.frm
      · have d0 : decide (0 ≤ x.frm) = true := decide_eq_true hp
        have HSN := Lib.hid (show sucC (row.take (m + 1)) = sucC (row.take m) ++ [x.frm] by
          rw [HTK.out]
          unfold sucC srcs
          rw [List.filter_append, List.map_append]
          simp [hp])
        have HR := RG.out x.frm (by unfold sucC srcs; exact List.mem_map.2 ⟨x, List.mem_filter.2 ⟨HMX.out, d0⟩, rfl⟩)
        go_wp2_with fail
        go_at_call 66; refine (HV.out W6 st.2 st.1 x.frm S6.out T6.out HE.out.1.ok HN6.out HR.1 HR.2).mono ?_; rintro e w7 ⟨rfl, S7, T7⟩; have HS7 := Lib.hid S7; have HT7 := Lib.hid T7; clear S7 T7 x0 x1
        go_wp2_with fail
        go_roundw
        case rel => exact ⟨m + 1, by omega, by go_num, by rw [HSN.out, List.foldl_append, HST.out]; exact HS7.out, by rw [HSN.out, List.foldl_append, HST.out]; exact HT7.out⟩
        case measure => simp [intOf]; omega
      · have d0 : decide (0 ≤ x.frm) = false := decide_eq_false hp
        have HSN := Lib.hid (show sucC (row.take (m + 1)) = sucC (row.take m) by
          rw [HTK.out]
          unfold sucC srcs
          rw [List.filter_append, List.map_append]
          simp [of_decide_eq_false d0])
        clear hp
        go_wp2_with fail
        go_roundw
        case rel => exact ⟨m + 1, by omega, by go_num, by rw [HSN.out, HST.out]; exact S6.out, by rw [HSN.out, HST.out]; exact T6.out⟩
        case measure => simp [intOf]; omega
    · have j6 : decide ((m : Int) < (row.length : Int)) = false := decide_eq_false (by omega)
      have HSN := Lib.hid (show sucC (row.take m) = sucC row by rw [List.take_of_length_le (by omega)]); rw [HSN.out] at S T; clear hS hT
      go_wp2_with fail
      exact bodyPost_end (results_none (by kernel_rfl) _ _ _) rfl ⟨rfl, S.out, T.out⟩
theorem vis_allC (p : VP) (l : List Ac) (B : Nat) (hg : GAt p.W0 B p.g l) (hl : l.length ≤ 100) (hr : ∀ a ∈ l, a.reads.length ≤ 10) (hN : p.N = l.length) (hsu : p.succ = fun i => sucC ((lnkD l).getD i.toNat [])) (how : p.own = fun _ => none) (hrg : ∀ i : Int, 0 ≤ i ∧ i < (p.N : Int) → ∀ x ∈ p.succ i, 0 ≤ x ∧ x < (p.N : Int)) (hJ : ∀ w w' t, p.J w t → (∀ i, i < p.B1 → i < w.heap.size → w'.heap[i]? = w.heap[i]?) → p.J w' t) (hnx : p.nx = .func (.func 46) #[] #[ptrV p.gb]) : ∀ n, VisSaid p n
  | 0 => visitC p p.gb (by omega) hnx hJ 0 (fun h => absurd h (by omega))
  | n + 1 => visitC p p.gb (by omega) hnx hJ (n + 1) fun _ => nextC p l B hg hl hr hN hsu how hrg hJ n (vis_allC p l B hg hl hr hN hsu how hrg hJ hnx n)
end Go.Proofs.YtmjkcanjfjfkfaaGreat
namespace Go.Proofs.YtmjkcanjfjfkfaaGreat
open Go.RowKit
set_option linter.unusedSimpArgs false
set_option linter.unusedVariables false
attribute [local go_sem ↓] Go.wp_at_zero Go.wp_at_succ
def RdA (w : World) (v : Value) (xs : List Int) : Prop := Ra w.heap.size w v xs.length (xs.flatMap inC)
theorem RdA.next {w w' : World} {v : Value} {xs : List Int} (h : RdA w v xs) (hb : Below w.heap.size w w') : RdA w' v xs := by
  obtain ⟨A, c, hv, hc, hm, h0 | ⟨b, o, hA, hlt, hx⟩⟩ := Ra.below h hb
  · exact ⟨A, c, hv, hc, hm, .inl h0⟩
  · exact ⟨A, c, hv, hc, hm, .inr ⟨b, o, hA, Nat.lt_of_lt_of_le hlt hb.size, hx⟩⟩
theorem RdA.form {w : World} {v : Value} {xs : List Int} (h : RdA w v xs) : ∃ A c, v = .slice A xs.length c ∧ xs.length ≤ c := by
  obtain ⟨A, c, hv, hc, hm, _⟩ := h
  exact ⟨A, c, hv, hc⟩
theorem RdA.piece {w : World} {A : Option Addr} {n c : Nat} {l : List Int} (h : RdA w (.slice A n c) l) {k : Nat} (hk : k < l.length) : ∃ b o, A = some ⟨b, o, none⟩ ∧ b < w.heap.size ∧ w.cell? ⟨b, o + k, none⟩ = some (.int .i64 l[k]) := by
  obtain ⟨b, o, c', hv, _, _, hb, hx⟩ := Ra.at_ h (by omega)
  injection hv with hA _ _
  refine ⟨b, o, hA, hb, ?_⟩
  have := hx (k * 1 + 0) _ (fm_get inC_len l k hk 0 (by omega)); rw [Nat.mul_one, Nat.add_zero] at this
  exact this
theorem RdA.of {w : World} {v : Value} {l : List Int} (h : RdIn w v l) : RdA w v l := by
  obtain ⟨A, c, hv, hc, hm, h0 | ⟨b, o, cs, fr, hA, hb, hx⟩⟩ := h
  · exact ⟨A, c, hv, hc, hm, .inl h0⟩
  · refine ⟨A, c, hv, hc, hm, .inr ⟨b, o, hA, (Array.getElem?_eq_some_iff.1 hb).1, fun j u hu => ?_⟩⟩
    rw [cell_of_row w b (o + j) cs _ fr hb]
    exact hx j u hu
set_option maxRecDepth 100000 in
set_option maxHeartbeats 1000000 in
theorem gcheckA_is {w : World} {B g : Nat} {l : List Ac} {v : Value} {xs : List Int} (hg : GAt w B g l) (hx : RdA w v xs) (hl : l.length ≤ 1000000) (hxl : xs.length ≤ 1000000) : Calls Tryz.prog 44 #[.pointer (some ⟨g, 0, none⟩), v] w fun e w' => e = .returned (.int .i64 (chk2 l.length xs)) ∧ Below w.heap.size w w' := by
  obtain ⟨A1, c1, rfl, hc1⟩ := RdA.form hx; have H1 := Lib.hid hx; have HG := Lib.hid hg; clear hx hg; have H0 : Hid (gchkRel xs l.length w (.int .i64 (0 : Nat)) w) := Lib.hid ⟨0, Nat.zero_le _, rfl, fun j _ h => by omega, Below.refl _ _⟩
  go_enter Tryz.func44, Tryz.ntmps44
  go_wp2_with fail
  go_loopw [11] (fun i wr => gchkRel xs l.length w i wr) (fun i _ => xs.length - (intOf i).toNat)
  case atStart => exact H0.out
  case round =>
    clear H0; obtain ⟨k, hkl, rfl, hz, hbw⟩ := hrel; have HZ := Lib.hid hz; have HBW := Lib.hid hbw; clear hz hbw
    by_cases hk : k < xs.length
    · have j1 : (0 : Int) ≤ (k : Int) := by omega
      have j2 : (k : Int) < (xs.length : Int) := by omega
      have j3 : decide ((k : Int) < (xs.length : Int)) = true := decide_eq_true j2; obtain ⟨b1, o1, hbe, hb1, x0⟩ := RdA.piece (RdA.next H1.out HBW.out) hk; subst hbe; obtain ⟨x, hx⟩ : ∃ x, xs[k] = x := ⟨_, rfl⟩; rw [hx] at x0; have HX := Lib.hid hx; clear hx; obtain ⟨A, c, y0⟩ := GAt.keys (HG.out.next HBW.out)
      by_cases h0 : 0 ≤ x
      · have d0 : decide (x < 0) = false := decide_eq_false (by omega)
        by_cases h1 : x < (l.length : Int)
        · have d1 : decide ((l.length : Int) ≤ x) = false := decide_eq_false (by omega)
          have HIN := Lib.hid (show inR l.length x = true by unfold inR; rw [decide_eq_true h0, decide_eq_true h1]; rfl); clear h0 h1
          go_wp2_with fail
          go_roundw
          case rel => exact ⟨k + 1, by omega, by go_num, fun j h1 h3 => by
            rcases Nat.lt_or_ge j k with h | h
            · exact HZ.out j h1 h
            · obtain rfl : j = k := by omega
              rw [HX.out]; exact HIN.out, HBW.out⟩
          case measure => simp [intOf]; omega
        · have d1 : decide ((l.length : Int) ≤ x) = true := decide_eq_true (by omega)
          have HC := Lib.hid (show chk2 l.length xs = 2 by
            unfold chk2
            rw [if_neg]
            intro h
            have := List.all_eq_true.1 h xs[k] (List.getElem_mem hk); rw [HX.out] at this
            unfold inR at this
            simp at this
            omega)
          clear h0 h1
          go_wp2_with fail
          go_ret
          exact ⟨by rw [HC.out]; rfl, HBW.out⟩
      · have d0 : decide (x < 0) = true := decide_eq_true (by omega)
        have HC := Lib.hid (show chk2 l.length xs = 2 by
            unfold chk2
            rw [if_neg]
            intro h
            have := List.all_eq_true.1 h xs[k] (List.getElem_mem hk); rw [HX.out] at this
            unfold inR at this
            simp at this
            omega)
        clear h0
        go_wp2_with fail
        go_ret
        exact ⟨by rw [HC.out]; rfl, HBW.out⟩
    · have j3 : decide ((k : Int) < (xs.length : Int)) = false := decide_eq_false (by omega)
      have HC := Lib.hid (show chk2 l.length xs = 0 by
        unfold chk2
        rw [if_pos]; rw [List.all_eq_true]
        intro y hy
        obtain ⟨j, hj, rfl⟩ := List.getElem_of_mem hy
        exact HZ.out j hj (by omega))
      go_wp2_with fail
      go_ret
      exact ⟨by rw [HC.out]; rfl, HBW.out⟩
end Go.Proofs.YtmjkcanjfjfkfaaGreat
namespace Go.Proofs.YtmjkcanjfjfkfaaGreat
open Go.RowKit
set_option linter.unusedSimpArgs false
set_option linter.unusedVariables false
attribute [local go_sem ↓] Go.wp_at_zero Go.wp_at_succ
open Go.MapKept Go.ChangeMaps
theorem run_store_fn {P : Program} {w : World} {a : Addr} {m : Mode} (f : Fn) (x y : Array Value) : (store a (.func f x y) m).run P w = stored P w a (.func f x y) m := run_store P w a _ m rfl
attribute [local go_sem] run_store_fn
theorem SetAt.newE (w : World) (b : Nat) (h : w.heap.size = b) : SetAt (w.alloc (.map #[] 0)) b [] := by subst h; exact MapAtI.new w
def reaRel (p : VP) (xs : List Int) (t0 : Bs → List Int) (i : Value) (wr : World) : Prop := ∃ m : Nat, m ≤ xs.length ∧ i = .int .i64 m ∧ VS p wr ((xs.take m).foldl (visF p.succ p.own p.N) (t0, [])).2 ∧ p.J wr ((xs.take m).foldl (visF p.succ p.own p.N) (t0, [])).1
theorem reach_start (W0 : World) (g gb N : Nat) (nx : Value) (succ : Int → List Int) (own : Int → Option Bs) (J : World → (Bs → List Int) → Prop) {w : World} (hfr : Below W0.heap.size W0 w) (hgb : Blk w gb 64 #[ptrV g]) :
    VS ⟨W0, w.heap.size, g, gb, w.heap.size + 1 + 1, w.heap.size + 1 + 1 + 1, w.heap.size, w.heap.size + 1 + 1 + 1 + 1, w.heap.size + 1, N, nx, succ, own, J⟩ (((((w.alloc (.cells #[nx] 118)).alloc (.map #[] 0)).alloc (.cells #[.map (some (w.heap.size + 1))] 138)).alloc (.cells #[.slice none 0 0] 68)).alloc (.cells #[(.func (.func 66) #[] #[ptrV (w.heap.size + 1 + 1), ptrV (w.heap.size + 1 + 1 + 1), ptrV w.heap.size, ptrV (w.heap.size + 1 + 1 + 1 + 1)])] 117)) [] ∧ Below w.heap.size w (((((w.alloc (.cells #[nx] 118)).alloc (.map #[] 0)).alloc (.cells #[.map (some (w.heap.size + 1))] 138)).alloc (.cells #[.slice none 0 0] 68)).alloc (.cells #[(.func (.func 66) #[] #[ptrV (w.heap.size + 1 + 1), ptrV (w.heap.size + 1 + 1 + 1), ptrV w.heap.size, ptrV (w.heap.size + 1 + 1 + 1 + 1)])] 117)) := by
  have b0 := ((((((Below.refl w.heap.size w).alloc (Nat.le_refl _) (.cells #[nx] 118)).alloc (by try simp only [World.size_alloc] <;> omega) (.map #[] 0)).alloc (by try simp only [World.size_alloc] <;> omega) (.cells #[.map (some (w.heap.size + 1))] 138)).alloc (by try simp only [World.size_alloc] <;> omega) (.cells #[.slice none 0 0] 68)).alloc (by try simp only [World.size_alloc] <;> omega) (.cells #[(.func (.func 66) #[] #[ptrV (w.heap.size + 1 + 1), ptrV (w.heap.size + 1 + 1 + 1), ptrV w.heap.size, ptrV (w.heap.size + 1 + 1 + 1 + 1)])] 117)); have n0 := (Blk.new w 118 #[nx]).next (((((Below.refl (w.alloc (.cells #[nx] 118)).heap.size (w.alloc (.cells #[nx] 118))).alloc (Nat.le_refl _) (.map #[] 0)).alloc (by try simp only [World.size_alloc] <;> omega) (.cells #[.map (some (w.heap.size + 1))] 138)).alloc (by try simp only [World.size_alloc] <;> omega) (.cells #[.slice none 0 0] 68)).alloc (by try simp only [World.size_alloc] <;> omega) (.cells #[(.func (.func 66) #[] #[ptrV (w.heap.size + 1 + 1), ptrV (w.heap.size + 1 + 1 + 1), ptrV w.heap.size, ptrV (w.heap.size + 1 + 1 + 1 + 1)])] 117)) (Blk.new w _ _).lt; have m0 := (SetAt.newE (w.alloc (.cells #[nx] 118)) (w.heap.size + 1) (by simp only [World.size_alloc])).next ((((Below.refl ((w.alloc (.cells #[nx] 118)).alloc (.map #[] 0)).heap.size ((w.alloc (.cells #[nx] 118)).alloc (.map #[] 0))).alloc (Nat.le_refl _) (.cells #[.map (some (w.heap.size + 1))] 138)).alloc (by try simp only [World.size_alloc] <;> omega) (.cells #[.slice none 0 0] 68)).alloc (by try simp only [World.size_alloc] <;> omega) (.cells #[(.func (.func 66) #[] #[ptrV (w.heap.size + 1 + 1), ptrV (w.heap.size + 1 + 1 + 1), ptrV w.heap.size, ptrV (w.heap.size + 1 + 1 + 1 + 1)])] 117)); have s0 := (Blk.newE ((w.alloc (.cells #[nx] 118)).alloc (.map #[] 0)) 138 #[.map (some (w.heap.size + 1))] (w.heap.size + 1 + 1) (by simp only [World.size_alloc])).next (((Below.refl (((w.alloc (.cells #[nx] 118)).alloc (.map #[] 0)).alloc (.cells #[.map (some (w.heap.size + 1))] 138)).heap.size (((w.alloc (.cells #[nx] 118)).alloc (.map #[] 0)).alloc (.cells #[.map (some (w.heap.size + 1))] 138))).alloc (Nat.le_refl _) (.cells #[.slice none 0 0] 68)).alloc (by try simp only [World.size_alloc] <;> omega) (.cells #[(.func (.func 66) #[] #[ptrV (w.heap.size + 1 + 1), ptrV (w.heap.size + 1 + 1 + 1), ptrV w.heap.size, ptrV (w.heap.size + 1 + 1 + 1 + 1)])] 117)) (Blk.newE ((w.alloc (.cells #[nx] 118)).alloc (.map #[] 0)) _ _ (w.heap.size + 1 + 1) (by simp only [World.size_alloc])).lt; have r0 := (Blk.newE (((w.alloc (.cells #[nx] 118)).alloc (.map #[] 0)).alloc (.cells #[.map (some (w.heap.size + 1))] 138)) 68 #[.slice none 0 0] (w.heap.size + 1 + 1 + 1) (by simp only [World.size_alloc])).next ((Below.refl ((((w.alloc (.cells #[nx] 118)).alloc (.map #[] 0)).alloc (.cells #[.map (some (w.heap.size + 1))] 138)).alloc (.cells #[.slice none 0 0] 68)).heap.size ((((w.alloc (.cells #[nx] 118)).alloc (.map #[] 0)).alloc (.cells #[.map (some (w.heap.size + 1))] 138)).alloc (.cells #[.slice none 0 0] 68))).alloc (Nat.le_refl _) (.cells #[(.func (.func 66) #[] #[ptrV (w.heap.size + 1 + 1), ptrV (w.heap.size + 1 + 1 + 1), ptrV w.heap.size, ptrV (w.heap.size + 1 + 1 + 1 + 1)])] 117)) (Blk.newE (((w.alloc (.cells #[nx] 118)).alloc (.map #[] 0)).alloc (.cells #[.map (some (w.heap.size + 1))] 138)) _ _ (w.heap.size + 1 + 1 + 1) (by simp only [World.size_alloc])).lt
  have v0 := Blk.newE ((((w.alloc (.cells #[nx] 118)).alloc (.map #[] 0)).alloc (.cells #[.map (some (w.heap.size + 1))] 138)).alloc (.cells #[.slice none 0 0] 68)) 117 #[(.func (.func 66) #[] #[ptrV (w.heap.size + 1 + 1), ptrV (w.heap.size + 1 + 1 + 1), ptrV w.heap.size, ptrV (w.heap.size + 1 + 1 + 1 + 1)])] (w.heap.size + 1 + 1 + 1 + 1) (by simp only [World.size_alloc])
  refine ⟨{
    fr := hfr.trans (b0.mono hfr.size)
    b0 := hfr.size
    b1 := b0.size
    gbx := hgb.next b0 hgb.lt
    seen := s0
    set := m0
    row := ⟨_, r0, World.ownsRow_nil _ _ _ _⟩
    nxt := n0
    vis := v0
    mB := by show w.heap.size ≤ w.heap.size + 1; omega
    rB := by show w.heap.size ≤ w.heap.size + 1 + 1 + 1; omega }, b0⟩
set_option maxRecDepth 100000 in
set_option maxHeartbeats 2000000 in
theorem reach_is (W0 : World) (g gb N : Nat) (fn : Fn) (ta ca : Array Value) (succ : Int → List Int) (own : Int → Option Bs) (J : World → (Bs → List Int) → Prop) {w : World} {v : Value} {xs : List Int} (hfr : Below W0.heap.size W0 w) (hgb : Blk w gb 64 #[ptrV g]) (hx : RdA W0 v xs) (hNl : N ≤ 100) (hxl : xs.length ≤ 1000000) (hxr : ∀ x ∈ xs, 0 ≤ x ∧ x < (N : Int)) (hrg : ∀ i : Int, 0 ≤ i ∧ i < (N : Int) → ∀ x ∈ succ i, 0 ≤ x ∧ x < (N : Int)) (t0 : Bs → List Int) (ht0 : ∀ k, ∀ x ∈ t0 k, 0 ≤ x ∧ x < (N : Int)) (hT : J w t0) (hJ : ∀ w1 w2 t, J w1 t → (∀ i, i < w.heap.size → i < w1.heap.size → w2.heap[i]? = w1.heap[i]?) → J w2 t) (hV : VisSaid ⟨W0, w.heap.size, g, gb, w.heap.size + 1 + 1, w.heap.size + 1 + 1 + 1, w.heap.size, w.heap.size + 1 + 1 + 1 + 1, w.heap.size + 1, N, (.func fn ta ca), succ, own, J⟩ N) :
    Calls Tryz.prog 45 #[v, .func fn ta ca] w fun e w' => ∃ v', e = .returned v' ∧ RdIn w' v' (srtI (xs.foldl (visF succ own N) (t0, [])).2) ∧ Below W0.heap.size W0 w' := by
  obtain ⟨A, c, rfl, hc⟩ := RdA.form hx; have HX := Lib.hid hx; obtain ⟨nx, hnx⟩ : ∃ nx, Value.func fn ta ca = nx := ⟨_, rfl⟩; have hst := reach_start W0 g gb N nx succ own J hfr hgb; rw [← hnx] at hst; have HST := Lib.hid hst; have HT : Hid (J (((((w.alloc (.cells #[(.func fn ta ca)] 118)).alloc (.map #[] 0)).alloc (.cells #[.map (some (w.heap.size + 1))] 138)).alloc (.cells #[.slice none 0 0] 68)).alloc (.cells #[(.func (.func 66) #[] #[ptrV (w.heap.size + 1 + 1), ptrV (w.heap.size + 1 + 1 + 1), ptrV w.heap.size, ptrV (w.heap.size + 1 + 1 + 1 + 1)])] 117)) t0) := Lib.hid (hJ w _ t0 hT fun j hj _ => hst.2.block j hj); have HV := Lib.hid hV; have HXR := Lib.hid hxr; have FX := Lib.hid (fun (l : List Int) (hl : ∀ x ∈ l, 0 ≤ x ∧ x < (N : Int)) => foldVis (visF_ext (own := own) hrg N) l (t0, []) ⟨List.nodup_nil, fun x hx => by simp at hx, ht0⟩ (by simp) hl); have hfs := hfr.size; have hmm := @run_makeMap Tryz.prog; clear hx hfr hgb hT hJ hV hrg ht0 hxr hst hnx
  go_enter Tryz.func45, Tryz.ntmps45
  go_upto_region 5 with (fail)
  have S0 := Lib.hid HST.out.1; clear HST; generalize (((((w.alloc (.cells #[(.func fn ta ca)] 118)).alloc (.map #[] 0)).alloc (.cells #[.map (some (w.heap.size + 1))] 138)).alloc (.cells #[.slice none 0 0] 68)).alloc (.cells #[(.func (.func 66) #[] #[ptrV (w.heap.size + 1 + 1), ptrV (w.heap.size + 1 + 1 + 1), ptrV w.heap.size, ptrV (w.heap.size + 1 + 1 + 1 + 1)])] 117)) = W5 at *; obtain ⟨p, hp⟩ : ∃ p : VP, ⟨W0, w.heap.size, g, gb, w.heap.size + 1 + 1, w.heap.size + 1 + 1 + 1, w.heap.size, w.heap.size + 1 + 1 + 1 + 1, w.heap.size + 1, N, (.func fn ta ca), succ, own, J⟩ = p := ⟨_, rfl⟩; have P1 := Lib.hid (show p.sb = w.heap.size + 1 + 1 by rw [← hp]); have P2 := Lib.hid (show p.rb = w.heap.size + 1 + 1 + 1 by rw [← hp]); have P3 := Lib.hid (show p.nb = w.heap.size by rw [← hp]); have P4 := Lib.hid (show p.vb = w.heap.size + 1 + 1 + 1 + 1 by rw [← hp]); have P5 := Lib.hid (show p.succ = succ by rw [← hp]); have P6 := Lib.hid (show p.own = own by rw [← hp]); have P7 := Lib.hid (show p.N = N by rw [← hp]); have P8 := Lib.hid (show p.W0 = W0 by rw [← hp]); have P9 := Lib.hid (show p.J = J by rw [← hp]); have PA := Lib.hid (show p.B1 = w.heap.size by rw [← hp]); rw [hp] at S0 HV; clear hp; rw [← P4.out, ← P2.out, ← P1.out, ← P3.out]; rw [← P5.out, ← P6.out] at FX; rw [← P8.out] at HX; rw [← P9.out] at HT; rw [← P7.out] at FX HXR HV hNl; clear P1 P2 P3 P4 P9 hfs hmm; have H0 : Hid (reaRel p xs t0 (.int .i64 (0 : Nat)) W5) := Lib.hid ⟨0, Nat.zero_le _, rfl, S0.out, HT.out⟩; clear S0 HT
  go_wp2_with fail
  go_loopw [14] (fun i wr => reaRel p xs t0 i wr) (fun i _ => xs.length - (intOf i).toNat)
  case atStart => exact H0.out
  case round =>
    clear H0; obtain ⟨m, hml, rfl, hS, hT⟩ := hrel; obtain ⟨st, hst⟩ : ∃ st, (xs.take m).foldl (visF p.succ p.own p.N) (t0, []) = st := ⟨_, rfl⟩; have HE := Lib.hid (FX.out (xs.take m) (fun z hz => HXR.out z (List.mem_of_mem_take hz))); rw [hst] at hS hT HE; have HST := Lib.hid hst; have S := Lib.hid hS; have T := Lib.hid hT; have d1 := hS.vis.cell 0; obtain ⟨v, hv, hrow⟩ := hS.row; have z0 := hv.cell 0; have hb1 := hS.b1; have hb0 := hS.b0; obtain ⟨A2, c2, rfl, hc2⟩ := own_len hrow
    simp only [List.getElem?_toArray, List.getElem?_cons_zero] at d1 z0
    by_cases hm : m < xs.length
    · have j4 : (0 : Int) ≤ (m : Int) := by omega
      have j5 : (m : Int) < (xs.length : Int) := by omega
      have j6 : decide ((m : Int) < (xs.length : Int)) = true := decide_eq_true j5; obtain ⟨xb, xo, hbe, hxb, y0⟩ := RdA.piece (RdA.next HX.out hS.fr) hm; subst hbe; have HTK := Lib.hid (show xs.take (m + 1) = xs.take m ++ [xs[m]] from List.take_succ_eq_append_getElem hm); have HR := HXR.out _ (List.getElem_mem hm); obtain ⟨x, hx⟩ : ∃ x, xs[m] = x := ⟨_, rfl⟩; rw [hx] at y0 HTK HR
      unfold visV at d1
      clear hx hS hT hst hv hrow z0 hc2
      go_wp2_with fail
      go_at_call 66; refine (HV.out wr st.2 st.1 x S.out T.out HE.out.1.ok (by omega) HR.1 HR.2).mono ?_; rintro e w7 ⟨rfl, S7, T7⟩; have HS7 := Lib.hid S7; have HT7 := Lib.hid T7; clear S7 T7 d1 y0
      go_wp2_with fail
      go_roundw
      case rel => exact ⟨m + 1, by omega, by go_num, by rw [HTK.out, List.foldl_append, HST.out]; exact HS7.out, by rw [HTK.out, List.foldl_append, HST.out]; exact HT7.out⟩
      case measure => simp [intOf]; omega
    · have j6 : decide ((m : Int) < (xs.length : Int)) = false := decide_eq_false (by omega)
      have HSN := Lib.hid (show xs.foldl (visF p.succ p.own p.N) (t0, []) = st by rw [← HST.out, List.take_of_length_le (show xs.length ≤ m by omega)]); have hRl := full_range HE.out.1.ok.nd HE.out.1.ok.rg; have HSO := Lib.hid (isort_is hrow (by omega) (by omega)); have HV0 := Lib.hid hv; have HOW := Lib.hid hrow; clear hS hT hst hv hrow
      go_wp2_with fail
      go_at_call 67
      refine HSO.out.mono ?_
      rintro e w8 ⟨rfl, hown8, hg8, hb8⟩; have z8 := (HV0.out.grown hg8 (own_apart_blk HOW.out HV0.out (by decide))).cell 0
      simp only [List.getElem?_toArray, List.getElem?_cons_zero] at z8
      have HOW8 := Lib.hid hown8; have HB8 := Lib.hid (S.out.fr.trans (hb8.mono S.out.b0)); clear hown8 hg8 hb8 z0 d1
      go_wp2_with fail
      go_ret
      exact ⟨_, rfl, by rw [← P5.out, ← P6.out, ← P7.out, HSN.out]; exact Rd.of_own HOW8.out, by rw [← P8.out]; exact HB8.out⟩
end Go.Proofs.YtmjkcanjfjfkfaaGreat
namespace Go.Proofs.YtmjkcanjfjfkfaaGreat
open Go.RowKit
set_option linter.unusedSimpArgs false
set_option linter.unusedVariables false
attribute [local go_sem ↓] Go.wp_at_zero Go.wp_at_succ
open Go.MapKept Go.ChangeMaps
def stpC (l : List Ac) (i : Int) : List Int := sucC ((lnkD l).getD i.toNat [])
theorem getD_at {α : Type} {L : List (List α)} {i : Int} {x : α} (hx : x ∈ L.getD i.toNat []) : ∃ h : i.toNat < L.length, x ∈ L[i.toNat] := by
  rw [List.getD_eq_getElem?_getD] at hx
  by_cases h : i.toNat < L.length
  · rw [List.getElem?_eq_getElem h, Option.getD_some] at hx
    exact ⟨h, hx⟩
  · rw [List.getElem?_eq_none (by omega), Option.getD_none] at hx
    cases hx
theorem lnkA_frm {d : List Ac} {a : Ac} {x : Lk} (h : x ∈ lnkA d a) : -1 ≤ x.frm ∧ x.frm < d.length := by
  obtain ⟨c, _, rfl⟩ := List.mem_map.1 h
  simp only
  rcases wrI_mem (wls d c.name) d.length with e | e
  · rw [e]; omega
  · have := wls_bd e; omega
theorem lnkF_frm : ∀ (d r : List Ac), ∀ x ∈ (lnkF d r).flatten, -1 ≤ x.frm ∧ x.frm < (d.length : Int) + r.length
  | d, [], x, h => by simp [lnkF] at h
  | d, a :: r, x, h => by
    simp only [lnkF, List.flatten_cons, List.mem_append] at h
    simp only [List.length_cons]
    rcases h with h | h
    · have := lnkA_frm h
      omega
    · have := lnkF_frm (d ++ [a]) r x h
      simp only [List.length_append, List.length_singleton] at this
      omega
theorem lnkD_frm {l : List Ac} {x : Lk} (h : x ∈ (lnkD l).flatten) : -1 ≤ x.frm ∧ x.frm < (l.length : Int) := by
  have := lnkF_frm [] l x h
  simpa using this
theorem stpC_rg (l : List Ac) : ∀ i : Int, 0 ≤ i ∧ i < (l.length : Int) → ∀ x ∈ stpC l i, 0 ≤ x ∧ x < (l.length : Int) := by
  intro i hi x hx
  unfold stpC sucC srcs at hx
  obtain ⟨y, hy, rfl⟩ := List.mem_map.1 hx; rw [List.mem_filter] at hy; obtain ⟨h1, h2⟩ := getD_at hy.1; have h3 := of_decide_eq_true hy.2; have h4 := lnkD_frm (List.mem_flatten.2 ⟨_, List.getElem_mem h1, h2⟩)
  omega
def seaS (succ : Int → List Int) (own : Int → Option Bs) (N : Nat) (t0 : Bs → List Int) (xs : List Int) : List Int := srtI (xs.foldl (visF succ own N) (t0, [])).2
theorem chk2_rg {N : Nat} {xs : List Int} (h : chk2 N xs = 0) : ∀ x ∈ xs, 0 ≤ x ∧ x < (N : Int) := by
  intro x hx
  unfold chk2 at h
  split at h
  · rename_i ha
    have := List.all_eq_true.1 ha x hx
    unfold inR at this
    simp only [Bool.and_eq_true, decide_eq_true_eq] at this
    exact this
  · cases h
set_option maxRecDepth 100000 in
set_option maxHeartbeats 1000000 in
theorem causes_is {w : World} {B g : Nat} {l : List Ac} {v : Value} {xs : List Int} (hg : GAt w B g l) (hx : RdA w v xs) (hl : l.length ≤ 100) (hr : ∀ a ∈ l, a.reads.length ≤ 10) (hxl : xs.length ≤ 1000000) : Calls Tryz.prog 19 #[.pointer (some ⟨g, 0, none⟩), v] w fun e w' => ∃ v', e = .returned (.tuple #[v', .int .i64 (chk2 l.length xs)]) ∧ RdIn w' v' (if chk2 l.length xs = 0 then seaS (stpC l) (fun _ => none) l.length (fun _ => []) xs else []) ∧ Below w.heap.size w w' := by
  obtain ⟨A, c, rfl, hc⟩ := RdA.form hx; have ha := (Below.refl w.heap.size w).alloc (Nat.le_refl _) (.cells #[ptrV g] 64); have zb := Blk.new w 64 #[ptrV g]; have y0 := zb.cell 0
  simp only [List.getElem?_toArray, List.getElem?_cons_zero] at y0
  have ZB := Lib.hid zb; have HA := Lib.hid ha; have HC := Lib.hid (gcheckA_is (hg.next ha) (RdA.next hx ha) (by omega) hxl); have HX := Lib.hid hx; have HG := Lib.hid hg; have HR := Lib.hid hr; obtain ⟨q, hq⟩ : ∃ q, chk2 l.length xs = q := ⟨_, rfl⟩; rw [hq] at HC ⊢; have HQ := Lib.hid hq; clear hg hx ha hr zb hq
  by_cases h0 : q = 0
  · have e0 : (q != 0) = false := by rw [h0]; rfl
    have HQ0 := Lib.hid h0; clear h0
    go_enter Tryz.func19, Tryz.ntmps19
    go_wp2_with fail
    go_at_call 44
    refine HC.out.mono ?_
    rintro e w1 ⟨rfl, hb1⟩; have HB1 := Lib.hid (HA.out.trans (hb1.mono HA.out.size)); have Z1 := Lib.hid (ZB.out.next hb1 ZB.out.lt); clear hb1 y0 HC
    go_wp2_with fail
    go_at_call 45; refine (reach_is w g w.heap.size l.length _ _ _ (stpC l) (fun _ => none) (fun _ _ => True) HB1.out Z1.out HX.out hl hxl (chk2_rg (HQ.out.trans HQ0.out)) (stpC_rg l) (fun _ => []) (fun _ x hx => by cases hx) trivial (fun _ _ _ _ _ => trivial) (vis_allC _ l B HG.out hl HR.out rfl rfl rfl (stpC_rg l) (fun _ _ _ _ _ => trivial) rfl l.length)).mono ?_; rintro e w2 ⟨v2, rfl, hr2, hb2⟩; have HR2 := Lib.hid hr2; have HB2 := Lib.hid hb2; clear hr2 hb2
    go_wp2_with fail
    go_ret2
    exact ⟨_, rfl, HR2.out, HB2.out⟩
  · have e0 : (q != 0) = true := by rw [bne_iff_ne]; exact h0
    have HQ0 := Lib.hid h0; clear h0
    go_enter Tryz.func19, Tryz.ntmps19
    go_wp2_with fail
    go_at_call 44
    refine HC.out.mono ?_
    rintro e w1 ⟨rfl, hb1⟩; have HB1 := Lib.hid (HA.out.trans (hb1.mono HA.out.size)); clear hb1 y0 HC
    go_wp2_with fail
    go_ret2
    exact ⟨_, rfl, RdP.nil, HB1.out⟩
end Go.Proofs.YtmjkcanjfjfkfaaGreat
namespace Go.Proofs.YtmjkcanjfjfkfaaGreat
open Go.RowKit
set_option linter.unusedSimpArgs false
set_option linter.unusedVariables false
attribute [local go_sem ↓] Go.wp_at_zero Go.wp_at_succ
def cx47 : Ch := ⟨prtN 1, [120], false⟩
def cy47 : Ch := ⟨prtN 2, [121], false⟩
def cz47 : Ch := ⟨prtN 3, [], true⟩
def a047 : Ac := ⟨⟨1, 0, 0, []⟩, [], [cx47]⟩
def a147 : Ac := ⟨⟨2, 0, 0, []⟩, [cx47], [cy47]⟩
def a247 : Ac := ⟨⟨3, 0, 0, []⟩, [cy47, cz47], []⟩
def chn47 : List Ac := [a047, a147, a247]
theorem rdch_new (w : World) (l : List Ch) (n : Nat) (hn : l.length = n) (cs : Array Value) (hcs : cs = (l.flatMap chC).toArray) (hl : n ≤ 1000) : RdCh (w.alloc (.cells cs 92)) (.slice (some ⟨w.heap.size, 0, none⟩) n n) l := by
  subst hn hcs
  exact ⟨_, l.length, rfl, Nat.le_refl _, by unfold maxLen; omega, .inr ⟨_, 0, _, (0, 0), rfl, heap_alloc_new w _, fun j u hu => by simpa using hu⟩⟩
theorem rdac_new (w : World) (l : List Ac) (us : List (Value × Value)) (hr : RowW NAc w l us) (n : Nat) (hn : l.length = n) (cs : Array Value) (hcs : cs = (rowC acC l us).toArray) (hl : n ≤ 1000) (b : Nat) (hb : w.heap.size = b) : RdAc (w.alloc (.cells cs 38)) (.slice (some ⟨b, 0, none⟩) n n) l := by
  subst hn hcs hb
  refine ⟨us, hr.imp fun _ _ h => NAc.next ((Below.refl _ _).alloc (Nat.le_refl _) _) h, ⟨_, l.length, rfl, Nat.le_refl _, by unfold maxLen; omega, .inr ⟨_, 0, _, (0, 0), rfl, heap_alloc_new w _, fun j u hu => by simpa using hu⟩⟩⟩
set_option maxRecDepth 100000 in
set_option maxHeartbeats 1000000 in
theorem chain47_is (w : World) : Calls Tryz.prog 18 #[] w fun e w' => ∃ v, e = .returned v ∧ RdAc w' v chn47 ∧ Below w.heap.size w w' := by
  go_enter Tryz.func18, Tryz.ntmps18
  go_wp2_with fail
  go_at_call 14; refine (port_is 0 (by decide) (by decide) _).mono ?_; rintro e w1 ⟨rfl, hb⟩; have HB1 := Lib.hid ((Below.refl w.heap.size w).trans (hb.mono (Below.refl w.heap.size w).size)); clear hb; rw [show nmV (prtN (1 + 0)) = .agg #[.int .i64 16, .string ⟨#[]⟩, .int .i64 1, .int .i64 0, .string ⟨#[]⟩] from rfl]; have ha := (Below.refl w1.heap.size w1).alloc (Nat.le_refl _) (.cells #[.int .i64 16, .string ⟨#[]⟩, .int .i64 1, .int .i64 0, .string ⟨#[]⟩, .string ⟨#[120]⟩, .bool false] 92); have R1 := Lib.hid (rdch_new w1 [cx47] 1 rfl #[.int .i64 16, .string ⟨#[]⟩, .int .i64 1, .int .i64 0, .string ⟨#[]⟩, .string ⟨#[120]⟩, .bool false] rfl (by decide)); have HCR1 := Lib.hid (HB1.out.trans (ha.mono HB1.out.size)); clear ha
  go_wp2_with fail
  go_at_call 14; refine (port_is 0 (by decide) (by decide) _).mono ?_; rintro e w2 ⟨rfl, hb⟩; have HB2 := Lib.hid (HCR1.out.trans (hb.mono HCR1.out.size)); replace R1 := Lib.hid (RdP.next R1.out hb); clear hb; rw [show nmV (prtN (1 + 0)) = .agg #[.int .i64 16, .string ⟨#[]⟩, .int .i64 1, .int .i64 0, .string ⟨#[]⟩] from rfl]; have ha := (Below.refl w2.heap.size w2).alloc (Nat.le_refl _) (.cells #[.int .i64 16, .string ⟨#[]⟩, .int .i64 1, .int .i64 0, .string ⟨#[]⟩, .string ⟨#[120]⟩, .bool false] 92); replace R1 := Lib.hid (RdP.next R1.out ha); have R2 := Lib.hid (rdch_new w2 [cx47] 1 rfl #[.int .i64 16, .string ⟨#[]⟩, .int .i64 1, .int .i64 0, .string ⟨#[]⟩, .string ⟨#[120]⟩, .bool false] rfl (by decide)); have HCR2 := Lib.hid (HB2.out.trans (ha.mono HB2.out.size)); clear ha
  go_wp2_with fail
  go_at_call 14; refine (port_is 1 (by decide) (by decide) _).mono ?_; rintro e w3 ⟨rfl, hb⟩; have HB3 := Lib.hid (HCR2.out.trans (hb.mono HCR2.out.size)); replace R1 := Lib.hid (RdP.next R1.out hb); replace R2 := Lib.hid (RdP.next R2.out hb); clear hb; rw [show nmV (prtN (1 + 1)) = .agg #[.int .i64 16, .string ⟨#[]⟩, .int .i64 2, .int .i64 0, .string ⟨#[]⟩] from rfl]; have ha := (Below.refl w3.heap.size w3).alloc (Nat.le_refl _) (.cells #[.int .i64 16, .string ⟨#[]⟩, .int .i64 2, .int .i64 0, .string ⟨#[]⟩, .string ⟨#[121]⟩, .bool false] 92); replace R1 := Lib.hid (RdP.next R1.out ha); replace R2 := Lib.hid (RdP.next R2.out ha); have R3 := Lib.hid (rdch_new w3 [cy47] 1 rfl #[.int .i64 16, .string ⟨#[]⟩, .int .i64 2, .int .i64 0, .string ⟨#[]⟩, .string ⟨#[121]⟩, .bool false] rfl (by decide)); have HCR3 := Lib.hid (HB3.out.trans (ha.mono HB3.out.size)); clear ha
  go_wp2_with fail
  go_at_call 14; refine (port_is 1 (by decide) (by decide) _).mono ?_; rintro e w4 ⟨rfl, hb⟩; have HB4 := Lib.hid (HCR3.out.trans (hb.mono HCR3.out.size)); replace R1 := Lib.hid (RdP.next R1.out hb); replace R2 := Lib.hid (RdP.next R2.out hb); replace R3 := Lib.hid (RdP.next R3.out hb); clear hb; rw [show nmV (prtN (1 + 1)) = .agg #[.int .i64 16, .string ⟨#[]⟩, .int .i64 2, .int .i64 0, .string ⟨#[]⟩] from rfl]
  go_wp2_with fail
  go_at_call 14; refine (port_is 2 (by decide) (by decide) _).mono ?_; rintro e w5 ⟨rfl, hb⟩; have HB5 := Lib.hid (HB4.out.trans (hb.mono HB4.out.size)); replace R1 := Lib.hid (RdP.next R1.out hb); replace R2 := Lib.hid (RdP.next R2.out hb); replace R3 := Lib.hid (RdP.next R3.out hb); clear hb; rw [show nmV (prtN (1 + 2)) = .agg #[.int .i64 16, .string ⟨#[]⟩, .int .i64 3, .int .i64 0, .string ⟨#[]⟩] from rfl]; have ha := (Below.refl w5.heap.size w5).alloc (Nat.le_refl _) (.cells #[.int .i64 16, .string ⟨#[]⟩, .int .i64 2, .int .i64 0, .string ⟨#[]⟩, .string ⟨#[121]⟩, .bool false, .int .i64 16, .string ⟨#[]⟩, .int .i64 3, .int .i64 0, .string ⟨#[]⟩, .string ⟨#[]⟩, .bool true] 92); replace R1 := Lib.hid (RdP.next R1.out ha); replace R2 := Lib.hid (RdP.next R2.out ha); replace R3 := Lib.hid (RdP.next R3.out ha); have R4 := Lib.hid (rdch_new w5 [cy47, cz47] 2 rfl #[.int .i64 16, .string ⟨#[]⟩, .int .i64 2, .int .i64 0, .string ⟨#[]⟩, .string ⟨#[121]⟩, .bool false, .int .i64 16, .string ⟨#[]⟩, .int .i64 3, .int .i64 0, .string ⟨#[]⟩, .string ⟨#[]⟩, .bool true] rfl (by decide)); have HCR4 := Lib.hid (HB5.out.trans (ha.mono HB5.out.size)); clear ha
  have hrow : RowW NAc (w5.alloc (.cells #[.int .i64 16, .string ⟨#[]⟩, .int .i64 2, .int .i64 0, .string ⟨#[]⟩, .string ⟨#[121]⟩, .bool false, .int .i64 16, .string ⟨#[]⟩, .int .i64 3, .int .i64 0, .string ⟨#[]⟩, .string ⟨#[]⟩, .bool true] 92)) chn47 [(.slice none 0 0, .slice (some ⟨w1.heap.size, 0, none⟩) 1 1), (.slice (some ⟨w2.heap.size, 0, none⟩) 1 1, .slice (some ⟨w3.heap.size, 0, none⟩) 1 1), (.slice (some ⟨w5.heap.size, 0, none⟩) 2 2, .slice none 0 0)] := by
    refine ⟨rfl, fun i x v h1 h2 => ?_⟩
    match i, h1, h2 with
    | 0, h1, h2 => simp only [chn47, List.getElem?_cons_zero, Option.some.injEq] at h1 h2; subst h1 h2; exact ⟨RdP.nil, R1.out⟩
    | 1, h1, h2 => simp only [chn47, List.getElem?_cons_zero, List.getElem?_cons_succ, Option.some.injEq] at h1 h2; subst h1 h2; exact ⟨R2.out, R3.out⟩
    | 2, h1, h2 => simp only [chn47, List.getElem?_cons_zero, List.getElem?_cons_succ, Option.some.injEq] at h1 h2; subst h1 h2; exact ⟨R4.out, RdP.nil⟩
    | n + 3, h1, h2 => simp [chn47] at h1
  have hfin := rdac_new (w5.alloc (.cells #[.int .i64 16, .string ⟨#[]⟩, .int .i64 2, .int .i64 0, .string ⟨#[]⟩, .string ⟨#[121]⟩, .bool false, .int .i64 16, .string ⟨#[]⟩, .int .i64 3, .int .i64 0, .string ⟨#[]⟩, .string ⟨#[]⟩, .bool true] 92)) chn47 _ hrow 3 rfl #[.int .i64 1, .int .i64 0, .int .i64 0, .string ⟨#[]⟩, .slice none 0 0, .slice (some ⟨w1.heap.size, 0, none⟩) 1 1, .int .i64 2, .int .i64 0, .int .i64 0, .string ⟨#[]⟩, .slice (some ⟨w2.heap.size, 0, none⟩) 1 1, .slice (some ⟨w3.heap.size, 0, none⟩) 1 1, .int .i64 3, .int .i64 0, .int .i64 0, .string ⟨#[]⟩, .slice (some ⟨w5.heap.size, 0, none⟩) 2 2, .slice none 0 0] rfl (by decide) (w5.heap.size + 1) (World.size_alloc _ _); have HF := Lib.hid hfin; have hba := HCR4.out.alloc HCR4.out.size (.cells #[.int .i64 1, .int .i64 0, .int .i64 0, .string ⟨#[]⟩, .slice none 0 0, .slice (some ⟨w1.heap.size, 0, none⟩) 1 1, .int .i64 2, .int .i64 0, .int .i64 0, .string ⟨#[]⟩, .slice (some ⟨w2.heap.size, 0, none⟩) 1 1, .slice (some ⟨w3.heap.size, 0, none⟩) 1 1, .int .i64 3, .int .i64 0, .int .i64 0, .string ⟨#[]⟩, .slice (some ⟨w5.heap.size, 0, none⟩) 2 2, .slice none 0 0] 38); have HBA := Lib.hid hba; clear hrow hfin hba R1 R2 R3 R4
  go_wp2_with fail
  go_ret
  exact ⟨_, rfl, HF.out, HBA.out⟩
theorem chn_ks : KS chn47 := by
  intro k hk
  have : k = 0 ∨ k = 1 := by
    have : chn47.length = 3 := rfl
    omega
  rcases this with rfl | rfl
  · show cmpK a047.key a147.key < 0
    decide
  · show cmpK a147.key a247.key < 0
    decide
theorem cx_r : ChR cx47 := ⟨.inl (by unfold IsOb; decide), by decide⟩
theorem cy_r : ChR cy47 := ⟨.inl (by unfold IsOb; decide), by decide⟩
theorem cz_r : ChR cz47 := ⟨.inl (by unfold IsOb; decide), by decide⟩
theorem chn_acr : ∀ a ∈ chn47, AcR a := by
  intro a ha
  simp only [chn47, List.mem_cons, List.not_mem_nil, or_false] at ha
  rcases ha with rfl | rfl | rfl
  · exact ⟨⟨⟨by decide, by decide⟩, by decide, .inl ⟨rfl, by decide, by decide, rfl⟩⟩, by simp [a047], by simp [a047, cx_r], by decide, by decide⟩
  · exact ⟨⟨⟨by decide, by decide⟩, by decide, .inl ⟨rfl, by decide, by decide, rfl⟩⟩, by simp [a147, cx_r], by simp [a147, cy_r], by decide, by decide⟩
  · exact ⟨⟨⟨by decide, by decide⟩, by decide, .inl ⟨rfl, by decide, by decide, rfl⟩⟩, by simp [a247, cy_r, cz_r], by simp [a247], by decide, by decide⟩
theorem chn_ok : ∀ a ∈ chn47, okAc a = true := by decide +kernel
theorem chn_rl : ∀ a ∈ chn47, a.reads.length ≤ 10 := by decide
def k1l : List Lk := [⟨0, 1, prtN 1⟩, ⟨1, 2, prtN 2⟩]
def k2l : List Lk := [⟨0, 1, prtN 1⟩, ⟨1, 2, prtN 2⟩, ⟨-1, 2, prtN 3⟩]
theorem chn_links : (lnkD chn47).flatten = k2l := by decide +kernel
theorem chn_chain : chainS chn47 0 2 = some k1l := by decide +kernel
theorem srtI_mem {l : List Int} {x : Int} : x ∈ srtI l ↔ x ∈ l := (List.mergeSort_perm l _).mem_iff
theorem srtI_asc {l : List Int} (h : l.Nodup) : (srtI l).Pairwise (· < ·) := by
  have h1 : (srtI l).Pairwise (fun a b => decide (a ≤ b) = true) := List.pairwise_mergeSort (fun a b c h1 h2 => by simp only [decide_eq_true_eq] at *; omega) (fun a b => by simp only [Bool.or_eq_true, decide_eq_true_eq]; omega) l; have h2 : (srtI l).Nodup := (List.mergeSort_perm l _).nodup_iff.2 h; refine (h1.and h2).imp ?_
  intro a b ⟨h3, h4⟩
  have := of_decide_eq_true h3
  omega
theorem chn_vis : ([2].foldl (visF (stpC chn47) (fun _ => none) chn47.length) ((fun _ => []), [])).2 = [2, 1, 0] := by decide +kernel
theorem chn_causes : seaS (stpC chn47) (fun _ => none) chn47.length (fun _ => []) [2] = [0, 1, 2] := by
  unfold seaS
  rw [chn_vis]
  refine asc_ext (srtI_asc (by decide)) (by decide) fun x => ?_
  rw [srtI_mem]
  simp only [List.mem_cons, List.not_mem_nil, or_false]
  constructor <;> rintro (h | h | h) <;> simp [h]
theorem chn_chk : chk2 chn47.length [2] = 0 := by decide +kernel
theorem rdlk_new (w : World) (l : List Lk) (n : Nat) (hn : l.length = n) (cs : Array Value) (hcs : cs = (l.flatMap lkC).toArray) (hl : n ≤ 1000) : RdLk (w.alloc (.cells cs 77)) (.slice (some ⟨w.heap.size, 0, none⟩) n n) l := by
  subst hn hcs
  exact ⟨_, l.length, rfl, Nat.le_refl _, by unfold maxLen; omega, .inr ⟨_, 0, _, (0, 0), rfl, heap_alloc_new w _, fun j u hu => by simpa using hu⟩⟩
theorem rdin_new (w : World) (l : List Int) (n : Nat) (hn : l.length = n) (cs : Array Value) (hcs : cs = (l.flatMap inC).toArray) (hl : n ≤ 1000) : RdIn (w.alloc (.cells cs 3)) (.slice (some ⟨w.heap.size, 0, none⟩) n n) l := by
  subst hn hcs
  exact ⟨_, l.length, rfl, Nat.le_refl _, by unfold maxLen; omega, .inr ⟨_, 0, _, (0, 0), rfl, heap_alloc_new w _, fun j u hu => by simpa using hu⟩⟩
set_option maxRecDepth 100000 in
set_option maxHeartbeats 2000000 in
theorem known47_is (w : World) : Calls Tryz.prog 6 #[] w fun e w' => e = .returned (.bool true) ∧ Below w.heap.size w w' := by
  have HB0 := Lib.hid (Below.refl w.heap.size w)
  go_enter Tryz.func6, Tryz.ntmps6
  go_wp2_with fail
  go_at_call 18; refine (chain47_is _).mono ?_; rintro e w1 ⟨v1, rfl, hr, hb⟩; have HB1 := Lib.hid (HB0.out.trans (hb.mono HB0.out.size)); have HR := Lib.hid hr; clear hr; clear hb
  go_wp2_with fail
  go_at_call 17; refine (dbuild_is HR.out chn_ks chn_acr chn_ok (by decide)).mono ?_; rintro e w2 ⟨g, rfl, hg, hb⟩; have HB2 := Lib.hid (HB1.out.trans (hb.mono HB1.out.size)); have HG := Lib.hid hg; clear hg HR; clear hb; have ha := (Below.refl w2.heap.size w2).alloc (Nat.le_refl _) (.cells #[.int .i64 2] 3); replace HG := Lib.hid (GAt.next HG.out ha); have X2 := Lib.hid (rdin_new w2 [2] 1 rfl #[.int .i64 2] rfl (by decide)); have HCX2 := Lib.hid (HB2.out.trans (ha.mono HB2.out.size)); clear ha
  go_wp2_with fail
  go_at_call 19; refine (causes_is HG.out (RdA.of X2.out) (by decide) chn_rl (by decide)).mono ?_; rintro e w3 ⟨v3, rfl, hr, hb⟩; have HB3 := Lib.hid (HCX2.out.trans (hb.mono HCX2.out.size)); replace HG := Lib.hid (GAt.next HG.out hb); replace X2 := Lib.hid (RdP.next X2.out hb); rw [chn_chk, if_pos rfl, chn_causes] at hr; rw [chn_chk]; have HCA := Lib.hid hr; clear hr; clear hb; clear X2
  go_wp2_with fail
  go_at_call 20; refine (chain_is 0 2 HG.out (by decide) chn_rl).mono ?_; rintro e w4 ⟨v4, rfl, hr, hb⟩; have HB4 := Lib.hid (HB3.out.trans (hb.mono HB3.out.size)); replace HG := Lib.hid (GAt.next HG.out hb); replace HCA := Lib.hid (RdP.next HCA.out hb); rw [chn_chain] at hr; rw [chn_chain, Option.isSome_some]
  simp only [Option.getD_some] at hr
  have HCH := Lib.hid hr; clear hr; clear hb; have ha := (Below.refl w4.heap.size w4).alloc (Nat.le_refl _) (.cells #[.int .i64 0, .int .i64 1, .int .i64 2] 3); replace HG := Lib.hid (GAt.next HG.out ha); replace HCA := Lib.hid (RdP.next HCA.out ha); replace HCH := Lib.hid (RdP.next HCH.out ha); have X5 := Lib.hid (rdin_new w4 [0, 1, 2] 3 rfl #[.int .i64 0, .int .i64 1, .int .i64 2] rfl (by decide)); have HCX5 := Lib.hid (HB4.out.trans (ha.mono HB4.out.size)); clear ha
  go_wp2_with fail
  go_at_call 21; refine (eqint_is HCA.out X5.out (by decide) (by decide)).mono ?_; rintro e w5 ⟨rfl, hb⟩; have HB5 := Lib.hid (HCX5.out.trans (hb.mono HCX5.out.size)); replace HG := Lib.hid (GAt.next HG.out hb); replace HCH := Lib.hid (RdP.next HCH.out hb); rw [show decide (([0, 1, 2] : List Int) = [0, 1, 2]) = true from rfl]; clear HCA X5; clear hb
  go_wp2_with fail
  go_at_call 14; refine (port_is 0 (by decide) (by decide) _).mono ?_; rintro e w6 ⟨rfl, hb⟩; have HB6 := Lib.hid (HB5.out.trans (hb.mono HB5.out.size)); replace HG := Lib.hid (GAt.next HG.out hb); replace HCH := Lib.hid (RdP.next HCH.out hb); rw [show nmV (prtN (1 + 0)) = .agg #[.int .i64 16, .string ⟨#[]⟩, .int .i64 1, .int .i64 0, .string ⟨#[]⟩] from rfl]; clear hb
  go_wp2_with fail
  go_at_call 14; refine (port_is 1 (by decide) (by decide) _).mono ?_; rintro e w7 ⟨rfl, hb⟩; have HB7 := Lib.hid (HB6.out.trans (hb.mono HB6.out.size)); replace HG := Lib.hid (GAt.next HG.out hb); replace HCH := Lib.hid (RdP.next HCH.out hb); rw [show nmV (prtN (1 + 1)) = .agg #[.int .i64 16, .string ⟨#[]⟩, .int .i64 2, .int .i64 0, .string ⟨#[]⟩] from rfl]; clear hb; have ha := (Below.refl w7.heap.size w7).alloc (Nat.le_refl _) (.cells #[.int .i64 0, .int .i64 1, .int .i64 16, .string ⟨#[]⟩, .int .i64 1, .int .i64 0, .string ⟨#[]⟩, .int .i64 1, .int .i64 2, .int .i64 16, .string ⟨#[]⟩, .int .i64 2, .int .i64 0, .string ⟨#[]⟩] 77); replace HG := Lib.hid (GAt.next HG.out ha); replace HCH := Lib.hid (RdP.next HCH.out ha); have X8 := Lib.hid (rdlk_new w7 k1l 2 rfl #[.int .i64 0, .int .i64 1, .int .i64 16, .string ⟨#[]⟩, .int .i64 1, .int .i64 0, .string ⟨#[]⟩, .int .i64 1, .int .i64 2, .int .i64 16, .string ⟨#[]⟩, .int .i64 2, .int .i64 0, .string ⟨#[]⟩] rfl (by decide)); have HCX8 := Lib.hid (HB7.out.trans (ha.mono HB7.out.size)); clear ha
  go_wp2_with fail
  go_at_call 22; refine (eqlk_is HCH.out X8.out (by decide) (by decide)).mono ?_; rintro e w8 ⟨rfl, hb⟩; have HB8 := Lib.hid (HCX8.out.trans (hb.mono HCX8.out.size)); replace HG := Lib.hid (GAt.next HG.out hb); rw [decide_eq_true (rfl : k1l = k1l)]; clear HCH X8; clear hb
  go_wp2_with fail
  go_at_call 23; refine (glinks_is HG.out (by decide) chn_rl).mono ?_; rintro e w9 ⟨v9, rfl, hr, hb⟩; have HB9 := Lib.hid (HB8.out.trans (hb.mono HB8.out.size)); replace HG := Lib.hid (GAt.next HG.out hb); rw [chn_links] at hr; have HLK := Lib.hid hr; clear hr; clear hb
  go_wp2_with fail
  go_at_call 14; refine (port_is 0 (by decide) (by decide) _).mono ?_; rintro e w10 ⟨rfl, hb⟩; have HB10 := Lib.hid (HB9.out.trans (hb.mono HB9.out.size)); replace HG := Lib.hid (GAt.next HG.out hb); replace HLK := Lib.hid (RdP.next HLK.out hb); rw [show nmV (prtN (1 + 0)) = .agg #[.int .i64 16, .string ⟨#[]⟩, .int .i64 1, .int .i64 0, .string ⟨#[]⟩] from rfl]; clear hb
  go_wp2_with fail
  go_at_call 14; refine (port_is 1 (by decide) (by decide) _).mono ?_; rintro e w11 ⟨rfl, hb⟩; have HB11 := Lib.hid (HB10.out.trans (hb.mono HB10.out.size)); replace HG := Lib.hid (GAt.next HG.out hb); replace HLK := Lib.hid (RdP.next HLK.out hb); rw [show nmV (prtN (1 + 1)) = .agg #[.int .i64 16, .string ⟨#[]⟩, .int .i64 2, .int .i64 0, .string ⟨#[]⟩] from rfl]; clear hb
  go_wp2_with fail
  go_at_call 14; refine (port_is 2 (by decide) (by decide) _).mono ?_; rintro e w12 ⟨rfl, hb⟩; have HB12 := Lib.hid (HB11.out.trans (hb.mono HB11.out.size)); replace HG := Lib.hid (GAt.next HG.out hb); replace HLK := Lib.hid (RdP.next HLK.out hb); rw [show nmV (prtN (1 + 2)) = .agg #[.int .i64 16, .string ⟨#[]⟩, .int .i64 3, .int .i64 0, .string ⟨#[]⟩] from rfl]; clear hb; have ha := (Below.refl w12.heap.size w12).alloc (Nat.le_refl _) (.cells #[.int .i64 0, .int .i64 1, .int .i64 16, .string ⟨#[]⟩, .int .i64 1, .int .i64 0, .string ⟨#[]⟩, .int .i64 1, .int .i64 2, .int .i64 16, .string ⟨#[]⟩, .int .i64 2, .int .i64 0, .string ⟨#[]⟩, .int .i64 (-1), .int .i64 2, .int .i64 16, .string ⟨#[]⟩, .int .i64 3, .int .i64 0, .string ⟨#[]⟩] 77); replace HG := Lib.hid (GAt.next HG.out ha); replace HLK := Lib.hid (RdP.next HLK.out ha); have X9 := Lib.hid (rdlk_new w12 k2l 3 rfl #[.int .i64 0, .int .i64 1, .int .i64 16, .string ⟨#[]⟩, .int .i64 1, .int .i64 0, .string ⟨#[]⟩, .int .i64 1, .int .i64 2, .int .i64 16, .string ⟨#[]⟩, .int .i64 2, .int .i64 0, .string ⟨#[]⟩, .int .i64 (-1), .int .i64 2, .int .i64 16, .string ⟨#[]⟩, .int .i64 3, .int .i64 0, .string ⟨#[]⟩] rfl (by decide)); have HCX9 := Lib.hid (HB12.out.trans (ha.mono HB12.out.size)); clear ha
  go_wp2_with fail
  go_at_call 22; refine (eqlk_is HLK.out X9.out (by decide) (by decide)).mono ?_; rintro e w13 ⟨rfl, hb⟩; have HB13 := Lib.hid (HCX9.out.trans (hb.mono HCX9.out.size)); replace HG := Lib.hid (GAt.next HG.out hb); rw [decide_eq_true (rfl : k2l = k2l)]; clear HLK X9; clear hb
  go_wp2_with fail
  go_ret
  exact ⟨rfl, HB13.out⟩
theorem Ra.more {B B' : Nat} {w : World} {v : Value} {n : Nat} {xs : List Value} (h : Ra B w v n xs) (hB : B ≤ B') : Ra B' w v n xs := by
  obtain ⟨A, c, hv, hc, hm, h0 | ⟨b, o, hA, hlt, hx⟩⟩ := h
  · exact ⟨A, c, hv, hc, hm, .inl h0⟩
  · exact ⟨A, c, hv, hc, hm, .inr ⟨b, o, hA, by omega, hx⟩⟩
theorem DeAt.next {w w' : World} {B : Nat} {v : Value} {l : List De} (h : DeAt B w v l) (hb : Below B w w') (hB : B ≤ w'.heap.size) : DeAt w'.heap.size w' v l := ⟨(h.1.below hb).more hB, h.2⟩
theorem okAc_w {a : Ac} (h : okAc a = true) : ordCh a.writes = true := by unfold okAc at h; rw [Bool.and_eq_true] at h; exact h.2
end Go.Proofs.YtmjkcanjfjfkfaaGreat
namespace Go.Proofs.YtmjkcanjfjfkfaaGreat
open Go.RowKit
set_option linter.unusedSimpArgs false
set_option linter.unusedVariables false
attribute [local go_sem ↓] Go.wp_at_zero Go.wp_at_succ
open Go.MapKept Go.ChangeMaps
abbrev WRows (w : World) (B tb : Nat) (D : Nm → List Int) : Prop := MapRows 3 1 inC w (fun i => B ≤ i) tb D
def nrRel (l : List Ac) (v : Value) (w : World) (tb rb : Nat) (i : Value) (wr : World) : Prop := ∃ k : Nat, k ≤ l.length ∧ i = .int .i64 (k : Int) ∧ WRows wr w.heap.size tb (wls (l.take k)) ∧ Blk wr rb 82 #[v, .map (some tb)] ∧ Blk wr w.heap.size 82 #[.slice none 0 0, .map none] ∧ Below w.heap.size w wr
def njRel (l : List Ac) (k : Nat) (ws : List Ch) (v : Value) (w : World) (tb rb : Nat) (i : Value) (wr : World) : Prop := ∃ q : Nat, q ≤ ws.length ∧ i = .int .i64 (q : Int) ∧ WRows wr w.heap.size tb (wlsT (l.take k) (ws.take q)) ∧ Blk wr rb 82 #[v, .map (some tb)] ∧ Blk wr w.heap.size 82 #[.slice none 0 0, .map none] ∧ Below w.heap.size w wr
set_option maxRecDepth 100000 in
set_option maxHeartbeats 8000000 in
theorem newrun_is {w : World} {v : Value} {l : List Ac} (h : RdAc w v l) (hr : ∀ a ∈ l, AcR a) (hl : l.length ≤ 35) : Calls Tryz.prog 25 #[v] w fun e w' => ∃ tb, e = .returned (.agg #[v, .map (some tb)]) ∧ WRows w' w.heap.size tb (wls l) ∧ Below w.heap.size w w' := by
  obtain ⟨A, c, rfl, hc⟩ := RowRd.form h; have HR := Lib.hid h; have HRR := Lib.hid hr; have hmm := @run_makeMap Tryz.prog; have b1 := ((Below.refl w.heap.size w).alloc (Nat.le_refl _) (.cells #[.slice none 0 0, .map none] 82)).alloc (by simp) (.map #[] 0); have b2 := b1.alloc b1.size (.cells #[.slice A l.length c, .map (some (w.heap.size + 1))] 82); have z0 := ((Blk.new w 82 #[.slice none 0 0, .map none]).alloc (.map #[] 0)).alloc (.cells #[.slice A l.length c, .map (some (w.heap.size + 1))] 82); have z2 := Blk.newE ((w.alloc (.cells #[.slice none 0 0, .map none] 82)).alloc (.map #[] 0)) 82 #[.slice A l.length c, .map (some (w.heap.size + 1))] (w.heap.size + 1 + 1) (by simp)
  have r0 : WRows ((w.alloc (.cells #[.slice none 0 0, .map none] 82)).alloc (.map #[] 0)) w.heap.size (w.heap.size + 1) (fun _ => []) := by
    have := MapRows.new (e := 3) (s := 1) (f := inC) (w.alloc (.cells #[.slice none 0 0, .map none] 82)) (fun i => w.heap.size ≤ i) (by simp); rw [World.size_alloc] at this
    exact this
  have r1 := (r0.next ((Below.refl _ _).alloc (Nat.le_refl _) (.cells #[.slice A l.length c, .map (some (w.heap.size + 1))] 82))).data (D' := wls (l.take 0)) (fun n => by rw [List.take_zero]; rfl); have H0 : Hid (nrRel l (.slice A l.length c) w (w.heap.size + 1) (w.heap.size + 1 + 1) (.int .i64 (0 : Nat)) (((w.alloc (.cells #[.slice none 0 0, .map none] 82)).alloc (.map #[] 0)).alloc (.cells #[.slice A l.length c, .map (some (w.heap.size + 1))] 82))) := Lib.hid ⟨0, Nat.zero_le _, rfl, r1, z2, z0, b2⟩; clear h hr b1 b2 z0 z2 r0 r1
  go_enter Tryz.func25, Tryz.ntmps25
  go_upto_region 2 with (fail)
  generalize ((w.alloc (.cells #[.slice none 0 0, .map none] 82)).alloc (.map #[] 0)).alloc (.cells #[.slice A l.length c, .map (some (w.heap.size + 1))] 82) = w3 at *; obtain ⟨rb, hrb⟩ : ∃ rb, w.heap.size + 1 + 1 = rb := ⟨_, rfl⟩; rw [hrb] at H0 ⊢; obtain ⟨tb, htb⟩ : ∃ tb, w.heap.size + 1 = tb := ⟨_, rfl⟩; rw [htb] at H0; clear hrb htb hmm
  go_wp2_with fail
  go_loopw [13] (fun i wr => nrRel l (.slice A l.length c) w tb rb i wr) (fun i _ => l.length - (intOf i).toNat)
  case atStart => exact H0.out
  case round =>
    clear H0; obtain ⟨k, hk, rfl, hrw, hrbk, hzb, hB⟩ := hrel; have HRW := Lib.hid hrw; have HRB := Lib.hid hrbk; have HZB := Lib.hid hzb; have HB := Lib.hid hB; clear hrw hrbk hzb hB
    by_cases hkl : k < l.length
    · have j1 : decide ((k : Int) < (l.length : Int)) = true := decide_eq_true (by omega)
      have j2 : (0 : Int) ≤ (k : Int) := by omega
      have j3 : (k : Int) < (l.length : Int) := by omega
      obtain ⟨xb, xo, u1, u2, hbe, hxb, hr1, hr2, y0, y1, y2, y3, y4, y5⟩ := RdAc.piece HR.out hkl; subst hbe; obtain ⟨B1, d1, hu1, _⟩ := RdP.form hr1; subst hu1; obtain ⟨B2, d2, hu2, _⟩ := RdP.form hr2; subst hu2; have HNX := Lib.hid (fun n => show wls (l.take (k + 1)) n = wlsT (l.take k) l[k].writes n by rw [List.take_succ_eq_append_getElem hkl, wls_snoc]); have hwl := (HRR.out l[k] (List.getElem_mem hkl)).2.2.2.2; have HW2 := Lib.hid hr2; replace y0 := (HB.out.cell (p := ⟨xb, xo + k * 6, none⟩) hxb).trans y0; replace y1 := (HB.out.cell (p := ⟨xb, xo + k * 6 + 1, none⟩) hxb).trans y1; replace y2 := (HB.out.cell (p := ⟨xb, xo + k * 6 + 2, none⟩) hxb).trans y2; replace y3 := (HB.out.cell (p := ⟨xb, xo + k * 6 + 3, none⟩) hxb).trans y3; replace y4 := (HB.out.cell (p := ⟨xb, xo + k * 6 + 4, none⟩) hxb).trans y4; replace y5 := (HB.out.cell (p := ⟨xb, xo + k * 6 + 5, none⟩) hxb).trans y5; obtain ⟨a, hak⟩ : ∃ a, l[k] = a := ⟨_, rfl⟩; rw [hak] at y0 y1 y2 y3 y4 y5 HNX HW2 hwl; have HKL := Lib.hid hkl; clear hr1 hr2 hak
      go_upto_region 5 with (fail)
      have hba := (Below.refl wr.heap.size wr).alloc (Nat.le_refl _) (.cells #[.int .i64 a.key.tick, .int .i64 a.key.cls, .int .i64 a.key.num, .string (bs a.key.lin), .slice B1 a.reads.length d1, .slice B2 a.writes.length d2] 38); have RW6 := Lib.hid (HRW.out.next hba); have RB6 := Lib.hid (HRB.out.next hba HRB.out.lt); have ZB6 := Lib.hid (HZB.out.next hba HZB.out.lt); have HB6 := Lib.hid (HB.out.trans (hba.mono HB.out.size)); have ZX := Lib.hid (Blk.new wr 38 #[.int .i64 a.key.tick, .int .i64 a.key.cls, .int .i64 a.key.num, .string (bs a.key.lin), .slice B1 a.reads.length d1, .slice B2 a.writes.length d2]); clear y0 y1 y2 y3 y4 y5 hba hxb HRW HRB HZB HB; generalize wr.alloc (.cells #[.int .i64 a.key.tick, .int .i64 a.key.cls, .int .i64 a.key.num, .string (bs a.key.lin), .slice B1 a.reads.length d1, .slice B2 a.writes.length d2] 38) = w6 at *; obtain ⟨ab, hab⟩ : ∃ ab, wr.heap.size = ab := ⟨_, rfl⟩; rw [hab] at ZX ⊢; clear hab; have x5 := ZX.out.cell 5; simp only [qB, qC, qD] at x5; have H1 : Hid (njRel l k a.writes (.slice (some ⟨xb, xo, none⟩) l.length c) w tb rb (.int .i64 (0 : Nat)) w6) := Lib.hid ⟨0, Nat.zero_le _, rfl, RW6.out.data (fun n => by simp [wlsT]), RB6.out, ZB6.out, HB6.out⟩; clear RW6 RB6 ZB6
      go_wp2_with fail
      clear x5
      go_loopw [21] (fun i wr => njRel l k a.writes (.slice (some ⟨xb, xo, none⟩) l.length c) w tb rb i wr) (fun i _ => a.writes.length - (intOf i).toNat)
      case atStart => exact H1.out
      case round =>
        clear H1; obtain ⟨q, hq, rfl, hrw, hrbk, hzb, hB⟩ := hrel; have HRW := Lib.hid hrw; have HRB := Lib.hid hrbk; have HZB := Lib.hid hzb; have HB := Lib.hid hB; clear hrw hrbk hzb hB
        by_cases hql : q < a.writes.length
        · have k1 : decide ((q : Int) < (a.writes.length : Int)) = true := decide_eq_true (by omega)
          have k2 : (0 : Int) ≤ (q : Int) := by omega
          have k3 : (q : Int) < (a.writes.length : Int) := by omega
          obtain ⟨cb, co, hbe2, hcb, v0, v1, v2, v3, v4, v5, v6⟩ := RdCh.piece HW2.out hql; subst hbe2; replace v0 := (HB.out.cell (p := ⟨cb, co + q * 7, none⟩) hcb).trans v0; replace v1 := (HB.out.cell (p := ⟨cb, co + q * 7 + 1, none⟩) hcb).trans v1; replace v2 := (HB.out.cell (p := ⟨cb, co + q * 7 + 2, none⟩) hcb).trans v2; replace v3 := (HB.out.cell (p := ⟨cb, co + q * 7 + 3, none⟩) hcb).trans v3; replace v4 := (HB.out.cell (p := ⟨cb, co + q * 7 + 4, none⟩) hcb).trans v4; replace v5 := (HB.out.cell (p := ⟨cb, co + q * 7 + 5, none⟩) hcb).trans v5; replace v6 := (HB.out.cell (p := ⟨cb, co + q * 7 + 6, none⟩) hcb).trans v6; have HTW := Lib.hid (show a.writes.take (q + 1) = a.writes.take q ++ [a.writes[q]] from List.take_succ_eq_append_getElem hql); obtain ⟨ch, hch⟩ : ∃ ch, a.writes[q] = ch := ⟨_, rfl⟩; rw [hch] at v0 v1 v2 v3 v4 v5 v6 HTW; have HQL := Lib.hid hql; clear hch
          go_upto_region 8 with (fail)
          have hba := (Below.refl wr.heap.size wr).alloc (Nat.le_refl _) (.cells #[.int .i64 ch.name.kind, .string (bs ch.name.owner), .int .i64 ch.name.num, .int .i64 ch.name.idx, .string (bs ch.name.text), .string (bs ch.value), .bool ch.absent] 92); have RW7 := Lib.hid (HRW.out.next hba); have RB7 := Lib.hid (HRB.out.next hba HRB.out.lt); have ZB7 := Lib.hid (HZB.out.next hba HZB.out.lt); have B7 := Lib.hid (HB.out.trans (hba.mono HB.out.size)); have ZC := Lib.hid (Blk.new wr 92 #[.int .i64 ch.name.kind, .string (bs ch.name.owner), .int .i64 ch.name.num, .int .i64 ch.name.idx, .string (bs ch.name.text), .string (bs ch.value), .bool ch.absent]); clear v0 v1 v2 v3 v4 v5 v6 hba hcb HRW HRB HZB HB; generalize wr.alloc (.cells #[.int .i64 ch.name.kind, .string (bs ch.name.owner), .int .i64 ch.name.num, .int .i64 ch.name.idx, .string (bs ch.name.text), .string (bs ch.value), .bool ch.absent] 92) = W at *; obtain ⟨cc, hcc⟩ : ∃ cc, wr.heap.size = cc := ⟨_, rfl⟩; rw [hcc] at ZC ⊢; clear hcc; have hbk := (Below.refl W.heap.size W).alloc (Nat.le_refl _) (.cells #[.int .i64 k] 3); obtain ⟨ents, v, hma, hve, hof, hback⟩ := RW7.out.at_ ch.name; obtain ⟨At, ct, hvs, hct⟩ := own_len hof.1; subst hvs; obtain ⟨tl, htl⟩ : ∃ tl, wlsT (l.take k) (a.writes.take q) ch.name = tl := ⟨_, rfl⟩
          have hdn : tl.length ≤ 2000 := by
            rw [← htl]
            unfold wlsT
            have h1 := wls_len (l := l.take k) (fun b hb => (HRR.out b (List.mem_of_mem_take hb)).2.2.2.2) (by rw [List.length_take]; omega) ch.name; have h2 := filt_len (a.writes.take q) ch.name; have h3 := List.length_take_le q a.writes
            simp only [List.length_append, List.length_map]
            omega
          simp only [htl] at hve hof hback
          have HTL := Lib.hid htl; have hmA := hma.next hbk; obtain ⟨w8, st, hrunE, hg8, hm8, hst⟩ := map_entry hmA ch.name Tryz.underlying80 (zeroinC _); rw [← hve] at hrunE
          unfold nmV nmA at hrunE
          have HW8 := Lib.hid (own_map (own_next hof.1 hbk) hmA hg8); have HN8 := Lib.hid (own_map (own_new W 0 3 1 [.int .i64 k] rfl (Nat.zero_le _)) hmA hg8); have RB8 := Lib.hid (blk_map (RB7.out.next hbk RB7.out.lt) hmA hg8); have ZB8 := Lib.hid (blk_map (ZB7.out.next hbk ZB7.out.lt) hmA hg8); have HG8 := Lib.hid hg8; have HM8 := Lib.hid hm8; have HST := Lib.hid hst; have HBK := Lib.hid hbk; have HBA := Lib.hid hback; have HOF := Lib.hid hof; have r1 := RB7.out.cell 1; have e0 := ZC.out.cell 0; have e1 := ZC.out.cell 1; have e2 := ZC.out.cell 2; have e3 := ZC.out.cell 3; have e4 := ZC.out.cell 4; simp only [qB, qC, qD] at r1 e0 e1 e2 e3 e4; obtain ⟨i0, hi, hz0, hz1, hz2⟩ := info_parts infoIn; clear hma hve hof hback hbk hmA hg8 hm8 hst hct htl
          go_upto_region 9 with (at_builtin; refine wpList_append_w _ rfl _ _ _ rfl 0 3 i0 _ 1 8 Tryz.underlying68 hi hz0 hz1 hz2 rfl (by omega) (.slice At tl.length ct) tl.length (tl.flatMap inC) rfl HW8.out (.slice (some ⟨W.heap.size, 0, none⟩) 1 1) 1 [.int .i64 k] rfl (Rd.of_own HN8.out) (by omega) rfl (by simp [Value.oneCell']) (by unfold maxLen; omega) (by omega) (Nat.zero_le _) ?_; intro v9 w9 hown9 hg9 hat9; obtain ⟨A9, c9, hv9, _⟩ := own_len hown9; subst hv9; obtain ⟨es8, cl8, hm8⟩ := HM8.out; have hb9 : w9.heap[tb]? = w8.heap[tb]? := hg9.block tb (Array.getElem?_eq_some_iff.1 hm8).1 (fun e => own_not_map HW8.out hm8 e.symm); obtain ⟨w10, hrunS, hm10, hg10⟩ := HST.out w9 (.slice A9 (tl.length + 1) c9) hb9; have HB9 := Lib.hid hb9; have HOW9 := Lib.hid hown9; have HG9 := Lib.hid hg9; have HAT9 := Lib.hid hat9; have HM10 := Lib.hid hm10; have HG10 := Lib.hid hg10; have HMM := Lib.hid hm8; clear hown9 hg9 hat9 hm8 hb9 hm10 hg10)
          clear hrunE hrunS r1 e0 e1 e2 e3 e4 i0 hi hz0 hz1 hz2
          have RW10 := Lib.hid (HBA.out w9 w10 (.slice A9 (tl.length + 1) c9) (k : Int) (fun i => w.heap.size ≤ i) (fun i h1 h2 h3 => ((HG9.out.block i (Nat.lt_of_lt_of_le h1 (Nat.le_trans HBK.out.size HG8.out.size)) h3).trans (HG8.out.block i (Nat.lt_of_lt_of_le h1 HBK.out.size) (fun e => h2 (by injection e)))).trans (HBK.out.block i h1)) ⟨es8, cl8, HB9.out.trans HMM.out⟩ HOW9.out (by
              rcases HAT9.out with h | h
              · exact .inl h
              · exact .inr ⟨_, h, Nat.le_trans HBK.out.size HG8.out.size⟩) HM10.out HG10.out (fun _ h => h) (fun i h1 h2 => Nat.le_trans B7.out.size h1))
          have hmk : ∀ {b : Nat} {t : TypeId} {cs : Array Value}, Blk w9 b t cs → some b ≠ some tb := fun hb e => by
            injection e with e
            unfold Blk at hb
            rw [e, HB9.out, HMM.out] at hb
            cases hb
          have hrb9 := RB8.out.grown HG9.out (fun e => own_blk_ne HW8.out RB8.out (by decide) e.symm); have RB10 := Lib.hid (hrb9.grown HG10.out (hmk hrb9)); have hzb9 := ZB8.out.grown HG9.out (fun e => own_blk_ne HW8.out ZB8.out (by decide) e.symm); have ZB10 := Lib.hid (hzb9.grown HG10.out (hmk hzb9))
          have BE := Lib.hid (show Below w.heap.size w w10 by
            have h1 := B7.out.trans (HBK.out.mono B7.out.size); have h2 := h1.grown HG8.out h1.size (fun r e => by injection e with e; subst e; exact RW7.out.1); have h3 := h2.grown HG9.out h2.size (fun r e => HOF.out.2 r e)
            exact h3.grown HG10.out h3.size (fun r e => by injection e with e; subst e; exact RW7.out.1))
          clear hrb9 hzb9 hmk
          go_wp2_with fail
          go_roundw
          case rel => exact ⟨q + 1, HQL.out, by go_num, RW10.out.data (fun n => by rw [HTW.out, wlsT_snoc, HTL.out, show (l.take k).length = k by rw [List.length_take]; have := HKL.out; omega]), RB10.out, ZB10.out, BE.out⟩
          case measure => have := HQL.out; simp [intOf]; omega
        · have k1 : decide ((q : Int) < (a.writes.length : Int)) = false := decide_eq_false (by omega)
          have HTE := Lib.hid (show a.writes.take q = a.writes from List.take_of_length_le (by omega)); rw [HTE.out] at HRW
          go_wp2_with fail
          exact ⟨⟨k + 1, HKL.out, by go_num, HRW.out.data (fun n => (HNX.out n).symm), HRB.out, HZB.out, HB.out⟩, by have := HKL.out; simp [intOf]; omega⟩
    · have j1 : decide ((k : Int) < (l.length : Int)) = false := decide_eq_false (by omega)
      have HTE := Lib.hid (show l.take k = l from List.take_of_length_le (by omega)); rw [HTE.out] at HRW; have r0 := HRB.out.cell 0; have r1 := HRB.out.cell 1; have q0 := HZB.out.cell 0; have q1 := HZB.out.cell 1; have f0 := HZB.out.frozen 0; have f1 := HZB.out.frozen 1; simp only [qB, qC, qD] at r0 r1 q0 q1
      have ZE := Lib.hid (show Blk ((wr.setCell ⟨w.heap.size, 0, none⟩ (.slice A l.length c)).setCell ⟨w.heap.size, 1, none⟩ (.map (some tb))) w.heap.size 82 #[.slice A l.length c, .map (some tb)] from by
        have := (HZB.out.set_ 0 (.slice A l.length c)).set_ 1 (.map (some tb))
        simpa using this)
      have BE := Lib.hid ((HB.out.setCell (p := ⟨w.heap.size, 0, none⟩) (Nat.le_refl _) (.slice A l.length c)).setCell (p := ⟨w.heap.size, 1, none⟩) (Nat.le_refl _) (.map (some tb))); have hgr : wr.grownBy ((wr.setCell ⟨w.heap.size, 0, none⟩ (.slice A l.length c)).setCell ⟨w.heap.size, 1, none⟩ (.map (some tb))) (some w.heap.size) := only_setCell (only_setCell (only_of_below (Below.refl wr.heap.size wr) (some w.heap.size)) (.inl rfl) _) (.inl rfl) _; have RE := Lib.hid (HRW.out.kept (Kept.of_blk [82] HZB.out hgr rfl) (KpM.of_blk HZB.out hgr) rfl (fun _ h => h)); clear hgr
      go_wp2_with fail
      clear q0 q1 f0 f1 r0 r1; have q0 := ZE.out.cell 0; have q1 := ZE.out.cell 1; simp only [qB, qC, qD] at q0 q1; generalize (wr.setCell ⟨w.heap.size, 0, none⟩ (.slice A l.length c)).setCell ⟨w.heap.size, 1, none⟩ (.map (some tb)) = w9 at *
      exact bodyPost_ret (v := .agg #[.slice A l.length c, .map (some tb)]) (by simp [results, Tryz.results25, go_sem, q0, q1]) rfl ⟨tb, rfl, RE.out, BE.out⟩
end Go.Proofs.YtmjkcanjfjfkfaaGreat
namespace Go.Proofs.YtmjkcanjfjfkfaaGreat
open Go.RowKit
set_option linter.unusedSimpArgs false
set_option linter.unusedVariables false
attribute [local go_sem ↓] Go.wp_at_zero Go.wp_at_succ
open Go.MapKept Go.ChangeMaps
set_option maxRecDepth 100000 in
set_option maxHeartbeats 1000000 in
theorem srchk1_is {w : World} {A : Option Addr} {c : Nat} {l : List Ac} {k : Ky} {rb kb i : Nat} {m : Value} (z1 : Blk w rb 82 #[.slice A l.length c, m]) (z2 : Blk w kb 35 #[.int .i64 k.tick, .int .i64 k.cls, .int .i64 k.num, .string (bs k.lin)]) (h : RdAc w (.slice A l.length c) l) (hi : i < l.length) (hl : l.length ≤ 100) (hk : k.lin ∈ lin5) (hr : ∀ a ∈ l, a.key.lin ∈ lin5) :
    Calls Tryz.prog 70 #[.int .i64 i, .pointer (some ⟨rb, 0, none⟩), .pointer (some ⟨kb, 0, none⟩)] w fun e w' => e = .returned (.bool (decide (0 ≤ cmpK l[i].key k))) ∧ Below w.heap.size w w' := by
  obtain ⟨xb, xo, u1, u2, hbe, hxb, _, _, y0, y1, y2, y3, _, _⟩ := RdAc.piece h hi; subst hbe
  have j1 : (0 : Int) ≤ (i : Int) := by omega
  have j2 : (i : Int) < (l.length : Int) := by omega
  have HLI := Lib.hid (hr l[i] (List.getElem_mem hi)); obtain ⟨a, ha⟩ : ∃ a, l[i] = a := ⟨_, rfl⟩; rw [ha] at y0 y1 y2 y3 HLI ⊢; obtain ⟨ka, hka⟩ : ∃ ka, a.key = ka := ⟨_, rfl⟩; rw [hka] at y0 y1 y2 y3 HLI ⊢; have r0 := z1.cell 0; have k0 := z2.cell 0; have k1 := z2.cell 1; have k2 := z2.cell 2; have k3 := z2.cell 3; simp only [qB, qC, qD] at r0 k0 k1 k2 k3; have HCY := Lib.hid (fun W => key_compare ka k W HLI.out hk); have hlr := z1.lt; have hlk := z2.lt; have HLT := Lib.hid (And.intro hlr (And.intro hlk hxb)); clear ha hka h hr z1 z2
  go_enter Tryz.func70, Tryz.ntmps70
  go_upto_region 1 with (fail)
  refine wp_region_noPanic ?_
  refine wp_region_held_drew (S := (fun (w' : World) => w'.cell? ⟨rb, 0, none⟩ = some (.slice (some ⟨xb, xo, none⟩) l.length c) ∧ w'.cell? ⟨kb, 0, none⟩ = some (.int .i64 k.tick) ∧ w'.cell? ⟨kb, 1, none⟩ = some (.int .i64 k.cls) ∧ w'.cell? ⟨kb, 2, none⟩ = some (.int .i64 k.num) ∧ w'.cell? ⟨kb, 3, none⟩ = some (.string (bs k.lin)) ∧ w'.cell? ⟨xb, xo + i * 6, none⟩ = some (.int .i64 ka.tick) ∧ w'.cell? ⟨xb, xo + i * 6 + 1, none⟩ = some (.int .i64 ka.cls) ∧ w'.cell? ⟨xb, xo + i * 6 + 2, none⟩ = some (.int .i64 ka.num) ∧ w'.cell? ⟨xb, xo + i * 6 + 3, none⟩ = some (.string (bs ka.lin)))) (by kernel_rfl) ?_ (fun hHeld => ?_)
  · exact ⟨r0, k0, k1, k2, k3, y0, y1, y2, y3⟩
  refine tk (v := ?_) 0 rfl (by kernel_rfl) (fun _ _ _ h => h) ?_ hHeld ?_; rotate_left
  · (intro w h; (try dsimp only at h); go_simp; try with_reducible rfl)
  try simp only [Act.put, pB, pC, pD]
  refine tk (v := ?_) 1 rfl (by kernel_rfl) (fun _ _ _ h => h) ?_ hHeld ?_; rotate_left
  · (intro w h; (try dsimp only at h); go_simp; try with_reducible rfl)
  try simp only [Act.put, pB, pC, pD]
  refine tk (v := ?_) 2 rfl (by kernel_rfl) (fun _ _ _ h => h) ?_ hHeld ?_; rotate_left
  · (intro w h; (try dsimp only at h); go_simp; try with_reducible rfl)
  try simp only [Act.put, pB, pC, pD]
  refine tk (v := ?_) 3 rfl (by kernel_rfl) (fun _ _ _ h => h) ?_ hHeld ?_; rotate_left
  · (intro w h; (try dsimp only at h); go_simp; try with_reducible rfl)
  try simp only [Act.put, pB, pC, pD]
  refine tk (v := ?_) 4 rfl (by kernel_rfl) (fun _ _ _ h => h) ?_ hHeld ?_; rotate_left
  · (intro w h; (try dsimp only at h); go_simp; try with_reducible rfl)
  try simp only [Act.put, pB, pC, pD]
  refine tk (v := ?_) 5 rfl (by kernel_rfl) (fun _ _ _ h => h) ?_ hHeld ?_; rotate_left
  · (intro w h; (try dsimp only at h); go_simp; try with_reducible rfl)
  try simp only [Act.put, pB, pC, pD]
  refine tk (v := ?_) 6 rfl (by kernel_rfl) (fun _ _ _ h => h) ?_ hHeld ?_; rotate_left
  · (intro w h; (try dsimp only at h); go_simp; try with_reducible rfl)
  try simp only [Act.put, pB, pC, pD]
  refine wpAnyH_ready (rs := [7]) (by kernel_rfl) (by simp) ?_; refine AllReadyH.cons rfl (fun K hK => ?_) AllReadyH.nil; go_simp; refine (HCY.out _).mono ?_; rintro e w6 ⟨rfl, hb⟩; have B6 := Lib.hid ((Below.refl w.heap.size w).drew.trans hb); have r6 := (B6.out.cell (p := ⟨rb, 0, none⟩) HLT.out.1).trans r0; have a0 := (B6.out.cell (p := ⟨kb, 0, none⟩) HLT.out.2.1).trans k0; have a1 := (B6.out.cell (p := ⟨kb, 1, none⟩) HLT.out.2.1).trans k1; have a2 := (B6.out.cell (p := ⟨kb, 2, none⟩) HLT.out.2.1).trans k2; have a3 := (B6.out.cell (p := ⟨kb, 3, none⟩) HLT.out.2.1).trans k3; have c0 := (B6.out.cell (p := ⟨xb, xo + i * 6, none⟩) HLT.out.2.2).trans y0; have c1 := (B6.out.cell (p := ⟨xb, xo + i * 6 + 1, none⟩) HLT.out.2.2).trans y1; have c2 := (B6.out.cell (p := ⟨xb, xo + i * 6 + 2, none⟩) HLT.out.2.2).trans y2; have c3 := (B6.out.cell (p := ⟨xb, xo + i * 6 + 3, none⟩) HLT.out.2.2).trans y3; clear hb
  try (go_wp2_with fail)
  refine hK.out _ _ ?_ (fun hNew => ?_)
  · exact ⟨r6, a0, a1, a2, a3, c0, c1, c2, c3⟩
  clear hK K hHeld; have hHeld := hNew; clear hNew; try simp only [Act.put, pB, pC, pD]
  refine tk (v := ?_) 8 rfl (by kernel_rfl) (fun _ _ _ h => h) ?_ hHeld ?_; rotate_left
  · (intro w h; (try dsimp only at h); go_simp; try with_reducible rfl)
  try simp only [Act.put, pB, pC, pD]
  refine tk (v := ?_) 9 rfl (by kernel_rfl) (fun _ _ _ h => h) ?_ hHeld ?_; rotate_left
  · (intro w h; (try dsimp only at h); go_simp; try with_reducible rfl)
  try simp only [Act.put, pB, pC, pD]
  refine wpAnyH_done (by kernel_rfl) ?_ _; clear hHeld
  try simp only [List.getElem_toArray, List.getElem_cons_zero, List.getElem_cons_succ, Act.put, pB, pC, pD]
  refine NoPanic.normal ?_
  go_wp2_with fail
  go_ret
  exact ⟨rfl, B6.out⟩
def SkRel (l : List Ac) (k : Ky) (w : World) (i j : Value) (wr : World) : Prop := ∃ p q : Nat, i = .int .i64 p ∧ j = .int .i64 q ∧ p ≤ q ∧ q ≤ l.length ∧ (∀ i (h : i < l.length), i < p → cmpK l[i].key k < 0) ∧ (∀ i (h : i < l.length), q ≤ i → ¬ cmpK l[i].key k < 0) ∧ Below w.heap.size w wr
set_option maxRecDepth 100000 in
set_option maxHeartbeats 2000000 in
theorem ssearch_is {W : World} {A : Option Addr} {c : Nat} {l : List Ac} {k : Ky} {rb kb : Nat} {m : Value} (z1 : Blk W rb 82 #[.slice A l.length c, m]) (z2 : Blk W kb 35 #[.int .i64 k.tick, .int .i64 k.cls, .int .i64 k.num, .string (bs k.lin)]) (h : RdAc W (.slice A l.length c) l) (hp : KP l) (hl : l.length ≤ 100) (hk : k.lin ∈ lin5) (hr : ∀ a ∈ l, a.key.lin ∈ lin5) :
    Calls Tryz.prog 69 #[.int .i64 l.length, .func (.func 70) #[] #[.pointer (some ⟨rb, 0, none⟩), .pointer (some ⟨kb, 0, none⟩)]] W fun e w' => e = .returned (.int .i64 (befK l k : Nat)) ∧ Below W.heap.size W w' := by
  have H0 : Hid (SkRel l k W (.int .i64 (0 : Nat)) (.int .i64 l.length) W) := Lib.hid ⟨0, l.length, rfl, rfl, Nat.zero_le _, Nat.le_refl _, fun i _ h => by omega, fun i h1 h2 => by omega, Below.refl _ _⟩; have Z1 := Lib.hid z1; have Z2 := Lib.hid z2; have HH := Lib.hid h; have HP := Lib.hid hp; have HRR := Lib.hid hr; clear z1 z2 h hp hr
  go_enter Tryz.func69, Tryz.ntmps69
  go_wp2_with fail
  go_loopw [5, 6] (fun i j wr => SkRel l k W i j wr) (fun i j _ => (intOf j).toNat - (intOf i).toNat)
  case atStart => exact H0.out
  case round =>
    clear H0; obtain ⟨p, q, rfl, rfl, hpq, hq, hlo, hhi, hbw⟩ := hrel; have HLO := Lib.hid hlo; have HHI := Lib.hid hhi; have HBW := Lib.hid hbw; clear hlo hhi hbw
    by_cases hlt : p < q
    · obtain ⟨m, hm⟩ : ∃ m, (p + q) / 2 = m := ⟨_, rfl⟩
      have hml : m < l.length := by omega
      have j1 : ((p : Int) + (q : Int)) / 2 = (m : Int) := by omega
      have j2 : (0 : Int) ≤ (m : Int) := by omega
      have j3 : (m : Int) < (l.length : Int) := by omega
      have j4 : (0 : Int) ≤ (p : Int) + (q : Int) := by omega
      have j5 : (p : Int) + (q : Int) ≤ 200000 := by omega
      have HM := Lib.hid hm; have j6 : decide ((p : Int) < (q : Int)) = true := decide_eq_true (by omega); have j7 : decide (p < q) = true := decide_eq_true hlt; have HF := Lib.hid (srchk1_is (Z1.out.next HBW.out Z1.out.lt) (Z2.out.next HBW.out Z2.out.lt) (HH.out.next HBW.out) hml hl hk HRR.out); obtain ⟨x, hx⟩ : ∃ x, l[m] = x := ⟨_, rfl⟩; rw [hx] at HF; have HX := Lib.hid hx; obtain ⟨bq, hbq⟩ : ∃ bq, decide (0 ≤ cmpK x.key k) = bq := ⟨_, rfl⟩; have HBQ := Lib.hid hbq; rw [hbq] at HF; clear hx hm hbq
      go_upto_region 4 with (fail)
      cases bq with
      | true =>
        go_wp2_with (go_at_call 70; refine HF.out.mono ?_; rintro e w2 ⟨rfl, hb2⟩; have HB2 := Lib.hid hb2; clear hb2)
        go_roundw
        case rel => exact ⟨p, m, rfl, rfl, by have := HM.out; omega, by omega, HLO.out, fun i h1 h2 hc => by
          have h3 := of_decide_eq_true HBQ.out; rw [← HX.out] at h3
          rcases Nat.eq_or_lt_of_le h2 with rfl | h4
          · omega
          · have h5 := HP.out.lt h1 h4
            have := (wordK.trans _ _ _ (by omega) (by omega : cmpK l[i].key k ≤ 0)).2 (.inl h5)
            omega, HBW.out.trans (HB2.out.mono HBW.out.size)⟩
        case measure => have := HM.out; simp [intOf]; omega
      | false =>
        go_wp2_with (go_at_call 70; refine HF.out.mono ?_; rintro e w2 ⟨rfl, hb2⟩; have HB2 := Lib.hid hb2; clear hb2)
        go_roundw
        case rel => exact ⟨m + 1, q, by go_num, rfl, by have := HM.out; omega, hq, fun i h1 h2 => by
          have h3 := of_decide_eq_false HBQ.out; rw [← HX.out] at h3
          rcases Nat.eq_or_lt_of_le (show i ≤ m by omega) with rfl | h4
          · omega
          · have h5 := HP.out.lt hml h4
            exact (wordK.trans _ _ _ (by omega) (by omega : cmpK l[m].key k ≤ 0)).2 (.inl h5), fun i h1 h2 => by have := HHI.out i h1 h2; omega, HBW.out.trans (HB2.out.mono HBW.out.size)⟩
        case measure => have := HM.out; simp [intOf]; omega
    · have j6 : decide ((p : Int) < (q : Int)) = false := decide_eq_false (by omega)
      have j7 : decide (p < q) = false := decide_eq_false hlt; have HD := Lib.hid (befK_eq HP.out (k := k) (p := p) (by omega) HLO.out (fun i h1 h2 => HHI.out i h1 (by omega)))
      go_wp2_with fail
      go_ret
      exact ⟨by rw [HD.out]; rfl, HBW.out⟩
set_option maxRecDepth 100000 in
set_option maxHeartbeats 4000000 in
theorem rsearch_is {w : World} {v m : Value} {l : List Ac} {k : Ky} (h : RdAc w v l) (hm : ∃ b, m = .map b) (hp : KP l) (hl : l.length ≤ 100) (hk : k.lin ∈ lin5) (hr : ∀ a ∈ l, a.key.lin ∈ lin5) :
    Calls Tryz.prog 50 #[.agg #[v, m], kyV k] w fun e w' => e = .returned (.tuple #[.int .i64 (befK l k : Nat), .bool (hasK l k)]) ∧ Below w.heap.size w w' := by
  obtain ⟨A, c, rfl, hc⟩ := RowRd.form h; obtain ⟨mb, rfl⟩ := hm; have b1 := (Below.refl w.heap.size w).alloc (Nat.le_refl _) (.cells #[.slice A l.length c, .map mb] 82); have b2 := b1.alloc b1.size (.cells #[.int .i64 k.tick, .int .i64 k.cls, .int .i64 k.num, .string (bs k.lin)] 35); have z1 := (Blk.new w 82 #[.slice A l.length c, .map mb]).alloc (.cells #[.int .i64 k.tick, .int .i64 k.cls, .int .i64 k.num, .string (bs k.lin)] 35); have z2 := Blk.newE (w.alloc (.cells #[.slice A l.length c, .map mb] 82)) 35 #[.int .i64 k.tick, .int .i64 k.cls, .int .i64 k.num, .string (bs k.lin)] (w.heap.size + 1) (by simp); have HB0 := Lib.hid b2; have Z1 := Lib.hid z1; have Z2 := Lib.hid z2; have HH := Lib.hid (h.next b2); have HSS := Lib.hid (ssearch_is z1 z2 (h.next b2) hp hl hk hr); have HP := Lib.hid hp; have HRR := Lib.hid hr; have r0 := z1.cell 0; simp only [qB, qC, qD] at r0
  unfold kyV
  clear h b1 b2 z1 z2 hp hr
  go_enter Tryz.func50, Tryz.ntmps50
  go_upto_region 1 with (fail)
  generalize (w.alloc (.cells #[.slice A l.length c, .map mb] 82)).alloc (.cells #[.int .i64 k.tick, .int .i64 k.cls, .int .i64 k.num, .string (bs k.lin)] 35) = w2 at *; obtain ⟨kb, hkb⟩ : ∃ kb, w.heap.size + 1 = kb := ⟨_, rfl⟩; obtain ⟨rb, hrb⟩ : ∃ rb, w.heap.size = rb := ⟨_, rfl⟩; have HRB := Lib.hid hrb; rw [hkb] at Z2 HSS ⊢; rw [hrb] at Z1 HSS HB0 r0 ⊢; clear hkb hrb
  go_wp2_with fail
  go_at_call 69
  refine HSS.out.mono ?_
  rintro e w3 ⟨rfl, hb⟩; have HB3 := Lib.hid hb; have Z13 := Lib.hid (Z1.out.next hb Z1.out.lt); have Z23 := Lib.hid (Z2.out.next hb Z2.out.lt); have HH3 := Lib.hid (HH.out.next hb); obtain ⟨p, hp⟩ : ∃ p, befK l k = p := ⟨_, rfl⟩; have HPE := Lib.hid hp
  have hple : p ≤ l.length := by rw [← hp]; exact befK_le l k
  rw [hp]; have r0 := Z13.out.cell 0; have k0 := Z23.out.cell 0; have k1 := Z23.out.cell 1; have k2 := Z23.out.cell 2; have k3 := Z23.out.cell 3; simp only [qB, qC, qD] at r0 k0 k1 k2 k3; clear hb hp HSS
  by_cases hpl : p < l.length
  · have j1 : decide ((p : Int) < (l.length : Int)) = true := decide_eq_true (by omega)
    have j1b : decide (p < l.length) = true := decide_eq_true hpl
    have j2 : (0 : Int) ≤ (p : Int) := by omega
    have j3 : (p : Int) < (l.length : Int) := by omega
    obtain ⟨xb, xo, u1, u2, rfl, hxb, _, _, y0, y1, y2, y3, _, _⟩ := RdAc.piece HH3.out hpl; have HLI := Lib.hid (HRR.out l[p] (List.getElem_mem hpl))
    have HHK := Lib.hid (show hasK l k = decide (cmpK l[p].key k = 0) by
      unfold hasK
      rw [HPE.out, List.getElem?_eq_getElem hpl]
      simp only
      rw [decide_eq_decide]
      exact cmpK_eq.symm)
    obtain ⟨a, ha⟩ : ∃ a, l[p] = a := ⟨_, rfl⟩; rw [ha] at y0 y1 y2 y3 HLI HHK; obtain ⟨ka, hka⟩ : ∃ ka, a.key = ka := ⟨_, rfl⟩; rw [hka] at y0 y1 y2 y3 HLI HHK; have HCY := Lib.hid (fun W => key_compare ka k W HLI.out hk); have HLT := Lib.hid (And.intro Z13.out.lt (And.intro Z23.out.lt hxb)); obtain ⟨bq, hbq⟩ : ∃ bq, decide (cmpK ka k = 0) = bq := ⟨_, rfl⟩; have HBQ := Lib.hid (HHK.out.trans hbq)
    have e1 : (cmpK ka k == 0) = bq := by rw [← hbq]; by_cases h : cmpK ka k = 0 <;> simp [h]
    clear ha hka hbq
    go_upto_region 2 with (fail)
    refine wp_region_noPanic ?_
    refine wp_region_held_drew (S := (fun (w' : World) => w'.cell? ⟨rb, 0, none⟩ = some (.slice (some ⟨xb, xo, none⟩) l.length c) ∧ w'.cell? ⟨kb, 0, none⟩ = some (.int .i64 k.tick) ∧ w'.cell? ⟨kb, 1, none⟩ = some (.int .i64 k.cls) ∧ w'.cell? ⟨kb, 2, none⟩ = some (.int .i64 k.num) ∧ w'.cell? ⟨kb, 3, none⟩ = some (.string (bs k.lin)) ∧ w'.cell? ⟨xb, xo + p * 6, none⟩ = some (.int .i64 ka.tick) ∧ w'.cell? ⟨xb, xo + p * 6 + 1, none⟩ = some (.int .i64 ka.cls) ∧ w'.cell? ⟨xb, xo + p * 6 + 2, none⟩ = some (.int .i64 ka.num) ∧ w'.cell? ⟨xb, xo + p * 6 + 3, none⟩ = some (.string (bs ka.lin)))) (by kernel_rfl) ?_ (fun hHeld => ?_)
    · exact ⟨r0, k0, k1, k2, k3, y0, y1, y2, y3⟩
    refine tk (v := ?_) 0 rfl (by kernel_rfl) (fun _ _ _ h => h) ?_ hHeld ?_; rotate_left
    · (intro w h; (try dsimp only at h); go_simp; try with_reducible rfl)
    try simp only [Act.put, pB, pC, pD]
    refine tk (v := ?_) 1 rfl (by kernel_rfl) (fun _ _ _ h => h) ?_ hHeld ?_; rotate_left
    · (intro w h; (try dsimp only at h); go_simp; try with_reducible rfl)
    try simp only [Act.put, pB, pC, pD]
    refine tk (v := ?_) 2 rfl (by kernel_rfl) (fun _ _ _ h => h) ?_ hHeld ?_; rotate_left
    · (intro w h; (try dsimp only at h); go_simp; try with_reducible rfl)
    try simp only [Act.put, pB, pC, pD]
    refine tk (v := ?_) 3 rfl (by kernel_rfl) (fun _ _ _ h => h) ?_ hHeld ?_; rotate_left
    · (intro w h; (try dsimp only at h); go_simp; try with_reducible rfl)
    try simp only [Act.put, pB, pC, pD]
    refine tk (v := ?_) 4 rfl (by kernel_rfl) (fun _ _ _ h => h) ?_ hHeld ?_; rotate_left
    · (intro w h; (try dsimp only at h); go_simp; try with_reducible rfl)
    try simp only [Act.put, pB, pC, pD]
    refine tk (v := ?_) 5 rfl (by kernel_rfl) (fun _ _ _ h => h) ?_ hHeld ?_; rotate_left
    · (intro w h; (try dsimp only at h); go_simp; try with_reducible rfl)
    try simp only [Act.put, pB, pC, pD]
    refine tk (v := ?_) 6 rfl (by kernel_rfl) (fun _ _ _ h => h) ?_ hHeld ?_; rotate_left
    · (intro w h; (try dsimp only at h); go_simp; try with_reducible rfl)
    try simp only [Act.put, pB, pC, pD]
    refine tk (v := ?_) 7 rfl (by kernel_rfl) (fun _ _ _ h => h) ?_ hHeld ?_; rotate_left
    · (intro w h; (try dsimp only at h); go_simp; try with_reducible rfl)
    try simp only [Act.put, pB, pC, pD]
    refine tk (v := ?_) 8 rfl (by kernel_rfl) (fun _ _ _ h => h) ?_ hHeld ?_; rotate_left
    · (intro w h; (try dsimp only at h); go_simp; try with_reducible rfl)
    try simp only [Act.put, pB, pC, pD]
    refine tk (v := ?_) 9 rfl (by kernel_rfl) (fun _ _ _ h => h) ?_ hHeld ?_; rotate_left
    · (intro w h; (try dsimp only at h); go_simp; try with_reducible rfl)
    try simp only [Act.put, pB, pC, pD]
    refine tk (v := ?_) 10 rfl (by kernel_rfl) (fun _ _ _ h => h) ?_ hHeld ?_; rotate_left
    · (intro w h; (try dsimp only at h); go_simp; try with_reducible rfl)
    try simp only [Act.put, pB, pC, pD]
    refine tk (v := ?_) 11 rfl (by kernel_rfl) (fun _ _ _ h => h) ?_ hHeld ?_; rotate_left
    · (intro w h; (try dsimp only at h); go_simp; try with_reducible rfl)
    try simp only [Act.put, pB, pC, pD]
    refine tk (v := ?_) 12 rfl (by kernel_rfl) (fun _ _ _ h => h) ?_ hHeld ?_; rotate_left
    · (intro w h; (try dsimp only at h); go_simp; try with_reducible rfl)
    try simp only [Act.put, pB, pC, pD]
    refine tk (v := ?_) 13 rfl (by kernel_rfl) (fun _ _ _ h => h) ?_ hHeld ?_; rotate_left
    · (intro w h; (try dsimp only at h); go_simp; try with_reducible rfl)
    try simp only [Act.put, pB, pC, pD]
    refine wpAnyH_ready (rs := [14]) (by kernel_rfl) (by simp) ?_; refine AllReadyH.cons rfl (fun K hK => ?_) AllReadyH.nil; go_simp; refine (HCY.out _).mono ?_; rintro e w6 ⟨rfl, hb⟩; have B6 := Lib.hid ((Below.refl w3.heap.size w3).drew.trans hb); have r6 := (B6.out.cell (p := ⟨rb, 0, none⟩) HLT.out.1).trans r0; have a0 := (B6.out.cell (p := ⟨kb, 0, none⟩) HLT.out.2.1).trans k0; have a1 := (B6.out.cell (p := ⟨kb, 1, none⟩) HLT.out.2.1).trans k1; have a2 := (B6.out.cell (p := ⟨kb, 2, none⟩) HLT.out.2.1).trans k2; have a3 := (B6.out.cell (p := ⟨kb, 3, none⟩) HLT.out.2.1).trans k3; have c0 := (B6.out.cell (p := ⟨xb, xo + p * 6, none⟩) HLT.out.2.2).trans y0; have c1 := (B6.out.cell (p := ⟨xb, xo + p * 6 + 1, none⟩) HLT.out.2.2).trans y1; have c2 := (B6.out.cell (p := ⟨xb, xo + p * 6 + 2, none⟩) HLT.out.2.2).trans y2; have c3 := (B6.out.cell (p := ⟨xb, xo + p * 6 + 3, none⟩) HLT.out.2.2).trans y3; clear hb
    try (go_wp2_with fail)
    refine hK.out _ _ ?_ (fun hNew => ?_)
    · exact ⟨r6, a0, a1, a2, a3, c0, c1, c2, c3⟩
    clear hK K hHeld; have hHeld := hNew; clear hNew; try simp only [Act.put, pB, pC, pD]
    refine tk (v := ?_) 15 rfl (by kernel_rfl) (fun _ _ _ h => h) ?_ hHeld ?_; rotate_left
    · (intro w h; (try dsimp only at h); go_simp; try with_reducible rfl)
    try simp only [Act.put, pB, pC, pD]
    refine tk (v := ?_) 16 rfl (by kernel_rfl) (fun _ _ _ h => h) ?_ hHeld ?_; rotate_left
    · (intro w h; (try dsimp only at h); go_simp; try with_reducible rfl)
    try simp only [Act.put, pB, pC, pD]
    refine tk (v := ?_) 17 rfl (by kernel_rfl) (fun _ _ _ h => h) ?_ hHeld ?_; rotate_left
    · (intro w h; (try dsimp only at h); go_simp; try with_reducible rfl)
    try simp only [Act.put, pB, pC, pD]
    refine tk (v := ?_) 18 rfl (by kernel_rfl) (fun _ _ _ h => h) ?_ hHeld ?_; rotate_left
    · (intro w h; (try dsimp only at h); go_simp; try with_reducible rfl)
    try simp only [Act.put, pB, pC, pD]
    refine wpAnyH_done (by kernel_rfl) ?_ _; clear hHeld
    try simp only [List.getElem_toArray, List.getElem_cons_zero, List.getElem_cons_succ, Act.put, pB, pC, pD]
    refine NoPanic.normal ?_
    go_wp2_with fail
    go_ret2
    exact ⟨by rw [HBQ.out, HPE.out]; rfl, by rw [HRB.out]; exact HB0.out.trans ((HB3.out.trans (B6.out.mono HB3.out.size)).mono (HRB.out ▸ HB0.out.size))⟩
  · have j1 : decide ((p : Int) < (l.length : Int)) = false := decide_eq_false (by omega)
    have j1b : decide (p < l.length) = false := decide_eq_false hpl
    have HHK := Lib.hid (show hasK l k = false by
      unfold hasK
      rw [HPE.out, List.getElem?_eq_none (by omega)])
    go_upto_region 2 with (fail)
    go_quiet (fail)
    go_wp2_with fail
    go_ret2
    exact ⟨by rw [HHK.out, HPE.out]; rfl, by rw [HRB.out]; exact HB0.out.trans ((below_drewN HB3.out nq).mono (HRB.out ▸ HB0.out.size))⟩
set_option maxRecDepth 100000 in
set_option maxHeartbeats 4000000 in
theorem xwriter_is {w : World} {v : Value} {B tb : Nat} {l : List Ac} (n : Nm) {k : Ky} (h : RdAc w v l) (hm : WRows w B tb (wls l)) (hp : KP l) (hl : l.length ≤ 35) (hk : k.lin ∈ lin5) (hr : ∀ a ∈ l, AcR a) (ho : ∀ a ∈ l, okAc a = true) :
    Calls Tryz.prog 53 #[.agg #[v, .map (some tb)], nmV n, kyV k] w fun e w' => e = .returned (.int .i64 (lwr l n k)) ∧ Below w.heap.size w w' := by
  obtain ⟨A, c, rfl, hc⟩ := RowRd.form h; have b1 := (Below.refl w.heap.size w).alloc (Nat.le_refl _) (.cells #[.slice A l.length c, .map (some tb)] 82); have b2 := b1.alloc b1.size (.cells #[.int .i64 n.kind, .string (bs n.owner), .int .i64 n.num, .int .i64 n.idx, .string (bs n.text)] 45); have b3 := b2.alloc b2.size (.cells #[.int .i64 k.tick, .int .i64 k.cls, .int .i64 k.num, .string (bs k.lin)] 35); have z1 := ((Blk.new w 82 #[.slice A l.length c, .map (some tb)]).alloc (.cells #[.int .i64 n.kind, .string (bs n.owner), .int .i64 n.num, .int .i64 n.idx, .string (bs n.text)] 45)).alloc (.cells #[.int .i64 k.tick, .int .i64 k.cls, .int .i64 k.num, .string (bs k.lin)] 35); have z2 := (Blk.newE (w.alloc (.cells #[.slice A l.length c, .map (some tb)] 82)) 45 #[.int .i64 n.kind, .string (bs n.owner), .int .i64 n.num, .int .i64 n.idx, .string (bs n.text)] (w.heap.size + 1) (by simp)).alloc (.cells #[.int .i64 k.tick, .int .i64 k.cls, .int .i64 k.num, .string (bs k.lin)] 35); have z3 := Blk.newE ((w.alloc (.cells #[.slice A l.length c, .map (some tb)] 82)).alloc (.cells #[.int .i64 n.kind, .string (bs n.owner), .int .i64 n.num, .int .i64 n.idx, .string (bs n.text)] 45)) 35 #[.int .i64 k.tick, .int .i64 k.cls, .int .i64 k.num, .string (bs k.lin)] (w.heap.size + 1 + 1) (by simp); have HB0 := Lib.hid b3; have Z1 := Lib.hid z1; have Z2 := Lib.hid z2; have Z3 := Lib.hid z3; have HS := Lib.hid (rsearch_is (m := .map (some tb)) (h.next b3) ⟨_, rfl⟩ hp (by omega) hk (fun a ha => (hr a ha).1.2.1)); have HM := Lib.hid (hm.next b3); have HSP := Lib.hid (wls_asc (fun a ha => okAc_w (ho a ha)) n); have HWL := Lib.hid (wls_len (fun a ha => (hr a ha).2.2.2.2) (by omega) n)
  have HWI := Lib.hid (show wrI (wls l n) (befK l k : Nat) = lwr l n k by
    rw [wrI_wrB (fun a ha => okAc_w (ho a ha))]
    unfold lwr
    have := befK_le l k
    congr 1
    omega)
  have c0 := z1.cell 0; have c1 := z1.cell 1; have k0 := z3.cell 0; have k1 := z3.cell 1; have k2 := z3.cell 2; have k3 := z3.cell 3; simp only [qB, qC, qD] at c0 c1 k0 k1 k2 k3
  unfold kyV at HS ⊢
  unfold nmV nmA
  clear h hm b1 b2 b3 z1 z2 z3 hp hr ho
  go_enter Tryz.func53, Tryz.ntmps53
  go_upto_region 1 with (fail)
  generalize ((w.alloc (.cells #[.slice A l.length c, .map (some tb)] 82)).alloc (.cells #[.int .i64 n.kind, .string (bs n.owner), .int .i64 n.num, .int .i64 n.idx, .string (bs n.text)] 45)).alloc (.cells #[.int .i64 k.tick, .int .i64 k.cls, .int .i64 k.num, .string (bs k.lin)] 35) = w3 at *; obtain ⟨kb, hkb⟩ : ∃ kb, w.heap.size + 1 + 1 = kb := ⟨_, rfl⟩; rw [hkb] at Z3 k0 k1 k2 k3 ⊢; obtain ⟨nb, hnb⟩ : ∃ nb, w.heap.size + 1 = nb := ⟨_, rfl⟩; rw [hnb] at Z2 ⊢; clear hkb hnb
  go_wp2_with fail
  go_at_call 50
  refine HS.out.mono ?_
  rintro e w4 ⟨rfl, hb⟩; have B4 := Lib.hid (HB0.out.trans (hb.mono HB0.out.size)); have M4 := Lib.hid (HM.out.next hb); have c1 := (Z1.out.next hb Z1.out.lt).cell 1; have Z24 := Z2.out.next hb Z2.out.lt; have n0 := Z24.cell 0; have n1 := Z24.cell 1; have n2 := Z24.cell 2; have n3 := Z24.cell 3; have n4 := Z24.cell 4; simp only [qB, qC, qD] at c1 n0 n1 n2 n3 n4; obtain ⟨ents, v, hma, hve, hof, _⟩ := M4.out.at_ n; obtain ⟨At, ct, hvs, hct⟩ := own_len hof.1; have hlook := map_look hma n Tryz.underlying80 (zeroinC w4); rw [← hve, hvs] at hlook; rw [hvs] at hof
  unfold nmV nmA at hlook
  obtain ⟨p, hpp⟩ : ∃ p, befK l k = p := ⟨_, rfl⟩; rw [hpp] at HWI ⊢; obtain ⟨tl, htl⟩ : ∃ tl, wls l n = tl := ⟨_, rfl⟩; rw [htl] at hlook hof hct HSP HWL HWI; have HOF := Lib.hid hof; have htl1000 : tl.length ≤ 1000 := HWL.out; clear hb Z24 HS hma hve hof hvs hpp htl k0 k1 k2 k3 c0
  go_upto_region 3 with (fail)
  clear hlook n0 n1 n2 n3 n4 c1; have HSI := Lib.hid (search_ints (p : Int) (show RdIn w4 (.slice At tl.length ct) tl from Rd.of_own HOF.out.1) HSP.out (by omega)); obtain ⟨q, hq⟩ : ∃ q, cntL tl (p : Int) = q := ⟨_, rfl⟩; rw [hq] at HSI; have HQ := Lib.hid hq
  have hql : q ≤ tl.length := by rw [← hq]; exact cntL_le tl (p : Int)
  clear hq
  go_wp2_with fail
  go_at_call 65
  refine HSI.out.mono ?_
  rintro e w5 ⟨rfl, hb⟩; have B5 := Lib.hid (B4.out.trans (hb.mono B4.out.size)); have RD5 := Lib.hid (show RdIn w5 (.slice At tl.length ct) tl from RdP.next (show RdIn w4 (.slice At tl.length ct) tl from Rd.of_own HOF.out.1) hb); clear hb HSI
  cases q with
  | zero =>
    have HR := Lib.hid (show lwr l n k = -1 by rw [← HWI.out]; unfold wrI; rw [if_pos HQ.out])
    go_wp2_with fail
    go_ret
    exact ⟨by rw [HR.out]; rfl, B5.out⟩
  | succ c1 =>
    have HR := Lib.hid (show lwr l n k = tl[c1]'(by omega) by
      rw [← HWI.out]
      unfold wrI
      rw [if_neg (by rw [HQ.out]; omega), HQ.out, Nat.add_sub_cancel, List.getD_eq_getElem?_getD, List.getElem?_eq_getElem (by omega)]
      rfl)
    have hkl : c1 < tl.length := by omega
    obtain ⟨xb, xo, rfl, hxb, y0⟩ := RdIn_piece RD5.out hkl; obtain ⟨x, hx⟩ : ∃ x, tl[c1] = x := ⟨_, rfl⟩; rw [hx] at y0 HR; have e1 : decide ((0 : Int) < ((c1 + 1 : Nat) : Int)) = true := decide_eq_true (by omega)
    have e2 : ((c1 + 1 : Nat) : Int) - 1 = (c1 : Int) := by omega
    have e3 : IntKind.i64.wrap (c1 : Int) = (c1 : Int) := IntWalk.i64_in _ (by omega)
    have e4 : (0 : Int) ≤ (c1 : Int) := by omega
    have e5 : (c1 : Int) < (tl.length : Int) := by omega
    obtain ⟨cn, hcn⟩ : ∃ z : Int, ((c1 + 1 : Nat) : Int) = z := ⟨_, rfl⟩; rw [hcn] at e1 e2 ⊢; clear hcn hx
    go_wp2_with fail
    go_ret
    exact ⟨by rw [HR.out]; rfl, B5.out⟩
end Go.Proofs.YtmjkcanjfjfkfaaGreat
namespace Go.Proofs.YtmjkcanjfjfkfaaGreat
open Go.RowKit
set_option linter.unusedSimpArgs false
set_option linter.unusedVariables false
attribute [local go_sem ↓] Go.wp_at_zero Go.wp_at_succ
open Go.MapKept Go.ChangeMaps
theorem chOf_at {ws : List Ch} (ho : ordCh ws = true) {n : Nm} {q : Nat} (hq : q < ws.length) (hn : ws[q].name = n) : (ws.find? fun c => decide (c.name = n)).getD ch0 = ws[q] := by
  have hp := (ord_nodup ho).1
  cases hf : ws.find? fun c => decide (c.name = n) with
  | none =>
    have := List.find?_eq_none.1 hf ws[q] (List.getElem_mem hq)
    simp [hn] at this
  | some c =>
    have h1 := List.find?_some hf; have h2 := List.mem_of_find?_eq_some hf; obtain ⟨j, hj, rfl⟩ := List.getElem_of_mem h2; have h3 := of_decide_eq_true h1
    simp only [Option.getD_some]
    rcases Nat.lt_trichotomy j q with h | h | h
    · have := List.pairwise_iff_getElem.1 hp j q hj hq h
      rw [h3, hn, cmpN_eq.2 rfl] at this
      omega
    · subst h; rfl
    · have := List.pairwise_iff_getElem.1 hp q j hq hj h
      rw [h3, hn, cmpN_eq.2 rfl] at this
      omega
theorem chOf_no {ws : List Ch} {n : Nm} (h : ∀ j (hj : j < ws.length), ws[j].name ≠ n) : (ws.find? fun c => decide (c.name = n)).getD ch0 = ch0 := by
  have : ws.find? (fun c => decide (c.name = n)) = none := by
    rw [List.find?_eq_none]
    intro c hc
    obtain ⟨j, hj, rfl⟩ := List.getElem_of_mem hc
    simpa using h j hj
  rw [this]
  rfl
theorem set7z_ {w : World} {g : Nat} {t : TypeId} {z0 z1 z2 z3 z4 z5 z6 : Value} (v0 v1 v2 v3 v4 v5 v6 : Value) (h : Blk w g t #[z0, z1, z2, z3, z4, z5, z6]) : Blk (((((((w.setCell ⟨g, 0, none⟩ (v0)).setCell ⟨g, 1, none⟩ (v1)).setCell ⟨g, 2, none⟩ (v2)).setCell ⟨g, 3, none⟩ (v3)).setCell ⟨g, 4, none⟩ (v4)).setCell ⟨g, 5, none⟩ (v5)).setCell ⟨g, 6, none⟩ (v6)) g t #[v0, v1, v2, v3, v4, v5, v6] := by
  have := (((((((h.set_ 0 v0).set_ 1 v1).set_ 2 v2).set_ 3 v3).set_ 4 v4).set_ 5 v5).set_ 6 v6)
  simpa using this
theorem low7z_ {B : Nat} {w0 w : World} {g : Nat} (v0 v1 v2 v3 v4 v5 v6 : Value) (h : Below B w0 w) (hg : B ≤ g) : Below B w0 (((((((w.setCell ⟨g, 0, none⟩ (v0)).setCell ⟨g, 1, none⟩ (v1)).setCell ⟨g, 2, none⟩ (v2)).setCell ⟨g, 3, none⟩ (v3)).setCell ⟨g, 4, none⟩ (v4)).setCell ⟨g, 5, none⟩ (v5)).setCell ⟨g, 6, none⟩ (v6)) :=
  (((((((h.setCell (p := ⟨g, 0, none⟩) hg v0).setCell (p := ⟨g, 1, none⟩) hg v1).setCell (p := ⟨g, 2, none⟩) hg v2).setCell (p := ⟨g, 3, none⟩) hg v3).setCell (p := ⟨g, 4, none⟩) hg v4).setCell (p := ⟨g, 5, none⟩) hg v5).setCell (p := ⟨g, 6, none⟩) hg v6)
theorem set4z_ {w : World} {g : Nat} {t : TypeId} {z0 z1 z2 z3 : Value} (v0 v1 v2 v3 : Value) (h : Blk w g t #[z0, z1, z2, z3]) : Blk ((((w.setCell ⟨g, 0, none⟩ (v0)).setCell ⟨g, 1, none⟩ (v1)).setCell ⟨g, 2, none⟩ (v2)).setCell ⟨g, 3, none⟩ (v3)) g t #[v0, v1, v2, v3] := by
  have := ((((h.set_ 0 v0).set_ 1 v1).set_ 2 v2).set_ 3 v3)
  simpa using this
theorem low4z_ {B : Nat} {w0 w : World} {g : Nat} (v0 v1 v2 v3 : Value) (h : Below B w0 w) (hg : B ≤ g) : Below B w0 ((((w.setCell ⟨g, 0, none⟩ (v0)).setCell ⟨g, 1, none⟩ (v1)).setCell ⟨g, 2, none⟩ (v2)).setCell ⟨g, 3, none⟩ (v3)) :=
  ((((h.setCell (p := ⟨g, 0, none⟩) hg v0).setCell (p := ⟨g, 1, none⟩) hg v1).setCell (p := ⟨g, 2, none⟩) hg v2).setCell (p := ⟨g, 3, none⟩) hg v3)
def wnRel (ws : List Ch) (n : Nm) (w : World) (nb cb : Nat) (i : Value) (wr : World) : Prop := ∃ (j : Nat) (z : Int), z = (j : Int) - 1 ∧ j ≤ ws.length ∧ i = .int .i64 z ∧ (∀ q (hq : q < ws.length), j ≤ q → ws[q].name ≠ n) ∧ Blk wr nb 45 #[.int .i64 n.kind, .string (bs n.owner), .int .i64 n.num, .int .i64 n.idx, .string (bs n.text)] ∧ Blk wr cb 92 #[.int .i64 0, .string ⟨#[]⟩, .int .i64 0, .int .i64 0, .string ⟨#[]⟩, .string ⟨#[]⟩, .bool false] ∧ Below w.heap.size w wr
set_option maxRecDepth 100000 in
set_option maxHeartbeats 4000000 in
theorem written_is {w : World} {v m : Value} {l : List Ac} (n : Nm) {i : Nat} (h : RdAc w v l) (hm : ∃ b, m = .map b) (hi : i < l.length) (hl : l.length ≤ 35) (hr : ∀ a ∈ l, AcR a) (ho : ∀ a ∈ l, okAc a = true) :
    Calls Tryz.prog 82 #[.agg #[v, m], nmV n, .int .i64 i] w fun e w' => e = .returned (chV (chOf l[i] n)) ∧ Below w.heap.size w w' := by
  obtain ⟨A, c, rfl, hc⟩ := RowRd.form h; obtain ⟨mb, rfl⟩ := hm; have b0 := Below.refl w.heap.size w; have b1 := b0.alloc b0.size (.cells #[.slice A l.length c, .map mb] 82); have b2 := b1.alloc b1.size (.cells #[.int .i64 n.kind, .string (bs n.owner), .int .i64 n.num, .int .i64 n.idx, .string (bs n.text)] 45); have b3 := b2.alloc b2.size (.cells #[.int .i64 0, .string ⟨#[]⟩, .int .i64 0, .int .i64 0, .string ⟨#[]⟩, .string ⟨#[]⟩, .bool false] 92); have z0 := (((Blk.new w 82 #[.slice A l.length c, .map mb]).alloc (.cells #[.int .i64 n.kind, .string (bs n.owner), .int .i64 n.num, .int .i64 n.idx, .string (bs n.text)] 45)).alloc (.cells #[.int .i64 0, .string ⟨#[]⟩, .int .i64 0, .int .i64 0, .string ⟨#[]⟩, .string ⟨#[]⟩, .bool false] 92)); have z1 := ((Blk.newE (w.alloc (.cells #[.slice A l.length c, .map mb] 82)) 45 #[.int .i64 n.kind, .string (bs n.owner), .int .i64 n.num, .int .i64 n.idx, .string (bs n.text)] (w.heap.size + 1) (by simp)).alloc (.cells #[.int .i64 0, .string ⟨#[]⟩, .int .i64 0, .int .i64 0, .string ⟨#[]⟩, .string ⟨#[]⟩, .bool false] 92)); have z2 := (Blk.newE ((w.alloc (.cells #[.slice A l.length c, .map mb] 82)).alloc (.cells #[.int .i64 n.kind, .string (bs n.owner), .int .i64 n.num, .int .i64 n.idx, .string (bs n.text)] 45)) 92 #[.int .i64 0, .string ⟨#[]⟩, .int .i64 0, .int .i64 0, .string ⟨#[]⟩, .string ⟨#[]⟩, .bool false] (w.heap.size + 1 + 1) (by simp)); obtain ⟨xb, xo, u1, u2, hbe, hxb, hr1, hr2, _, _, _, _, _, y5⟩ := RdAc.piece h hi; subst hbe; obtain ⟨B2, d2, hu2, _⟩ := RdP.form hr2; subst hu2; replace y5 := (b3.cell (p := ⟨xb, xo + i * 6 + 5, none⟩) hxb).trans y5; have HB0 := Lib.hid b3; have Z1 := Lib.hid z1; have Z2 := Lib.hid z2; have HW := Lib.hid hr2; have hwl := (hr l[i] (List.getElem_mem hi)).2.2.2.2; have HOC := Lib.hid (okAc_w (ho l[i] (List.getElem_mem hi))); have r0 := z0.cell 0; simp only [qB, qC, qD] at r0
  have i1 : (0 : Int) ≤ (i : Int) := by omega
  have i2 : (i : Int) < (l.length : Int) := by omega
  obtain ⟨D, hD⟩ : ∃ D, chOf l[i] n = D := ⟨_, rfl⟩; have HD := Lib.hid (show ((l[i].writes.find? fun c => decide (c.name = n)).getD ch0) = D from hD); rw [hD]; obtain ⟨ws, hws⟩ : ∃ ws, l[i].writes = ws := ⟨_, rfl⟩; rw [hws] at y5 HW hwl HOC HD
  unfold nmV nmA
  clear h hr ho b0 b1 b2 b3 z0 z1 z2 hr1 hr2 hD hws
  go_enter Tryz.func82, Tryz.ntmps82
  go_upto_region 1 with (fail)
  generalize (((w.alloc (.cells #[.slice (some ⟨xb, xo, none⟩) l.length c, .map mb] 82)).alloc (.cells #[.int .i64 n.kind, .string (bs n.owner), .int .i64 n.num, .int .i64 n.idx, .string (bs n.text)] 45)).alloc (.cells #[.int .i64 0, .string ⟨#[]⟩, .int .i64 0, .int .i64 0, .string ⟨#[]⟩, .string ⟨#[]⟩, .bool false] 92)) = w3 at *; obtain ⟨cb, hcb⟩ : ∃ cb, w.heap.size + 1 + 1 = cb := ⟨_, rfl⟩; have HCB := Lib.hid (show w.heap.size ≤ cb by omega); rw [hcb] at Z2 ⊢; obtain ⟨nb, hnb⟩ : ∃ nb, w.heap.size + 1 = nb := ⟨_, rfl⟩; rw [hnb] at Z1 ⊢; clear hcb hnb; obtain ⟨zz, hzz⟩ : ∃ zz : Int, zz = (ws.length : Int) - 1 := ⟨_, rfl⟩; have H0 : Hid (wnRel ws n w nb cb (.int .i64 zz) w3) := Lib.hid ⟨ws.length, zz, hzz, Nat.le_refl _, rfl, fun q h1 h2 => by omega, Z1.out, Z2.out, HB0.out⟩
  have hwz : IntKind.i64.wrap ((ws.length : Int) - 1) = zz := by rw [IntWalk.i64_in _ (by omega), hzz]
  clear Z1 Z2 hzz
  go_upto_region 3 with (fail)
  clear r0 y5 hwz
  go_wp2_with fail
  go_loopw [8] (fun i wr => wnRel ws n w nb cb i wr) (fun i _ => (intOf i + 1).toNat)
  case atStart => exact H0.out
  case round =>
    clear H0; obtain ⟨j, z, hz, hj, rfl, hno, hz1, hz2, hB⟩ := hrel; have HNO := Lib.hid hno; have Z1 := Lib.hid hz1; have Z2 := Lib.hid hz2; have HB := Lib.hid hB; clear hno hz1 hz2 hB
    cases j with
    | zero =>
      have j1 : decide (0 ≤ z) = false := decide_eq_false (by omega); have HDE := Lib.hid (show D = ch0 by rw [← HD.out]; exact chOf_no fun q hq => HNO.out q hq (Nat.zero_le _)); have q0 := Z2.out.cell 0; have q1 := Z2.out.cell 1; have q2 := Z2.out.cell 2; have q3 := Z2.out.cell 3; have q4 := Z2.out.cell 4; have q5 := Z2.out.cell 5; have q6 := Z2.out.cell 6; simp only [qB, qC, qD] at q0 q1 q2 q3 q4 q5 q6; have f0 := Z2.out.frozen 0; have f1 := Z2.out.frozen 1; have f2 := Z2.out.frozen 2; have f3 := Z2.out.frozen 3; have f4 := Z2.out.frozen 4; have f5 := Z2.out.frozen 5; have f6 := Z2.out.frozen 6; have ZE := Lib.hid (set7z_ (.int .i64 0) (.string ⟨#[]⟩) (.int .i64 0) (.int .i64 0) (.string ⟨#[]⟩) (.string ⟨#[]⟩) (.bool false) Z2.out); have BE := Lib.hid (low7z_ (.int .i64 0) (.string ⟨#[]⟩) (.int .i64 0) (.int .i64 0) (.string ⟨#[]⟩) (.string ⟨#[]⟩) (.bool false) HB.out HCB.out); clear hz
      go_wp2_with fail
      clear q0 q1 q2 q3 q4 q5 q6 f0 f1 f2 f3 f4 f5 f6; have q0 := ZE.out.cell 0; have q1 := ZE.out.cell 1; have q2 := ZE.out.cell 2; have q3 := ZE.out.cell 3; have q4 := ZE.out.cell 4; have q5 := ZE.out.cell 5; have q6 := ZE.out.cell 6; simp only [qB, qC, qD] at q0 q1 q2 q3 q4 q5 q6; generalize (((((((wr.setCell ⟨cb, 0, none⟩ (.int .i64 0)).setCell ⟨cb, 1, none⟩ (.string ⟨#[]⟩)).setCell ⟨cb, 2, none⟩ (.int .i64 0)).setCell ⟨cb, 3, none⟩ (.int .i64 0)).setCell ⟨cb, 4, none⟩ (.string ⟨#[]⟩)).setCell ⟨cb, 5, none⟩ (.string ⟨#[]⟩)).setCell ⟨cb, 6, none⟩ (.bool false)) = W9 at *
      exact bodyPost_ret (v := .agg #[.int .i64 0, .string ⟨#[]⟩, .int .i64 0, .int .i64 0, .string ⟨#[]⟩, .string ⟨#[]⟩, .bool false]) (by simp [results, Tryz.results82, go_sem, q0, q1, q2, q3, q4, q5, q6]) rfl ⟨by rw [HDE.out]; rfl, BE.out⟩
    | succ q =>
      have hzq : z = (q : Int) := by omega
      subst hzq; have j1 : decide ((0 : Int) ≤ (q : Int)) = true := decide_eq_true (by omega)
      have hql : q < ws.length := by omega
      have j2 : (0 : Int) ≤ (q : Int) := by omega
      have j3 : (q : Int) < (ws.length : Int) := by omega
      obtain ⟨yb, yo, hbe2, hyb, v0, v1, v2, v3, v4, v5, v6⟩ := RdCh.piece HW.out hql; subst hbe2; replace v0 := (HB.out.cell (p := ⟨yb, yo + q * 7, none⟩) hyb).trans v0; replace v1 := (HB.out.cell (p := ⟨yb, yo + q * 7 + 1, none⟩) hyb).trans v1; replace v2 := (HB.out.cell (p := ⟨yb, yo + q * 7 + 2, none⟩) hyb).trans v2; replace v3 := (HB.out.cell (p := ⟨yb, yo + q * 7 + 3, none⟩) hyb).trans v3; replace v4 := (HB.out.cell (p := ⟨yb, yo + q * 7 + 4, none⟩) hyb).trans v4; replace v5 := (HB.out.cell (p := ⟨yb, yo + q * 7 + 5, none⟩) hyb).trans v5; replace v6 := (HB.out.cell (p := ⟨yb, yo + q * 7 + 6, none⟩) hyb).trans v6; have n0 := Z1.out.cell 0; have n1 := Z1.out.cell 1; have n2 := Z1.out.cell 2; have n3 := Z1.out.cell 3; have n4 := Z1.out.cell 4; simp only [qB, qC, qD] at n0 n1 n2 n3 n4; obtain ⟨p, hp⟩ : ∃ p, ws[q] = p := ⟨_, rfl⟩; have HP := Lib.hid hp; rw [hp] at v0 v1 v2 v3 v4 v5 v6; have HQL := Lib.hid hql; clear hz hp hyb
      by_cases hpn : p.name = n
      · have he := fun W => eqlNm p.name n true (by simp [hpn]) W
        unfold nmV nmA at he
        have HDE := Lib.hid (show D = p by rw [← HD.out, ← HP.out]; exact chOf_at HOC.out HQL.out (by rw [HP.out]; exact hpn)); clear hpn
        go_wp2_with fail
        go_quiet (fail)
        have ZQ := Lib.hid (Z2.out.next (below_drewN (Below.refl _ wr) nq) Z2.out.lt); have BQ := Lib.hid (HB.out.trans ((below_drewN (Below.refl _ wr) nq).mono HB.out.size)); have v0 : (wr.drewN nq).cell? ⟨yb, yo + q * 7, none⟩ = some (.int .i64 p.name.kind) := v0; have v1 : (wr.drewN nq).cell? ⟨yb, yo + q * 7 + 1, none⟩ = some (.string (bs p.name.owner)) := v1; have v2 : (wr.drewN nq).cell? ⟨yb, yo + q * 7 + 2, none⟩ = some (.int .i64 p.name.num) := v2; have v3 : (wr.drewN nq).cell? ⟨yb, yo + q * 7 + 3, none⟩ = some (.int .i64 p.name.idx) := v3; have v4 : (wr.drewN nq).cell? ⟨yb, yo + q * 7 + 4, none⟩ = some (.string (bs p.name.text)) := v4; have v5 : (wr.drewN nq).cell? ⟨yb, yo + q * 7 + 5, none⟩ = some (.string (bs p.value)) := v5; have v6 : (wr.drewN nq).cell? ⟨yb, yo + q * 7 + 6, none⟩ = some (.bool p.absent) := v6; clear n0 n1 n2 n3 n4 he; generalize wr.drewN nq = w4 at *; have q0 := ZQ.out.cell 0; have q1 := ZQ.out.cell 1; have q2 := ZQ.out.cell 2; have q3 := ZQ.out.cell 3; have q4 := ZQ.out.cell 4; have q5 := ZQ.out.cell 5; have q6 := ZQ.out.cell 6; simp only [qB, qC, qD] at q0 q1 q2 q3 q4 q5 q6; have f0 := ZQ.out.frozen 0; have f1 := ZQ.out.frozen 1; have f2 := ZQ.out.frozen 2; have f3 := ZQ.out.frozen 3; have f4 := ZQ.out.frozen 4; have f5 := ZQ.out.frozen 5; have f6 := ZQ.out.frozen 6; have ZE := Lib.hid (set7z_ (.int .i64 p.name.kind) (.string (bs p.name.owner)) (.int .i64 p.name.num) (.int .i64 p.name.idx) (.string (bs p.name.text)) (.string (bs p.value)) (.bool p.absent) ZQ.out); have BE := Lib.hid (low7z_ (.int .i64 p.name.kind) (.string (bs p.name.owner)) (.int .i64 p.name.num) (.int .i64 p.name.idx) (.string (bs p.name.text)) (.string (bs p.value)) (.bool p.absent) BQ.out HCB.out)
        go_wp2_with fail
        clear v0 v1 v2 v3 v4 v5 v6; clear q0 q1 q2 q3 q4 q5 q6 f0 f1 f2 f3 f4 f5 f6; have q0 := ZE.out.cell 0; have q1 := ZE.out.cell 1; have q2 := ZE.out.cell 2; have q3 := ZE.out.cell 3; have q4 := ZE.out.cell 4; have q5 := ZE.out.cell 5; have q6 := ZE.out.cell 6; simp only [qB, qC, qD] at q0 q1 q2 q3 q4 q5 q6; generalize (((((((w4.setCell ⟨cb, 0, none⟩ (.int .i64 p.name.kind)).setCell ⟨cb, 1, none⟩ (.string (bs p.name.owner))).setCell ⟨cb, 2, none⟩ (.int .i64 p.name.num)).setCell ⟨cb, 3, none⟩ (.int .i64 p.name.idx)).setCell ⟨cb, 4, none⟩ (.string (bs p.name.text))).setCell ⟨cb, 5, none⟩ (.string (bs p.value))).setCell ⟨cb, 6, none⟩ (.bool p.absent)) = W9 at *
        exact bodyPost_ret (v := .agg #[.int .i64 p.name.kind, .string (bs p.name.owner), .int .i64 p.name.num, .int .i64 p.name.idx, .string (bs p.name.text), .string (bs p.value), .bool p.absent]) (by simp [results, Tryz.results82, go_sem, q0, q1, q2, q3, q4, q5, q6]) rfl ⟨by rw [HDE.out]; rfl, BE.out⟩
      · have he := fun W => eqlNm p.name n false (by simp [hpn]) W
        unfold nmV nmA at he
        have HPN := Lib.hid hpn; have w1 : IntKind.i64.wrap ((q : Int) - 1) = (q : Int) - 1 := IntWalk.i64_in _ (by omega); clear hpn
        go_wp2_with fail
        go_quiet (fail)
        have ZN := Lib.hid (Z1.out.next (below_drewN (Below.refl _ wr) nq) Z1.out.lt); have ZQ := Lib.hid (Z2.out.next (below_drewN (Below.refl _ wr) nq) Z2.out.lt); have BQ := Lib.hid (HB.out.trans ((below_drewN (Below.refl _ wr) nq).mono HB.out.size)); clear n0 n1 n2 n3 n4 v0 v1 v2 v3 v4 v5 v6 he; generalize wr.drewN nq = w4 at *
        go_wp2_with fail
        go_roundw
        case rel => exact ⟨q, (q : Int) - 1, rfl, by have := HQL.out; omega, by go_num, fun j hj hjk => by
          rcases Nat.eq_or_lt_of_le hjk with h | h
          · subst h; rw [HP.out]; exact HPN.out
          · exact HNO.out j hj h, ZN.out, ZQ.out, BQ.out⟩
        case measure => simp [intOf]
set_option maxHeartbeats 2000000 in
theorem differs_is {w : World} (a b : Ch) : Calls Tryz.prog 72 #[chV a, chV b] w fun e w' => e = .returned (.bool (difC a b)) ∧ Below w.heap.size w w' := by
  have b0 := Below.refl w.heap.size w; have b1 := b0.alloc b0.size (.cells #[.int .i64 a.name.kind, .string (bs a.name.owner), .int .i64 a.name.num, .int .i64 a.name.idx, .string (bs a.name.text), .string (bs a.value), .bool a.absent] 92); have b2 := b1.alloc b1.size (.cells #[.int .i64 b.name.kind, .string (bs b.name.owner), .int .i64 b.name.num, .int .i64 b.name.idx, .string (bs b.name.text), .string (bs b.value), .bool b.absent] 92); have z0 := ((Blk.new w 92 #[.int .i64 a.name.kind, .string (bs a.name.owner), .int .i64 a.name.num, .int .i64 a.name.idx, .string (bs a.name.text), .string (bs a.value), .bool a.absent]).alloc (.cells #[.int .i64 b.name.kind, .string (bs b.name.owner), .int .i64 b.name.num, .int .i64 b.name.idx, .string (bs b.name.text), .string (bs b.value), .bool b.absent] 92)); have z1 := (Blk.newE (w.alloc (.cells #[.int .i64 a.name.kind, .string (bs a.name.owner), .int .i64 a.name.num, .int .i64 a.name.idx, .string (bs a.name.text), .string (bs a.value), .bool a.absent] 92)) 92 #[.int .i64 b.name.kind, .string (bs b.name.owner), .int .i64 b.name.num, .int .i64 b.name.idx, .string (bs b.name.text), .string (bs b.value), .bool b.absent] (w.heap.size + 1) (by simp)); have HB0 := Lib.hid b2; have x0 := z0.cell 0; have x1 := z0.cell 1; have x2 := z0.cell 2; have x3 := z0.cell 3; have x4 := z0.cell 4; have x5 := z0.cell 5; have x6 := z0.cell 6; simp only [qB, qC, qD] at x0 x1 x2 x3 x4 x5 x6; have y0 := z1.cell 0; have y1 := z1.cell 1; have y2 := z1.cell 2; have y3 := z1.cell 3; have y4 := z1.cell 4; have y5 := z1.cell 5; have y6 := z1.cell 6; simp only [qB, qC, qD] at y0 y1 y2 y3 y4 y5 y6
  unfold chV
  go_enter Tryz.func72, Tryz.ntmps72
  clear b0 b1 b2 z0 z1
  go_upto_region 1 with (fail)
  generalize ((w.alloc (.cells #[.int .i64 a.name.kind, .string (bs a.name.owner), .int .i64 a.name.num, .int .i64 a.name.idx, .string (bs a.name.text), .string (bs a.value), .bool a.absent] 92)).alloc (.cells #[.int .i64 b.name.kind, .string (bs b.name.owner), .int .i64 b.name.num, .int .i64 b.name.idx, .string (bs b.name.text), .string (bs b.value), .bool b.absent] 92)) = w3 at *; obtain ⟨c1, hc1⟩ : ∃ c1, w.heap.size + 1 = c1 := ⟨_, rfl⟩; rw [hc1] at y0 y1 y2 y3 y4 y5 y6 ⊢; obtain ⟨c0, hc0⟩ : ∃ c0, w.heap.size = c0 := ⟨_, rfl⟩; have HC0 := Lib.hid hc0; rw [hc0] at x0 x1 x2 x3 x4 x5 x6 ⊢; clear hc1 hc0; have HDF := Lib.hid (show difC a b = ((a.absent != b.absent) || (!a.absent && (a.value != b.value))) from rfl); obtain ⟨aa, haa⟩ : ∃ aa, a.absent = aa := ⟨_, rfl⟩; obtain ⟨ba, hba⟩ : ∃ ba, b.absent = ba := ⟨_, rfl⟩; rw [haa] at x6 HDF; rw [hba] at y6 HDF; clear haa hba
  cases aa <;> cases ba <;> (go_wp2_with fail; go_ret; refine ⟨?_, HC0.out ▸ HB0.out⟩; rw [HDF.out]; simp [bs_tl] <;> cases hv : (a.value == b.value) <;> simp [bne, hv])
theorem turnsOf_is (w : World) (t : Int) : Calls Tryz.prog 27 #[.int .i64 t] w fun e w' => e = .returned (kyV (sloK t)) ∧ Below w.heap.size w w' := by
  have b0 := Below.refl w.heap.size w; have b1 := b0.alloc b0.size (.cells #[.int .i64 t, .int .i64 1, .int .i64 0, .string ⟨#[]⟩] 35); have z0 := (Blk.new w 35 #[.int .i64 t, .int .i64 1, .int .i64 0, .string ⟨#[]⟩]); have q0 := z0.cell 0; have q1 := z0.cell 1; have q2 := z0.cell 2; have q3 := z0.cell 3; simp only [qB, qC, qD] at q0 q1 q2 q3
  go_enter Tryz.func27, Tryz.ntmps27
  clear b0 z0
  go_wp2_with fail
  exact bodyPost_ret (v := .agg #[.int .i64 t, .int .i64 1, .int .i64 0, .string ⟨#[]⟩]) (by simp [results, Tryz.results27, go_sem, q0, q1, q2, q3]) rfl ⟨rfl, b1⟩
structure RunOk (l : List Ac) : Prop where
  pw : KP l
  len : l.length ≤ 35
  r : ∀ a ∈ l, AcR a
  o : ∀ a ∈ l, okAc a = true
def RunAt (w : World) (B : Nat) (v m : Value) (l : List Ac) : Prop := RdAc w v l ∧ ∃ tb, m = .map (some tb) ∧ WRows w B tb (wls l)
theorem RunAt.next {w w' : World} {B : Nat} {v m : Value} {l : List Ac} (h : RunAt w B v m l) (hb : Below w.heap.size w w') : RunAt w' B v m l := ⟨h.1.next hb, h.2.imp fun tb ht => ⟨ht.1, ht.2.next hb⟩⟩
theorem RunAt.writer {w : World} {B : Nat} {v m : Value} {l : List Ac} (h : RunAt w B v m l) (hr : RunOk l) (n : Nm) {k : Ky} (hk : k.lin ∈ lin5) : Calls Tryz.prog 53 #[.agg #[v, m], nmV n, kyV k] w fun e w' => e = .returned (.int .i64 (lwr l n k)) ∧ Below w.heap.size w w' := by
  obtain ⟨h1, tb, rfl, h2⟩ := h
  exact xwriter_is n h1 h2 hr.pw hr.len hk hr.r hr.o
theorem RunAt.written {w : World} {B : Nat} {v m : Value} {l : List Ac} (h : RunAt w B v m l) (hr : RunOk l) (n : Nm) {i : Nat} (hi : i < l.length) : Calls Tryz.prog 82 #[.agg #[v, m], nmV n, .int .i64 i] w fun e w' => e = .returned (chV (chOf l[i] n)) ∧ Below w.heap.size w w' := by
  obtain ⟨h1, tb, rfl, h2⟩ := h
  exact written_is n h1 ⟨_, rfl⟩ hi hr.len hr.r hr.o
theorem RunAt.search {w : World} {B : Nat} {v m : Value} {l : List Ac} (h : RunAt w B v m l) (hr : RunOk l) {k : Ky} (hk : k.lin ∈ lin5) : Calls Tryz.prog 50 #[.agg #[v, m], kyV k] w fun e w' => e = .returned (.tuple #[.int .i64 (befK l k : Nat), .bool (hasK l k)]) ∧ Below w.heap.size w w' := by
  obtain ⟨h1, tb, rfl, h2⟩ := h
  exact rsearch_is h1 ⟨_, rfl⟩ hr.pw (by have := hr.len; omega) hk (fun a ha => (hr.r a ha).1.2.1)
set_option maxRecDepth 100000 in
set_option maxHeartbeats 4000000 in
theorem vdiffer_is {w : World} {va ma vb mb : Value} {B : Nat} {a b : List Ac} {k : Ky} (n : Nm) (ha : RunAt w B va ma a) (hb : RunAt w B vb mb b) (oa : RunOk a) (ob : RunOk b) (hk : k.lin ∈ lin5) :
    Calls Tryz.prog 73 #[.agg #[va, ma, vb, mb], nmV n, kyV k] w fun e w' => e = .returned (.bool (vdf a b n k)) ∧ Below w.heap.size w w' := by
  obtain ⟨A1, c1, hva, hc1⟩ := RowRd.form ha.1; subst hva; obtain ⟨A2, c2, hvb, hc2⟩ := RowRd.form hb.1; subst hvb; have hal := oa.len; have hbl := ob.len
  obtain ⟨ta, hma⟩ : ∃ ta, ma = .map (some ta) := ha.2.imp fun _ h => h.1
  subst hma
  obtain ⟨tb, hmb⟩ : ∃ tb, mb = .map (some tb) := hb.2.imp fun _ h => h.1
  subst hmb; have b0 := Below.refl w.heap.size w; have b1 := b0.alloc b0.size (.cells #[.slice A1 a.length c1, .map (some ta), .slice A2 b.length c2, .map (some tb)] 85); have b2 := b1.alloc b1.size (.cells #[.int .i64 n.kind, .string (bs n.owner), .int .i64 n.num, .int .i64 n.idx, .string (bs n.text)] 45); have b3 := b2.alloc b2.size (.cells #[.int .i64 k.tick, .int .i64 k.cls, .int .i64 k.num, .string (bs k.lin)] 35); have z0 := (((Blk.new w 85 #[.slice A1 a.length c1, .map (some ta), .slice A2 b.length c2, .map (some tb)]).alloc (.cells #[.int .i64 n.kind, .string (bs n.owner), .int .i64 n.num, .int .i64 n.idx, .string (bs n.text)] 45)).alloc (.cells #[.int .i64 k.tick, .int .i64 k.cls, .int .i64 k.num, .string (bs k.lin)] 35)); have z1 := ((Blk.newE (w.alloc (.cells #[.slice A1 a.length c1, .map (some ta), .slice A2 b.length c2, .map (some tb)] 85)) 45 #[.int .i64 n.kind, .string (bs n.owner), .int .i64 n.num, .int .i64 n.idx, .string (bs n.text)] (w.heap.size + 1) (by simp)).alloc (.cells #[.int .i64 k.tick, .int .i64 k.cls, .int .i64 k.num, .string (bs k.lin)] 35)); have z2 := (Blk.newE ((w.alloc (.cells #[.slice A1 a.length c1, .map (some ta), .slice A2 b.length c2, .map (some tb)] 85)).alloc (.cells #[.int .i64 n.kind, .string (bs n.owner), .int .i64 n.num, .int .i64 n.idx, .string (bs n.text)] 45)) 35 #[.int .i64 k.tick, .int .i64 k.cls, .int .i64 k.num, .string (bs k.lin)] (w.heap.size + 1 + 1) (by simp)); have p0 := z0.cell 0; have p1 := z0.cell 1; have p2 := z0.cell 2; have p3 := z0.cell 3; simp only [qB, qC, qD] at p0 p1 p2 p3; have n0 := z1.cell 0; have n1 := z1.cell 1; have n2 := z1.cell 2; have n3 := z1.cell 3; have n4 := z1.cell 4; simp only [qB, qC, qD] at n0 n1 n2 n3 n4; have k0 := z2.cell 0; have k1 := z2.cell 1; have k2 := z2.cell 2; have k3 := z2.cell 3; simp only [qB, qC, qD] at k0 k1 k2 k3; have HYY := Lib.hid (fun (W : World) (hW : Below (((w.alloc (.cells #[.slice A1 a.length c1, .map (some ta), .slice A2 b.length c2, .map (some tb)] 85)).alloc (.cells #[.int .i64 n.kind, .string (bs n.owner), .int .i64 n.num, .int .i64 n.idx, .string (bs n.text)] 45)).alloc (.cells #[.int .i64 k.tick, .int .i64 k.cls, .int .i64 k.num, .string (bs k.lin)] 35)).heap.size (((w.alloc (.cells #[.slice A1 a.length c1, .map (some ta), .slice A2 b.length c2, .map (some tb)] 85)).alloc (.cells #[.int .i64 n.kind, .string (bs n.owner), .int .i64 n.num, .int .i64 n.idx, .string (bs n.text)] 45)).alloc (.cells #[.int .i64 k.tick, .int .i64 k.cls, .int .i64 k.num, .string (bs k.lin)] 35)) W) => show W.cell? ⟨w.heap.size, 0, none⟩ = some (.slice A1 a.length c1) ∧ W.cell? ⟨w.heap.size, 1, none⟩ = some (.map (some ta)) ∧ W.cell? ⟨w.heap.size, 2, none⟩ = some (.slice A2 b.length c2) ∧ W.cell? ⟨w.heap.size, 3, none⟩ = some (.map (some tb)) ∧ W.cell? ⟨w.heap.size + 1, 0, none⟩ = some (.int .i64 n.kind) ∧ W.cell? ⟨w.heap.size + 1, 1, none⟩ = some (.string (bs n.owner)) ∧ W.cell? ⟨w.heap.size + 1, 2, none⟩ = some (.int .i64 n.num) ∧ W.cell? ⟨w.heap.size + 1, 3, none⟩ = some (.int .i64 n.idx) ∧ W.cell? ⟨w.heap.size + 1, 4, none⟩ = some (.string (bs n.text)) ∧ W.cell? ⟨w.heap.size + 1 + 1, 0, none⟩ = some (.int .i64 k.tick) ∧ W.cell? ⟨w.heap.size + 1 + 1, 1, none⟩ = some (.int .i64 k.cls) ∧ W.cell? ⟨w.heap.size + 1 + 1, 2, none⟩ = some (.int .i64 k.num) ∧ W.cell? ⟨w.heap.size + 1 + 1, 3, none⟩ = some (.string (bs k.lin)) from ⟨(hW.cell (p := ⟨w.heap.size, 0, none⟩) z0.lt).trans p0, (hW.cell (p := ⟨w.heap.size, 1, none⟩) z0.lt).trans p1, (hW.cell (p := ⟨w.heap.size, 2, none⟩) z0.lt).trans p2, (hW.cell (p := ⟨w.heap.size, 3, none⟩) z0.lt).trans p3, (hW.cell (p := ⟨w.heap.size + 1, 0, none⟩) z1.lt).trans n0, (hW.cell (p := ⟨w.heap.size + 1, 1, none⟩) z1.lt).trans n1, (hW.cell (p := ⟨w.heap.size + 1, 2, none⟩) z1.lt).trans n2, (hW.cell (p := ⟨w.heap.size + 1, 3, none⟩) z1.lt).trans n3, (hW.cell (p := ⟨w.heap.size + 1, 4, none⟩) z1.lt).trans n4, (hW.cell (p := ⟨w.heap.size + 1 + 1, 0, none⟩) z2.lt).trans k0, (hW.cell (p := ⟨w.heap.size + 1 + 1, 1, none⟩) z2.lt).trans k1, (hW.cell (p := ⟨w.heap.size + 1 + 1, 2, none⟩) z2.lt).trans k2, (hW.cell (p := ⟨w.heap.size + 1 + 1, 3, none⟩) z2.lt).trans k3⟩)
  have HWA := Lib.hid (fun (W : World) (hW : Below (((w.alloc (.cells #[.slice A1 a.length c1, .map (some ta), .slice A2 b.length c2, .map (some tb)] 85)).alloc (.cells #[.int .i64 n.kind, .string (bs n.owner), .int .i64 n.num, .int .i64 n.idx, .string (bs n.text)] 45)).alloc (.cells #[.int .i64 k.tick, .int .i64 k.cls, .int .i64 k.num, .string (bs k.lin)] 35)).heap.size (((w.alloc (.cells #[.slice A1 a.length c1, .map (some ta), .slice A2 b.length c2, .map (some tb)] 85)).alloc (.cells #[.int .i64 n.kind, .string (bs n.owner), .int .i64 n.num, .int .i64 n.idx, .string (bs n.text)] 45)).alloc (.cells #[.int .i64 k.tick, .int .i64 k.cls, .int .i64 k.num, .string (bs k.lin)] 35)) W) => ((ha.next b3).next hW).writer oa n hk); have HWB := Lib.hid (fun (W : World) (hW : Below (((w.alloc (.cells #[.slice A1 a.length c1, .map (some ta), .slice A2 b.length c2, .map (some tb)] 85)).alloc (.cells #[.int .i64 n.kind, .string (bs n.owner), .int .i64 n.num, .int .i64 n.idx, .string (bs n.text)] 45)).alloc (.cells #[.int .i64 k.tick, .int .i64 k.cls, .int .i64 k.num, .string (bs k.lin)] 35)).heap.size (((w.alloc (.cells #[.slice A1 a.length c1, .map (some ta), .slice A2 b.length c2, .map (some tb)] 85)).alloc (.cells #[.int .i64 n.kind, .string (bs n.owner), .int .i64 n.num, .int .i64 n.idx, .string (bs n.text)] 45)).alloc (.cells #[.int .i64 k.tick, .int .i64 k.cls, .int .i64 k.num, .string (bs k.lin)] 35)) W) => ((hb.next b3).next hW).writer ob n hk); have HRA := Lib.hid (fun (i : Nat) (hi : i < a.length) (W : World) (hW : Below (((w.alloc (.cells #[.slice A1 a.length c1, .map (some ta), .slice A2 b.length c2, .map (some tb)] 85)).alloc (.cells #[.int .i64 n.kind, .string (bs n.owner), .int .i64 n.num, .int .i64 n.idx, .string (bs n.text)] 45)).alloc (.cells #[.int .i64 k.tick, .int .i64 k.cls, .int .i64 k.num, .string (bs k.lin)] 35)).heap.size (((w.alloc (.cells #[.slice A1 a.length c1, .map (some ta), .slice A2 b.length c2, .map (some tb)] 85)).alloc (.cells #[.int .i64 n.kind, .string (bs n.owner), .int .i64 n.num, .int .i64 n.idx, .string (bs n.text)] 45)).alloc (.cells #[.int .i64 k.tick, .int .i64 k.cls, .int .i64 k.num, .string (bs k.lin)] 35)) W) => ((ha.next b3).next hW).written oa n hi); have HRB := Lib.hid (fun (i : Nat) (hi : i < b.length) (W : World) (hW : Below (((w.alloc (.cells #[.slice A1 a.length c1, .map (some ta), .slice A2 b.length c2, .map (some tb)] 85)).alloc (.cells #[.int .i64 n.kind, .string (bs n.owner), .int .i64 n.num, .int .i64 n.idx, .string (bs n.text)] 45)).alloc (.cells #[.int .i64 k.tick, .int .i64 k.cls, .int .i64 k.num, .string (bs k.lin)] 35)).heap.size (((w.alloc (.cells #[.slice A1 a.length c1, .map (some ta), .slice A2 b.length c2, .map (some tb)] 85)).alloc (.cells #[.int .i64 n.kind, .string (bs n.owner), .int .i64 n.num, .int .i64 n.idx, .string (bs n.text)] 45)).alloc (.cells #[.int .i64 k.tick, .int .i64 k.cls, .int .i64 k.num, .string (bs k.lin)] 35)) W) => ((hb.next b3).next hW).written ob n hi); have HB0 := Lib.hid b3
  have HSA := Lib.hid (fun h => lwr_spec oa.pw (n := n) (k := k) h); have HSB := Lib.hid (fun h => lwr_spec ob.pw (n := n) (k := k) h)
  unfold nmV nmA kyV at HWA HWB ⊢
  unfold nmV nmA at HRA HRB
  have HVD := Lib.hid (show vdf a b n k = if lwr a n k < 0 ∨ lwr b n k < 0 then decide (0 ≤ lwr a n k) || decide (0 ≤ lwr b n k) else difC (chOf (acG a (lwr a n k)) n) (chOf (acG b (lwr b n k)) n) from rfl); clear ha hb oa ob b0 b1 b2 b3 z0 z1 z2 p0 p1 p2 p3 n0 n1 n2 n3 n4 k0 k1 k2 k3
  go_enter Tryz.func73, Tryz.ntmps73
  go_upto_region 1 with (fail)
  generalize (((w.alloc (.cells #[.slice A1 a.length c1, .map (some ta), .slice A2 b.length c2, .map (some tb)] 85)).alloc (.cells #[.int .i64 n.kind, .string (bs n.owner), .int .i64 n.num, .int .i64 n.idx, .string (bs n.text)] 45)).alloc (.cells #[.int .i64 k.tick, .int .i64 k.cls, .int .i64 k.num, .string (bs k.lin)] 35)) = w3 at *; obtain ⟨kb, hkb⟩ : ∃ kb, w.heap.size + 1 + 1 = kb := ⟨_, rfl⟩; rw [hkb] at HYY ⊢; obtain ⟨nb, hnb⟩ : ∃ nb, w.heap.size + 1 = nb := ⟨_, rfl⟩; rw [hnb] at HYY ⊢; obtain ⟨pb, hpb⟩ : ∃ pb, w.heap.size = pb := ⟨_, rfl⟩; have HPB := Lib.hid hpb; rw [hpb] at HYY ⊢; clear hpb hnb hkb
  refine wp_region_noPanic ?_
  refine wp_region_held_drew (S := (fun (w' : World) => w'.cell? ⟨pb, 0, none⟩ = some (.slice A1 a.length c1) ∧ w'.cell? ⟨pb, 1, none⟩ = some (.map (some ta)) ∧ w'.cell? ⟨pb, 2, none⟩ = some (.slice A2 b.length c2) ∧ w'.cell? ⟨pb, 3, none⟩ = some (.map (some tb)) ∧ w'.cell? ⟨nb, 0, none⟩ = some (.int .i64 n.kind) ∧ w'.cell? ⟨nb, 1, none⟩ = some (.string (bs n.owner)) ∧ w'.cell? ⟨nb, 2, none⟩ = some (.int .i64 n.num) ∧ w'.cell? ⟨nb, 3, none⟩ = some (.int .i64 n.idx) ∧ w'.cell? ⟨nb, 4, none⟩ = some (.string (bs n.text)) ∧ w'.cell? ⟨kb, 0, none⟩ = some (.int .i64 k.tick) ∧ w'.cell? ⟨kb, 1, none⟩ = some (.int .i64 k.cls) ∧ w'.cell? ⟨kb, 2, none⟩ = some (.int .i64 k.num) ∧ w'.cell? ⟨kb, 3, none⟩ = some (.string (bs k.lin)))) (by kernel_rfl) ?_ (fun hHeld => ?_)
  · exact HYY.out w3 (Below.refl _ _)
  refine tk (v := ?_) 0 rfl (by kernel_rfl) (fun _ _ _ h => h) ?_ hHeld ?_; rotate_left
  · (intro w h; (try dsimp only at h); go_simp; try with_reducible rfl)
  try simp only [Act.put, pB, pC, pD]
  refine tk (v := ?_) 1 rfl (by kernel_rfl) (fun _ _ _ h => h) ?_ hHeld ?_; rotate_left
  · (intro w h; (try dsimp only at h); go_simp; try with_reducible rfl)
  try simp only [Act.put, pB, pC, pD]
  refine tk (v := ?_) 2 rfl (by kernel_rfl) (fun _ _ _ h => h) ?_ hHeld ?_; rotate_left
  · (intro w h; (try dsimp only at h); go_simp; try with_reducible rfl)
  try simp only [Act.put, pB, pC, pD]
  refine tk (v := ?_) 3 rfl (by kernel_rfl) (fun _ _ _ h => h) ?_ hHeld ?_; rotate_left
  · (intro w h; (try dsimp only at h); go_simp; try with_reducible rfl)
  try simp only [Act.put, pB, pC, pD]
  refine tk (v := ?_) 5 rfl (by kernel_rfl) (fun _ _ _ h => h) ?_ hHeld ?_; rotate_left
  · (intro w h; (try dsimp only at h); go_simp; try with_reducible rfl)
  try simp only [Act.put, pB, pC, pD]
  refine tk (v := ?_) 6 rfl (by kernel_rfl) (fun _ _ _ h => h) ?_ hHeld ?_; rotate_left
  · (intro w h; (try dsimp only at h); go_simp; try with_reducible rfl)
  try simp only [Act.put, pB, pC, pD]
  refine tk (v := ?_) 7 rfl (by kernel_rfl) (fun _ _ _ h => h) ?_ hHeld ?_; rotate_left
  · (intro w h; (try dsimp only at h); go_simp; try with_reducible rfl)
  try simp only [Act.put, pB, pC, pD]
  refine tk (v := ?_) 8 rfl (by kernel_rfl) (fun _ _ _ h => h) ?_ hHeld ?_; rotate_left
  · (intro w h; (try dsimp only at h); go_simp; try with_reducible rfl)
  try simp only [Act.put, pB, pC, pD]
  refine wpAnyH_ready (rs := [4]) (by kernel_rfl) (by simp) ?_; refine AllReadyH.cons rfl (fun K hK => ?_) AllReadyH.nil; go_simp; refine (HWA.out _ (Below.refl w3.heap.size w3).drew).mono ?_; rintro e w4 ⟨rfl, hb⟩; have B4 := Lib.hid (((Below.refl w3.heap.size w3).drew).trans (hb.mono ((Below.refl w3.heap.size w3).drew).size)); obtain ⟨x0, x1, x2, x3, x4, x5, x6, x7, x8, x9, x10, x11, x12⟩ := HYY.out w4 B4.out; clear hb
  try (go_wp2_with fail)
  refine hK.out _ _ ?_ (fun hNew => ?_)
  · exact ⟨x0, x1, x2, x3, x4, x5, x6, x7, x8, x9, x10, x11, x12⟩
  clear hK K hHeld; have hHeld := hNew; clear hNew; try simp only [Act.put, pB, pC, pD]
  refine wpAnyH_ready (rs := [9]) (by kernel_rfl) (by simp) ?_; refine AllReadyH.cons rfl (fun K hK => ?_) AllReadyH.nil; go_simp; refine (HWB.out _ B4.out).mono ?_; rintro e w5 ⟨rfl, hb⟩; have B5 := Lib.hid ((B4.out).trans (hb.mono (B4.out).size)); obtain ⟨y0, y1, y2, y3, y4, y5, y6, y7, y8, y9, y10, y11, y12⟩ := HYY.out w5 B5.out; clear hb
  try (go_wp2_with fail)
  refine hK.out _ _ ?_ (fun hNew => ?_)
  · exact ⟨y0, y1, y2, y3, y4, y5, y6, y7, y8, y9, y10, y11, y12⟩
  clear hK K hHeld; have hHeld := hNew; clear hNew; try simp only [Act.put, pB, pC, pD]
  refine tk (v := ?_) 10 rfl (by kernel_rfl) (fun _ _ _ h => h) ?_ hHeld ?_; rotate_left
  · (intro w h; (try dsimp only at h); go_simp; try with_reducible rfl)
  try simp only [Act.put, pB, pC, pD]
  refine tk (v := ?_) 11 rfl (by kernel_rfl) (fun _ _ _ h => h) ?_ hHeld ?_; rotate_left
  · (intro w h; (try dsimp only at h); go_simp; try with_reducible rfl)
  try simp only [Act.put, pB, pC, pD]
  refine wpAnyH_done (by kernel_rfl) ?_ _; clear hHeld
  try simp only [List.getElem_toArray, List.getElem_cons_zero, List.getElem_cons_succ, Act.put, pB, pC, pD]
  refine NoPanic.normal ?_
  obtain ⟨i, hi⟩ : ∃ i, lwr a n k = i := ⟨_, rfl⟩; obtain ⟨j, hj⟩ : ∃ j, lwr b n k = j := ⟨_, rfl⟩; rw [hi] at HSA; rw [hj] at HSB; rw [hi, hj] at HVD ⊢; clear hi hj x0 x1 x2 x3 x4 x5 x6 x7 x8 x9 x10 x11 x12
  by_cases hi : i < 0
  · have i1 : decide (i < 0) = true := decide_eq_true hi
    have i2 : decide (0 ≤ i) = false := decide_eq_false (by omega); have HE := Lib.hid (show vdf a b n k = decide (0 ≤ j) by rw [HVD.out, if_pos (.inl hi), i2, Bool.false_or]); clear hi
    go_wp2_with fail
    go_ret
    exact ⟨by rw [HE.out]; rfl, HB0.out.trans (B5.out.mono HB0.out.size)⟩
  · have i1 : decide (i < 0) = false := decide_eq_false hi
    have i2 : decide (0 ≤ i) = true := decide_eq_true (by omega)
    by_cases hj : j < 0
    · have j1 : decide (j < 0) = true := decide_eq_true hj
      have HE := Lib.hid (show vdf a b n k = true by rw [HVD.out, if_pos (.inr hj), i2, Bool.true_or]); clear hi hj
      go_wp2_with fail
      go_ret
      exact ⟨by rw [HE.out]; rfl, HB0.out.trans (B5.out.mono HB0.out.size)⟩
    · have j1 : decide (j < 0) = false := decide_eq_false hj
      obtain ⟨p, hp, rfl, hpe, -, -⟩ := HSA.out (by omega); obtain ⟨q, hq, rfl, hqe, -, -⟩ := HSB.out (by omega); have HE := Lib.hid (show vdf a b n k = difC (chOf a[p] n) (chOf b[q] n) by rw [HVD.out, if_neg (by omega), hpe, hqe]); have HRA := Lib.hid (HRA.out p hp); have HRB := Lib.hid (HRB.out q hq); clear HSA HSB HVD hi hj hpe hqe
      go_upto_region 4 with (fail)
      refine wp_region_noPanic ?_
      refine wp_region_held_drew (S := (fun (w' : World) => w'.cell? ⟨pb, 0, none⟩ = some (.slice A1 a.length c1) ∧ w'.cell? ⟨pb, 1, none⟩ = some (.map (some ta)) ∧ w'.cell? ⟨pb, 2, none⟩ = some (.slice A2 b.length c2) ∧ w'.cell? ⟨pb, 3, none⟩ = some (.map (some tb)) ∧ w'.cell? ⟨nb, 0, none⟩ = some (.int .i64 n.kind) ∧ w'.cell? ⟨nb, 1, none⟩ = some (.string (bs n.owner)) ∧ w'.cell? ⟨nb, 2, none⟩ = some (.int .i64 n.num) ∧ w'.cell? ⟨nb, 3, none⟩ = some (.int .i64 n.idx) ∧ w'.cell? ⟨nb, 4, none⟩ = some (.string (bs n.text)) ∧ w'.cell? ⟨kb, 0, none⟩ = some (.int .i64 k.tick) ∧ w'.cell? ⟨kb, 1, none⟩ = some (.int .i64 k.cls) ∧ w'.cell? ⟨kb, 2, none⟩ = some (.int .i64 k.num) ∧ w'.cell? ⟨kb, 3, none⟩ = some (.string (bs k.lin)))) (by kernel_rfl) ?_ (fun hHeld => ?_)
      · exact ⟨y0, y1, y2, y3, y4, y5, y6, y7, y8, y9, y10, y11, y12⟩
      refine tk (v := ?_) 0 rfl (by kernel_rfl) (fun _ _ _ h => h) ?_ hHeld ?_; rotate_left
      · (intro w h; (try dsimp only at h); go_simp; try with_reducible rfl)
      try simp only [Act.put, pB, pC, pD]
      refine tk (v := ?_) 1 rfl (by kernel_rfl) (fun _ _ _ h => h) ?_ hHeld ?_; rotate_left
      · (intro w h; (try dsimp only at h); go_simp; try with_reducible rfl)
      try simp only [Act.put, pB, pC, pD]
      refine tk (v := ?_) 2 rfl (by kernel_rfl) (fun _ _ _ h => h) ?_ hHeld ?_; rotate_left
      · (intro w h; (try dsimp only at h); go_simp; try with_reducible rfl)
      try simp only [Act.put, pB, pC, pD]
      refine tk (v := ?_) 3 rfl (by kernel_rfl) (fun _ _ _ h => h) ?_ hHeld ?_; rotate_left
      · (intro w h; (try dsimp only at h); go_simp; try with_reducible rfl)
      try simp only [Act.put, pB, pC, pD]
      refine tk (v := ?_) 5 rfl (by kernel_rfl) (fun _ _ _ h => h) ?_ hHeld ?_; rotate_left
      · (intro w h; (try dsimp only at h); go_simp; try with_reducible rfl)
      try simp only [Act.put, pB, pC, pD]
      refine tk (v := ?_) 6 rfl (by kernel_rfl) (fun _ _ _ h => h) ?_ hHeld ?_; rotate_left
      · (intro w h; (try dsimp only at h); go_simp; try with_reducible rfl)
      try simp only [Act.put, pB, pC, pD]
      refine tk (v := ?_) 7 rfl (by kernel_rfl) (fun _ _ _ h => h) ?_ hHeld ?_; rotate_left
      · (intro w h; (try dsimp only at h); go_simp; try with_reducible rfl)
      try simp only [Act.put, pB, pC, pD]
      refine tk (v := ?_) 8 rfl (by kernel_rfl) (fun _ _ _ h => h) ?_ hHeld ?_; rotate_left
      · (intro w h; (try dsimp only at h); go_simp; try with_reducible rfl)
      try simp only [Act.put, pB, pC, pD]
      refine wpAnyH_ready (rs := [4]) (by kernel_rfl) (by simp) ?_; refine AllReadyH.cons rfl (fun K hK => ?_) AllReadyH.nil; go_simp; refine (HRA.out _ (B5.out.trans ((Below.refl w5.heap.size w5).drew.mono B5.out.size))).mono ?_; rintro e w6 ⟨rfl, hb⟩; have B6 := Lib.hid (((B5.out.trans ((Below.refl w5.heap.size w5).drew.mono B5.out.size))).trans (hb.mono ((B5.out.trans ((Below.refl w5.heap.size w5).drew.mono B5.out.size))).size)); obtain ⟨s0, s1, s2, s3, s4, s5, s6, s7, s8, s9, s10, s11, s12⟩ := HYY.out w6 B6.out; clear hb
      try (go_wp2_with fail)
      refine hK.out _ _ ?_ (fun hNew => ?_)
      · exact ⟨s0, s1, s2, s3, s4, s5, s6, s7, s8, s9, s10, s11, s12⟩
      clear hK K hHeld; have hHeld := hNew; clear hNew; try simp only [Act.put, pB, pC, pD]
      refine wpAnyH_ready (rs := [9]) (by kernel_rfl) (by simp) ?_; refine AllReadyH.cons rfl (fun K hK => ?_) AllReadyH.nil; go_simp; refine (HRB.out _ B6.out).mono ?_; rintro e w7 ⟨rfl, hb⟩; have B7 := Lib.hid ((B6.out).trans (hb.mono (B6.out).size)); obtain ⟨t0, t1, t2, t3, t4, t5, t6, t7, t8, t9, t10, t11, t12⟩ := HYY.out w7 B7.out; clear hb
      try (go_wp2_with fail)
      refine hK.out _ _ ?_ (fun hNew => ?_)
      · exact ⟨t0, t1, t2, t3, t4, t5, t6, t7, t8, t9, t10, t11, t12⟩
      clear hK K hHeld; have hHeld := hNew; clear hNew; try simp only [Act.put, pB, pC, pD]
      refine wpAnyH_ready (rs := [10]) (by kernel_rfl) (by simp) ?_; refine AllReadyH.cons rfl (fun K hK => ?_) AllReadyH.nil; go_simp; refine (differs_is _ _).mono ?_; rintro e w8 ⟨rfl, hb⟩; have B8 := Lib.hid ((B7.out).trans (hb.mono (B7.out).size)); obtain ⟨u0, u1, u2, u3, u4, u5, u6, u7, u8, u9, u10, u11, u12⟩ := HYY.out w8 B8.out; clear hb
      try (go_wp2_with fail)
      refine hK.out _ _ ?_ (fun hNew => ?_)
      · exact ⟨u0, u1, u2, u3, u4, u5, u6, u7, u8, u9, u10, u11, u12⟩
      clear hK K hHeld; have hHeld := hNew; clear hNew; try simp only [Act.put, pB, pC, pD]
      refine tk (v := ?_) 11 rfl (by kernel_rfl) (fun _ _ _ h => h) ?_ hHeld ?_; rotate_left
      · (intro w h; (try dsimp only at h); go_simp; try with_reducible rfl)
      try simp only [Act.put, pB, pC, pD]
      refine wpAnyH_done (by kernel_rfl) ?_ _; clear hHeld
      try simp only [List.getElem_toArray, List.getElem_cons_zero, List.getElem_cons_succ, Act.put, pB, pC, pD]
      refine NoPanic.normal ?_
      go_wp2_with fail
      go_ret
      exact ⟨by rw [HE.out]; rfl, HB0.out.trans (B8.out.mono HB0.out.size)⟩
def stK (x : Ky) : Option Ky → Option Ky
  | none => some x
  | some y => if 0 < cmpK x y then some x else some y
def stO (l : List Ac) (n : Nm) (k : Ky) (o : Option Ky) : Option Ky := if 0 ≤ lwr l n k then stK (acG l (lwr l n k)).key o else o
theorem stO_org (a b : List Ac) (n : Nm) (k : Ky) : orgK a b n k = stO b n k (stO a n k none) := by
  unfold orgK stO
  by_cases h1 : 0 ≤ lwr a n k <;> by_cases h2 : 0 ≤ lwr b n k <;> simp [h1, h2, stK]
def orRel (a b : List Ac) (n : Nm) (k : Ky) (w3 : World) (rb ob : Nat) (is i : Value) (wr : World) : Prop := ∃ (j : Nat) (o : Option Ky), j ≤ 2 ∧ i = .int .i64 (j : Int) ∧ is = .bool o.isSome ∧ (j = 0 → o = none) ∧ (j = 1 → o = stO a n k none) ∧ (j = 2 → o = orgK a b n k) ∧ (∀ x, o = some x → x.lin ∈ lin5) ∧ Blk wr rb 35 #[.int .i64 0, .int .i64 0, .int .i64 0, .string ⟨#[]⟩] ∧ Blk wr ob 35 #[.int .i64 (o.getD ky00).tick, .int .i64 (o.getD ky00).cls, .int .i64 (o.getD ky00).num, .string (bs (o.getD ky00).lin)] ∧ Below w3.heap.size w3 wr
theorem Blk.low4h {w : World} {g ob : Nat} {t : TypeId} {cs : Array Value} {v0 v1 v2 v3 : Value} (h : Blk w g t cs) (hne : g ≠ ob) : Blk ((((w.setCell ⟨ob, 0, none⟩ (v0)).setCell ⟨ob, 1, none⟩ (v1)).setCell ⟨ob, 2, none⟩ (v2)).setCell ⟨ob, 3, none⟩ (v3)) g t cs :=
  h.grown (only_setCell (only_setCell (only_setCell (only_setCell (only_of_below (Below.refl w.heap.size w) (some ob)) (.inl rfl) _) (.inl rfl) _) (.inl rfl) _) (.inl rfl) _) (fun e => hne (by injection e))
set_option maxRecDepth 100000 in
set_option maxHeartbeats 4000000 in
theorem origin_is {w : World} {va ma vb mb : Value} {B : Nat} {a b : List Ac} {k : Ky} (n : Nm) (ha : RunAt w B va ma a) (hb : RunAt w B vb mb b) (oa : RunOk a) (ob : RunOk b) (hk : k.lin ∈ lin5) :
    Calls Tryz.prog 28 #[.agg #[va, ma, vb, mb], nmV n, kyV k] w fun e w' => e = .returned (.tuple #[kyV ((orgK a b n k).getD ky00), .bool (orgK a b n k).isSome]) ∧ Below w.heap.size w w' := by
  obtain ⟨A1, c1, hva, hc1⟩ := RowRd.form ha.1; subst hva; obtain ⟨A2, c2, hvb, hc2⟩ := RowRd.form hb.1; subst hvb; have hal := oa.len; have hbl := ob.len
  obtain ⟨ta, hma⟩ : ∃ ta, ma = .map (some ta) := ha.2.imp fun _ h => h.1
  subst hma
  obtain ⟨tb, hmb⟩ : ∃ tb, mb = .map (some tb) := hb.2.imp fun _ h => h.1
  subst hmb; have b0 := Below.refl w.heap.size w; have b1 := b0.alloc b0.size (.cells #[.slice A1 a.length c1, .map (some ta), .slice A2 b.length c2, .map (some tb)] 85); have b2 := b1.alloc b1.size (.cells #[.int .i64 n.kind, .string (bs n.owner), .int .i64 n.num, .int .i64 n.idx, .string (bs n.text)] 45); have b3 := b2.alloc b2.size (.cells #[.int .i64 k.tick, .int .i64 k.cls, .int .i64 k.num, .string (bs k.lin)] 35); have z0 := (((Blk.new w 85 #[.slice A1 a.length c1, .map (some ta), .slice A2 b.length c2, .map (some tb)]).alloc (.cells #[.int .i64 n.kind, .string (bs n.owner), .int .i64 n.num, .int .i64 n.idx, .string (bs n.text)] 45)).alloc (.cells #[.int .i64 k.tick, .int .i64 k.cls, .int .i64 k.num, .string (bs k.lin)] 35)); have z1 := ((Blk.newE (w.alloc (.cells #[.slice A1 a.length c1, .map (some ta), .slice A2 b.length c2, .map (some tb)] 85)) 45 #[.int .i64 n.kind, .string (bs n.owner), .int .i64 n.num, .int .i64 n.idx, .string (bs n.text)] (w.heap.size + 1) (by simp)).alloc (.cells #[.int .i64 k.tick, .int .i64 k.cls, .int .i64 k.num, .string (bs k.lin)] 35)); have z2 := (Blk.newE ((w.alloc (.cells #[.slice A1 a.length c1, .map (some ta), .slice A2 b.length c2, .map (some tb)] 85)).alloc (.cells #[.int .i64 n.kind, .string (bs n.owner), .int .i64 n.num, .int .i64 n.idx, .string (bs n.text)] 45)) 35 #[.int .i64 k.tick, .int .i64 k.cls, .int .i64 k.num, .string (bs k.lin)] (w.heap.size + 1 + 1) (by simp)); have p0 := z0.cell 0; have p1 := z0.cell 1; have p2 := z0.cell 2; have p3 := z0.cell 3; simp only [qB, qC, qD] at p0 p1 p2 p3; have n0 := z1.cell 0; have n1 := z1.cell 1; have n2 := z1.cell 2; have n3 := z1.cell 3; have n4 := z1.cell 4; simp only [qB, qC, qD] at n0 n1 n2 n3 n4; have k0 := z2.cell 0; have k1 := z2.cell 1; have k2 := z2.cell 2; have k3 := z2.cell 3; simp only [qB, qC, qD] at k0 k1 k2 k3; have HYY := Lib.hid (fun (W : World) (hW : Below (((w.alloc (.cells #[.slice A1 a.length c1, .map (some ta), .slice A2 b.length c2, .map (some tb)] 85)).alloc (.cells #[.int .i64 n.kind, .string (bs n.owner), .int .i64 n.num, .int .i64 n.idx, .string (bs n.text)] 45)).alloc (.cells #[.int .i64 k.tick, .int .i64 k.cls, .int .i64 k.num, .string (bs k.lin)] 35)).heap.size (((w.alloc (.cells #[.slice A1 a.length c1, .map (some ta), .slice A2 b.length c2, .map (some tb)] 85)).alloc (.cells #[.int .i64 n.kind, .string (bs n.owner), .int .i64 n.num, .int .i64 n.idx, .string (bs n.text)] 45)).alloc (.cells #[.int .i64 k.tick, .int .i64 k.cls, .int .i64 k.num, .string (bs k.lin)] 35)) W) => show W.cell? ⟨w.heap.size, 0, none⟩ = some (.slice A1 a.length c1) ∧ W.cell? ⟨w.heap.size, 1, none⟩ = some (.map (some ta)) ∧ W.cell? ⟨w.heap.size, 2, none⟩ = some (.slice A2 b.length c2) ∧ W.cell? ⟨w.heap.size, 3, none⟩ = some (.map (some tb)) ∧ W.cell? ⟨w.heap.size + 1, 0, none⟩ = some (.int .i64 n.kind) ∧ W.cell? ⟨w.heap.size + 1, 1, none⟩ = some (.string (bs n.owner)) ∧ W.cell? ⟨w.heap.size + 1, 2, none⟩ = some (.int .i64 n.num) ∧ W.cell? ⟨w.heap.size + 1, 3, none⟩ = some (.int .i64 n.idx) ∧ W.cell? ⟨w.heap.size + 1, 4, none⟩ = some (.string (bs n.text)) ∧ W.cell? ⟨w.heap.size + 1 + 1, 0, none⟩ = some (.int .i64 k.tick) ∧ W.cell? ⟨w.heap.size + 1 + 1, 1, none⟩ = some (.int .i64 k.cls) ∧ W.cell? ⟨w.heap.size + 1 + 1, 2, none⟩ = some (.int .i64 k.num) ∧ W.cell? ⟨w.heap.size + 1 + 1, 3, none⟩ = some (.string (bs k.lin)) from ⟨(hW.cell (p := ⟨w.heap.size, 0, none⟩) z0.lt).trans p0, (hW.cell (p := ⟨w.heap.size, 1, none⟩) z0.lt).trans p1, (hW.cell (p := ⟨w.heap.size, 2, none⟩) z0.lt).trans p2, (hW.cell (p := ⟨w.heap.size, 3, none⟩) z0.lt).trans p3, (hW.cell (p := ⟨w.heap.size + 1, 0, none⟩) z1.lt).trans n0, (hW.cell (p := ⟨w.heap.size + 1, 1, none⟩) z1.lt).trans n1, (hW.cell (p := ⟨w.heap.size + 1, 2, none⟩) z1.lt).trans n2, (hW.cell (p := ⟨w.heap.size + 1, 3, none⟩) z1.lt).trans n3, (hW.cell (p := ⟨w.heap.size + 1, 4, none⟩) z1.lt).trans n4, (hW.cell (p := ⟨w.heap.size + 1 + 1, 0, none⟩) z2.lt).trans k0, (hW.cell (p := ⟨w.heap.size + 1 + 1, 1, none⟩) z2.lt).trans k1, (hW.cell (p := ⟨w.heap.size + 1 + 1, 2, none⟩) z2.lt).trans k2, (hW.cell (p := ⟨w.heap.size + 1 + 1, 3, none⟩) z2.lt).trans k3⟩)
  have HWA := Lib.hid (fun (W : World) (hW : Below (((w.alloc (.cells #[.slice A1 a.length c1, .map (some ta), .slice A2 b.length c2, .map (some tb)] 85)).alloc (.cells #[.int .i64 n.kind, .string (bs n.owner), .int .i64 n.num, .int .i64 n.idx, .string (bs n.text)] 45)).alloc (.cells #[.int .i64 k.tick, .int .i64 k.cls, .int .i64 k.num, .string (bs k.lin)] 35)).heap.size (((w.alloc (.cells #[.slice A1 a.length c1, .map (some ta), .slice A2 b.length c2, .map (some tb)] 85)).alloc (.cells #[.int .i64 n.kind, .string (bs n.owner), .int .i64 n.num, .int .i64 n.idx, .string (bs n.text)] 45)).alloc (.cells #[.int .i64 k.tick, .int .i64 k.cls, .int .i64 k.num, .string (bs k.lin)] 35)) W) => ((ha.next b3).next hW).writer oa n hk); have HWB := Lib.hid (fun (W : World) (hW : Below (((w.alloc (.cells #[.slice A1 a.length c1, .map (some ta), .slice A2 b.length c2, .map (some tb)] 85)).alloc (.cells #[.int .i64 n.kind, .string (bs n.owner), .int .i64 n.num, .int .i64 n.idx, .string (bs n.text)] 45)).alloc (.cells #[.int .i64 k.tick, .int .i64 k.cls, .int .i64 k.num, .string (bs k.lin)] 35)).heap.size (((w.alloc (.cells #[.slice A1 a.length c1, .map (some ta), .slice A2 b.length c2, .map (some tb)] 85)).alloc (.cells #[.int .i64 n.kind, .string (bs n.owner), .int .i64 n.num, .int .i64 n.idx, .string (bs n.text)] 45)).alloc (.cells #[.int .i64 k.tick, .int .i64 k.cls, .int .i64 k.num, .string (bs k.lin)] 35)) W) => ((hb.next b3).next hW).writer ob n hk); have HRA := Lib.hid (fun (W : World) (hW : Below (((w.alloc (.cells #[.slice A1 a.length c1, .map (some ta), .slice A2 b.length c2, .map (some tb)] 85)).alloc (.cells #[.int .i64 n.kind, .string (bs n.owner), .int .i64 n.num, .int .i64 n.idx, .string (bs n.text)] 45)).alloc (.cells #[.int .i64 k.tick, .int .i64 k.cls, .int .i64 k.num, .string (bs k.lin)] 35)).heap.size (((w.alloc (.cells #[.slice A1 a.length c1, .map (some ta), .slice A2 b.length c2, .map (some tb)] 85)).alloc (.cells #[.int .i64 n.kind, .string (bs n.owner), .int .i64 n.num, .int .i64 n.idx, .string (bs n.text)] 45)).alloc (.cells #[.int .i64 k.tick, .int .i64 k.cls, .int .i64 k.num, .string (bs k.lin)] 35)) W) => ((ha.next b3).next hW).1); have HRB := Lib.hid (fun (W : World) (hW : Below (((w.alloc (.cells #[.slice A1 a.length c1, .map (some ta), .slice A2 b.length c2, .map (some tb)] 85)).alloc (.cells #[.int .i64 n.kind, .string (bs n.owner), .int .i64 n.num, .int .i64 n.idx, .string (bs n.text)] 45)).alloc (.cells #[.int .i64 k.tick, .int .i64 k.cls, .int .i64 k.num, .string (bs k.lin)] 35)).heap.size (((w.alloc (.cells #[.slice A1 a.length c1, .map (some ta), .slice A2 b.length c2, .map (some tb)] 85)).alloc (.cells #[.int .i64 n.kind, .string (bs n.owner), .int .i64 n.num, .int .i64 n.idx, .string (bs n.text)] 45)).alloc (.cells #[.int .i64 k.tick, .int .i64 k.cls, .int .i64 k.num, .string (bs k.lin)] 35)) W) => ((hb.next b3).next hW).1); have HLA := Lib.hid (fun x hx => (oa.r x hx).1.2.1); have HLB := Lib.hid (fun x hx => (ob.r x hx).1.2.1)
  have HB0 := Lib.hid b3; have HSA := Lib.hid (fun h => lwr_spec oa.pw (n := n) (k := k) h); have HSB := Lib.hid (fun h => lwr_spec ob.pw (n := n) (k := k) h)
  unfold nmV nmA kyV at HWA HWB ⊢
  have bb := ((Below.refl (((w.alloc (.cells #[.slice A1 a.length c1, .map (some ta), .slice A2 b.length c2, .map (some tb)] 85)).alloc (.cells #[.int .i64 n.kind, .string (bs n.owner), .int .i64 n.num, .int .i64 n.idx, .string (bs n.text)] 45)).alloc (.cells #[.int .i64 k.tick, .int .i64 k.cls, .int .i64 k.num, .string (bs k.lin)] 35)).heap.size (((w.alloc (.cells #[.slice A1 a.length c1, .map (some ta), .slice A2 b.length c2, .map (some tb)] 85)).alloc (.cells #[.int .i64 n.kind, .string (bs n.owner), .int .i64 n.num, .int .i64 n.idx, .string (bs n.text)] 45)).alloc (.cells #[.int .i64 k.tick, .int .i64 k.cls, .int .i64 k.num, .string (bs k.lin)] 35))).alloc (Nat.le_refl _) (.cells #[.int .i64 0, .int .i64 0, .int .i64 0, .string ⟨#[]⟩] 35)).alloc (by simp) (.cells #[.int .i64 0, .int .i64 0, .int .i64 0, .string ⟨#[]⟩] 35); have z3 := (Blk.newE (((w.alloc (.cells #[.slice A1 a.length c1, .map (some ta), .slice A2 b.length c2, .map (some tb)] 85)).alloc (.cells #[.int .i64 n.kind, .string (bs n.owner), .int .i64 n.num, .int .i64 n.idx, .string (bs n.text)] 45)).alloc (.cells #[.int .i64 k.tick, .int .i64 k.cls, .int .i64 k.num, .string (bs k.lin)] 35)) 35 #[.int .i64 0, .int .i64 0, .int .i64 0, .string ⟨#[]⟩] (w.heap.size + 1 + 1 + 1) (by simp)).alloc (.cells #[.int .i64 0, .int .i64 0, .int .i64 0, .string ⟨#[]⟩] 35); have z4 := Blk.newE ((((w.alloc (.cells #[.slice A1 a.length c1, .map (some ta), .slice A2 b.length c2, .map (some tb)] 85)).alloc (.cells #[.int .i64 n.kind, .string (bs n.owner), .int .i64 n.num, .int .i64 n.idx, .string (bs n.text)] 45)).alloc (.cells #[.int .i64 k.tick, .int .i64 k.cls, .int .i64 k.num, .string (bs k.lin)] 35)).alloc (.cells #[.int .i64 0, .int .i64 0, .int .i64 0, .string ⟨#[]⟩] 35)) 35 #[.int .i64 0, .int .i64 0, .int .i64 0, .string ⟨#[]⟩] (w.heap.size + 1 + 1 + 1 + 1) (by simp)
  have hsz : (((w.alloc (.cells #[.slice A1 a.length c1, .map (some ta), .slice A2 b.length c2, .map (some tb)] 85)).alloc (.cells #[.int .i64 n.kind, .string (bs n.owner), .int .i64 n.num, .int .i64 n.idx, .string (bs n.text)] 45)).alloc (.cells #[.int .i64 k.tick, .int .i64 k.cls, .int .i64 k.num, .string (bs k.lin)] 35)).heap.size = w.heap.size + 1 + 1 + 1 := by simp
  have HOB := Lib.hid (show (((w.alloc (.cells #[.slice A1 a.length c1, .map (some ta), .slice A2 b.length c2, .map (some tb)] 85)).alloc (.cells #[.int .i64 n.kind, .string (bs n.owner), .int .i64 n.num, .int .i64 n.idx, .string (bs n.text)] 45)).alloc (.cells #[.int .i64 k.tick, .int .i64 k.cls, .int .i64 k.num, .string (bs k.lin)] 35)).heap.size ≤ w.heap.size + 1 + 1 + 1 + 1 by omega); have HRL := Lib.hid (show (((w.alloc (.cells #[.slice A1 a.length c1, .map (some ta), .slice A2 b.length c2, .map (some tb)] 85)).alloc (.cells #[.int .i64 n.kind, .string (bs n.owner), .int .i64 n.num, .int .i64 n.idx, .string (bs n.text)] 45)).alloc (.cells #[.int .i64 k.tick, .int .i64 k.cls, .int .i64 k.num, .string (bs k.lin)] 35)).heap.size ≤ w.heap.size + 1 + 1 + 1 by omega); have HNE := Lib.hid (show w.heap.size + 1 + 1 + 1 ≠ w.heap.size + 1 + 1 + 1 + 1 by omega); clear ha hb oa ob b0 b1 b2 b3 z0 z1 z2 p0 p1 p2 p3 n0 n1 n2 n3 n4 k0 k1 k2 k3 hsz
  go_enter Tryz.func28, Tryz.ntmps28
  go_upto_region 3 with (fail)
  generalize (((w.alloc (.cells #[.slice A1 a.length c1, .map (some ta), .slice A2 b.length c2, .map (some tb)] 85)).alloc (.cells #[.int .i64 n.kind, .string (bs n.owner), .int .i64 n.num, .int .i64 n.idx, .string (bs n.text)] 45)).alloc (.cells #[.int .i64 k.tick, .int .i64 k.cls, .int .i64 k.num, .string (bs k.lin)] 35)) = w3 at *; have Z3 := Lib.hid z3; have Z4 := Lib.hid z4; have BW := Lib.hid bb; clear z3 z4 bb; generalize (w3.alloc (.cells #[.int .i64 0, .int .i64 0, .int .i64 0, .string ⟨#[]⟩] 35)).alloc (.cells #[.int .i64 0, .int .i64 0, .int .i64 0, .string ⟨#[]⟩] 35) = w5 at *; obtain ⟨qb, hqb⟩ : ∃ qb, w.heap.size + 1 + 1 + 1 + 1 = qb := ⟨_, rfl⟩; rw [hqb] at Z4 HOB HNE ⊢; obtain ⟨rb, hrb⟩ : ∃ rb, w.heap.size + 1 + 1 + 1 = rb := ⟨_, rfl⟩; rw [hrb] at Z3 HRL HNE ⊢; obtain ⟨kb, hkb⟩ : ∃ kb, w.heap.size + 1 + 1 = kb := ⟨_, rfl⟩; rw [hkb] at HYY ⊢; obtain ⟨nb, hnb⟩ : ∃ nb, w.heap.size + 1 = nb := ⟨_, rfl⟩; rw [hnb] at HYY ⊢; obtain ⟨pb, hpb⟩ : ∃ pb, w.heap.size = pb := ⟨_, rfl⟩; have HPB := Lib.hid hpb; rw [hpb] at HYY ⊢; clear hpb hnb hkb hrb hqb; obtain ⟨y0, y1, y2, y3, y4, y5, y6, y7, y8, y9, y10, y11, y12⟩ := HYY.out w5 BW.out; have H0 : Hid (orRel a b n k w3 rb qb (.bool false) (.int .i64 (0 : Nat)) w5) := Lib.hid ⟨0, none, by decide, rfl, rfl, fun _ => rfl, fun h => by omega, fun h => by omega, fun _ h => (by cases h), Z3.out, Z4.out, BW.out⟩
  go_upto_region 4 with (fail)
  clear y0 y1 y2 y3 y4 y5 y6 y7 y8 y9 y10 y11 y12 Z3 Z4 BW
  go_wp2_with fail
  go_loopw [9, 19] (fun is i wr => orRel a b n k w3 rb qb is i wr) (fun _ i _ => 2 - (intOf i).toNat)
  case atStart => exact H0.out
  case round =>
    clear H0; obtain ⟨j, o, hj, rfl, rfl, ho0, ho1, ho2, hli, hz1, hz2, hB⟩ := hrel; have HO0 := Lib.hid ho0; have HO1 := Lib.hid ho1; have HO2 := Lib.hid ho2; have HLI := Lib.hid hli; have Z1 := Lib.hid hz1; have Z2 := Lib.hid hz2; have HB := Lib.hid hB; clear ho0 ho1 ho2 hli hz1 hz2 hB
    have h3 : j = 0 ∨ j = 1 ∨ j = 2 := by omega
    rcases h3 with rfl | rfl | rfl
    · have HOZ := Lib.hid (HO0.out rfl)
      clear HO0 HO1 HO2; clear hj
      have ix : ∀ w, (Instr.index 128 (.agg #[.slice A1 a.length c1, .map (some ta), .slice A2 b.length c2, .map (some tb)]) (.int .i64 0)).run Tryz.prog w = .ok (.agg #[.slice A1 a.length c1, .map (some ta)]) w := fun _ => by kernel_rfl
      go_upto_region 6 with (fail)
      have hba := (Below.refl wr.heap.size wr).alloc (Nat.le_refl _) (.cells #[.slice A1 a.length c1, .map (some ta)] 82); have Z1A := Lib.hid (Z1.out.next hba Z1.out.lt); have Z2A := Lib.hid (Z2.out.next hba Z2.out.lt); have BA := Lib.hid (HB.out.trans (hba.mono HB.out.size)); have ZX := Lib.hid (Blk.new wr 82 #[.slice A1 a.length c1, .map (some ta)]); obtain ⟨y0, y1, y2, y3, y4, y5, y6, y7, y8, y9, y10, y11, y12⟩ := HYY.out _ BA.out; clear hba; generalize wr.alloc (.cells #[.slice A1 a.length c1, .map (some ta)] 82) = w6 at *; obtain ⟨xb, hxb⟩ : ∃ xb, wr.heap.size = xb := ⟨_, rfl⟩; rw [hxb] at ZX ⊢; clear hxb; have r0 := ZX.out.cell 0; have r1 := ZX.out.cell 1; simp only [qB, qC, qD] at r0 r1
      go_upto_region 7 with (go_at_call 53; refine (HWA.out _ BA.out).mono ?_; rintro e w7 ⟨rfl, hb⟩; have Z1B := Lib.hid (Z1A.out.next hb Z1A.out.lt); have Z2B := Lib.hid (Z2A.out.next hb Z2A.out.lt); have ZXB := Lib.hid (ZX.out.next hb ZX.out.lt); have BB := Lib.hid (BA.out.trans (hb.mono BA.out.size)); clear hb)
      clear r0 r1 y0 y1 y2 y3 y4 y5 y6 y7 y8 y9 y10 y11 y12; obtain ⟨i, hi⟩ : ∃ i, lwr a n k = i := ⟨_, rfl⟩; have HST := Lib.hid (show stO a n k o = if 0 ≤ i then stK (acG a i).key o else o by rw [← hi]; rfl); have HSP := HSA.out; rw [hi] at HSP ⊢; have HSP := Lib.hid HSP; clear hi
      by_cases hi : 0 ≤ i
      · have i1 : decide (0 ≤ i) = true := decide_eq_true hi
        obtain ⟨p, hp, rfl, hpe, -, -⟩ := HSP.out hi
        have p1 : (0 : Int) ≤ (p : Int) := by omega
        have p2 : (p : Int) < (a.length : Int) := by omega
        obtain ⟨cb, co, u1, u2, hbe, hcb, -, -, y0, y1, y2, y3, -, -⟩ := RdAc.piece (HRA.out w7 BB.out) hp; subst hbe; have HXL := Lib.hid (HLA.out a[p] (List.getElem_mem hp)); rw [hpe] at HST; obtain ⟨x, hx⟩ : ∃ x, a[p].key = x := ⟨_, rfl⟩; rw [hx] at y0 y1 y2 y3 HST HXL; have r0 := ZXB.out.cell 0; have r1 := ZXB.out.cell 1; simp only [qB, qC, qD] at r0 r1; clear hi hp hpe hx hcb HSP
        go_upto_region 9 with (fail)
        have hba := (Below.refl w7.heap.size w7).alloc (Nat.le_refl _) (.cells #[.int .i64 x.tick, .int .i64 x.cls, .int .i64 x.num, .string (bs x.lin)] 35); have Z1C := Lib.hid (Z1B.out.next hba Z1B.out.lt); have Z2C := Lib.hid (Z2B.out.next hba Z2B.out.lt); have BC := Lib.hid (BB.out.trans (hba.mono BB.out.size)); have ZK := Lib.hid (Blk.new w7 35 #[.int .i64 x.tick, .int .i64 x.cls, .int .i64 x.num, .string (bs x.lin)]); clear hba r0 r1 y0 y1 y2 y3; generalize w7.alloc (.cells #[.int .i64 x.tick, .int .i64 x.cls, .int .i64 x.num, .string (bs x.lin)] 35) = w8 at *; obtain ⟨nk, hnk⟩ : ∃ nk, w7.heap.size = nk := ⟨_, rfl⟩; rw [hnk] at ZK ⊢; clear hnk; have t0 := ZK.out.cell 0; have t1 := ZK.out.cell 1; have t2 := ZK.out.cell 2; have t3 := ZK.out.cell 3; simp only [qB, qC, qD] at t0 t1 t2 t3; obtain rfl : o = none := HOZ.out; have HSE := Lib.hid (show some x = stO a n k none by rw [HST.out, if_pos (by omega)]; rfl); have Z1X := Lib.hid (Z1C.out.low4h (v0 := .int .i64 x.tick) (v1 := .int .i64 x.cls) (v2 := .int .i64 x.num) (v3 := .string (bs x.lin)) HNE.out); have q0 := Z2C.out.cell 0; have q1 := Z2C.out.cell 1; have q2 := Z2C.out.cell 2; have q3 := Z2C.out.cell 3; simp only [qB, qC, qD] at q0 q1 q2 q3; have f0 := Z2C.out.frozen 0; have f1 := Z2C.out.frozen 1; have f2 := Z2C.out.frozen 2; have f3 := Z2C.out.frozen 3; have ZE := Lib.hid (set4z_ (.int .i64 x.tick) (.int .i64 x.cls) (.int .i64 x.num) (.string (bs x.lin)) Z2C.out); have BE := Lib.hid (low4z_ (.int .i64 x.tick) (.int .i64 x.cls) (.int .i64 x.num) (.string (bs x.lin)) BC.out HOB.out)
        go_wp2_with fail
        go_roundw
        case rel => exact ⟨1, some x, by decide, by go_num, rfl, fun h => by omega, fun _ => HOZ.out ▸ HSE.out, fun h => by omega, fun _ h => by injection h with h; subst h; exact HXL.out, Z1X.out, ZE.out, BE.out⟩
        case measure => simp [intOf]
      · have i1 : decide (0 ≤ i) = false := decide_eq_false hi
        have HSE := Lib.hid (show stO a n k o = o by rw [HST.out, if_neg hi]); clear hi
        go_wp2_with fail
        go_roundw
        case rel => exact ⟨1, o, by decide, by go_num, rfl, fun h => by omega, fun _ => HOZ.out ▸ HSE.out.symm, fun h => by omega, HLI.out, Z1B.out, Z2B.out, BB.out⟩
        case measure => simp [intOf]
    · have HOZ := Lib.hid (HO1.out rfl)
      clear HO0 HO1 HO2; clear hj
      have ix : ∀ w, (Instr.index 128 (.agg #[.slice A1 a.length c1, .map (some ta), .slice A2 b.length c2, .map (some tb)]) (.int .i64 1)).run Tryz.prog w = .ok (.agg #[.slice A2 b.length c2, .map (some tb)]) w := fun _ => by kernel_rfl
      go_upto_region 6 with (fail)
      have hba := (Below.refl wr.heap.size wr).alloc (Nat.le_refl _) (.cells #[.slice A2 b.length c2, .map (some tb)] 82); have Z1A := Lib.hid (Z1.out.next hba Z1.out.lt); have Z2A := Lib.hid (Z2.out.next hba Z2.out.lt); have BA := Lib.hid (HB.out.trans (hba.mono HB.out.size)); have ZX := Lib.hid (Blk.new wr 82 #[.slice A2 b.length c2, .map (some tb)]); obtain ⟨y0, y1, y2, y3, y4, y5, y6, y7, y8, y9, y10, y11, y12⟩ := HYY.out _ BA.out; clear hba; generalize wr.alloc (.cells #[.slice A2 b.length c2, .map (some tb)] 82) = w6 at *; obtain ⟨xb, hxb⟩ : ∃ xb, wr.heap.size = xb := ⟨_, rfl⟩; rw [hxb] at ZX ⊢; clear hxb; have r0 := ZX.out.cell 0; have r1 := ZX.out.cell 1; simp only [qB, qC, qD] at r0 r1
      go_upto_region 7 with (go_at_call 53; refine (HWB.out _ BA.out).mono ?_; rintro e w7 ⟨rfl, hb⟩; have Z1B := Lib.hid (Z1A.out.next hb Z1A.out.lt); have Z2B := Lib.hid (Z2A.out.next hb Z2A.out.lt); have ZXB := Lib.hid (ZX.out.next hb ZX.out.lt); have BB := Lib.hid (BA.out.trans (hb.mono BA.out.size)); clear hb)
      clear r0 r1 y0 y1 y2 y3 y4 y5 y6 y7 y8 y9 y10 y11 y12; obtain ⟨i, hi⟩ : ∃ i, lwr b n k = i := ⟨_, rfl⟩; have HST := Lib.hid (show stO b n k o = if 0 ≤ i then stK (acG b i).key o else o by rw [← hi]; rfl); have HSP := HSB.out; rw [hi] at HSP ⊢; have HSP := Lib.hid HSP; clear hi
      by_cases hi : 0 ≤ i
      · have i1 : decide (0 ≤ i) = true := decide_eq_true hi
        obtain ⟨p, hp, rfl, hpe, -, -⟩ := HSP.out hi
        have p1 : (0 : Int) ≤ (p : Int) := by omega
        have p2 : (p : Int) < (b.length : Int) := by omega
        obtain ⟨cb, co, u1, u2, hbe, hcb, -, -, y0, y1, y2, y3, -, -⟩ := RdAc.piece (HRB.out w7 BB.out) hp; subst hbe; have HXL := Lib.hid (HLB.out b[p] (List.getElem_mem hp)); rw [hpe] at HST; obtain ⟨x, hx⟩ : ∃ x, b[p].key = x := ⟨_, rfl⟩; rw [hx] at y0 y1 y2 y3 HST HXL; have r0 := ZXB.out.cell 0; have r1 := ZXB.out.cell 1; simp only [qB, qC, qD] at r0 r1; clear hi hp hpe hx hcb HSP
        go_upto_region 9 with (fail)
        have hba := (Below.refl w7.heap.size w7).alloc (Nat.le_refl _) (.cells #[.int .i64 x.tick, .int .i64 x.cls, .int .i64 x.num, .string (bs x.lin)] 35); have Z1C := Lib.hid (Z1B.out.next hba Z1B.out.lt); have Z2C := Lib.hid (Z2B.out.next hba Z2B.out.lt); have BC := Lib.hid (BB.out.trans (hba.mono BB.out.size)); have ZK := Lib.hid (Blk.new w7 35 #[.int .i64 x.tick, .int .i64 x.cls, .int .i64 x.num, .string (bs x.lin)]); clear hba r0 r1 y0 y1 y2 y3; generalize w7.alloc (.cells #[.int .i64 x.tick, .int .i64 x.cls, .int .i64 x.num, .string (bs x.lin)] 35) = w8 at *; obtain ⟨nk, hnk⟩ : ∃ nk, w7.heap.size = nk := ⟨_, rfl⟩; rw [hnk] at ZK ⊢; clear hnk; have t0 := ZK.out.cell 0; have t1 := ZK.out.cell 1; have t2 := ZK.out.cell 2; have t3 := ZK.out.cell 3; simp only [qB, qC, qD] at t0 t1 t2 t3
        cases o with
        | none =>
          have HSE := Lib.hid (show some x = stO b n k none by rw [HST.out, if_pos (by omega)]; rfl); have Z1X := Lib.hid (Z1C.out.low4h (v0 := .int .i64 x.tick) (v1 := .int .i64 x.cls) (v2 := .int .i64 x.num) (v3 := .string (bs x.lin)) HNE.out); have q0 := Z2C.out.cell 0; have q1 := Z2C.out.cell 1; have q2 := Z2C.out.cell 2; have q3 := Z2C.out.cell 3; simp only [qB, qC, qD] at q0 q1 q2 q3; have f0 := Z2C.out.frozen 0; have f1 := Z2C.out.frozen 1; have f2 := Z2C.out.frozen 2; have f3 := Z2C.out.frozen 3; have ZE := Lib.hid (set4z_ (.int .i64 x.tick) (.int .i64 x.cls) (.int .i64 x.num) (.string (bs x.lin)) Z2C.out); have BE := Lib.hid (low4z_ (.int .i64 x.tick) (.int .i64 x.cls) (.int .i64 x.num) (.string (bs x.lin)) BC.out HOB.out)
          go_wp2_with fail
          go_roundw
          case rel => exact ⟨2, some x, by decide, by go_num, rfl, fun h => by omega, fun h => by omega, fun _ => by rw [stO_org, ← HOZ.out]; exact HSE.out, fun _ h => by injection h with h; subst h; exact HXL.out, Z1X.out, ZE.out, BE.out⟩
          case measure => simp [intOf]
        | some y =>
          have HYL := Lib.hid (HLI.out y rfl)
          simp only [Option.getD_some] at Z2C
          have c0 := Z2C.out.cell 0; have c1 := Z2C.out.cell 1; have c2 := Z2C.out.cell 2; have c3 := Z2C.out.cell 3; simp only [qB, qC, qD] at c0 c1 c2 c3; have HKC := Lib.hid (fun W => key_compare x y W HXL.out HYL.out)
          unfold kyV at HKC
          by_cases hc : 0 < cmpK x y
          · have e1 : decide (0 < cmpK x y) = true := decide_eq_true hc
            have HSE := Lib.hid (show some x = stO b n k (some y) by rw [HST.out, if_pos (by omega)]; unfold stK; exact (if_pos hc).symm); clear hc
            go_upto_region 10 with (go_at_call 11; refine (HKC.out _).mono ?_; rintro e w9 ⟨rfl, hb⟩; have Z1D := Lib.hid (Z1C.out.next hb Z1C.out.lt); have Z2D := Lib.hid (Z2C.out.next hb Z2C.out.lt); have ZKD := Lib.hid (ZK.out.next hb ZK.out.lt); have BD := Lib.hid (BC.out.trans (hb.mono BC.out.size)); clear hb)
            clear c0 c1 c2 c3 t0 t1 t2 t3; have t0 := ZKD.out.cell 0; have t1 := ZKD.out.cell 1; have t2 := ZKD.out.cell 2; have t3 := ZKD.out.cell 3; simp only [qB, qC, qD] at t0 t1 t2 t3; have Z1X := Lib.hid (Z1D.out.low4h (v0 := .int .i64 x.tick) (v1 := .int .i64 x.cls) (v2 := .int .i64 x.num) (v3 := .string (bs x.lin)) HNE.out); have q0 := Z2D.out.cell 0; have q1 := Z2D.out.cell 1; have q2 := Z2D.out.cell 2; have q3 := Z2D.out.cell 3; simp only [qB, qC, qD] at q0 q1 q2 q3; have f0 := Z2D.out.frozen 0; have f1 := Z2D.out.frozen 1; have f2 := Z2D.out.frozen 2; have f3 := Z2D.out.frozen 3; have ZE := Lib.hid (set4z_ (.int .i64 x.tick) (.int .i64 x.cls) (.int .i64 x.num) (.string (bs x.lin)) Z2D.out); have BE := Lib.hid (low4z_ (.int .i64 x.tick) (.int .i64 x.cls) (.int .i64 x.num) (.string (bs x.lin)) BD.out HOB.out)
            go_wp2_with fail
            go_roundw
            case rel => exact ⟨2, some x, by decide, by go_num, rfl, fun h => by omega, fun h => by omega, fun _ => by rw [stO_org, ← HOZ.out]; exact HSE.out, fun _ h => by injection h with h; subst h; exact HXL.out, Z1X.out, ZE.out, BE.out⟩
            case measure => simp [intOf]
          · have e1 : decide (0 < cmpK x y) = false := decide_eq_false hc
            have HSE := Lib.hid (show some y = stO b n k (some y) by rw [HST.out, if_pos (by omega)]; unfold stK; exact (if_neg hc).symm); clear hc
            go_wp2_with (go_at_call 11; refine (HKC.out _).mono ?_; rintro e w9 ⟨rfl, hb⟩; have Z1D := Lib.hid (Z1C.out.next hb Z1C.out.lt); have Z2D := Lib.hid (Z2C.out.next hb Z2C.out.lt); have BD := Lib.hid (BC.out.trans (hb.mono BC.out.size)); clear hb)
            go_roundw
            case rel => exact ⟨2, some y, by decide, by go_num, rfl, fun h => by omega, fun h => by omega, fun _ => by rw [stO_org, ← HOZ.out]; exact HSE.out, HLI.out, Z1D.out, Z2D.out, BD.out⟩
            case measure => simp [intOf]
      · have i1 : decide (0 ≤ i) = false := decide_eq_false hi
        have HSE := Lib.hid (show stO b n k o = o by rw [HST.out, if_neg hi]); clear hi
        go_wp2_with fail
        go_roundw
        case rel => exact ⟨2, o, by decide, by go_num, rfl, fun h => by omega, fun h => by omega, fun _ => by rw [stO_org, ← HOZ.out]; exact HSE.out.symm, HLI.out, Z1B.out, Z2B.out, BB.out⟩
        case measure => simp [intOf]
    · have HO2 := Lib.hid (HO2.out rfl)
      clear hj; have HO := HO2; obtain ⟨y, hy⟩ : ∃ y, o.getD ky00 = y := ⟨_, rfl⟩; obtain ⟨bo, hbo⟩ : ∃ bo, o.isSome = bo := ⟨_, rfl⟩; have HE := Lib.hid (show (orgK a b n k).getD ky00 = y ∧ (orgK a b n k).isSome = bo by rw [← HO.out]; exact ⟨hy, hbo⟩); rw [hy] at Z2; rw [hbo]; clear hy hbo; have c0 := Z2.out.cell 0; have c1 := Z2.out.cell 1; have c2 := Z2.out.cell 2; have c3 := Z2.out.cell 3; simp only [qB, qC, qD] at c0 c1 c2 c3; have q0 := Z1.out.cell 0; have q1 := Z1.out.cell 1; have q2 := Z1.out.cell 2; have q3 := Z1.out.cell 3; simp only [qB, qC, qD] at q0 q1 q2 q3; have f0 := Z1.out.frozen 0; have f1 := Z1.out.frozen 1; have f2 := Z1.out.frozen 2; have f3 := Z1.out.frozen 3; have ZE := Lib.hid (set4z_ (.int .i64 y.tick) (.int .i64 y.cls) (.int .i64 y.num) (.string (bs y.lin)) Z1.out); have BE := Lib.hid (low4z_ (.int .i64 y.tick) (.int .i64 y.cls) (.int .i64 y.num) (.string (bs y.lin)) HB.out HRL.out)
      go_wp2_with fail
      clear c0 c1 c2 c3; clear q0 q1 q2 q3 f0 f1 f2 f3; have q0 := ZE.out.cell 0; have q1 := ZE.out.cell 1; have q2 := ZE.out.cell 2; have q3 := ZE.out.cell 3; simp only [qB, qC, qD] at q0 q1 q2 q3; generalize ((((wr.setCell ⟨rb, 0, none⟩ (.int .i64 y.tick)).setCell ⟨rb, 1, none⟩ (.int .i64 y.cls)).setCell ⟨rb, 2, none⟩ (.int .i64 y.num)).setCell ⟨rb, 3, none⟩ (.string (bs y.lin))) = W9 at *
      exact bodyPost_ret (v := .tuple #[.agg #[.int .i64 y.tick, .int .i64 y.cls, .int .i64 y.num, .string (bs y.lin)], .bool bo]) (by simp [results, Tryz.results28, go_sem, q0, q1, q2, q3]) rfl ⟨by rw [HE.out.1, HE.out.2], HB0.out.trans (BE.out.mono HB0.out.size)⟩
end Go.Proofs.YtmjkcanjfjfkfaaGreat
