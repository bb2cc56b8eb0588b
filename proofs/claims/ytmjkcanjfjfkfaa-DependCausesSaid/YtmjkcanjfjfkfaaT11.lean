/- Walks of layer 47: a run of the small world. -/
import Derived.Test.YtmjkcanjfjfkfaaT10
import Derived.Test.YtmjkcanjfjfkfaaP3
namespace Go.Proofs.Ytmjkcanjfjfkfaa
open Go.RowKit
set_option linter.unusedSimpArgs false
set_option linter.unusedVariables false
attribute [local go_sem ↓] Go.wp_at_zero Go.wp_at_succ
open Go.MapKept Go.ChangeMaps
theorem DeAt.piece {B : Nat} {w : World} {A : Option Addr} {n c : Nat} {l : List De} (h : DeAt B w (.slice A n c) l) {k : Nat} (hk : k < l.length) : ∃ b o, A = some ⟨b, o, none⟩ ∧ b < B ∧
    w.cell? ⟨b, o + k * 5, none⟩ = some (.int .u8 l[k].who) ∧ w.cell? ⟨b, o + k * 5 + 1, none⟩ = some (.int .u8 l[k].reads) ∧ w.cell? ⟨b, o + k * 5 + 2, none⟩ = some (.int .u8 l[k].writes) ∧ w.cell? ⟨b, o + k * 5 + 3, none⟩ = some (.int .u8 l[k].spawn) ∧ w.cell? ⟨b, o + k * 5 + 4, none⟩ = some (.bool l[k].same) := by
  obtain ⟨b, o, c', hv, _, _, hb, hc⟩ := h.1.at_ (by omega)
  injection hv with hv _ _
  have hg := fun j v (hj : j < 5) (hv : (deC l[k])[j]? = some v) => hc (k * 5 + j) v ((fm_get deC_len l k hk j hj).trans hv)
  exact ⟨b, o, hv, hb, hg 0 _ (by omega) rfl, hg 1 _ (by omega) rfl, hg 2 _ (by omega) rfl, hg 3 _ (by omega) rfl, hg 4 _ (by omega) rfl⟩
/-- Actions in a row of the call's own. -/
def OwnA (w : World) (base : Nat) (v : Value) (l : List Ac) : Prop := ∃ us, RowW NAc w l us ∧ w.ownsRow base 59 6 v l.length (rowC acC l us)
theorem OwnA.nil {w : World} {base : Nat} : OwnA w base (.slice none 0 0) [] := ⟨[], RowW.nil _ _, World.ownsRow_nil _ _ _ _⟩
theorem OwnA.keep {w w' : World} {base : Nat} {v : Value} {l : List Ac} {L : List TypeId} (h : OwnA w base v l) (k : Kept L w w') (h1 : L.contains 59 = false) (h2 : L.contains 87 = false) : OwnA w' base v l := by
  obtain ⟨us, a, b⟩ := h
  exact ⟨us, a.imp fun _ _ h => NAc.keep k h2 h, own_keep b k h1⟩
theorem OwnA.next {w w' : World} {base : Nat} {v : Value} {l : List Ac} (h : OwnA w base v l) (hb : Below w.heap.size w w') : OwnA w' base v l := h.keep (Kept.of_below [] hb) rfl rfl
theorem OwnA.rd {w : World} {base : Nat} {v : Value} {l : List Ac} (h : OwnA w base v l) : RdAc w v l := by
  obtain ⟨us, a, b⟩ := h
  exact ⟨us, a, Rd.of_own b⟩
theorem OwnA.form {w : World} {base : Nat} {v : Value} {l : List Ac} (h : OwnA w base v l) : ∃ A c, v = .slice A l.length c := by
  obtain ⟨us, a, b⟩ := h
  obtain ⟨A, c, hv, _⟩ := own_len b
  exact ⟨A, c, hv⟩
theorem kept_out {w w' : World} {sb : Nat} {s : S47} (h : Outer (fun i => i = sb) w w') (hs : SMap w sb s) : Kept [] w w' :=
  ⟨h.size, fun i cs e fr hc _ => (h.block i (Array.getElem?_eq_some_iff.1 hc).1 (fun e => by subst e; exact hs.isMap hc)).trans hc⟩
theorem infoAc47 : (Try.prog.info? 59).map (fun i => (i.zero, i.size, i.bytes)) = some (some (.agg #[.int .i64 0, .int .i64 0, .int .i64 0, .string ⟨#[]⟩, .slice none 0 0, .slice none 0 0]), 6, 88) := by kernel_rfl
/-- A run under way: its box, its state, what it has made. -/
structure RS (w : World) (u : Value) (wr : World) (st : S47 × List Ac) (v : Value) : Prop where
  fr : Below w.heap.size w wr
  bx : Blk wr w.heap.size 24 #[u]
  sm : SMap wr (w.heap.size + 1) st.1
  out : OwnA wr w.heap.size v st.2
theorem RS.next {w wr w' : World} {u v : Value} {st : S47 × List Ac} (h : RS w u wr st v) (hb : Below wr.heap.size wr w') : RS w u w' st v :=
  ⟨h.fr.trans (hb.mono h.fr.size), h.bx.next hb h.bx.lt, h.sm.next hb, h.out.next hb⟩
theorem RS.perf {w wr w' : World} {u v : Value} {st : S47 × List Ac} {s' : S47} (h : RS w u wr st v) (ho : Outer (fun i => i = w.heap.size + 1) wr w') (hs : SMap w' (w.heap.size + 1) s') : RS w u w' (s', st.2) v := by
  have k := kept_out ho h.sm
  exact ⟨h.fr.trans (ho.below h.fr.size fun i hi => by rw [hi]; omega), h.bx.keep k rfl, hs, h.out.keep k rfl rfl⟩
theorem RS.app {w wr w1 : World} {u v v' : Value} {st : S47 × List Ac} {a : Ac} {uu : Value × Value} {us : List (Value × Value)} (h : RS w u wr st v) (hus : RowW NAc wr st.2 us) (how : wr.ownsRow w.heap.size 59 6 v st.2.length (rowC acC st.2 us)) (hu : NAc wr uu a) (hg : wr.grownBy w1 v.ownBlock) (hown : w1.ownsRow w.heap.size 59 6 v' (st.2.length + 1) (rowC acC st.2 us ++ acC a uu)) : RS w u w1 (st.1, st.2 ++ [a]) v' := by
  have k : Kept [59] wr w1 := Kept.of_own _ how hg rfl
  refine ⟨h.fr.grown hg h.fr.size (fun k hk => own_ge how hk), h.bx.keep k rfl, h.sm.same (hg.block _ h.sm.lt (fun e => by obtain ⟨l, ⟨es, c, hm, _⟩, _⟩ := h.sm; exact own_not_map how hm e.symm)), ?_⟩
  refine ⟨us ++ [uu], (hus.imp fun _ _ h => NAc.keep k rfl h).snoc (NAc.keep k rfl hu), ?_⟩
  rw [rowC_snoc _ _ _ _ _ hus.1, List.length_append]
  exact hown
theorem bits32 (x m : Nat) : bits BinOp.and IntKind.u32 ((x : Int) / 2 ^ m) 1 = if bitN x m then 1 else 0 := by
  have h1 : ((x : Int) / 2 ^ m) = ((x / 2 ^ m : Nat) : Int) := by push_cast; rfl
  rw [h1]
  generalize hy : x / 2 ^ m = y
  have h2 : bits BinOp.and IntKind.u32 (y : Int) 1 = ((y % 2 : Nat) : Int) := by
    show IntKind.u32.wrap ((BitVec.ofInt 32 (y : Int) &&& BitVec.ofInt 32 1).toNat : Nat) = _
    have h1 : (BitVec.ofInt 32 (y : Int) &&& BitVec.ofInt 32 1).toNat = y % 2 := by
      rw [BitVec.toNat_and, BitVec.ofInt_natCast, BitVec.toNat_ofNat]
      show y % 2 ^ 32 &&& 1 = y % 2
      rw [Nat.and_one_is_mod]
      omega
    rw [h1]
    rcases (show y % 2 = 0 ∨ y % 2 = 1 by omega) with h | h <;> rw [h] <;> rfl
  rw [h2]
  unfold bitN
  rw [hy]
  rcases (show y % 2 = 0 ∨ y % 2 = 1 by omega) with h | h <;> rw [h] <;> rfl
theorem RS.cell {w wr : World} {u v : Value} {st : S47 × List Ac} {tb : Nat} {cs : Array Value} (h : RS w u wr st v) (hb : Blk wr tb 77 cs) (hB : w.heap.size ≤ tb) (i : Nat) (x : Value) : RS w u (wr.setCell ⟨tb, i, none⟩ x) st v := by
  have hg : wr.grownBy (wr.setCell ⟨tb, i, none⟩ x) (some tb) := only_setCell (g := tb) (p := ⟨tb, i, none⟩) (only_of_below (Below.refl wr.heap.size wr) (some tb)) (.inl rfl) x
  have k : Kept [77] wr (wr.setCell ⟨tb, i, none⟩ x) := Kept.of_blk _ hb hg rfl
  refine ⟨h.fr.setCell (p := ⟨tb, i, none⟩) hB x, h.bx.keep k rfl, h.sm.same (hg.block _ h.sm.lt (fun e => ?_)), h.out.keep k rfl rfl⟩
  obtain ⟨l, hl, _⟩ := h.sm
  exact hl.noCells hb e.symm
theorem RS.six {w wr wr2 : World} {u v v2 : Value} {st st2 : S47 × List Ac} {xb o : Nat} {a0 a1 a2 a3 a4 : Value} (h : RS w u wr st v) (hx : xb < w.heap.size) (y0 : wr.cell? ⟨xb, o, none⟩ = some a0) (y1 : wr.cell? ⟨xb, o + 1, none⟩ = some a1) (y2 : wr.cell? ⟨xb, o + 2, none⟩ = some a2) (y3 : wr.cell? ⟨xb, o + 3, none⟩ = some a3) (y4 : wr.cell? ⟨xb, o + 4, none⟩ = some a4) (h2 : RS w u wr2 st2 v2) :
    wr2.cell? ⟨w.heap.size, 0, none⟩ = some u ∧ wr2.cell? ⟨xb, o, none⟩ = some a0 ∧ wr2.cell? ⟨xb, o + 1, none⟩ = some a1 ∧ wr2.cell? ⟨xb, o + 2, none⟩ = some a2 ∧ wr2.cell? ⟨xb, o + 3, none⟩ = some a3 ∧ wr2.cell? ⟨xb, o + 4, none⟩ = some a4 := by
  have hb := h2.bx.cell 0
  simp only [List.getElem?_toArray, List.getElem?_cons_zero] at hb
  have go : ∀ j x, wr.cell? ⟨xb, j, none⟩ = some x → wr2.cell? ⟨xb, j, none⟩ = some x := fun j x y => (h2.fr.cell (p := ⟨xb, j, none⟩) hx).trans ((h.fr.cell (p := ⟨xb, j, none⟩) hx).symm.trans y)
  exact ⟨hb, go _ _ y0, go _ _ y1, go _ _ y2, go _ _ y3, go _ _ y4⟩
def appD (st : S47 × List Ac) (m k : Nat) (o : Option De) : S47 × List Ac := match o with
  | none => st
  | some d => stp st (kyP m k) d
def prPre (ds : List De) (p : Nat → Bool) (m : Nat) (pl : List Nat) (s1 : S47 × List Ac) (k : Nat) : S47 × List Ac := ([1, 2, 3].take (k - 1)).foldl (prF ds p m pl) s1
theorem prPre_succ (ds : List De) (p : Nat → Bool) (m : Nat) (pl : List Nat) (s1 : S47 × List Ac) {k : Nat} (h1 : 1 ≤ k) (h2 : k < 4) : prPre ds p m pl s1 (k + 1) = prF ds p m pl (prPre ds p m pl s1 k) k := by
  rcases (show k = 1 ∨ k = 2 ∨ k = 3 by omega) with rfl | rfl | rfl <;> rfl
theorem prPre_vl {ds : List De} (hd : DeOk ds) (p : Nat → Bool) (m : Nat) (pl : List Nat) (s1 : S47 × List Ac) (h : VL s1.1) : ∀ k, k ≤ 4 → VL (prPre ds p m pl s1 k).1 ∧ (prPre ds p m pl s1 k).2.length ≤ s1.2.length + k
  | 0, _ => ⟨h, by simp [prPre]⟩
  | 1, _ => ⟨h, by simp [prPre]⟩
  | k + 2, hk => by
    obtain ⟨a, b⟩ := prPre_vl hd p m pl s1 h (k + 1) (by omega)
    rw [prPre_succ ds p m pl s1 (k := k + 1) (by omega) (by omega)]
    refine ⟨prF_vl hd p m pl _ (by omega) (by omega) a, Nat.le_trans (prF_len ..) (by omega)⟩
def orD (a b : Option De) : Option De := match a with
  | some d => some d
  | none => b
theorem fstD_snoc (ds : List De) (n : Nat) (p : Nat → Bool) (g : Nat) {d : De} (hd : ds[g]? = some d) : ∀ l : List Nat, fstD ds n p (l ++ [g]) = orD (fstD ds n p l) (if d.who % 4 = n ∧ p n = true then some d else none)
  | [] => by
    simp only [List.nil_append, fstD, hd]
    rfl
  | i :: l => by
    have ih := fstD_snoc ds n p g hd l
    simp only [List.cons_append, fstD]
    cases ds[i]? with
    | none => exact ih
    | some d2 =>
      simp only
      split
      · rfl
      · exact ih
def thrC (s : S47) (k : Nat) : Array Value := #[.bool false, .bool (decide (1 < k) && thr s 1), .bool (decide (2 < k) && thr s 2), .bool (decide (3 < k) && thr s 3)]
def cRel (w : World) (u : Value) (ds : List De) (p : Nat → Bool) (m : Nat) (s1 : S47 × List Ac) (tb : Nat) (v8 i : Value) (wr : World) : Prop := ∃ k : Nat, 1 ≤ k ∧ k ≤ 4 ∧ i = .int .u8 k ∧ RS w u wr (prPre ds p m (places ds.length m) s1 k) v8 ∧ Blk wr tb 77 (thrC s1.1 4)
def dRel (w : World) (u : Value) (ds : List De) (p : Nat → Bool) (m f k : Nat) (s1 st : S47 × List Ac) (tb : Nat) (v8 v16 i : Value) (wr : World) : Prop := ∃ j : Nat, j ≤ (places ds.length m).length ∧ i = .int .i64 ((f + j : Nat) : Int) ∧ v16 = .bool (fstD ds k p ((places ds.length m).take j)).isSome ∧ RS w u wr (appD st m k (fstD ds k p ((places ds.length m).take j))) v8 ∧ Blk wr tb 77 (thrC s1.1 4)
def thrRel (w : World) (u : Value) (st : S47 × List Ac) (v8 : Value) (tb : Nat) (i : Value) (wr : World) : Prop := ∃ k : Nat, 1 ≤ k ∧ k ≤ 4 ∧ i = .int .u8 k ∧ RS w u wr st v8 ∧ Blk wr tb 77 (thrC st.1 k)
theorem thrC_succ (s : S47) {k : Nat} (h1 : 1 ≤ k) (h2 : k < 4) : (thrC s k).setIfInBounds k (.bool (thr s k)) = thrC s (k + 1) := by
  rcases (show k = 1 ∨ k = 2 ∨ k = 3 by omega) with rfl | rfl | rfl <;> simp [thrC]
theorem thrC_get (s : S47) {k : Nat} (h1 : 1 ≤ k) (h2 : k < 4) : (thrC s 4)[k]? = some (.bool (thr s k)) := by
  rcases (show k = 1 ∨ k = 2 ∨ k = 3 by omega) with rfl | rfl | rfl <;> simp [thrC]
def runRel (w : World) (u : Value) (ds : List De) (ins prs : Nat) (v8 v9 : Value) (wr : World) : Prop := ∃ m : Nat, m ≤ ticks ds ∧ v9 = .int .i64 ((4 * m : Nat) : Int) ∧ RS w u wr (runTo ds ins prs m) v8
def inRel (w : World) (u : Value) (ds : List De) (ins m f : Nat) (st : S47 × List Ac) (v8 i : Value) (wr : World) : Prop := ∃ j : Nat, j ≤ (places ds.length m).length ∧ i = .int .i64 ((f + j : Nat) : Int) ∧ RS w u wr (((places ds.length m).take j).foldl (inF ds ins m) st) v8
set_option maxRecDepth 100000 in
set_option maxHeartbeats 40000000 in
theorem run_is {w : World} {u : Value} {ds : List De} (ins prs : Nat) (hd : DeAt w.heap.size w u ds) (h1 : ins < 4294967296) (h2 : prs < 256) : Calls Try.prog 9 #[.agg #[u], .int .u32 ins, .int .u8 prs] w fun e w' => ∃ v, e = .returned v ∧ RdAc w' v (runS ds ins prs) ∧ Below w.heap.size w w' := by
  obtain ⟨A, c, rfl, hc, hcm⟩ := Ra.form hd.1
  have HD := Lib.hid hd
  have HDO : Hid (DeOk ds) := Lib.hid hd.2
  have hmm := @run_makeMap Try.prog
  have hNm : ds.length ≤ 9223372036854775807 := by unfold maxLen at hcm; omega
  have ha := ((Below.refl w.heap.size w).alloc (Nat.le_refl _) (.cells #[.slice A ds.length c] 24)).alloc (by simp) (.map #[] 0)
  have H0 : Hid (runRel w (.slice A ds.length c) ds ins prs (.slice none 0 0) (.int .i64 0) ((w.alloc (.cells #[.slice A ds.length c] 24)).alloc (.map #[] 0))) := Lib.hid ⟨0, Nat.zero_le _, rfl, ha, (Blk.new w 24 #[.slice A ds.length c]).next ((Below.refl _ _).alloc (Nat.le_refl _) _) (Blk.new w _ _).lt, ⟨[], by have := MapAt.new (w.alloc (.cells #[.slice A ds.length c] 24)); rw [World.size_alloc] at this; exact this, fun n => rfl⟩, OwnA.nil⟩
  clear hd ha
  go_enter Try.func9, Try.ntmps9
  go_wp2_with fail
  generalize (w.alloc (.cells #[.slice A ds.length c] 24)).alloc (.map #[] 0) = W0 at *
  go_loopw [8, 9] (fun v8 v9 wr => runRel w (.slice A ds.length c) ds ins prs v8 v9 wr) (fun _ v9 _ => 24 - (intOf v9).toNat)
  case atStart => exact H0.out
  case round =>
    clear H0
    obtain ⟨m, hm, rfl, hRS⟩ := hrel
    obtain ⟨f, hf⟩ : ∃ f, 4 * m = f := ⟨_, rfl⟩
    have HF := Lib.hid hf
    rw [hf]
    have hx := hRS.bx.cell 0
    simp only [List.getElem?_toArray, List.getElem?_cons_zero] at hx
    obtain ⟨A8, c8, rfl⟩ := hRS.out.form
    have S1 := Lib.hid hRS
    have VLM := Lib.hid (runTo_vl HDO.out ins prs m)
    have HTS := Lib.hid (show ticks ds = (min ds.length 20 + 3) / 4 from rfl)
    clear hRS
    by_cases hmt : m < ticks ds
    · have hf1 : f < ds.length := by have := HTS.out; omega
      have hf2 : f < 20 := by have := HTS.out; omega
      have e1 : decide ((f : Int) < (ds.length : Int)) = true := decide_eq_true (by omega)
      have e2 : decide ((f : Int) < 20) = true := decide_eq_true (by omega)
      have e3 : decide (f < ds.length) = true := decide_eq_true hf1
      have e4 : decide (f < 20) = true := decide_eq_true hf2
      have hq4 : (f : Int) / 4 = (m : Int) := by have := HF.out; omega
      have hq5 : Int.tdiv (f : Int) 4 = (m : Int) := by rw [Int.tdiv_eq_ediv_of_nonneg (by omega)]; exact hq4
      have hf16 : f ≤ 16 := by have := HF.out; omega
      obtain ⟨tt, htt⟩ : ∃ tt, min (min ds.length (f + 4)) 20 = tt := ⟨_, rfl⟩
      have HT2 := Lib.hid (show tt = min ds.length (f + 4) by omega)
      have HPL := Lib.hid (show (places ds.length m).length = tt - f by rw [places_len, HF.out, htt])
      have hft : f ≤ tt := by have := HT2.out; omega
      have htn : tt ≤ ds.length := by have := HT2.out; omega
      clear htt
      go_upto_region 7 with (fail)
      go_cut [11] (fun v11 wx => v11 = .int .i64 tt ∧ wr = wx)
      case first =>
        by_cases h4 : f + 4 < ds.length
        · have g1 : decide ((f : Int) + 4 < (ds.length : Int)) = true := decide_eq_true (by omega)
          have g2 : decide ((20 : Int) < (f : Int) + 4) = false := decide_eq_false (by omega)
          have g3 : ¬ (20 : Int) < (f : Int) + 4 := by omega
          have htv : tt = f + 4 := by have := HT2.out; omega
          have HTV := Lib.hid htv
          clear htv
          go_wp2_with fail
          go_meet
          case rel => exact ⟨by rw [HTV.out]; rfl, rfl⟩
        · have g1 : decide ((f : Int) + 4 < (ds.length : Int)) = false := decide_eq_false (by omega)
          have g2 : decide ((20 : Int) < (ds.length : Int)) = false := decide_eq_false (by omega)
          have g3 : ¬ 20 < ds.length := by omega
          have HTV := Lib.hid (show tt = ds.length by have := HT2.out; omega)
          go_wp2_with fail
          go_meet
          case rel => exact ⟨by rw [HTV.out], rfl⟩
      case rest =>
      obtain ⟨rfl, rfl⟩ := hcut
      obtain ⟨st0, hst0⟩ : ∃ st0, runTo ds ins prs m = st0 := ⟨_, rfl⟩
      have HS0 := Lib.hid hst0
      have HRS := Lib.hid (runTo_succ ds ins prs m)
      have hm5 : m ≤ 4 := by have := HF.out; omega
      rw [hst0] at S1 VLM HRS
      clear hst0 hq4 hq5
      have H1 : Hid (inRel w (.slice A ds.length c) ds ins m f st0 (.slice A8 st0.2.length c8) (.int .i64 f) wr) := Lib.hid ⟨0, Nat.zero_le _, rfl, S1.out⟩
      rw [HS0.out]
      clear e1 e2 e3 e4 hf1 hf2 hx
      go_wp2_with fail
      go_loopw [8, 12] (fun v8 v12 wr => inRel w (.slice A ds.length c) ds ins m f st0 v8 v12 wr) (fun _ v12 _ => 24 - (intOf v12).toNat)
      case atStart => exact H1.out
      case round =>
        clear H1
        obtain ⟨j, hj, rfl, hRS⟩ := hrel
        obtain ⟨g, hg⟩ : ∃ g, f + j = g := ⟨_, rfl⟩
        have HG := Lib.hid hg
        rw [hg]
        have hjl := Lib.hid hj
        obtain ⟨st, hst⟩ : ∃ st, ((places ds.length m).take j).foldl (inF ds ins m) st0 = st := ⟨_, rfl⟩
        have HST := Lib.hid hst
        have VLS := Lib.hid (fold_vl HDO.out ins m ((places ds.length m).take j) st0 VLM.out.1)
        rw [hst] at hRS VLS
        have HLE : Hid (st.2.length ≤ 100) := Lib.hid (by have h3 := VLS.out.2; have h4 := VLM.out.2; rw [List.length_take] at h3; have := HPL.out; have := places_le ds.length m; omega)
        have VS := Lib.hid VLS.out.1
        have hx := hRS.bx.cell 0
        simp only [List.getElem?_toArray, List.getElem?_cons_zero] at hx
        obtain ⟨A8, c8, rfl⟩ := hRS.out.form
        have S2 := Lib.hid hRS
        clear hst hRS hj hg
        by_cases hgt : g < tt
        · have k1 : decide ((g : Int) < (tt : Int)) = true := decide_eq_true (by omega)
          have hgn : g < ds.length := by omega
          have hg20 : g ≤ 20 := by have := HT2.out; omega
          have k2 : (0 : Int) ≤ (g : Int) := by omega
          have k3 : (g : Int) < (ds.length : Int) := by omega
          obtain ⟨xb, xo, hbe, hxb, y0, y1, y2, y3, y4⟩ := DeAt.piece (HD.out.below S2.out.fr) hgn
          subst hbe
          have HGD : Hid (ds[g]? = some ds[g]) := Lib.hid (List.getElem?_eq_getElem hgn)
          have HDM0 := List.getElem_mem hgn
          obtain ⟨d, hd⟩ : ∃ d, ds[g] = d := ⟨_, rfl⟩
          rw [hd] at y0 y1 y2 y3 y4 HGD HDM0
          have HDM := Lib.hid HDM0
          have hjp : j < (places ds.length m).length := by have := HPL.out; have := HG.out; omega
          have HTK := Lib.hid (show ((places ds.length m).take (j + 1)).foldl (inF ds ins m) st0 = inF ds ins m st g by
            rw [List.take_succ_eq_append_getElem hjp, List.foldl_append, HST.out, places_get, HF.out, HG.out]
            rfl)
          have HIF : Hid (inF ds ins m st g = if d.who % 4 = 0 ∧ bitN ins g = false then stp st (kyI m g) d else st) := Lib.hid (by unfold inF; rw [HGD.out])
          have HJN := Lib.hid (show j + 1 ≤ (places ds.length m).length from hjp)
          have HGN := Lib.hid (show f + (j + 1) = g + 1 by have := HG.out; omega)
          have hw4 : (d.who : Int) % 4 = ((d.who % 4 : Nat) : Int) := by omega
          have hbb := bits32 ins g
          clear hd HDM0 hjp
          by_cases h0 : d.who % 4 = 0
          · have c1 : ((d.who : Int) % 4 == 0) = true := by rw [beq_iff_eq]; omega
            have c2 : (d.who % 4 == 0) = true := by rw [beq_iff_eq]; exact h0
            cases hbt : bitN ins g with
            | true =>
              have c3 : (bits BinOp.and IntKind.u32 ((ins : Int) / 2 ^ g) 1 == 0) = false := by rw [hbb, hbt]; rfl
              have HI2 := Lib.hid (show inF ds ins m st g = st by rw [HIF.out, hbt, if_neg (by simp)])
              clear hbb hbt h0 hw4
              go_wp2_with fail
              go_roundw
              case rel => exact ⟨j + 1, HJN.out, by rw [HGN.out]; go_num, by rw [HTK.out, HI2.out]; exact S2.out⟩
              case measure => simp [intOf]; omega
            | false =>
              have c3 : (bits BinOp.and IntKind.u32 ((ins : Int) / 2 ^ g) 1 == 0) = true := by rw [hbb, hbt]; rfl
              have HI2 := Lib.hid (show inF ds ins m st g = stp st (kyI m g) d by rw [HIF.out, hbt, if_pos ⟨h0, rfl⟩])
              clear hbb hbt h0 hw4
              have hpf := perform_is (k := kyI m g) (d := d) S2.out.sm (pinI VS.out HDO.out HDM.out m g)
              rw [show kyV (kyI m g) = .agg #[.int .i64 (m : Int), .int .i64 0, .int .i64 ((g : Int) + 1), .string ⟨#[]⟩] from rfl] at hpf
              have HPF := Lib.hid hpf
              clear hpf
              go_wp2_with fail
              go_at_call 22
              refine HPF.out.mono ?_
              rintro e w5 ⟨u1, u2, rfl, hna, hsm, hou⟩
              obtain ⟨B1, d1, rfl, _⟩ := RdP.form hna.1
              obtain ⟨B2, d2, rfl, _⟩ := RdP.form hna.2
              have S3 := Lib.hid (S2.out.perf hou hsm)
              have NA3 := Lib.hid hna
              clear hna hsm hou y0 y1 y2 y3 y4 hxb
              have hal := (Below.refl w5.heap.size w5).alloc (Nat.le_refl _) (.cells #[.int .i64 (prf st.1 (kyI m g) d).key.tick, .int .i64 (prf st.1 (kyI m g) d).key.cls, .int .i64 (prf st.1 (kyI m g) d).key.num, .string (bs (prf st.1 (kyI m g) d).key.lin), .slice B1 (prf st.1 (kyI m g) d).reads.length d1, .slice B2 (prf st.1 (kyI m g) d).writes.length d2] 59)
              have S4 := Lib.hid (S3.out.next hal)
              have NA4 := Lib.hid (NAc.next hal NA3.out)
              obtain ⟨us, hus, how⟩ := S4.out.out
              have HUS := Lib.hid hus
              have HOW := Lib.hid how
              have hws := S3.out.fr.size
              have hlel := HLE.out
              obtain ⟨i0, hi, hz0, hz1, hz2⟩ := info_parts infoAc47
              clear hal hus how
              go_wp2_with (at_builtin; refine wpList_append_w _ rfl _ _ _ rfl w.heap.size 59 i0 _ 6 88 Try.underlying25 hi hz0 hz1 hz2 rfl (by omega) (.slice A8 st.2.length c8) st.2.length (rowC acC st.2 us) rfl HOW.out (.slice (some ⟨w5.heap.size, 0, none⟩) 1 1) 1 [.int .i64 (prf st.1 (kyI m g) d).key.tick, .int .i64 (prf st.1 (kyI m g) d).key.cls, .int .i64 (prf st.1 (kyI m g) d).key.num, .string (bs (prf st.1 (kyI m g) d).key.lin), .slice B1 (prf st.1 (kyI m g) d).reads.length d1, .slice B2 (prf st.1 (kyI m g) d).writes.length d2] rfl (Rd.of_own (own_new w5 0 59 6 [.int .i64 (prf st.1 (kyI m g) d).key.tick, .int .i64 (prf st.1 (kyI m g) d).key.cls, .int .i64 (prf st.1 (kyI m g) d).key.num, .string (bs (prf st.1 (kyI m g) d).key.lin), .slice B1 (prf st.1 (kyI m g) d).reads.length d1, .slice B2 (prf st.1 (kyI m g) d).writes.length d2] rfl (Nat.zero_le _))) (by omega) rfl (by simp [Value.oneCell']) (by unfold maxLen; omega) (by omega) (by simp; omega) ?_; intro v8 w8 hown8 hg8 hat8; have HO8 := Lib.hid hown8; have HG8 := Lib.hid hg8; clear hown8 hg8 hat8)
              have S8 := Lib.hid (S4.out.app HUS.out HOW.out NA4.out HG8.out HO8.out)
              clear hlel hws i0 hi hz0 hz1 hz2
              go_wp2_with fail
              go_roundw
              case rel => exact ⟨j + 1, HJN.out, by rw [HGN.out]; go_num, by rw [HTK.out, HI2.out]; exact S8.out⟩
              case measure => simp [intOf]; omega
          · have c1 : ((d.who : Int) % 4 == 0) = false := by rw [beq_eq_false_iff_ne]; omega
            have c2 : (d.who % 4 == 0) = false := by rw [beq_eq_false_iff_ne]; exact h0
            have HI2 := Lib.hid (show inF ds ins m st g = st by rw [HIF.out, if_neg (fun h => h0 h.1)])
            clear hbb h0 hw4
            go_wp2_with fail
            go_roundw
            case rel => exact ⟨j + 1, HJN.out, by rw [HGN.out]; go_num, by rw [HTK.out, HI2.out]; exact S2.out⟩
            case measure => simp [intOf]; omega
        · have k1 : decide ((g : Int) < (tt : Int)) = false := decide_eq_false (by omega)
          have HSF := Lib.hid (show (places ds.length m).foldl (inF ds ins m) st0 = st by rw [← HST.out, List.take_of_length_le (by have := HPL.out; have := HG.out; omega)])
          have hfz := Lib.hid hgt
          have hfb := (Below.refl wr.heap.size wr).alloc (Nat.le_refl _) (.cells #[.bool false, .bool false, .bool false, .bool false] 77)
          have H2 : Hid (thrRel w (.slice A ds.length c) st (.slice A8 st.2.length c8) wr.heap.size (.int .u8 (1 : Nat)) (wr.alloc (.cells #[.bool false, .bool false, .bool false, .bool false] 77))) := Lib.hid ⟨1, by omega, by omega, rfl, S2.out.next hfb, by have := Blk.new wr 77 #[.bool false, .bool false, .bool false, .bool false]; simpa [thrC] using this⟩
          have HTB := Lib.hid (show w.heap.size ≤ wr.heap.size from S2.out.fr.size)
          clear hfb
          go_wp2_with fail
          generalize wr.alloc (.cells #[.bool false, .bool false, .bool false, .bool false] 77) = wA at *
          obtain ⟨tb, htb⟩ : ∃ tb, wr.heap.size = tb := ⟨_, rfl⟩
          rw [htb] at H2 HTB ⊢
          clear htb S2 hx
          go_loopw [14] (fun v14 wr => thrRel w (.slice A ds.length c) st (.slice A8 st.2.length c8) tb v14 wr) (fun v14 _ => 4 - (intOf v14).toNat)
          case atStart => exact H2.out
          case round =>
            clear H2
            obtain ⟨k, hk1, hk4, rfl, hRS, hTB⟩ := hrel
            have S5 := Lib.hid hRS
            have T5 := Lib.hid hTB
            clear hRS hTB
            by_cases hk3 : k < 4
            · have q1 : decide ((k : Int) ≤ 3) = true := decide_eq_true (by omega)
              have q2 : decide (k ≤ 3) = true := decide_eq_true (by omega)
              have q3 : (0 : Int) ≤ (k : Int) := by omega
              have q4 : (k : Int) < 4 := by omega
              have hk256 : k < 256 := by omega
              obtain ⟨x, hx⟩ : ∃ x, (st.1 (prcN (whoS k))).getD [] = x := ⟨_, rfl⟩
              have HLK := Lib.hid (fun W (h : SMap W (w.heap.size + 1) st.1) => h.ok (prcN (whoS k)) hx (show (st.1 (prcN (whoS k))).isSome = thr st.1 k from rfl))
              have HTC := Lib.hid (thrC_succ st.1 hk1 hk3)
              clear hx
              go_wp2_with fail
              go_at_call 18
              refine (who_is k hk1 hk256 _).mono ?_
              rintro e w5 ⟨rfl, hb⟩
              have S6 := Lib.hid (S5.out.next hb)
              have T6 := Lib.hid (T5.out.next hb T5.out.lt)
              clear hb
              go_wp2_with fail
              go_at_call 17
              refine (ofproc_is _ _).mono ?_
              rintro e w6 ⟨rfl, hb⟩
              have S7 := Lib.hid (S6.out.next hb)
              have T7 := Lib.hid (T6.out.next hb T6.out.lt)
              have hlk := HLK.out w6 S7.out.sm
              have f7 := T7.out.frozen k
              have t7 := T7.out.cell k
              obtain ⟨old, hold⟩ : ∃ old, (thrC st.1 k)[k]? = some old := by
                rcases (show k = 1 ∨ k = 2 ∨ k = 3 by omega) with rfl | rfl | rfl <;> exact ⟨_, rfl⟩
              rw [hold] at t7
              clear hb hold
              have S9 := Lib.hid (S7.out.cell T7.out HTB.out k (.bool (thr st.1 k)))
              have T9 := Lib.hid (T7.out.set_ k (.bool (thr st.1 k)))
              rw [HTC.out] at T9
              go_wp2_with fail
              exact ⟨⟨k + 1, by omega, by omega, by go_num, S9.out, T9.out⟩, by simp [intOf]; omega⟩
            · have q1 : decide ((k : Int) ≤ 3) = false := decide_eq_false (by omega)
              have q2 : decide (k ≤ 3) = false := decide_eq_false (by omega)
              have HK4 := Lib.hid (show k = 4 by omega)
              rw [HK4.out] at T5
              obtain ⟨p, hp⟩ : ∃ p : Nat → Bool, (fun n => thr st.1 n && !bitN prs n) = p := ⟨_, rfl⟩
              have HPP := Lib.hid (fun n => (congrFun hp n).symm)
              have HTF : Hid (runTo ds ins prs (m + 1) = prPre ds p m (places ds.length m) st 4) := Lib.hid (by
                rw [HRS.out]
                unfold tickF
                rw [HSF.out, hp]
                rfl)
              have H3 : Hid (cRel w (.slice A ds.length c) ds p m st tb (.slice A8 st.2.length c8) (.int .u8 (1 : Nat)) wr) := Lib.hid ⟨1, by omega, by omega, rfl, S5.out, T5.out⟩
              clear hp S5 T5
              go_wp2_with fail
              go_loopw [8, 15] (fun v8 v15 wr => cRel w (.slice A ds.length c) ds p m st tb v8 v15 wr) (fun _ v15 _ => 4 - (intOf v15).toNat)
              case atStart => exact H3.out
              case round =>
                clear H3
                obtain ⟨n, hn1, hn4, rfl, hRS, hTB⟩ := hrel
                obtain ⟨s2, hs2⟩ : ∃ s2, prPre ds p m (places ds.length m) st n = s2 := ⟨_, rfl⟩
                have HS2 := Lib.hid hs2
                have VL2 := Lib.hid (prPre_vl HDO.out p m (places ds.length m) st VS.out n hn4)
                rw [hs2] at hRS VL2
                obtain ⟨A9, c9, rfl⟩ := hRS.out.form
                have S6 := Lib.hid hRS
                have T6 := Lib.hid hTB
                clear hRS hTB hs2
                by_cases hn3 : n < 4
                · have q1 : decide ((n : Int) ≤ 3) = true := decide_eq_true (by omega)
                  have q2 : decide (n ≤ 3) = true := decide_eq_true (by omega)
                  have HPS := Lib.hid (prPre_succ ds p m (places ds.length m) st hn1 hn3)
                  have H4 : Hid (dRel w (.slice A ds.length c) ds p m f n st s2 tb (.slice A9 s2.2.length c9) (.bool false) (.int .i64 f) wr) := Lib.hid ⟨0, Nat.zero_le _, rfl, rfl, S6.out, T6.out⟩
                  clear S6 T6
                  go_wp2_with fail
                  go_loopw [8, 16, 17] (fun v8 v16 v17 wr => dRel w (.slice A ds.length c) ds p m f n st s2 tb v8 v16 v17 wr) (fun _ _ v17 _ => 24 - (intOf v17).toNat)
                  case atStart => exact H4.out
                  case round =>
                    clear H4
                    obtain ⟨j2, hj2, rfl, rfl, hRS, hTB⟩ := hrel
                    obtain ⟨fo, hfo⟩ : ∃ fo, fstD ds n p ((places ds.length m).take j2) = fo := ⟨_, rfl⟩
                    have HFO := Lib.hid hfo
                    rw [hfo] at hRS ⊢
                    obtain ⟨g2, hg2⟩ : ∃ g2, f + j2 = g2 := ⟨_, rfl⟩
                    have HG2 := Lib.hid hg2
                    rw [hg2]
                    have HJ2 := Lib.hid hj2
                    have hx := hRS.bx.cell 0
                    have tn := hTB.cell n
                    rw [thrC_get st.1 hn1 hn3] at tn
                    simp only [List.getElem?_toArray, List.getElem?_cons_zero] at hx
                    obtain ⟨A7, c7, rfl⟩ := hRS.out.form
                    have S7 := Lib.hid hRS
                    have T7 := Lib.hid hTB
                    clear hRS hTB hfo hj2 hg2
                    by_cases hgt2 : g2 < tt
                    · have k1 : decide ((g2 : Int) < (tt : Int)) = true := decide_eq_true (by omega)
                      have hgn : g2 < ds.length := by omega
                      have k2 : (0 : Int) ≤ (g2 : Int) := by omega
                      have k3 : (g2 : Int) < (ds.length : Int) := by omega
                      have k4 : (0 : Int) ≤ (n : Int) := by omega
                      have k5 : (n : Int) < 4 := by omega
                      obtain ⟨xb, xo, hbe, hxb, y0, y1, y2, y3, y4⟩ := DeAt.piece (HD.out.below S7.out.fr) hgn
                      subst hbe
                      have HGD : Hid (ds[g2]? = some ds[g2]) := Lib.hid (List.getElem?_eq_getElem hgn)
                      have HDM0 := List.getElem_mem hgn
                      obtain ⟨d, hd⟩ : ∃ d, ds[g2] = d := ⟨_, rfl⟩
                      rw [hd] at y0 y1 y2 y3 y4 HGD HDM0
                      have HDM := Lib.hid HDM0
                      have hjp : j2 < (places ds.length m).length := by have := HPL.out; have := HG2.out; omega
                      have HSN : Hid (fstD ds n p ((places ds.length m).take (j2 + 1)) = orD fo (if d.who % 4 = n ∧ p n = true then some d else none)) := Lib.hid (by
                        rw [List.take_succ_eq_append_getElem hjp, places_get, HF.out, HG2.out, fstD_snoc ds n p g2 HGD.out, HFO.out])
                      have hg20 : g2 ≤ 20 := by have := HT2.out; omega
                      have HJN := Lib.hid (show j2 + 1 ≤ (places ds.length m).length from hjp)
                      have HGN := Lib.hid (show f + (j2 + 1) = g2 + 1 by have := HG2.out; omega)
                      have hpn := HPP.out n
                      have hbb := bits_bit prs n
                      clear hd HDM0 hjp
                      by_cases h0 : d.who % 4 = n
                      · have c1 : ((d.who : Int) % 4 == (n : Int)) = true := by rw [beq_iff_eq]; omega
                        have c2 : (d.who % 4 == n) = true := by rw [beq_iff_eq]; exact h0
                        cases hth : thr st.1 n with
                        | false =>
                          rw [hth] at tn
                          have HFN := Lib.hid (show fstD ds n p ((places ds.length m).take (j2 + 1)) = fo by rw [HSN.out]; cases fo with | some d => rfl | none => exact if_neg (fun h => by have h2 := h.2; rw [hpn, hth] at h2; simp at h2))
                          clear hbb hth h0 hpn
                          go_wp2_with fail
                          exact ⟨⟨j2 + 1, HJN.out, by rw [HGN.out]; go_num, by rw [HFN.out], by rw [HFN.out]; exact S7.out, T7.out⟩, by simp [intOf]; omega⟩
                        | true =>
                          rw [hth] at tn
                          cases hbt : bitN prs n with
                          | true =>
                            have c3 : (bits BinOp.and IntKind.u8 ((prs : Int) / 2 ^ n) 1 == 0) = false := by rw [hbb, hbt]; rfl
                            have HFN := Lib.hid (show fstD ds n p ((places ds.length m).take (j2 + 1)) = fo by rw [HSN.out]; cases fo with | some d => rfl | none => exact if_neg (fun h => by have h2 := h.2; rw [hpn, hth, hbt] at h2; simp at h2))
                            clear hbb hth hbt h0 hpn
                            go_wp2_with fail
                            exact ⟨⟨j2 + 1, HJN.out, by rw [HGN.out]; go_num, by rw [HFN.out], by rw [HFN.out]; exact S7.out, T7.out⟩, by simp [intOf]; omega⟩
                          | false =>
                            have c3 : (bits BinOp.and IntKind.u8 ((prs : Int) / 2 ^ n) 1 == 0) = true := by rw [hbb, hbt]; rfl
                            cases fo with
                            | some d0 =>
                              have HFN := Lib.hid (show fstD ds n p ((places ds.length m).take (j2 + 1)) = some d0 by rw [HSN.out]; rfl)
                              have c4 : (some d0).isSome = true := rfl
                              clear hbb hth hbt h0 hpn
                              go_wp2_with fail
                              exact ⟨⟨j2 + 1, HJN.out, by rw [HGN.out]; go_num, by rw [HFN.out], by rw [HFN.out]; exact S7.out, T7.out⟩, by simp [intOf]; omega⟩
                            | none =>
                              have HFN := Lib.hid (show fstD ds n p ((places ds.length m).take (j2 + 1)) = some d by rw [HSN.out]; exact if_pos ⟨h0, by rw [hpn, hth, hbt]; rfl⟩)
                              have S2 : Hid (RS w (.slice (some ⟨xb, xo, none⟩) ds.length c) wr s2 (.slice A7 (appD s2 m n none).2.length c7)) := Lib.hid S7.out
                              have hws0 := S2.out.fr.size
                              have c4 : (none : Option De).isSome = false := rfl
                              have HLE2 : Hid (s2.2.length ≤ 104) := Lib.hid (by have := VL2.out.2; have := HLE.out; omega)
                              have HY6 := Lib.hid (fun W st2 v2 h2 => RS.six (wr2 := W) (st2 := st2) (v2 := v2) S2.out hxb y0 y1 y2 y3 y4 h2)
                              clear hbb hth hbt h0 hpn S7
                              go_wp2_with fail
                              refine wp_region_noPanic ?_
                              refine wp_region_last (S := (fun (w' : World) => w'.cell? ⟨w.heap.size, 0, none⟩ = some (.slice (some ⟨xb, xo, none⟩) ds.length c) ∧ w'.cell? ⟨xb, xo + g2 * 5, none⟩ = some (.int .u8 d.who) ∧ w'.cell? ⟨xb, xo + g2 * 5 + 1, none⟩ = some (.int .u8 d.reads) ∧ w'.cell? ⟨xb, xo + g2 * 5 + 2, none⟩ = some (.int .u8 d.writes) ∧ w'.cell? ⟨xb, xo + g2 * 5 + 3, none⟩ = some (.int .u8 d.spawn) ∧ w'.cell? ⟨xb, xo + g2 * 5 + 4, none⟩ = some (.bool d.same))) 14 14 rfl (by kernel_rfl) (by kernel_rfl) ?_ (fun hHeld => ?_)
                              · exact ⟨hx, y0, y1, y2, y3, y4⟩
                              refine wpAnyH_take (i := 0) (v := ?_) rfl (by kernel_rfl) (by kernel_rfl) (by kernel_rfl) (fun _ _ _ h => h) (Or.inl ⟨by kernel_rfl, ?_⟩) hHeld ?_
                              rotate_left
                              · (intro w hSw; (try dsimp only at hSw); go_simp; try with_reducible rfl)
                              try simp only [Act.put, List.setIfInBounds_toArray, List.set_cons_zero, List.set_cons_succ]
                              refine wpAnyH_take (i := 1) (v := ?_) rfl (by kernel_rfl) (by kernel_rfl) (by kernel_rfl) (fun _ _ _ h => h) (Or.inl ⟨by kernel_rfl, ?_⟩) hHeld ?_
                              rotate_left
                              · (intro w hSw; (try dsimp only at hSw); go_simp; try with_reducible rfl)
                              try simp only [Act.put, List.setIfInBounds_toArray, List.set_cons_zero, List.set_cons_succ]
                              refine wpAnyH_take (i := 2) (v := ?_) rfl (by kernel_rfl) (by kernel_rfl) (by kernel_rfl) (fun _ _ _ h => h) (Or.inl ⟨by kernel_rfl, ?_⟩) hHeld ?_
                              rotate_left
                              · (intro w hSw; (try dsimp only at hSw); go_simp; try with_reducible rfl)
                              try simp only [Act.put, List.setIfInBounds_toArray, List.set_cons_zero, List.set_cons_succ]
                              refine wpAnyH_take (i := 3) (v := ?_) rfl (by kernel_rfl) (by kernel_rfl) (by kernel_rfl) (fun _ _ _ h => h) (Or.inl ⟨by kernel_rfl, ?_⟩) hHeld ?_
                              rotate_left
                              · (intro w hSw; (try dsimp only at hSw); go_simp; try with_reducible rfl)
                              try simp only [Act.put, List.setIfInBounds_toArray, List.set_cons_zero, List.set_cons_succ]
                              refine wpAnyH_take (i := 6) (v := ?_) rfl (by kernel_rfl) (by kernel_rfl) (by kernel_rfl) (fun _ _ _ h => h) (Or.inl ⟨by kernel_rfl, ?_⟩) hHeld ?_
                              rotate_left
                              · (intro w hSw; (try dsimp only at hSw); go_simp; try with_reducible rfl)
                              try simp only [Act.put, List.setIfInBounds_toArray, List.set_cons_zero, List.set_cons_succ]
                              refine wpAnyH_take (i := 7) (v := ?_) rfl (by kernel_rfl) (by kernel_rfl) (by kernel_rfl) (fun _ _ _ h => h) (Or.inl ⟨by kernel_rfl, ?_⟩) hHeld ?_
                              rotate_left
                              · (intro w hSw; (try dsimp only at hSw); go_simp; try with_reducible rfl)
                              try simp only [Act.put, List.setIfInBounds_toArray, List.set_cons_zero, List.set_cons_succ]
                              refine wpAnyH_take (i := 8) (v := ?_) rfl (by kernel_rfl) (by kernel_rfl) (by kernel_rfl) (fun _ _ _ h => h) (Or.inl ⟨by kernel_rfl, ?_⟩) hHeld ?_
                              rotate_left
                              · (intro w hSw; (try dsimp only at hSw); go_simp; try with_reducible rfl)
                              try simp only [Act.put, List.setIfInBounds_toArray, List.set_cons_zero, List.set_cons_succ]
                              refine wpAnyH_take (i := 9) (v := ?_) rfl (by kernel_rfl) (by kernel_rfl) (by kernel_rfl) (fun _ _ _ h => h) (Or.inl ⟨by kernel_rfl, ?_⟩) hHeld ?_
                              rotate_left
                              · (intro w hSw; (try dsimp only at hSw); go_simp; try with_reducible rfl)
                              try simp only [Act.put, List.setIfInBounds_toArray, List.set_cons_zero, List.set_cons_succ]
                              refine wpAnyH_take (i := 10) (v := ?_) rfl (by kernel_rfl) (by kernel_rfl) (by kernel_rfl) (fun _ _ _ h => h) (Or.inl ⟨by kernel_rfl, ?_⟩) hHeld ?_
                              rotate_left
                              · (intro w hSw; (try dsimp only at hSw); go_simp; try with_reducible rfl)
                              try simp only [Act.put, List.setIfInBounds_toArray, List.set_cons_zero, List.set_cons_succ]
                              refine wpAnyH_ready (rs := [4]) (by kernel_rfl) (by simp) ?_
                              refine AllReadyH.cons rfl (fun K hK => ?_) AllReadyH.nil
                              go_simp
                              refine (who_is n hn1 (by omega) _).mono ?_; rintro e w4 ⟨rfl, hb⟩; have S2a := S2.out.next (Below.refl wr.heap.size wr).drew; have T2a := T7.out.next (Below.refl wr.heap.size wr).drew T7.out.lt; have S2b := Lib.hid (S2a.next hb); have T2b := Lib.hid (T2a.next hb T2a.lt); have hpf := perform_is (k := kyP m n) (d := d) S2b.out.sm (pinP VL2.out.1 HDO.out HDM.out m hn1 (by omega)); rw [show kyV (kyP m n) = .agg #[.int .i64 (m : Int), .int .i64 2, .int .i64 0, .string (bs (whoS n))] from rfl] at hpf; have HPF := Lib.hid hpf; clear hpf hb S2 T7 S2a T2a
                              try (go_wp2_with fail)
                              refine hK.out _ _ ?_ (fun hNew => ?_)
                              · exact HY6.out _ _ _ S2b.out
                              clear hK K hHeld
                              have hHeld := hNew
                              clear hNew
                              try simp only [Act.put, List.setIfInBounds_toArray, List.set_cons_zero, List.set_cons_succ]
                              refine wpAnyH_take (i := 5) (v := ?_) rfl (by kernel_rfl) (by kernel_rfl) (by kernel_rfl) (fun _ _ _ h => h) (Or.inl ⟨by kernel_rfl, ?_⟩) hHeld ?_
                              rotate_left
                              · (intro w hSw; (try dsimp only at hSw); go_simp; try with_reducible rfl)
                              try simp only [Act.put, List.setIfInBounds_toArray, List.set_cons_zero, List.set_cons_succ]
                              refine wpAnyH_ready (rs := [11]) (by kernel_rfl) (by simp) ?_
                              refine AllReadyH.cons rfl (fun K hK => ?_) AllReadyH.nil
                              go_simp
                              refine HPF.out.mono ?_; rintro e w5 ⟨u1, u2, rfl, hna, hsm, hou⟩; obtain ⟨B1, d1, rfl, _⟩ := RdP.form hna.1; obtain ⟨B2, d2, rfl, _⟩ := RdP.form hna.2; have S3 := Lib.hid (S2b.out.perf hou hsm); have T3 := Lib.hid (T2b.out.keep (kept_out hou S2b.out.sm) rfl); have NA3 := Lib.hid hna; clear hna hsm hou; have hal := (Below.refl w5.heap.size w5).alloc (Nat.le_refl _) (.cells #[.int .i64 (prf s2.1 (kyP m n) d).key.tick, .int .i64 (prf s2.1 (kyP m n) d).key.cls, .int .i64 (prf s2.1 (kyP m n) d).key.num, .string (bs (prf s2.1 (kyP m n) d).key.lin), .slice B1 (prf s2.1 (kyP m n) d).reads.length d1, .slice B2 (prf s2.1 (kyP m n) d).writes.length d2] 59); have S4 := Lib.hid (S3.out.next hal); have T4 := Lib.hid (T3.out.next hal T3.out.lt); have NA4 := Lib.hid (NAc.next hal NA3.out); obtain ⟨us, hus, how⟩ := S4.out.out; have HUS := Lib.hid hus; have HOW := Lib.hid how; have hws := S3.out.fr.size; have hlel := HLE2.out; obtain ⟨i0, hi, hz0, hz1, hz2⟩ := info_parts infoAc47; clear hal hus how
                              try (go_wp2_with fail)
                              refine hK.out _ _ ?_ (fun hNew => ?_)
                              · exact HY6.out _ _ _ S3.out
                              clear hK K hHeld
                              have hHeld := hNew
                              clear hNew
                              try simp only [Act.put, List.setIfInBounds_toArray, List.set_cons_zero, List.set_cons_succ]
                              refine wpAnyH_ready (rs := [12]) (by kernel_rfl) (by simp) ?_
                              refine AllReadyH.cons rfl (fun K hK => ?_) AllReadyH.nil
                              go_simp
                              refine hK.out _ _ ?_ (fun hNew => ?_)
                              · exact HY6.out _ _ _ S4.out
                              clear hK K hHeld
                              have hHeld := hNew
                              clear hNew
                              try simp only [Act.put, List.setIfInBounds_toArray, List.set_cons_zero, List.set_cons_succ]
                              refine wpAnyH_ready (rs := [13]) (by kernel_rfl) (by simp) ?_
                              refine AllReadyH.cons rfl (fun K hK => ?_) AllReadyH.nil
                              refine step_append_w _ (by rfl) _ _ _ (by rfl) w.heap.size 59 i0 _ 6 88 Try.underlying25 hi hz0 hz1 hz2 rfl (by omega) (.slice A7 s2.2.length c7) s2.2.length (rowC acC s2.2 us) (by rfl) HOW.out (.slice (some ⟨w5.heap.size, 0, none⟩) 1 1) 1 [.int .i64 (prf s2.1 (kyP m n) d).key.tick, .int .i64 (prf s2.1 (kyP m n) d).key.cls, .int .i64 (prf s2.1 (kyP m n) d).key.num, .string (bs (prf s2.1 (kyP m n) d).key.lin), .slice B1 (prf s2.1 (kyP m n) d).reads.length d1, .slice B2 (prf s2.1 (kyP m n) d).writes.length d2] (by rfl) (Rd.of_own (own_new w5 0 59 6 [.int .i64 (prf s2.1 (kyP m n) d).key.tick, .int .i64 (prf s2.1 (kyP m n) d).key.cls, .int .i64 (prf s2.1 (kyP m n) d).key.num, .string (bs (prf s2.1 (kyP m n) d).key.lin), .slice B1 (prf s2.1 (kyP m n) d).reads.length d1, .slice B2 (prf s2.1 (kyP m n) d).writes.length d2] rfl (Nat.zero_le _))) (by omega) (by rfl) (by simp [Value.oneCell']) (by unfold maxLen; omega) (by omega) (by simp; omega) ?_; intro v8 w8 hown8 hg8 hat8; have S8 := Lib.hid (S4.out.app HUS.out HOW.out NA4.out hg8 hown8); have T8 := Lib.hid (T4.out.keep (Kept.of_own [59] HOW.out hg8 rfl) rfl); clear hown8 hg8 hat8
                              refine hK.out _ _ ?_ (fun hNew => ?_)
                              · exact HY6.out _ _ _ S8.out
                              clear hK K hHeld
                              have hHeld := hNew
                              clear hNew
                              try simp only [Act.put, List.setIfInBounds_toArray, List.set_cons_zero, List.set_cons_succ]
                              refine wpAnyH_done (by kernel_rfl) ?_ _
                              refine lastQ_step rfl (fun K hK => ?_)
                              clear hHeld
                              go_simp
                              refine hK _ _ ?_
                              clear hK K
                              refine NoPanic.normal ?_
                              try go_wp2_with fail
                              exact ⟨⟨j2 + 1, HJN.out, by rw [HGN.out]; go_num, by rw [HFN.out]; rfl, by rw [HFN.out]; exact S8.out, T8.out⟩, by simp [intOf]; omega⟩
                      · have c1 : ((d.who : Int) % 4 == (n : Int)) = false := by rw [beq_eq_false_iff_ne]; omega
                        have c2 : (d.who % 4 == n) = false := by rw [beq_eq_false_iff_ne]; exact h0
                        have HFN := Lib.hid (show fstD ds n p ((places ds.length m).take (j2 + 1)) = fo by rw [HSN.out]; cases fo with | some d => rfl | none => exact if_neg (fun h => h0 h.1))
                        clear hbb h0 hpn
                        go_wp2_with fail
                        exact ⟨⟨j2 + 1, HJN.out, by rw [HGN.out]; go_num, by rw [HFN.out], by rw [HFN.out]; exact S7.out, T7.out⟩, by simp [intOf]; omega⟩
                    · have k1 : decide ((g2 : Int) < (tt : Int)) = false := decide_eq_false (by omega)
                      have HFF : Hid (prPre ds p m (places ds.length m) st (n + 1) = appD s2 m n fo) := Lib.hid (by
                        rw [HPS.out, HS2.out]
                        unfold prF
                        rw [← HFO.out, List.take_of_length_le (by have := HPL.out; have := HG2.out; omega)]
                        rfl)
                      go_wp2_with fail
                      exact ⟨⟨n + 1, by omega, by omega, by go_num, by rw [HFF.out]; exact S7.out, T7.out⟩, by simp [intOf]; omega⟩
                · have q1 : decide ((n : Int) ≤ 3) = false := decide_eq_false (by omega)
                  have q2 : decide (n ≤ 3) = false := decide_eq_false (by omega)
                  have HN4 := Lib.hid (show n = 4 by omega)
                  have HFI := Lib.hid (show runTo ds ins prs (m + 1) = s2 by rw [HTF.out, ← HS2.out, HN4.out])
                  have HMM := Lib.hid (show m + 1 ≤ ticks ds from hmt)
                  have HFF := Lib.hid (show ((4 * (m + 1) : Nat) : Int) = (f : Int) + 4 by have := HF.out; omega)
                  go_wp2_with fail
                  exact ⟨⟨m + 1, HMM.out, by rw [HFF.out], by rw [HFI.out]; exact S6.out⟩, by simp [intOf]; omega⟩
    · have HMT := Lib.hid (show m = ticks ds by omega)
      by_cases hf1 : f < ds.length
      · have hf2 : ¬ f < 20 := by have := HTS.out; omega
        have e1 : decide ((f : Int) < (ds.length : Int)) = true := decide_eq_true (by omega)
        have e2 : decide ((f : Int) < 20) = false := decide_eq_false (by omega)
        have e3 : decide (f < ds.length) = true := decide_eq_true hf1
        have e4 : decide (f < 20) = false := decide_eq_false hf2
        go_wp2_with fail
        go_ret
        exact ⟨_, rfl, by unfold runS; rw [← HMT.out]; exact S1.out.out.rd, S1.out.fr⟩
      · have e1 : decide ((f : Int) < (ds.length : Int)) = false := decide_eq_false (by omega)
        have e3 : decide (f < ds.length) = false := decide_eq_false hf1
        go_wp2_with fail
        go_ret
        exact ⟨_, rfl, by unfold runS; rw [← HMT.out]; exact S1.out.out.rd, S1.out.fr⟩
end Go.Proofs.Ytmjkcanjfjfkfaa
