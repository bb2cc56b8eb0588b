/- Walks and plain facts of the earlier laws, packed: W103, M20, W51, Q5, M21, M22. -/
import Derived.Maps.RangeWalk
import Derived.Test.YtmjkcanjfjfkfaaB10
namespace Go.Proofs.Ytmjkcanjfjfkfaa
open Go.RowKit
set_option linter.unusedSimpArgs false
set_option linter.unusedVariables false
attribute [local go_sem ↓] Go.wp_at_zero Go.wp_at_succ
open Go.MapKept Go.ChangeMaps
def srcs (row : List Lk) : List Lk := row.filter fun x => decide (0 ≤ x.frm)
def souRel (row : List Lk) (w : World) (v i : Value) (wr : World) : Prop := ∃ m : Nat, m ≤ row.length ∧ i = .int .i64 m ∧ wr.ownsRow w.heap.size 43 7 v (srcs (row.take m)).length ((srcs (row.take m)).flatMap lkC) ∧ Below w.heap.size w wr
theorem rd_new1 (w : World) (x : Int) : RdIn (w.alloc (.cells #[.int .i64 x] 3)) (.slice (some ⟨w.heap.size, 0, none⟩) 1 1) [x] :=
  ⟨_, 1, rfl, Nat.le_refl _, by unfold maxLen; omega, .inr ⟨_, 0, _, _, rfl, heap_alloc_new w _, fun j u hj => by rw [Nat.zero_add, ← Array.getElem?_toList]; exact hj⟩⟩
set_option maxRecDepth 100000 in
set_option maxHeartbeats 4000000 in
theorem sources_is {w : World} {B g : Nat} {l : List Ac} {k : Nat} (hg : GAt w B g l) (hk : k < l.length) (hl : l.length ≤ 100) (hr : ∀ a ∈ l, a.reads.length ≤ 10) : Calls Try.prog 27 #[.pointer (some ⟨g, 0, none⟩), .int .i64 k] w fun e w' => ∃ v, e = .returned (.tuple #[v, .int .i64 0]) ∧ RdLk w' v (srcs ((lnkD l)[k]'(by rw [lnkD_len]; exact hk))) ∧ Below w.heap.size w w' := by
  have ha := (Below.refl w.heap.size w).alloc (Nat.le_refl _) (.cells #[.int .i64 k] 3)
  have HA := Lib.hid ha
  have HC := Lib.hid (gcheck_is (hg.next ha) (rd_new1 w k) (by omega) (by simp))
  have HE := Lib.hid (show chk2 l.length [(k : Int)] = 0 by unfold chk2; rw [if_pos]; simp [inR]; omega)
  obtain ⟨row, hrow⟩ : ∃ row, (lnkD l)[k]'(by rw [lnkD_len]; exact hk) = row := ⟨_, rfl⟩
  have hrl : row.length ≤ 10 := by rw [← hrow]; exact lnkF_row_len [] l hr _ (List.getElem_mem _)
  obtain ⟨bl, c, A, c2, g0, g1, g2, g3⟩ := hg.lrow hk
  rw [hrow] at g2 g3 ⊢
  have HX := Lib.hid g3
  have HGL := Lib.hid hg.lt
  have G1 := Lib.hid g1
  have G2 := Lib.hid g2
  have j0 : (0 : Int) ≤ (k : Int) := by omega
  have j1 : (k : Int) < (l.length : Int) := by omega
  clear hg ha hrow g1 g2 g3
  go_enter Try.func27, Try.ntmps27
  go_wp2_with fail
  go_at_call 37
  refine HC.out.mono ?_
  rintro e w1 ⟨rfl, hb1⟩
  rw [HE.out]
  have HB1 := Lib.hid (HA.out.trans (hb1.mono HA.out.size))
  have g1 := (HB1.out.cell (p := ⟨g, 1, none⟩) HGL.out).trans G1.out
  have g2 := (HB1.out.cell (p := ⟨bl, k, none⟩) g0).trans G2.out
  have H0 : Hid (souRel row w (.slice none 0 0) (.int .i64 (0 : Nat)) w1) := Lib.hid ⟨0, Nat.zero_le _, rfl, World.ownsRow_nil _ _ _ _, HB1.out⟩
  clear hb1 HC HA
  go_wp2_with fail
  clear g1 g2 g0
  go_loopw [7, 25] (fun v i wr => souRel row w v i wr) (fun _ i _ => row.length - (intOf i).toNat)
  case atStart => exact H0.out
  case round =>
    clear H0
    obtain ⟨m, hml, rfl, hown, hbw⟩ := hrel
    obtain ⟨A5, c5, rfl, hc5⟩ := own_len hown
    have HOW := Lib.hid hown
    have HBW := Lib.hid hbw
    clear hown hbw
    by_cases hm : m < row.length
    · have j4 : (0 : Int) ≤ (m : Int) := by omega
      have j5 : (m : Int) < (row.length : Int) := by omega
      have j6 : decide ((m : Int) < (row.length : Int)) = true := decide_eq_true j5
      obtain ⟨xb, xo, hbe, hxb, y0, y1, y2, y3, y4, y5, y6⟩ := RdLk.piece (RdP.next HX.out HBW.out) hm
      subst hbe
      have HTK := Lib.hid (show row.take (m + 1) = row.take m ++ [row[m]] from List.take_succ_eq_append_getElem hm)
      obtain ⟨x, hx⟩ : ∃ x, row[m] = x := ⟨_, rfl⟩
      rw [hx] at y0 y1 y2 y3 y4 y5 y6 HTK
      clear hx
      obtain ⟨ls, hls⟩ : ∃ ls, srcs (row.take m) = ls := ⟨_, rfl⟩
      have hlsl : ls.length ≤ 10 := by rw [← hls]; exact Nat.le_trans (List.length_filter_le _ _) (by rw [List.length_take]; omega)
      have HLS := Lib.hid hls
      rw [hls] at HOW hc5 ⊢
      clear hls
      go_upto_region 8 with (fail)
      have HNE := Lib.hid (show (Value.slice A5 ls.length c5).ownBlock ≠ some wr.heap.size from fun e => by
        obtain ⟨cur, hc⟩ := own_cells_of HOW.out e
        have h1 := (Array.getElem?_eq_some_iff.1 hc).1
        omega)
      have hba := (Below.refl wr.heap.size wr).alloc (Nat.le_refl _) (.cells #[.int .i64 x.frm, .int .i64 x.to_, .int .i64 x.name.kind, .string (bs x.name.owner), .int .i64 x.name.num, .int .i64 x.name.idx, .string (bs x.name.text)] 43)
      have HOW6 := Lib.hid (own_next HOW.out hba)
      have HB6 := Lib.hid (HBW.out.trans (hba.mono HBW.out.size))
      have ZX := Lib.hid (Blk.new wr 43 #[.int .i64 x.frm, .int .i64 x.to_, .int .i64 x.name.kind, .string (bs x.name.owner), .int .i64 x.name.num, .int .i64 x.name.idx, .string (bs x.name.text)])
      clear y0 y1 y2 y3 y4 y5 y6 hba hxb
      generalize wr.alloc (.cells #[.int .i64 x.frm, .int .i64 x.to_, .int .i64 x.name.kind, .string (bs x.name.owner), .int .i64 x.name.num, .int .i64 x.name.idx, .string (bs x.name.text)] 43) = W6 at *
      obtain ⟨cb, hcb⟩ : ∃ cb, wr.heap.size = cb := ⟨_, rfl⟩
      rw [hcb] at ZX HNE ⊢
      clear hcb
      have x0 := ZX.out.cell 0
      have x1 := ZX.out.cell 1
      have x2 := ZX.out.cell 2
      have x3 := ZX.out.cell 3
      have x4 := ZX.out.cell 4
      have x5 := ZX.out.cell 5
      have x6 := ZX.out.cell 6
      simp only [List.getElem?_toArray, List.getElem?_cons_zero, List.getElem?_cons_succ] at x0 x1 x2 x3 x4 x5 x6
      by_cases hp : 0 ≤ x.frm
      · have d0 : decide (0 ≤ x.frm) = true := decide_eq_true hp
        have HSN := Lib.hid (show srcs (row.take (m + 1)) = ls ++ [x] by
          rw [HTK.out, ← HLS.out]
          unfold srcs
          rw [List.filter_append]
          simp [hp])
        have hbk := (Below.refl W6.heap.size W6).alloc (Nat.le_refl _) (.cells #[.int .i64 x.frm, .int .i64 x.to_, .int .i64 x.name.kind, .string (bs x.name.owner), .int .i64 x.name.num, .int .i64 x.name.idx, .string (bs x.name.text)] 43)
        have HOW7 := Lib.hid (own_next HOW6.out hbk)
        have ZX7 := Lib.hid (ZX.out.next hbk ZX.out.lt)
        have HB7 := Lib.hid (HB6.out.trans (hbk.mono HB6.out.size))
        obtain ⟨i0, hi, hz0, hz1, hz2⟩ := info_parts infoLk
        clear hbk hp
        go_wp2_with (at_builtin; refine wpList_append_own _ rfl _ _ 32 rfl w.heap.size 43 i0 _ 7 72 Try.underlying32 hi hz0 hz1 hz2 rfl (by decide) _ _ _ rfl HOW7.out ⟨W6.heap.size, 0, none⟩ 1 1 [.int .i64 x.frm, .int .i64 x.to_, .int .i64 x.name.kind, .string (bs x.name.owner), .int .i64 x.name.num, .int .i64 x.name.idx, .string (bs x.name.text)] rfl rfl ?c1 ?c2 ?c3 ?c4 ?c5 ?_)
        case c1 => exact fun j u h => newN W6 #[.int .i64 x.frm, .int .i64 x.to_, .int .i64 x.name.kind, .string (bs x.name.owner), .int .i64 x.name.num, .int .i64 x.name.idx, .string (bs x.name.text)] 43 j u h
        case c2 => intro u hu; simp only [List.mem_cons, List.not_mem_nil, or_false] at hu; rcases hu with rfl | rfl | rfl | rfl | rfl | rfl | rfl <;> rfl
        case c3 => unfold maxLen; omega
        case c4 => omega
        case c5 => exact HB7.out.size
        intro v8 w8 hown8 hg8 _
        have HOW8 := Lib.hid (show w8.ownsRow w.heap.size 43 7 v8 (srcs (row.take (m + 1))).length ((srcs (row.take (m + 1))).flatMap lkC) by
          rw [HSN.out, List.length_append, List.flatMap_append]
          simpa [lkC] using hown8)
        have HB8 := Lib.hid (HB7.out.grown hg8 HB7.out.size (fun k hk => own_ge HOW7.out hk))
        clear hown8 hg8 x0 x1 x2 x3 x4 x5 x6 i0 hi hz0 hz1 hz2
        go_wp2_with fail
        go_roundw
        case rel => exact ⟨m + 1, by omega, by go_num, HOW8.out, HB8.out⟩
        case measure => simp [intOf]; omega
      · have d0 : decide (0 ≤ x.frm) = false := decide_eq_false hp
        have HSN := Lib.hid (show srcs (row.take (m + 1)) = ls by
          rw [HTK.out, ← HLS.out]
          unfold srcs
          rw [List.filter_append]
          have hp2 := of_decide_eq_false d0
          simp [hp2])
        clear hp
        go_wp2_with fail
        go_roundw
        case rel => exact ⟨m + 1, by omega, by go_num, by rw [HSN.out]; exact HOW6.out, HB6.out⟩
        case measure => simp [intOf]; omega
    · have j6 : decide ((m : Int) < (row.length : Int)) = false := decide_eq_false (by omega)
      have HSN := Lib.hid (show srcs (row.take m) = srcs row by rw [List.take_of_length_le (by omega)])
      go_wp2_with fail
      go_ret2
      exact ⟨_, rfl, by rw [← HSN.out]; exact Rd.of_own HOW.out, HBW.out⟩
def SetAt (w : World) (b : Nat) (D : List Int) : Prop := MapAtI w b (D.map fun n => (n, Value.bool true))
theorem SetAt.next {w w' : World} {b : Nat} {D : List Int} (h : SetAt w b D) (hb : Below w.heap.size w w') : SetAt w' b D := MapAtI.next h hb
end Go.Proofs.Ytmjkcanjfjfkfaa
namespace Go.Proofs.Ytmjkcanjfjfkfaa
open Go.RowKit Go.MapKept Go.ChangeMaps
set_option linter.unusedSimpArgs false
set_option linter.unusedVariables false
def kvE (e : MapEntry) : Value × Value := (e.key, e.val)
theorem perm_born : ∀ {L : List MapEntry} {e : MapEntry}, (L.map (·.born)).Nodup → e ∈ L → L.Perm (e :: L.filter fun x => !(x.born == e.born))
  | [], _, _, h => by cases h
  | a :: L, e, hn, h => by
    rw [List.map_cons, List.nodup_cons] at hn
    rcases List.mem_cons.1 h with rfl | h
    · have h1 : (e :: L).filter (fun x => !(x.born == e.born)) = L := by
        rw [List.filter_cons_of_neg (by simp)]
        refine List.filter_eq_self.2 fun x hx => ?_
        have : x.born ≠ e.born := fun e1 => hn.1 (by rw [← e1]; exact List.mem_map.2 ⟨x, hx, rfl⟩)
        simpa using this
      rw [h1]
    · have hne : a.born ≠ e.born := fun e1 => hn.1 (by rw [e1]; exact List.mem_map.2 ⟨e, h, rfl⟩)
      rw [List.filter_cons_of_pos (by simpa using hne)]
      exact ((perm_born hn.2 h).cons a).trans (List.Perm.swap e a _)
theorem left_push {es : Array MapEntry} {seen : Array Nat} {e : MapEntry} : (leftOf es (seen.push e.born)).toList = (leftOf es seen).toList.filter fun x => !(x.born == e.born) := by
  unfold leftOf
  rw [Array.toList_filter, Array.toList_filter, List.filter_filter]
  refine List.filter_congr fun x _ => ?_
  rw [contains_push]
  cases seen.contains x.born <;> cases (x.born == e.born) <;> rfl
section
variable (w : World) {ops : Array Oper} {rest : List Oper} {o : Oper} {a : Go.Act} {Q : Exit → Go.Act → World → Prop}
end
section
variable {α : Type} {f : α → List Value} {s : Nat} {e : TypeId}
def MapRowsS (e : TypeId) (s : Nat) (f : α → List Value) (w : World) (F : Nat → Prop) (b : Nat) (D : Bs → List α) : Prop :=
  F b ∧ ∃ ents : List (Bs × Value), MapAtS w b ents ∧ (ents.Pairwise fun p q => p.1 ≠ q.1 ∧ p.2.ownBlock ≠ q.2.ownBlock) ∧
    (∀ p ∈ ents, OwnF F e s w p.2 (D p.1).length ((D p.1).flatMap f) ∧ D p.1 ≠ []) ∧ ∀ n, D n ≠ [] → (lookM n ents).isSome = true
theorem MapRowsS.new (w : World) (F : Nat → Prop) (hb : F w.heap.size) : MapRowsS e s f (w.alloc (.map #[] 0)) F w.heap.size (fun _ => []) :=
  ⟨hb, [], MapAtS.new w, List.Pairwise.nil, by simp, by simp⟩
theorem MapRowsS.keep {w w' : World} {F G : Nat → Prop} {b : Nat} {D : Bs → List α} (h : MapRowsS e s f w F b D) (hm : ∀ es c, F b → w.heap[b]? = some (.map es c) → w'.heap[b]? = w.heap[b]?)
    (hs : ∀ g cs, F g → w.heap[g]? = some (.cells cs e (0, 0)) → w'.heap[g]? = w.heap[g]?) (hG : ∀ i, i < w.heap.size → F i → G i) : MapRowsS e s f w' G b D := by
  obtain ⟨h1, ents, h3, h4, h5, h6⟩ := h
  have hmb : w'.heap[b]? = w.heap[b]? := by
    obtain ⟨es, c, hb, _⟩ := h3
    exact hm es c h1 hb
  exact ⟨hG _ h3.lt h1, ents, h3.same hmb, h4, fun p hp => ⟨(h5 p hp).1.keep hs hG, (h5 p hp).2⟩, h6⟩
theorem MapRowsS.next {w w' : World} {F : Nat → Prop} {b : Nat} {D : Bs → List α} (h : MapRowsS e s f w F b D) (hb : Below w.heap.size w w') : MapRowsS e s f w' F b D :=
  h.keep (fun es c _ hh => hb.block _ (Array.getElem?_eq_some_iff.1 hh).1) (fun g cs _ hh => hb.block _ (Array.getElem?_eq_some_iff.1 hh).1) fun _ _ h => h
theorem MapRowsS.data {w : World} {F : Nat → Prop} {b : Nat} {D D' : Bs → List α} (h : MapRowsS e s f w F b D) (hd : ∀ n, D n = D' n) : MapRowsS e s f w F b D' := by
  have : D = D' := funext hd
  rw [← this]; exact h
theorem pair_apartS {l : List (Bs × Value)} (hl : l.Pairwise fun p q => p.1 ≠ q.1 ∧ p.2.ownBlock ≠ q.2.ownBlock) {p q : Bs × Value} (hp : p ∈ l) (hq : q ∈ l) (hpq : p.1 ≠ q.1) : p.2.ownBlock ≠ q.2.ownBlock := by
  induction l with
  | nil => cases hp
  | cons a l ih =>
    obtain ⟨ha, hl⟩ := List.pairwise_cons.1 hl
    rcases List.mem_cons.1 hp with h1 | hp <;> rcases List.mem_cons.1 hq with h2 | hq
    · exact absurd (by rw [h1, h2]) hpq
    · rw [h1]; exact (ha q hq).2
    · rw [h2]; exact fun e => (ha p hp).2 e.symm
    · exact ih hl hp hq
theorem MapRowsS.find {w : World} {F : Nat → Prop} {b : Nat} {D : Bs → List α} (h : MapRowsS e s f w F b D) (n : Bs) :
    ∃ ents, MapAtS w b ents ∧ OwnF F e s w ((lookM n ents).getD (.slice none 0 0)) (D n).length ((D n).flatMap f) := by
  obtain ⟨h1, ents, h3, h4, h5, h6⟩ := h
  refine ⟨ents, h3, ?_⟩
  cases hl : lookM n ents with
  | some v => exact (h5 _ (look_mem hl)).1
  | none =>
    have : D n = [] := Classical.byContradiction fun hd => by
      have := h6 n hd
      rw [hl] at this
      cases this
    rw [this]
    exact ⟨World.ownsRow_nil _ _ _ _, fun g hg => by cases hg⟩
theorem MapRowsS.at_ {w : World} {F : Nat → Prop} {b : Nat} {D : Bs → List α} (h : MapRowsS e s f w F b D) (n : Bs) :
    ∃ ents v, MapAtS w b ents ∧ v = (lookM n ents).getD (.slice none 0 0) ∧ OwnF F e s w v (D n).length ((D n).flatMap f) ∧
      ∀ (w1 w2 : World) (v' : Value) (x : α) (G : Nat → Prop), (∀ i, i < w.heap.size → i ≠ b → some i ≠ v.ownBlock → w1.heap[i]? = w.heap[i]?) → (∃ es c, w1.heap[b]? = some (.map es c)) → w1.ownsRow 0 e s v' ((D n).length + 1) ((D n).flatMap f ++ f x) → (v'.ownBlock = v.ownBlock ∨ ∃ g, v'.ownBlock = some g ∧ w.heap.size ≤ g) → MapAtS w2 b (putM n v' ents) → w1.grownBy w2 (some b) →
        (∀ i, F i → G i) → (∀ i, w.heap.size ≤ i → i < w1.heap.size → G i) → MapRowsS e s f w2 G b (fun m => if m = n then D n ++ [x] else D m) := by
  have hfind := h.find n
  obtain ⟨h1, ents, h3, h4, h5, h6⟩ := h
  have hpn : ents.Pairwise fun p q => p.1 ≠ q.1 := h4.imp fun h => h.1
  have hown0 : OwnF F e s w ((lookM n ents).getD (.slice none 0 0)) (D n).length ((D n).flatMap f) := by
    cases hl : lookM n ents with
    | some v => exact (h5 _ (look_mem hl)).1
    | none =>
      have : D n = [] := Classical.byContradiction fun hd => by
        have := h6 n hd
        rw [hl] at this
        cases this
      rw [this]
      exact ⟨World.ownsRow_nil _ _ _ _, fun g hg => by cases hg⟩
  refine ⟨ents, _, h3, rfl, hown0, ?_⟩
  intro w1 w2 v' x G hg hbm hown hloc hmap hg2 hFG hnew
  have hbl : b < w.heap.size := h3.lt
  obtain ⟨gv, hgv, hgl⟩ := own_some hown (by omega)
  obtain ⟨es0, c0, hb0, _⟩ := id h3
  obtain ⟨es1, c1, hb1⟩ := hbm
  have hold : ∀ p ∈ ents, p.1 ≠ n → ∃ g, p.2.ownBlock = some g ∧ g < w.heap.size ∧ some g ≠ ((lookM n ents).getD (.slice none 0 0)).ownBlock := by
    intro p hp hne
    obtain ⟨k1, k2⟩ := h5 p hp
    obtain ⟨g, hgp, hgl⟩ := own_some k1.1 (by simpa using k2)
    refine ⟨g, hgp, hgl, fun e1 => ?_⟩
    cases hl : lookM n ents with
    | none => rw [hl] at e1; cases e1
    | some u =>
      rw [hl] at e1
      exact pair_apartS h4 hp (look_mem hl) hne (hgp.trans e1)
  have hne' : ∀ p ∈ ents, p.1 ≠ n → p.2.ownBlock ≠ v'.ownBlock := by
    intro p hp hne e1
    obtain ⟨g, k1, k2, k3⟩ := hold p hp hne
    rcases hloc with h | ⟨g2, h, hge⟩
    · exact k3 (by rw [← k1, e1, h])
    · rw [k1, h] at e1
      injection e1 with e1
      omega
  have hkeep : ∀ {v : Value} {n2 : Nat} {xs : List Value}, w1.ownsRow 0 e s v n2 xs → w2.ownsRow 0 e s v n2 xs := fun ho => ho.kept hg2 (.inr (own_not_map ho hb1))
  have hGv : ∀ g, v'.ownBlock = some g → G g := by
    intro g hgg
    rcases hloc with h | ⟨g2, h, hge⟩
    · exact hFG _ (hown0.2 g (by rw [← h]; exact hgg))
    · rw [h] at hgg
      injection hgg with hgg
      subst hgg
      rw [hgv] at h
      injection h with h
      exact hnew _ hge (by omega)
  refine ⟨hFG _ h1, _, hmap, put_pair (R := fun u v => u.ownBlock ≠ v.ownBlock) h4 (fun p hp hne => ⟨hne' p hp hne, fun e => hne' p hp hne e.symm⟩), fun p hp => ?_, fun m hm => ?_⟩
  · rcases mem_put hpn hp with rfl | ⟨hp, hne⟩
    · simp only [if_pos]
      refine ⟨⟨hkeep ?_, hGv⟩, by simp⟩
      rw [List.length_append, List.flatMap_append]
      simpa using hown
    · simp only [if_neg hne]
      obtain ⟨k1, k2⟩ := h5 p hp
      obtain ⟨g, j1, j2, j3⟩ := hold p hp hne
      refine ⟨⟨hkeep (own_same k1.1 fun g' hg' => ?_), fun g hgg => hFG _ (k1.2 g hgg)⟩, k2⟩
      rw [j1] at hg'
      injection hg' with hg'
      subst hg'
      exact hg _ j2 (fun e => own_not_map k1.1 hb0 (by rw [j1, e])) j3
  · rw [look_put]
    by_cases hmn : n = m
    · rw [if_pos hmn]; rfl
    · rw [if_neg hmn]
      simp only [if_neg (fun e : m = n => hmn e.symm)] at hm
      exact h6 m hm
end
def delM {κ ν : Type} [DecidableEq κ] (n : κ) : List (κ × ν) → List (κ × ν)
  | [] => []
  | p :: l => if p.1 = n then l else p :: delM n l
theorem delM_none {κ ν : Type} [DecidableEq κ] {n : κ} : ∀ {l : List (κ × ν)} {i : Nat}, posM n l i = none → delM n l = l
  | [], _, _ => rfl
  | (a, v) :: l, i, h => by
    simp only [posM] at h
    simp only [delM]
    split at h
    · cases h
    · rename_i e
      rw [if_neg e, delM_none h]
theorem delM_some {κ ν : Type} [DecidableEq κ] {n : κ} : ∀ {l : List (κ × ν)} {i j : Nat} {u : ν}, posM n l i = some (j, u) → ∃ k, j = i + k ∧ k < l.length ∧ delM n l = l.eraseIdx k
  | [], _, _, _, h => by simp [posM] at h
  | (a, v) :: l, i, j, u, h => by
    simp only [posM] at h
    simp only [delM]
    split at h
    · rename_i e
      injection h with h
      injection h with h _
      rw [if_pos e]
      exact ⟨0, by omega, by simp, rfl⟩
    · rename_i e
      obtain ⟨k, hk, hl, hd⟩ := delM_some h
      rw [if_neg e, hd]
      exact ⟨k + 1, by omega, by simp; omega, rfl⟩
theorem erase_map {α β : Type} (f : α → β) : ∀ (l : List α) (k : Nat), (l.eraseIdx k).map f = (l.map f).eraseIdx k
  | [], _ => rfl
  | a :: l, 0 => rfl
  | a :: l, k + 1 => by simp [erase_map f l k]
theorem erase_toList {α : Type} (a : Array α) (k : Nat) (h : k < a.size) : (a.eraseIdxIfInBounds k).toList = a.toList.eraseIdx k := by
  unfold Array.eraseIdxIfInBounds
  rw [dif_pos h, Array.toList_eraseIdx]
theorem map_delS {w : World} {b : Nat} {ents : List (Bs × Value)} (h : MapAtS w b ents) (n : Bs) {t E ty : TypeId} (ht : Try.prog.underlying t = some (.map 39 E)) :
    ∃ w', (Builtin.delete_ #[t, 39] ty #[.map (some b), skV n]).run Try.prog w = .ok (.tuple #[]) w' ∧ MapAtS w' b (delM n ents) ∧ w.grownBy w' (some b) := by
  obtain ⟨es, c, hb, he, hs⟩ := h
  have key : ∀ o : Obj, (w.grownBy (setBlock w b o) (some b)) := fun o => ⟨rfl, rfl, rfl, by simp [setBlock], fun i _ hi => heap_setBlock_other hb _ (fun e1 => hi (by rw [e1]))⟩
  cases hp : posM n ents 0 with
  | none =>
    refine ⟨setBlock w b (.map es c), ?_, ⟨es, c, heap_setBlock_same hb _, by rw [delM_none hp]; exact he, hs⟩, key _⟩
    simp [Builtin.delete_, run_underlying ht, MapKept.run_getObj_map hb, chk_nmS, key_nmS n w he, hp, MapKept.run_setObj_map _ hb, Result.andThen, setBlock]
  | some q =>
    obtain ⟨j, u⟩ := q
    obtain ⟨k, hj, hk, hd⟩ := delM_some hp
    rw [Nat.zero_add] at hj
    subst hj
    have hlen : es.size = ents.length := by have := congrArg List.length he; simpa using this
    refine ⟨setBlock w b (.map (es.eraseIdxIfInBounds j) c), ?_, ⟨_, c, heap_setBlock_same hb _, ?_, stamped_erase hs j⟩, key _⟩
    · simp [Builtin.delete_, run_underlying ht, MapKept.run_getObj_map hb, chk_nmS, key_nmS n w he, hp, MapKept.run_setObj_map _ hb, Result.andThen, setBlock]
    · rw [hd, erase_toList _ _ (by omega), erase_map, he, erase_map]
end Go.Proofs.Ytmjkcanjfjfkfaa
namespace Go.Proofs.Ytmjkcanjfjfkfaa
open Go.RowKit Go.MapKept Go.ChangeMaps
set_option linter.unusedSimpArgs false
set_option linter.unusedVariables false
def kvN (p : Nm × Value) : Value × Value := (nmV p.1, p.2)
theorem kvN_inj {p q : Nm × Value} (h : kvN p = kvN q) : p = q := by
  obtain ⟨a, u⟩ := p
  obtain ⟨b, v⟩ := q
  simp only [kvN, Prod.mk.injEq] at h
  rw [nm_inj h.1, h.2]
def MapIt (w : World) (b r : Nat) (ents left : List (Nm × Value)) : Prop :=
  ∃ es c since seen c0, w.heap[b]? = some (.map es c) ∧ es.toList.map kvE = ents.map kvN ∧ Stamped es c ∧ w.heap[r]? = some (.mapIter (some b) since seen c0) ∧
    (∀ x ∈ es.toList, x.born < since) ∧ since ≤ c0 ∧ since ≤ c ∧ ((leftOf es seen).toList.map kvE).Perm (left.map kvN)
theorem MapIt.ne {w : World} {b r : Nat} {ents left : List (Nm × Value)} (h : MapIt w b r ents left) : r ≠ b := by
  obtain ⟨es, c, since, seen, c0, hb, _, _, hr, _⟩ := h
  intro e
  rw [e, hb] at hr
  cases hr
theorem MapIt.at_ {w : World} {b r : Nat} {ents left : List (Nm × Value)} (h : MapIt w b r ents left) : MapAt w b ents := by
  obtain ⟨es, c, since, seen, c0, hb, he, hs, _⟩ := h
  exact ⟨es, c, hb, he, hs⟩
theorem MapIt.lt {w : World} {b r : Nat} {ents left : List (Nm × Value)} (h : MapIt w b r ents left) : r < w.heap.size := by
  obtain ⟨es, c, since, seen, c0, hb, he, hs, hr, _⟩ := h
  exact (Array.getElem?_eq_some_iff.1 hr).1
theorem MapIt.same {w w' : World} {b r : Nat} {ents left : List (Nm × Value)} (h : MapIt w b r ents left) (e1 : w'.heap[b]? = w.heap[b]?) (e2 : w'.heap[r]? = w.heap[r]?) : MapIt w' b r ents left := by
  obtain ⟨es, c, since, seen, c0, hb, he, hs, hr, rest⟩ := h
  exact ⟨es, c, since, seen, c0, e1.trans hb, he, hs, e2.trans hr, rest⟩
theorem MapIt.next {w w' : World} {b r : Nat} {ents left : List (Nm × Value)} (h : MapIt w b r ents left) (hb : Below w.heap.size w w') : MapIt w' b r ents left :=
  h.same (hb.block b h.at_.lt) (hb.block r h.lt)
theorem MapIt.grown {w w' : World} {b r : Nat} {ents left : List (Nm × Value)} {row : Option Nat} (h : MapIt w b r ents left) (hg : w.grownBy w' row) (h1 : some b ≠ row) (h2 : some r ≠ row) : MapIt w' b r ents left :=
  h.same (hg.block b h.at_.lt h1) (hg.block r h.lt h2)
theorem MapIt.size {w : World} {b r : Nat} {ents left : List (Nm × Value)} (h : MapIt w b r ents left) : w.rangeLeft b r = left.length := by
  obtain ⟨es, c, since, seen, c0, hb, he, hs, hr, h1, h2, h3, hp⟩ := h
  simp only [World.rangeLeft, hb, hr]
  have := hp.length_eq
  simpa using this
theorem own_not_it {w : World} {base e s n : Nat} {v : Value} {xs : List Value} {b r : Nat} {ents left : List (Nm × Value)} (h : w.ownsRow base e s v n xs) (hi : MapIt w b r ents left) : some b ≠ v.ownBlock ∧ some r ≠ v.ownBlock := by
  obtain ⟨es, c, since, seen, c0, hb, he, hs, hr, _⟩ := hi
  refine ⟨fun e1 => own_not_map h hb e1.symm, fun e1 => ?_⟩
  obtain ⟨_, ⟨hv0, _⟩ | ⟨g, cap, cur, hv, _, hh, _⟩⟩ := h
  · rw [hv0] at e1; cases e1
  · rw [hv] at e1
    injection e1 with e1
    simp only at e1
    subst e1
    rw [hr] at hh
    cases hh
theorem MapIt.step {w : World} {b r : Nat} {ents left : List (Nm × Value)} (h : MapIt w b r ents left) (ty : TypeId) :
    (left = [] ∧ (Instr.next (.pointer (some ⟨r, 0, none⟩)) false ty).run Try.prog w = .ok (.tuple #[.bool false]) w) ∨
    ∃ p left' w', left.Perm (p :: left') ∧ p ∈ ents ∧ MapIt w' b r ents left' ∧ w.grownBy w' (some r) ∧ w'.heap.size = w.heap.size ∧ (Instr.next (.pointer (some ⟨r, 0, none⟩)) false ty).run Try.prog w = .ok (.tuple #[.bool true, nmV p.1, p.2]) w' ∧
      (Instr.entry (.pointer (some ⟨r, 0, none⟩))).run Try.prog w' = .ok (.tuple #[nmV p.1, p.2]) w' := by
  have hne := h.ne
  obtain ⟨es, c, since, seen, c0, hb, he, hs, hr, hold, hsc, hsk, hp⟩ := h
  have hst := (stamped_iff es c).1 hs
  rcases run_next_at (P := Try.prog) w ty r b since c0 seen es c hr hb hold hsc with ⟨h0, hrun⟩ | ⟨e, hel, w1, hal, hrun⟩
  · refine .inl ⟨?_, hrun⟩
    have := hp.length_eq
    rw [List.length_map, List.length_map, Array.length_toList, h0] at this
    exact List.length_eq_zero_iff.1 this.symm
  · obtain ⟨hem, hes⟩ := mem_left hel
    have hm : kvE e ∈ left.map kvN := hp.mem_iff.1 (List.mem_map.2 ⟨e, hel, rfl⟩)
    obtain ⟨p, hpl, hpe⟩ := List.mem_map.1 hm
    obtain ⟨s, t, hst2⟩ := List.append_of_mem hpl
    have hperm : left.Perm (p :: (s ++ t)) := by rw [hst2]; exact List.perm_middle
    have hpents : p ∈ ents := by
      have : kvE e ∈ ents.map kvN := by rw [← he]; exact List.mem_map.2 ⟨e, hem, rfl⟩
      obtain ⟨q, hq, hqe⟩ := List.mem_map.1 this
      rw [← kvN_inj (hqe.trans hpe.symm)]
      exact hq
    have hnd : ((leftOf es seen).toList.map (·.born)).Nodup := by
      unfold leftOf
      rw [Array.toList_filter]
      exact (List.filter_sublist.map _).nodup hst.2.1
    have hp2 : ((leftOf es (seen.push e.born)).toList.map kvE).Perm ((s ++ t).map kvN) := by
      rw [left_push]
      have h1 := ((perm_born hnd hel).map kvE).symm.trans (hp.trans (hperm.map kvN))
      rw [List.map_cons, List.map_cons, hpe] at h1
      exact (List.perm_cons _).1 h1
    have hr1 : w1.heap[r]? = some (.mapIter (some b) since seen c0) := by rcases hal with rfl | rfl <;> exact hr
    have hb1 : w1.heap[b]? = some (.map es c) := by rcases hal with rfl | rfl <;> exact hb
    have hset := heap_set (o' := .mapIter (some b) since (seen.push e.born) c) hr1
    have hb' : (setBlock w1 r (.mapIter (some b) since (seen.push e.born) c)).heap[b]? = some (.map es c) := (hset.2 b (fun e1 => hne e1.symm)).trans hb1
    injection hpe with hk hv
    refine .inr ⟨p, s ++ t, _, hperm, hpents, ⟨es, c, since, seen.push e.born, c, hb', he, hs, hset.1, hold, hsk, hsk, hp2⟩, ?_, ?_, ?_, ?_⟩
    · rcases hal with rfl | rfl <;> exact ⟨rfl, rfl, rfl, by simp [setBlock], fun i _ hi => hset.2 i (fun e1 => hi (by rw [e1]))⟩
    · rcases hal with rfl | rfl <;> simp [setBlock]
    · rw [hk, hv]; exact hrun
    · rw [hk, hv]; exact run_entry_at _ r b since seen es c e hset.1 hb' hem hst.2.1
section
variable (w : World) {ops : Array Oper} {rest : List Oper} {o : Oper} {a : Go.Act} {Q : Exit → Go.Act → World → Prop}
theorem wpList_range_nm (hg : o.guard = none) (m : Operand) (t : TypeId) (hop : o.op = Op.range t m) {E : TypeId} (ht : Try.prog.underlying t = some (.map 41 E)) (b : Nat) (ents : List (Nm × Value))
    (hm : a.eval m = .map (some b)) (h : MapAt w b ents)
    (hK : ∀ w', MapIt w' b w.heap.size ents ents → Below w.heap.size w w' → w'.heap.size = w.heap.size + 1 → wpList Try.prog ops Q rest (a.put o.dst (.pointer (some ⟨w.heap.size, 0, none⟩))) w') :
    wpList Try.prog ops Q (o :: rest) a w := by
  refine wpList_plain hg fun K' hK' => ?_
  have hlt := h.lt
  obtain ⟨es, c, hb, he, hs⟩ := h
  have hrun := run_range_map (P := Try.prog) w t 41 E b es c ht hb
  unfold Oper.wp
  simp [execOp, hop, hm, hrun, Result.andThen]
  refine hK' _ _ (hK _ ⟨es, c, c, #[], c, ((MapKept.heap_alloc w _).2 b hlt).trans hb, he, hs, (MapKept.heap_alloc w _).1, ((stamped_iff es c).1 hs).1, Nat.le_refl _, Nat.le_refl _, ?_⟩ ((Below.refl _ _).alloc (Nat.le_refl _) _) (by simp))
  have h1 : (leftOf es #[]).toList = es.toList := by
    unfold leftOf
    rw [Array.toList_filter]
    exact List.filter_eq_self.2 fun x _ => by simp
  rw [h1, show es.toList.map kvE = ents.map kvN from he]
theorem wpList_next_nm (hg : o.guard = none) (it : Operand) (hop : o.op = Op.next it false) (b r : Nat) (ents left : List (Nm × Value)) (hit : a.eval it = .pointer (some ⟨r, 0, none⟩)) (h : MapIt w b r ents left)
    (hDone : left = [] → wpList Try.prog ops Q rest (a.put o.dst (.tuple #[.bool false])) w)
    (hMore : ∀ (p : Nm × Value) (left' : List (Nm × Value)) (w' : World), left.Perm (p :: left') → p ∈ ents → MapIt w' b r ents left' → w.grownBy w' (some r) → w'.heap.size = w.heap.size → (Instr.entry (.pointer (some ⟨r, 0, none⟩))).run Try.prog w' = .ok (.tuple #[nmV p.1, p.2]) w' → wpList Try.prog ops Q rest (a.put o.dst (.tuple #[.bool true, nmV p.1, p.2])) w') :
    wpList Try.prog ops Q (o :: rest) a w := by
  refine wpList_plain hg fun K' hK' => ?_
  unfold Oper.wp
  rcases h.step o.type with ⟨h0, hrun⟩ | ⟨p, left', w', h1, h2, h3, h4, h5, hrun, hen⟩
  · simp [execOp, hop, hit, hrun, Result.andThen]
    exact hK' _ _ (hDone h0)
  · simp [execOp, hop, hit, hrun, Result.andThen]
    exact hK' _ _ (hMore p left' w' h1 h2 h3 h4 h5 hen)
end
end Go.Proofs.Ytmjkcanjfjfkfaa
namespace Go.Proofs.Ytmjkcanjfjfkfaa
set_option linter.unusedSimpArgs false
set_option linter.unusedVariables false
def srtI (l : List Int) : List Int := l.mergeSort fun x y => decide (x ≤ y)
theorem srtI_len (l : List Int) : (srtI l).length = l.length := (List.mergeSort_perm l _).length_eq
end Go.Proofs.Ytmjkcanjfjfkfaa
namespace Go.Proofs.Ytmjkcanjfjfkfaa
open Go.RowKit Go.MapKept Go.ChangeMaps
set_option linter.unusedSimpArgs false
set_option linter.unusedVariables false
theorem rd_outer {e : TypeId} {w w' : World} {v : Value} {n : Nat} {xs : List Value} {tb : Nat} (h : Rd e w v n xs) (ho : Outer (fun i => i = tb) w w') (hm : ∃ es c, w.heap[tb]? = some (.map es c)) : Rd e w' v n xs := by
  obtain ⟨A, c, hv, hc, hcm, h0 | ⟨b, o, cs, fr, hA, hb, hx⟩⟩ := h
  · exact ⟨A, c, hv, hc, hcm, .inl h0⟩
  · refine ⟨A, c, hv, hc, hcm, .inr ⟨b, o, cs, fr, hA, ?_, hx⟩⟩
    have hlt := (Array.getElem?_eq_some_iff.1 hb).1
    rw [ho.block b hlt fun e1 => ?_]
    · exact hb
    · obtain ⟨es, c2, h2⟩ := hm
      rw [← e1, hb] at h2
      cases h2
theorem MapRowsS.map {α : Type} {f : α → List Value} {s : Nat} {e : TypeId} {w : World} {F : Nat → Prop} {b : Nat} {D : Bs → List α} (h : MapRowsS e s f w F b D) : ∃ es c, w.heap[b]? = some (.map es c) := by
  obtain ⟨_, ents, ⟨es, c, hb, _⟩, _⟩ := h
  exact ⟨es, c, hb⟩
theorem look_setS (n : Int) : ∀ D : List Int, (lookM n (D.map fun n => (n, Value.bool true))).isSome = decide (n ∈ D)
  | [] => by simp [lookM]
  | a :: D => by
    simp only [List.map_cons, lookM]
    by_cases h : a = n
    · rw [if_pos h]; simp [h]
    · rw [if_neg h, look_setS n D]
      have : ¬ n = a := fun e => h e.symm
      simp [this]
theorem SetAt.put {w : World} {b : Nat} {D : List Int} (h : SetAt w b D) {n : Int} (hn : n ∉ D) : ∃ w', (Instr.mapUpdate 120 (.map (some b)) (.int .i64 n) (.bool true)).run Try.prog w = .ok () w' ∧ SetAt w' b (D ++ [n]) ∧ w.grownBy w' (some b) := by
  obtain ⟨w', h1, h2, h3⟩ := map_putI h n (.bool true) Try.underlying120
  refine ⟨w', h1, ?_, h3⟩
  rw [putM_new _ _ _ (by rw [look_setS]; simpa using hn)] at h2
  unfold SetAt
  rw [List.map_append]
  exact h2
theorem SetAt.lt {w : World} {b : Nat} {D : List Int} (h : SetAt w b D) : b < w.heap.size := MapAtI.lt h
theorem SetAt.same {w w' : World} {b : Nat} {D : List Int} (h : SetAt w b D) (e : w'.heap[b]? = w.heap[b]?) : SetAt w' b D := MapAtI.same h e
theorem SetAt.noInt {w : World} {b : Nat} {D : List Int} (h : SetAt w b D) {t : TypeId} : ∀ cs fr, w.heap[b]? ≠ some (.cells cs t fr) := by
  obtain ⟨es, c, hb, _⟩ := h
  intro cs fr e
  rw [hb] at e
  cases e
theorem wpList_delS (w : World) {ops : Array Oper} {rest : List Oper} {o : Oper} {a : Go.Act} {Q : Exit → Go.Act → World → Prop} (hg : o.guard = none) (m x : Operand) {t E : TypeId} (hop : o.op = Op.call { callee := Callee.builtin Builtin.delete, args := #[m, x], argTypes := #[t, 39] })
    {b : Nat} {n : Bs} {ents : List (Bs × Value)} (hm : a.eval m = .map (some b)) (hx : a.eval x = skV n) (h : MapAtS w b ents) (ht : Try.prog.underlying t = some (.map 39 E))
    (hK : ∀ w', MapAtS w' b (delM n ents) → w.grownBy w' (some b) → wpList Try.prog ops Q rest (a.put o.dst (.tuple #[])) w') :
    wpList Try.prog ops Q (o :: rest) a w := by
  refine wpList_plain hg fun K' hK' => ?_
  obtain ⟨w', hrun, h1, h2⟩ := map_delS h n (ty := o.type) ht
  unfold Oper.wp
  simp [execOp, hop, resolve, invoke, builtin, hm, hx, hrun, Result.andThen]
  exact hK' _ _ (hK w' h1 h2)
theorem QOwn.push2 {w : World} {B : Nat} {v : Value} {Q : List Int} (h : QOwn w B v Q) (x : Int) (hB : B ≤ w.heap.size) (hl : Q.length ≤ 1000000) (ty : TypeId) :
    ∃ v' w', (Builtin.append_ #[36, 36] ty #[v, .slice (some ⟨w.heap.size, 0, none⟩) 1 1]).run Try.prog (w.alloc (.cells #[.int .i64 x] 3)) = .ok v' w' ∧ QOwn w' B v' (Q ++ [x]) ∧ (∀ b, b < w.heap.size → v.ownBlock ≠ some b → w'.heap[b]? = w.heap[b]?) ∧ (v'.ownBlock = v.ownBlock ∨ ∃ g, v'.ownBlock = some g ∧ w.heap.size ≤ g) ∧ Below B w w' ∧ w.heap.size ≤ w'.heap.size := by
  obtain ⟨g, o, c, cur, rfl, h2, h3, h4, h5, h6, h7⟩ := h
  obtain ⟨i0, hi, hz0, hz1, hz2⟩ := info_parts infoIn
  have hal := (Below.refl w.heap.size w).alloc (Nat.le_refl _) (.cells #[.int .i64 x] 3)
  have hz := Blk.new w 3 #[.int .i64 x]
  have h3' := h3.next hal h3.lt
  have hnews : ∀ (j : Nat) (u : Value), [Value.int .i64 x][j]? = some u → (w.alloc (.cells #[.int .i64 x] 3)).cell? ((⟨w.heap.size, 0, none⟩ : Addr).add j) = some u := fun j u hj => by
    rw [add_off, Nat.zero_add, hz.cell j]
    simpa using hj
  by_cases hr : Q.length + 1 ≤ c
  · have hgl := h3'.lt
    have hcell : ∀ j, j < [Value.int .i64 x].length → ((w.alloc (.cells #[.int .i64 x] 3)).cell? ⟨g, o + Q.length * i0.size + j, none⟩).isSome = true := fun j hj => by
      rw [hz1, h3'.cell]
      simp only [List.length_singleton] at hj
      rw [Array.getElem?_eq_getElem (by omega)]
      rfl
    have hfro : ∀ j, j < [Value.int .i64 x].length → (w.alloc (.cells #[.int .i64 x] 3)).frozen? ⟨g, o + Q.length * i0.size + j, none⟩ = false := fun j hj => h3'.frozen _
    have hrun := run_append_room_cells (P := Try.prog) (w := w.alloc (.cells #[.int .i64 x] 3)) 36 ty 3 i0 Try.underlying36 hi g o Q.length c ⟨w.heap.size, 0, none⟩ 1 1 [.int .i64 x] (by rw [hz1]; rfl) hnews (by simp [Value.oneCell']) hr hcell hfro
    rw [hz1, Nat.mul_one] at hrun
    refine ⟨_, _, hrun, ?_⟩
    have hset : (w.alloc (.cells #[.int .i64 x] 3)).setCells g (o + Q.length) [.int .i64 x] = (w.alloc (.cells #[.int .i64 x] 3)).setCell ⟨g, o + Q.length, none⟩ (.int .i64 x) := rfl
    rw [hset]
    have hs := h3'.set_ (o + Q.length) (.int .i64 x)
    refine ⟨⟨g, o, c, _, by simp, h2, hs, by simpa using hr, by simpa using h5, h6, fun j hj => ?_⟩, fun b hb hne => ?_, .inl rfl, ((hal.mono hB).setCell (p := ⟨g, o + Q.length, none⟩) h2 _), ?_⟩
    · simp only [List.length_append, List.length_singleton] at hj
      rw [Array.getElem?_setIfInBounds]
      by_cases hjq : j < Q.length
      · rw [if_neg (by omega), h7 j hjq, List.getElem_append_left hjq]
      · obtain rfl : j = Q.length := by omega
        rw [if_pos rfl, if_pos (by omega), List.getElem_append_right (Nat.le_refl _)]
        simp
    · have hbg : b ≠ g := fun e => hne (by rw [e]; rfl)
      exact (Below.heap_setCell _ ⟨g, o + Q.length, none⟩ _ b hbg).trans (hal.block b hb)
    · rw [World.size_setCell]
      exact hal.size
  · have hQ : Q.length = c := by omega
    have holds : ∀ (j : Nat) (u : Value), (Q.map (fun y => Value.int .i64 y))[j]? = some u → (w.alloc (.cells #[.int .i64 x] 3)).cell? ⟨g, o + j, none⟩ = some u := fun j u hj => by
      rw [h3'.cell]
      rw [List.getElem?_map] at hj
      obtain ⟨y, hy, rfl⟩ := Option.map_eq_some_iff.1 hj
      obtain ⟨hjl, rfl⟩ := List.getElem?_eq_some_iff.1 hy
      exact h7 j hjl
    obtain ⟨v', w', hrun, hown, hg⟩ := run_append_arg_grows (P := Try.prog) (w := w.alloc (.cells #[.int .i64 x] 3)) 36 ty 3 i0 (.int .i64 0) 1 8 Try.underlying36 hi hz0 hz1 hz2 rfl (by decide) ⟨g, o, none⟩ Q.length c (Q.map (fun y => Value.int .i64 y)) (by simp) (fun j u hj => by rw [add_off]; exact holds j u hj) ⟨w.heap.size, 0, none⟩ 1 1 [.int .i64 x] rfl hnews (by omega) (by simp only [maxLen]; omega) (by omega)
    have hbelow := hal.grown hg (Nat.le_of_lt (Blk.lt hz)) (fun k hk => by cases hk)
    rcases hown with ⟨hlen, ⟨_, h0⟩ | ⟨g', c', cur', rfl, hge, hb', hle, hmx, hcs, htk⟩⟩
    · omega
    have hsz0 : w.heap.size ≤ g' := Nat.le_trans (Nat.le_of_lt (Blk.lt hz)) hge
    refine ⟨_, w', hrun, ?_, fun b hb hne => hbelow.block b hb, .inr ⟨g', rfl, hsz0⟩, hbelow.mono hB, hbelow.size⟩
    refine ⟨g', 0, c', cur', by simp, Nat.le_trans hB hsz0, hb', by simpa using hle, by omega, hmx, fun j hj => ?_⟩
    rw [Nat.zero_add]
    have h8 := congrArg (fun l => l[j]?) htk
    simp only [List.length_append, List.length_singleton] at hj
    rw [List.getElem?_take_of_lt (by omega)] at h8
    rw [← Array.getElem?_toList, h8, ← List.map_singleton (f := fun y => Value.int .i64 y), ← List.map_append, List.getElem?_map, List.getElem?_eq_getElem (by simpa using hj)]
    rfl
theorem QOwn.lt {w : World} {B : Nat} {v : Value} {Q : List Int} (h : QOwn w B v Q) : ∀ g, v.ownBlock = some g → g < w.heap.size := by
  obtain ⟨g, o, c, cur, rfl, h2, h3, h4⟩ := h
  intro g' e
  injection e with e
  subst e
  exact h3.lt
end Go.Proofs.Ytmjkcanjfjfkfaa
namespace Go.Proofs.Ytmjkcanjfjfkfaa
open Go.RowKit Go.MapKept Go.ChangeMaps
set_option linter.unusedSimpArgs false
set_option linter.unusedVariables false
theorem MapRowsS.grown {α : Type} {f : α → List Value} {s : Nat} {e : TypeId} {w w' : World} {F : Nat → Prop} {b : Nat} {D : Bs → List α} {row : Option Nat} (h : MapRowsS e s f w F b D) (hg : w.grownBy w' row) (hne : ∀ r, row = some r → (∀ cs, w.heap[r]? ≠ some (.cells cs e (0, 0))) ∧ ∀ es c, w.heap[r]? ≠ some (.map es c)) : MapRowsS e s f w' F b D :=
  h.keep (fun es c _ hh => hg.block _ (Array.getElem?_eq_some_iff.1 hh).1 (fun e1 => (hne _ e1.symm).2 es c hh)) (fun g cs _ hh => hg.block _ (Array.getElem?_eq_some_iff.1 hh).1 (fun e1 => (hne _ e1.symm).1 cs hh)) fun _ _ h => h
def ky0 : Ky := ⟨0, 0, 0, []⟩
theorem own_made_ky (w : World) (n : Nat) (hn : n ≤ 100) : (w.alloc (.cells (madeCells #[.int .i64 0, .int .i64 0, .int .i64 0, .string ⟨#[]⟩] (n * 4)) 56)).ownsRow w.heap.size 56 4 (.slice (some ⟨w.heap.size, 0, none⟩) n n) n ((List.replicate n ky0).flatMap kyC) := by
  refine ⟨by rw [fm_len kyC_len, List.length_replicate], .inr ⟨w.heap.size, n, _, rfl, Nat.le_refl _, heap_alloc_new w _, Nat.le_refl _, by unfold maxLen; omega, by rw [size_madeCells], ?_⟩⟩
  apply List.ext_getElem?
  intro j
  by_cases hj : j < n * 4
  · rw [List.getElem?_take_of_lt hj]
    have hr : j % 4 < 4 := Nat.mod_lt _ (by decide)
    have hfm := fm_get kyC_len (List.replicate n ky0) (j / 4) (by rw [List.length_replicate]; omega) (j % 4) hr
    rw [show j / 4 * 4 + j % 4 = j by omega, List.getElem_replicate] at hfm
    rw [hfm, Array.getElem?_toList]
    unfold madeCells
    rw [Array.getElem?_map, Array.getElem?_range, if_pos hj]
    have hr4 : j % 4 = 0 ∨ j % 4 = 1 ∨ j % 4 = 2 ∨ j % 4 = 3 := by omega
    rcases hr4 with e | e | e | e
    all_goals (rw [e]; simp [e]; rfl)
  · rw [List.getElem?_eq_none (by rw [List.length_take]; omega), List.getElem?_eq_none (by rw [fm_len kyC_len, List.length_replicate]; omega)]
end Go.Proofs.Ytmjkcanjfjfkfaa
