/- Walks of layer 47: the visits of a search. -/
import Derived.Test.YtmjkcanjfjfkfaaE1
import Derived.Test.YtmjkcanjfjfkfaaT2
import Derived.Test.YtmjkcanjfjfkfaaC1
namespace Go.Proofs.Ytmjkcanjfjfkfaa
open Go.RowKit
set_option linter.unusedSimpArgs false
set_option linter.unusedVariables false
attribute [local go_sem ↓] Go.wp_at_zero Go.wp_at_succ
open Go.MapKept Go.ChangeMaps
/-- What a search works with: the world ahead of it, the first block of its own, the graph, its box, the boxes of the search, the set's block, the steps. -/
structure VP where
  W0 : World
  B1 : Nat
  g : Nat
  gb : Nat
  sb : Nat
  rb : Nat
  nb : Nat
  vb : Nat
  mb : Nat
  N : Nat
  nx : Value
  succ : Int → List Int
  own : Int → Option Bs
  J : World → (Bs → List Int) → Prop
abbrev ptrV (b : Nat) : Value := .pointer (some ⟨b, 0, none⟩)
def visV (p : VP) : Value := .func (.func 63) #[] #[ptrV p.sb, ptrV p.rb, ptrV p.nb, ptrV p.vb]
structure VS (p : VP) (w : World) (R : List Int) : Prop where
  fr : Below p.W0.heap.size p.W0 w
  b0 : p.W0.heap.size ≤ p.B1
  b1 : p.B1 ≤ w.heap.size
  gbx : Blk w p.gb 28 #[ptrV p.g]
  seen : Blk w p.sb 120 #[.map (some p.mb)]
  set : SetAt w p.mb R
  row : ∃ v, Blk w p.rb 36 #[v] ∧ w.ownsRow p.B1 3 1 v R.length (R.flatMap inC)
  nxt : Blk w p.nb 101 #[p.nx]
  vis : Blk w p.vb 100 #[visV p]
  mB : p.B1 ≤ p.mb
  rB : p.B1 ≤ p.rb
theorem VS.next {p : VP} {w w' : World} {R : List Int} (h : VS p w R) (hb : Below w.heap.size w w') : VS p w' R := by
  obtain ⟨v, h1, h2⟩ := h.row
  exact ⟨h.fr.trans (hb.mono h.fr.size), h.b0, Nat.le_trans h.b1 hb.size, h.gbx.next hb h.gbx.lt, h.seen.next hb h.seen.lt, h.set.next hb, ⟨v, h1.next hb h1.lt, own_next h2 hb⟩, h.nxt.next hb h.nxt.lt, h.vis.next hb h.vis.lt, h.mB, h.rB⟩
/-- The steps from a number, as the search takes them. -/
def nxtF (succ : Int → List Int) (own : Int → Option Bs) (n : Nat) (st : VSt) (i : Int) : VSt :=
  match own i with
  | none => (succ i).foldl (visF succ own n) st
  | some k => (((succ i).foldl (visF succ own n) st).1 k).foldl (visF succ own n) (upT ((succ i).foldl (visF succ own n) st).1 k, ((succ i).foldl (visF succ own n) st).2)
theorem visF_in_ (succ : Int → List Int) (own : Int → Option Bs) (n : Nat) (st : VSt) {i : Int} (h : i ∈ st.2) : visF succ own n st i = st := by
  cases n with
  | zero => rfl
  | succ n => rw [visF, if_pos h]
theorem visF_new (succ : Int → List Int) (own : Int → Option Bs) (n : Nat) (st : VSt) {i : Int} (h : i ∉ st.2) : visF succ own (n + 1) st i = nxtF succ own n (st.1, st.2 ++ [i]) i := by
  rw [visF, if_neg h]
  rfl
/-- What a visit answers, with n steps at most into the depth. -/
def VisSaid (p : VP) (n : Nat) : Prop := ∀ (w : World) (R : List Int) (t : Bs → List Int) (i : Int), VS p w R → p.J w t → VOk47 p.N (t, R) → p.N ≤ R.length + n → 0 ≤ i → i < (p.N : Int) →
  Calls Try.prog 63 #[.int .i64 i, ptrV p.sb, ptrV p.rb, ptrV p.nb, ptrV p.vb] w fun e w' => e = .returned (.tuple #[]) ∧ VS p w' (visF p.succ p.own n (t, R) i).2 ∧ p.J w' (visF p.succ p.own n (t, R) i).1
theorem zeroB47 (w : World) : (zeroValue 4).run Try.prog w = .ok (.bool false) w := by kernel_rfl
theorem look_set47 (n : Int) : ∀ D : List Int, (lookM n (D.map fun n => (n, Value.bool true))).getD (.bool false) = .bool (decide (n ∈ D))
  | [] => by simp [lookM]
  | a :: D => by
    simp only [List.map_cons, lookM]
    by_cases h : a = n
    · rw [if_pos h]; simp [h]
    · rw [if_neg h, look_set47 n D]
      have : ¬ n = a := fun e => h e.symm
      simp [this]
theorem SetAt.look {w : World} {b : Nat} {D : List Int} (h : SetAt w b D) (n : Int) {q : Bool} (hq : decide (n ∈ D) = q) : (Instr.lookup 120 (.map (some b)) (.int .i64 n) false).run Try.prog w = .ok (.bool q) w := by
  have := map_lookI h n Try.underlying120 (zeroB47 w)
  rw [look_set47, hq] at this
  exact this
theorem SetAt.noCells {w : World} {b g : Nat} {D : List Int} (h : SetAt w b D) {t : TypeId} {cs : Array Value} (hb : Blk w g t cs) : some g ≠ some b := by
  intro e
  injection e with e
  subst e
  exact h.noInt cs (0, 0) hb
theorem Blk.ne {w : World} {g g' : Nat} {t t' : TypeId} {cs cs' : Array Value} (h : Blk w g t cs) (h' : Blk w g' t' cs') (hne : t ≠ t') : g ≠ g' := by
  rintro rfl
  unfold Blk at h h'
  rw [h] at h'
  injection h' with h'
  injection h' with _ h' _
  exact hne h'
theorem own_apart_blk {w : World} {base e s n g : Nat} {t : TypeId} {v : Value} {xs : List Value} {cs : Array Value} (h : w.ownsRow base e s v n xs) (hb : Blk w g t cs) (hne : e ≠ t) : some g ≠ v.ownBlock := by
  intro he
  exact own_blk_ne h hb hne he.symm
/-- The numbers to which the steps lead. -/
def sucC (row : List Lk) : List Int := (srcs row).map Lk.frm
def sucE (row : List Lk) : List Int := row.map Lk.to_
theorem sucC_sub {row : List Lk} {m : Nat} {z : Int} (h : z ∈ sucC (row.take m)) : z ∈ sucC row := by
  unfold sucC srcs at h ⊢
  obtain ⟨x, hx, rfl⟩ := List.mem_map.1 h
  rw [List.mem_filter] at hx
  exact List.mem_map.2 ⟨x, List.mem_filter.2 ⟨List.mem_of_mem_take hx.1, hx.2⟩, rfl⟩
theorem sucE_sub {row : List Lk} {m : Nat} {z : Int} (h : z ∈ sucE (row.take m)) : z ∈ sucE row := by
  unfold sucE at h ⊢
  obtain ⟨x, hx, rfl⟩ := List.mem_map.1 h
  exact List.mem_map.2 ⟨x, List.mem_of_mem_take hx, rfl⟩
def NxtSaidC (p : VP) (gb_ : Nat) (n : Nat) : Prop := ∀ (w : World) (R : List Int) (t : Bs → List Int) (i : Int), VS p w R → p.J w t → VOk47 p.N (t, R) → p.N ≤ R.length + n → 0 ≤ i → i < (p.N : Int) →
  Calls Try.prog 44 #[.int .i64 i, visV p, ptrV gb_] w fun e w' => e = .returned (.tuple #[]) ∧ VS p w' (nxtF p.succ p.own n (t, R) i).2 ∧ p.J w' (nxtF p.succ p.own n (t, R) i).1
set_option maxRecDepth 100000 in
set_option maxHeartbeats 1000000 in
theorem visitC (p : VP) (gb_ : Nat) (hNl : p.N ≤ 100) (hnx : p.nx = .func (.func 44) #[] #[ptrV gb_]) (hJ : ∀ w w' t, p.J w t → (∀ i, i < p.B1 → i < w.heap.size → w'.heap[i]? = w.heap[i]?) → p.J w' t) (n : Nat) (hN : 0 < n → NxtSaidC p gb_ (n - 1)) : VisSaid p n := by
  intro w R t i hS hT hO hn h0 h1
  obtain ⟨v, hv, hrow⟩ := hS.row
  have S := Lib.hid hS
  have c0 := hS.seen.cell 0
  simp only [List.getElem?_toArray, List.getElem?_cons_zero] at c0
  by_cases hm : i ∈ R
  · have hlk := hS.set.look i (decide_eq_true hm)
    rw [visF_in_ _ _ _ _ hm]
    have T := Lib.hid hT
    clear hS hT hO hn hv hrow hm hN hJ hnx
    go_enter Try.func63, Try.ntmps63
    go_wp2_with fail
    exact bodyPost_end (results_none (by kernel_rfl) _ _ _) rfl ⟨rfl, S.out, T.out⟩
  · have hlk := hS.set.look i (decide_eq_false hm)
    cases n with
    | zero =>
      exfalso
      have := full_range (hO.step hm ⟨h0, h1⟩).nd (hO.step hm ⟨h0, h1⟩).rg
      simp at this
      omega
    | succ n =>
    rw [visF_new _ _ _ _ hm]
    have hO2 := Lib.hid (hO.step hm ⟨h0, h1⟩)
    have hRl := full_range hO.nd hO.rg
    obtain ⟨w1, hput, hset1, hg1⟩ := hS.set.put hm
    have z1 := hv.grown hg1 (hS.set.noCells hv)
    have r1 : w1.ownsRow p.B1 3 1 v R.length (R.flatMap inC) := own_same hrow fun q hq => by
      obtain ⟨cur, hc⟩ := own_cells_of hrow hq
      exact hg1.block q (Array.getElem?_eq_some_iff.1 hc).1 (hS.set.noCells (show Blk w q _ _ from hc))
    have G1 := Lib.hid (hS.gbx.grown hg1 (hS.set.noCells hS.gbx))
    have s1 := Lib.hid (hS.seen.grown hg1 (hS.set.noCells hS.seen))
    have n1 := Lib.hid (hS.nxt.grown hg1 (hS.set.noCells hS.nxt))
    have v1 := Lib.hid (hS.vis.grown hg1 (hS.set.noCells hS.vis))
    have hsz1 := hg1.size
    have FR1 := Lib.hid (hS.fr.grown hg1 hS.fr.size (fun k hk => by injection hk with hk; have := hS.mB; have := hS.b0; omega))
    have c1 := s1.out.cell 0
    have c2 := z1.cell 0
    have f2 := z1.frozen 0
    simp only [List.getElem?_toArray, List.getElem?_cons_zero] at c1 c2
    obtain ⟨A, c, rfl, hc⟩ := own_len r1
    have K1 := Lib.hid (fun j (hj : j < p.B1) (hw : j < w.heap.size) => hg1.block j hw (fun e => by injection e with e; have := hS.mB; omega))
    have Z1 := Lib.hid z1
    have R1 := Lib.hid r1
    have ST1 := Lib.hid hset1
    have T := Lib.hid hT
    have HN : Hid (NxtSaidC p gb_ n) := Lib.hid (hN (by omega))
    have HJ := Lib.hid hJ
    have HNX := Lib.hid hnx
    have hb1 := hS.b1
    have hb0 := hS.b0
    have hrB := hS.rB
    have hmB := Lib.hid hS.mB
    have hNn : Hid (p.N ≤ (R ++ [i]).length + n) := Lib.hid (by rw [List.length_append, List.length_singleton]; omega)
    clear hS hT hO hv hrow hm hN hJ hnx z1 r1 hset1 hg1
    obtain ⟨i0, hi, hz0, hz1, hz2⟩ := info_parts infoIn
    go_enter Try.func63, Try.ntmps63
    go_upto_region 2 with (fail)
    clear hput hlk c0
    have ha := (Below.refl w1.heap.size w1).alloc (Nat.le_refl _) (.cells #[.int .i64 i] 3)
    have Z2 := Lib.hid (Z1.out.next ha Z1.out.lt)
    have R2 := Lib.hid (own_next R1.out ha)
    have X2 := Lib.hid (rd_new1 w1 i)
    go_wp2_with (at_builtin; refine wpList_append_rd _ rfl _ _ 36 rfl p.B1 3 i0 _ 1 8 Try.underlying36 hi hz0 hz1 hz2 rfl (by decide) _ _ _ rfl R2.out _ _ _ rfl X2.out rfl ?c2 ?c3 ?c4 ?c5 ?_)
    case c2 => intro u hu; simp only [List.flatMap_cons, List.flatMap_nil, List.append_nil, inC, List.mem_cons, List.not_mem_nil, or_false] at hu; subst hu; rfl
    case c3 => unfold maxLen; omega
    case c4 => omega
    case c5 => omega
    intro ao cap w3 hown3 hg3
    have hv3 := own_apart_blk R2.out Z2.out (by decide)
    have Z3 := Lib.hid (Z2.out.grown hg3 hv3)
    have s3 := Lib.hid ((s1.out.next ha s1.out.lt).grown hg3 (own_apart_blk R2.out (s1.out.next ha s1.out.lt) (by decide)))
    have g3 := Lib.hid ((G1.out.next ha G1.out.lt).grown hg3 (own_apart_blk R2.out (G1.out.next ha G1.out.lt) (by decide)))
    have n3 := Lib.hid ((n1.out.next ha n1.out.lt).grown hg3 (own_apart_blk R2.out (n1.out.next ha n1.out.lt) (by decide)))
    have v3 := Lib.hid ((v1.out.next ha v1.out.lt).grown hg3 (own_apart_blk R2.out (v1.out.next ha v1.out.lt) (by decide)))
    have ST3 := Lib.hid ((ST1.out.next ha).same (hg3.block _ (ST1.out.next ha).lt (fun e => by
      obtain ⟨cur, hcc⟩ := own_cells_of R2.out e.symm
      exact (ST1.out.next ha).noCells (show Blk _ _ _ _ from hcc) rfl)))
    have HB3 := Lib.hid (((Below.refl p.B1 w1).alloc (Nat.le_trans hb1 hsz1) (.cells #[.int .i64 i] 3)).grown hg3 (by rw [World.size_alloc]; omega) (fun k hk => own_ge R2.out hk))
    have HOW3 := Lib.hid hown3
    have f3 := Z3.out.frozen 0
    have c3 := Z3.out.cell 0
    simp only [List.getElem?_toArray, List.getElem?_cons_zero] at c3
    have HB4 := Lib.hid (HB3.out.setCell (p := ⟨p.rb, 0, none⟩) hrB (.slice ao (R.length + 1) cap))
    have S4 : Hid (VS p (w3.setCell ⟨p.rb, 0, none⟩ (.slice ao (R.length + 1) cap)) (R ++ [i])) := Lib.hid {
      fr := FR1.out.trans (HB4.out.mono hb0)
      b0 := hb0
      b1 := Nat.le_trans (Nat.le_trans hb1 hsz1) HB4.out.size
      gbx := g3.out.far (g3.out.ne Z3.out (by decide)) _
      seen := s3.out.far (s3.out.ne Z3.out (by decide)) _
      set := ST3.out.same (Below.heap_setCell w3 ⟨p.rb, 0, none⟩ _ _ (fun e => ST3.out.noCells Z3.out (congrArg some e.symm)))
      row := ⟨_, Z3.out.set_ 0 _, by
        rw [List.length_append, List.flatMap_append]
        exact own_same (by simpa [inC] using HOW3.out) fun q hq => Below.heap_setCell w3 ⟨p.rb, 0, none⟩ _ _ (fun e => own_blk_ne HOW3.out Z3.out (by decide) (hq.trans (congrArg some e)))⟩
      nxt := n3.out.far (n3.out.ne Z3.out (by decide)) _
      vis := v3.out.far (v3.out.ne Z3.out (by decide)) _
      mB := hmB.out
      rB := hrB }
    have J4 := Lib.hid (HJ.out w _ t T.out fun j hj hw => (HB4.out.block j hj).trans (K1.out j hj hw))
    have d0 := S4.out.nxt.cell 0
    have d1 := S4.out.vis.cell 0
    rw [HNX.out] at d0
    simp only [List.getElem?_toArray, List.getElem?_cons_zero] at d0 d1
    clear hown3 hg3 hv3 c2 f2 Z2 R2 X2 i0 hi hz0 hz1 hz2 ha G1 s1 n1 v1 Z1 R1 ST1 hc c1
    go_wp2_with fail
    go_at_call 44
    refine (HN.out _ _ t i S4.out J4.out hO2.out hNn.out h0 h1).mono ?_
    rintro e w5 ⟨rfl, S5, J5⟩
    go_wp2_with fail
    exact bodyPost_end (results_none (by kernel_rfl) _ _ _) rfl ⟨rfl, S5, J5⟩
def frCRel (p : VP) (n : Nat) (row : List Lk) (st : VSt) (i : Value) (wr : World) : Prop := ∃ m : Nat, m ≤ row.length ∧ i = .int .i64 m ∧ VS p wr (((sucC (row.take m))).foldl (visF p.succ p.own n) st).2 ∧ p.J wr ((sucC (row.take m)).foldl (visF p.succ p.own n) st).1
set_option maxRecDepth 100000 in
set_option maxHeartbeats 2000000 in
theorem nextC (p : VP) (l : List Ac) (B : Nat) (hg : GAt p.W0 B p.g l) (hl : l.length ≤ 100) (hr : ∀ a ∈ l, a.reads.length ≤ 10) (hN : p.N = l.length) (hsu : p.succ = fun i => sucC ((lnkD l).getD i.toNat [])) (how : p.own = fun _ => none) (hrg : ∀ i : Int, 0 ≤ i ∧ i < (p.N : Int) → ∀ x ∈ p.succ i, 0 ≤ x ∧ x < (p.N : Int)) (hJ : ∀ w w' t, p.J w t → (∀ i, i < p.B1 → i < w.heap.size → w'.heap[i]? = w.heap[i]?) → p.J w' t) (n : Nat) (hV : VisSaid p n) : NxtSaidC p p.gb n := by
  intro w R t i hS hT hO hn h0 h1
  obtain ⟨k, rfl⟩ : ∃ k : Nat, i = (k : Int) := ⟨i.toNat, by omega⟩
  have hk : k < l.length := by omega
  obtain ⟨bl, c, A, c2, gl0, gl1, gl2, gl3⟩ := hg.lrow hk
  have hRW : p.succ (k : Int) = sucC ((lnkD l)[k]'(by rw [lnkD_len]; exact hk)) := by
    rw [hsu]
    simp only [Int.toNat_natCast]
    rw [List.getD_eq_getElem?_getD, List.getElem?_eq_getElem (by rw [lnkD_len]; exact hk), Option.getD_some]
  have hnx : nxtF p.succ p.own n (t, R) (k : Int) = (p.succ (k : Int)).foldl (visF p.succ p.own n) (t, R) := by unfold nxtF; rw [how]
  rw [hnx]
  have hrl : ((lnkD l)[k]'(by rw [lnkD_len]; exact hk)).length ≤ 10000 := by
    exact Nat.le_trans (lnkF_row_len [] l hr _ (List.getElem_mem _)) (by omega)
  obtain ⟨row, hrow⟩ : ∃ row, (lnkD l)[k]'(by rw [lnkD_len]; exact hk) = row := ⟨_, rfl⟩
  rw [hrow] at hRW gl2 gl3 hrl
  have HX := Lib.hid gl3
  have y0 := hS.gbx.cell 0
  simp only [List.getElem?_toArray, List.getElem?_cons_zero] at y0
  have y1 := (hS.fr.cell (p := ⟨p.g, 1, none⟩) hg.lt).trans gl1
  have y2 := (hS.fr.cell (p := ⟨bl, k, none⟩) gl0).trans gl2
  have j0 : (0 : Int) ≤ (k : Int) := by omega
  have j1 : (k : Int) < (l.length : Int) := by omega
  have FX := Lib.hid (foldVis (visF_ext (own := p.own) hrg n))
  have SU := Lib.hid hRW
  have RG := Lib.hid (fun x (hx : x ∈ sucC row) => hrg (k : Int) ⟨h0, h1⟩ x (by rw [hRW]; exact hx))
  have HV := Lib.hid hV
  have HJ := Lib.hid hJ
  have HO := Lib.hid hO
  have HN := Lib.hid hn
  have H0 : Hid (frCRel p n row (t, R) (.int .i64 (0 : Nat)) w) := Lib.hid ⟨0, Nat.zero_le _, rfl, by simpa [sucC, srcs] using hS, by simpa [sucC, srcs] using hT⟩
  rw [hRW]
  clear hg hS hT hO hn hRW hnx hrow gl0 gl1 gl2 gl3 hsu how hrg hV hJ hr
  unfold visV
  go_enter Try.func44, Try.ntmps44
  go_wp2_with fail
  clear y0 y1 y2
  go_loopw [15] (fun i wr => frCRel p n row (t, R) i wr) (fun i _ => row.length - (intOf i).toNat)
  case atStart => exact H0.out
  case round =>
    clear H0
    obtain ⟨m, hml, rfl, hS, hT⟩ := hrel
    have S := Lib.hid hS
    have T := Lib.hid hT
    by_cases hm : m < row.length
    · have j4 : (0 : Int) ≤ (m : Int) := by omega
      have j5 : (m : Int) < (row.length : Int) := by omega
      have j6 : decide ((m : Int) < (row.length : Int)) = true := decide_eq_true j5
      obtain ⟨xb, xo, hbe, hxb, y0, y1, y2, y3, y4, y5, y6⟩ := RdLk.piece (RdP.next HX.out hS.fr) hm
      subst hbe
      have HTK := Lib.hid (show row.take (m + 1) = row.take m ++ [row[m]] from List.take_succ_eq_append_getElem hm)
      obtain ⟨x, hx⟩ : ∃ x, row[m] = x := ⟨_, rfl⟩
      rw [hx] at y0 y1 y2 y3 y4 y5 y6 HTK
      have HMX := Lib.hid (show x ∈ row by rw [← hx]; exact List.getElem_mem hm)
      obtain ⟨st, hst⟩ : ∃ st, (sucC (row.take m)).foldl (visF p.succ p.own n) (t, R) = st := ⟨_, rfl⟩
      rw [hst] at S T
      have HST := Lib.hid hst
      have HE := Lib.hid (FX.out (sucC (row.take m)) (t, R) HO.out HN.out (fun z hz => RG.out z (sucC_sub hz)))
      rw [hst] at HE
      clear hx hS hT hst
      go_upto_region 3 with (fail)
      have hba := (Below.refl wr.heap.size wr).alloc (Nat.le_refl _) (.cells #[.int .i64 x.frm, .int .i64 x.to_, .int .i64 x.name.kind, .string (bs x.name.owner), .int .i64 x.name.num, .int .i64 x.name.idx, .string (bs x.name.text)] 43)
      have S6 := Lib.hid (S.out.next hba)
      have hb1 := S.out.b1
      have T6 := Lib.hid (HJ.out wr _ _ T.out (fun j hj hw => hba.block j hw))
      have ZX := Lib.hid (Blk.new wr 43 #[.int .i64 x.frm, .int .i64 x.to_, .int .i64 x.name.kind, .string (bs x.name.owner), .int .i64 x.name.num, .int .i64 x.name.idx, .string (bs x.name.text)])
      have HN6 : Hid (p.N ≤ st.2.length + n) := Lib.hid (by
        have h2 := HO.out.nd.length_le_of_subset (l₂ := st.2) (fun y hy => HE.out.1.sub y hy)
        have h3 := HN.out
        simp only at h2
        omega)
      clear y0 y1 y2 y3 y4 y5 y6 hba hxb
      generalize wr.alloc (.cells #[.int .i64 x.frm, .int .i64 x.to_, .int .i64 x.name.kind, .string (bs x.name.owner), .int .i64 x.name.num, .int .i64 x.name.idx, .string (bs x.name.text)] 43) = W6 at *
      obtain ⟨cb, hcb⟩ : ∃ cb, wr.heap.size = cb := ⟨_, rfl⟩
      rw [hcb] at ZX ⊢
      clear hcb
      have x0 := ZX.out.cell 0
      have x1 := ZX.out.cell 1
      simp only [List.getElem?_toArray, List.getElem?_cons_zero, List.getElem?_cons_succ] at x0 x1
      by_cases hp : 0 ≤ x.frm
      · have d0 : decide (0 ≤ x.frm) = true := decide_eq_true hp
        have HSN := Lib.hid (show sucC (row.take (m + 1)) = sucC (row.take m) ++ [x.frm] by
          rw [HTK.out]
          unfold sucC srcs
          rw [List.filter_append, List.map_append]
          simp [hp])
        have HR := RG.out x.frm (by unfold sucC srcs; exact List.mem_map.2 ⟨x, List.mem_filter.2 ⟨HMX.out, d0⟩, rfl⟩)
        go_wp2_with fail
        go_at_call 63
        refine (HV.out W6 st.2 st.1 x.frm S6.out T6.out HE.out.1.ok HN6.out HR.1 HR.2).mono ?_
        rintro e w7 ⟨rfl, S7, T7⟩
        have HS7 := Lib.hid S7
        have HT7 := Lib.hid T7
        clear S7 T7 x0 x1
        go_wp2_with fail
        go_roundw
        case rel => exact ⟨m + 1, by omega, by go_num, by rw [HSN.out, List.foldl_append, HST.out]; exact HS7.out, by rw [HSN.out, List.foldl_append, HST.out]; exact HT7.out⟩
        case measure => simp [intOf]; omega
      · have d0 : decide (0 ≤ x.frm) = false := decide_eq_false hp
        have HSN := Lib.hid (show sucC (row.take (m + 1)) = sucC (row.take m) by
          rw [HTK.out]
          unfold sucC srcs
          rw [List.filter_append, List.map_append]
          simp [of_decide_eq_false d0])
        clear hp
        go_wp2_with fail
        go_roundw
        case rel => exact ⟨m + 1, by omega, by go_num, by rw [HSN.out, HST.out]; exact S6.out, by rw [HSN.out, HST.out]; exact T6.out⟩
        case measure => simp [intOf]; omega
    · have j6 : decide ((m : Int) < (row.length : Int)) = false := decide_eq_false (by omega)
      have HSN := Lib.hid (show sucC (row.take m) = sucC row by rw [List.take_of_length_le (by omega)])
      rw [HSN.out] at S T
      clear hS hT
      go_wp2_with fail
      exact bodyPost_end (results_none (by kernel_rfl) _ _ _) rfl ⟨rfl, S.out, T.out⟩
theorem vis_allC (p : VP) (l : List Ac) (B : Nat) (hg : GAt p.W0 B p.g l) (hl : l.length ≤ 100) (hr : ∀ a ∈ l, a.reads.length ≤ 10) (hN : p.N = l.length) (hsu : p.succ = fun i => sucC ((lnkD l).getD i.toNat [])) (how : p.own = fun _ => none) (hrg : ∀ i : Int, 0 ≤ i ∧ i < (p.N : Int) → ∀ x ∈ p.succ i, 0 ≤ x ∧ x < (p.N : Int)) (hJ : ∀ w w' t, p.J w t → (∀ i, i < p.B1 → i < w.heap.size → w'.heap[i]? = w.heap[i]?) → p.J w' t) (hnx : p.nx = .func (.func 44) #[] #[ptrV p.gb]) : ∀ n, VisSaid p n
  | 0 => visitC p p.gb (by omega) hnx hJ 0 (fun h => absurd h (by omega))
  | n + 1 => visitC p p.gb (by omega) hnx hJ (n + 1) fun _ => nextC p l B hg hl hr hN hsu how hrg hJ n (vis_allC p l B hg hl hr hN hsu how hrg hJ hnx n)
def NxtSaidE (p : VP) (gb_ : Nat) (n : Nat) : Prop := ∀ (w : World) (R : List Int) (t : Bs → List Int) (i : Int), VS p w R → p.J w t → VOk47 p.N (t, R) → p.N ≤ R.length + n → 0 ≤ i → i < (p.N : Int) →
  Calls Try.prog 49 #[.int .i64 i, visV p, ptrV gb_] w fun e w' => e = .returned (.tuple #[]) ∧ VS p w' (nxtF p.succ p.own n (t, R) i).2 ∧ p.J w' (nxtF p.succ p.own n (t, R) i).1
set_option maxRecDepth 100000 in
set_option maxHeartbeats 1000000 in
theorem visitE (p : VP) (gb_ : Nat) (hNl : p.N ≤ 100) (hnx : p.nx = .func (.func 49) #[] #[ptrV gb_]) (hJ : ∀ w w' t, p.J w t → (∀ i, i < p.B1 → i < w.heap.size → w'.heap[i]? = w.heap[i]?) → p.J w' t) (n : Nat) (hN : 0 < n → NxtSaidE p gb_ (n - 1)) : VisSaid p n := by
  intro w R t i hS hT hO hn h0 h1
  obtain ⟨v, hv, hrow⟩ := hS.row
  have S := Lib.hid hS
  have c0 := hS.seen.cell 0
  simp only [List.getElem?_toArray, List.getElem?_cons_zero] at c0
  by_cases hm : i ∈ R
  · have hlk := hS.set.look i (decide_eq_true hm)
    rw [visF_in_ _ _ _ _ hm]
    have T := Lib.hid hT
    clear hS hT hO hn hv hrow hm hN hJ hnx
    go_enter Try.func63, Try.ntmps63
    go_wp2_with fail
    exact bodyPost_end (results_none (by kernel_rfl) _ _ _) rfl ⟨rfl, S.out, T.out⟩
  · have hlk := hS.set.look i (decide_eq_false hm)
    cases n with
    | zero =>
      exfalso
      have := full_range (hO.step hm ⟨h0, h1⟩).nd (hO.step hm ⟨h0, h1⟩).rg
      simp at this
      omega
    | succ n =>
    rw [visF_new _ _ _ _ hm]
    have hO2 := Lib.hid (hO.step hm ⟨h0, h1⟩)
    have hRl := full_range hO.nd hO.rg
    obtain ⟨w1, hput, hset1, hg1⟩ := hS.set.put hm
    have z1 := hv.grown hg1 (hS.set.noCells hv)
    have r1 : w1.ownsRow p.B1 3 1 v R.length (R.flatMap inC) := own_same hrow fun q hq => by
      obtain ⟨cur, hc⟩ := own_cells_of hrow hq
      exact hg1.block q (Array.getElem?_eq_some_iff.1 hc).1 (hS.set.noCells (show Blk w q _ _ from hc))
    have G1 := Lib.hid (hS.gbx.grown hg1 (hS.set.noCells hS.gbx))
    have s1 := Lib.hid (hS.seen.grown hg1 (hS.set.noCells hS.seen))
    have n1 := Lib.hid (hS.nxt.grown hg1 (hS.set.noCells hS.nxt))
    have v1 := Lib.hid (hS.vis.grown hg1 (hS.set.noCells hS.vis))
    have hsz1 := hg1.size
    have FR1 := Lib.hid (hS.fr.grown hg1 hS.fr.size (fun k hk => by injection hk with hk; have := hS.mB; have := hS.b0; omega))
    have c1 := s1.out.cell 0
    have c2 := z1.cell 0
    have f2 := z1.frozen 0
    simp only [List.getElem?_toArray, List.getElem?_cons_zero] at c1 c2
    obtain ⟨A, c, rfl, hc⟩ := own_len r1
    have K1 := Lib.hid (fun j (hj : j < p.B1) (hw : j < w.heap.size) => hg1.block j hw (fun e => by injection e with e; have := hS.mB; omega))
    have Z1 := Lib.hid z1
    have R1 := Lib.hid r1
    have ST1 := Lib.hid hset1
    have T := Lib.hid hT
    have HN : Hid (NxtSaidE p gb_ n) := Lib.hid (hN (by omega))
    have HJ := Lib.hid hJ
    have HNX := Lib.hid hnx
    have hb1 := hS.b1
    have hb0 := hS.b0
    have hrB := hS.rB
    have hmB := Lib.hid hS.mB
    have hNn : Hid (p.N ≤ (R ++ [i]).length + n) := Lib.hid (by rw [List.length_append, List.length_singleton]; omega)
    clear hS hT hO hv hrow hm hN hJ hnx z1 r1 hset1 hg1
    obtain ⟨i0, hi, hz0, hz1, hz2⟩ := info_parts infoIn
    go_enter Try.func63, Try.ntmps63
    go_upto_region 2 with (fail)
    clear hput hlk c0
    have ha := (Below.refl w1.heap.size w1).alloc (Nat.le_refl _) (.cells #[.int .i64 i] 3)
    have Z2 := Lib.hid (Z1.out.next ha Z1.out.lt)
    have R2 := Lib.hid (own_next R1.out ha)
    have X2 := Lib.hid (rd_new1 w1 i)
    go_wp2_with (at_builtin; refine wpList_append_rd _ rfl _ _ 36 rfl p.B1 3 i0 _ 1 8 Try.underlying36 hi hz0 hz1 hz2 rfl (by decide) _ _ _ rfl R2.out _ _ _ rfl X2.out rfl ?c2 ?c3 ?c4 ?c5 ?_)
    case c2 => intro u hu; simp only [List.flatMap_cons, List.flatMap_nil, List.append_nil, inC, List.mem_cons, List.not_mem_nil, or_false] at hu; subst hu; rfl
    case c3 => unfold maxLen; omega
    case c4 => omega
    case c5 => omega
    intro ao cap w3 hown3 hg3
    have hv3 := own_apart_blk R2.out Z2.out (by decide)
    have Z3 := Lib.hid (Z2.out.grown hg3 hv3)
    have s3 := Lib.hid ((s1.out.next ha s1.out.lt).grown hg3 (own_apart_blk R2.out (s1.out.next ha s1.out.lt) (by decide)))
    have g3 := Lib.hid ((G1.out.next ha G1.out.lt).grown hg3 (own_apart_blk R2.out (G1.out.next ha G1.out.lt) (by decide)))
    have n3 := Lib.hid ((n1.out.next ha n1.out.lt).grown hg3 (own_apart_blk R2.out (n1.out.next ha n1.out.lt) (by decide)))
    have v3 := Lib.hid ((v1.out.next ha v1.out.lt).grown hg3 (own_apart_blk R2.out (v1.out.next ha v1.out.lt) (by decide)))
    have ST3 := Lib.hid ((ST1.out.next ha).same (hg3.block _ (ST1.out.next ha).lt (fun e => by
      obtain ⟨cur, hcc⟩ := own_cells_of R2.out e.symm
      exact (ST1.out.next ha).noCells (show Blk _ _ _ _ from hcc) rfl)))
    have HB3 := Lib.hid (((Below.refl p.B1 w1).alloc (Nat.le_trans hb1 hsz1) (.cells #[.int .i64 i] 3)).grown hg3 (by rw [World.size_alloc]; omega) (fun k hk => own_ge R2.out hk))
    have HOW3 := Lib.hid hown3
    have f3 := Z3.out.frozen 0
    have c3 := Z3.out.cell 0
    simp only [List.getElem?_toArray, List.getElem?_cons_zero] at c3
    have HB4 := Lib.hid (HB3.out.setCell (p := ⟨p.rb, 0, none⟩) hrB (.slice ao (R.length + 1) cap))
    have S4 : Hid (VS p (w3.setCell ⟨p.rb, 0, none⟩ (.slice ao (R.length + 1) cap)) (R ++ [i])) := Lib.hid {
      fr := FR1.out.trans (HB4.out.mono hb0)
      b0 := hb0
      b1 := Nat.le_trans (Nat.le_trans hb1 hsz1) HB4.out.size
      gbx := g3.out.far (g3.out.ne Z3.out (by decide)) _
      seen := s3.out.far (s3.out.ne Z3.out (by decide)) _
      set := ST3.out.same (Below.heap_setCell w3 ⟨p.rb, 0, none⟩ _ _ (fun e => ST3.out.noCells Z3.out (congrArg some e.symm)))
      row := ⟨_, Z3.out.set_ 0 _, by
        rw [List.length_append, List.flatMap_append]
        exact own_same (by simpa [inC] using HOW3.out) fun q hq => Below.heap_setCell w3 ⟨p.rb, 0, none⟩ _ _ (fun e => own_blk_ne HOW3.out Z3.out (by decide) (hq.trans (congrArg some e)))⟩
      nxt := n3.out.far (n3.out.ne Z3.out (by decide)) _
      vis := v3.out.far (v3.out.ne Z3.out (by decide)) _
      mB := hmB.out
      rB := hrB }
    have J4 := Lib.hid (HJ.out w _ t T.out fun j hj hw => (HB4.out.block j hj).trans (K1.out j hj hw))
    have d0 := S4.out.nxt.cell 0
    have d1 := S4.out.vis.cell 0
    rw [HNX.out] at d0
    simp only [List.getElem?_toArray, List.getElem?_cons_zero] at d0 d1
    clear hown3 hg3 hv3 c2 f2 Z2 R2 X2 i0 hi hz0 hz1 hz2 ha G1 s1 n1 v1 Z1 R1 ST1 hc c1
    go_wp2_with fail
    go_at_call 49
    refine (HN.out _ _ t i S4.out J4.out hO2.out hNn.out h0 h1).mono ?_
    rintro e w5 ⟨rfl, S5, J5⟩
    go_wp2_with fail
    exact bodyPost_end (results_none (by kernel_rfl) _ _ _) rfl ⟨rfl, S5, J5⟩
def frERel (p : VP) (n : Nat) (row : List Lk) (st : VSt) (i : Value) (wr : World) : Prop := ∃ m : Nat, m ≤ row.length ∧ i = .int .i64 m ∧ VS p wr (((sucE (row.take m))).foldl (visF p.succ p.own n) st).2 ∧ p.J wr ((sucE (row.take m)).foldl (visF p.succ p.own n) st).1
set_option maxRecDepth 100000 in
set_option maxHeartbeats 2000000 in
theorem nextE (p : VP) (l : List Ac) (B : Nat) (hg : GAt p.W0 B p.g l) (hl : l.length ≤ 100) (hr : ∀ a ∈ l, a.reads.length ≤ 10) (hN : p.N = l.length) (hsu : p.succ = fun i => sucE ((UT l.length (lnkD l).flatten).getD i.toNat [])) (how : p.own = fun _ => none) (hrg : ∀ i : Int, 0 ≤ i ∧ i < (p.N : Int) → ∀ x ∈ p.succ i, 0 ≤ x ∧ x < (p.N : Int)) (hJ : ∀ w w' t, p.J w t → (∀ i, i < p.B1 → i < w.heap.size → w'.heap[i]? = w.heap[i]?) → p.J w' t) (n : Nat) (hV : VisSaid p n) : NxtSaidE p p.gb n := by
  intro w R t i hS hT hO hn h0 h1
  obtain ⟨k, rfl⟩ : ∃ k : Nat, i = (k : Int) := ⟨i.toNat, by omega⟩
  have hk : k < l.length := by omega
  obtain ⟨bl, c, A, c2, gl0, gl1, gl2, gl3⟩ := hg.urow hk
  have hRW : p.succ (k : Int) = sucE ((UT l.length (lnkD l).flatten)[k]'(by rw [UT_len]; exact hk)) := by
    rw [hsu]
    simp only [Int.toNat_natCast]
    rw [List.getD_eq_getElem?_getD, List.getElem?_eq_getElem (by rw [UT_len]; exact hk), Option.getD_some]
  have hnx : nxtF p.succ p.own n (t, R) (k : Int) = (p.succ (k : Int)).foldl (visF p.succ p.own n) (t, R) := by unfold nxtF; rw [how]
  rw [hnx]
  have hrl : ((UT l.length (lnkD l).flatten)[k]'(by rw [UT_len]; exact hk)).length ≤ 10000 := by
    exact Nat.le_trans (UT_row_len hr _) (by omega)
  obtain ⟨row, hrow⟩ : ∃ row, (UT l.length (lnkD l).flatten)[k]'(by rw [UT_len]; exact hk) = row := ⟨_, rfl⟩
  rw [hrow] at hRW gl2 gl3 hrl
  have HX := Lib.hid gl3
  have y0 := hS.gbx.cell 0
  simp only [List.getElem?_toArray, List.getElem?_cons_zero] at y0
  have y1 := (hS.fr.cell (p := ⟨p.g, 2, none⟩) hg.lt).trans gl1
  have y2 := (hS.fr.cell (p := ⟨bl, k, none⟩) gl0).trans gl2
  have j0 : (0 : Int) ≤ (k : Int) := by omega
  have j1 : (k : Int) < (l.length : Int) := by omega
  have FX := Lib.hid (foldVis (visF_ext (own := p.own) hrg n))
  have SU := Lib.hid hRW
  have RG := Lib.hid (fun x (hx : x ∈ sucE row) => hrg (k : Int) ⟨h0, h1⟩ x (by rw [hRW]; exact hx))
  have HV := Lib.hid hV
  have HJ := Lib.hid hJ
  have HO := Lib.hid hO
  have HN := Lib.hid hn
  have H0 : Hid (frERel p n row (t, R) (.int .i64 (0 : Nat)) w) := Lib.hid ⟨0, Nat.zero_le _, rfl, by simpa [sucE, srcs] using hS, by simpa [sucE, srcs] using hT⟩
  rw [hRW]
  clear hg hS hT hO hn hRW hnx hrow gl0 gl1 gl2 gl3 hsu how hrg hV hJ hr
  unfold visV
  go_enter Try.func49, Try.ntmps49
  go_wp2_with fail
  clear y0 y1 y2
  go_loopw [15] (fun i wr => frERel p n row (t, R) i wr) (fun i _ => row.length - (intOf i).toNat)
  case atStart => exact H0.out
  case round =>
    clear H0
    obtain ⟨m, hml, rfl, hS, hT⟩ := hrel
    have S := Lib.hid hS
    have T := Lib.hid hT
    by_cases hm : m < row.length
    · have j4 : (0 : Int) ≤ (m : Int) := by omega
      have j5 : (m : Int) < (row.length : Int) := by omega
      have j6 : decide ((m : Int) < (row.length : Int)) = true := decide_eq_true j5
      obtain ⟨xb, xo, hbe, hxb, y0, y1, y2, y3, y4, y5, y6⟩ := RdLk.piece (RdP.next HX.out hS.fr) hm
      subst hbe
      have HTK := Lib.hid (show row.take (m + 1) = row.take m ++ [row[m]] from List.take_succ_eq_append_getElem hm)
      obtain ⟨x, hx⟩ : ∃ x, row[m] = x := ⟨_, rfl⟩
      rw [hx] at y0 y1 y2 y3 y4 y5 y6 HTK
      have HMX := Lib.hid (show x ∈ row by rw [← hx]; exact List.getElem_mem hm)
      obtain ⟨st, hst⟩ : ∃ st, (sucE (row.take m)).foldl (visF p.succ p.own n) (t, R) = st := ⟨_, rfl⟩
      rw [hst] at S T
      have HST := Lib.hid hst
      have HE := Lib.hid (FX.out (sucE (row.take m)) (t, R) HO.out HN.out (fun z hz => RG.out z (sucE_sub hz)))
      rw [hst] at HE
      clear hx hS hT hst
      go_upto_region 3 with (fail)
      have hba := (Below.refl wr.heap.size wr).alloc (Nat.le_refl _) (.cells #[.int .i64 x.frm, .int .i64 x.to_, .int .i64 x.name.kind, .string (bs x.name.owner), .int .i64 x.name.num, .int .i64 x.name.idx, .string (bs x.name.text)] 43)
      have S6 := Lib.hid (S.out.next hba)
      have hb1 := S.out.b1
      have T6 := Lib.hid (HJ.out wr _ _ T.out (fun j hj hw => hba.block j hw))
      have ZX := Lib.hid (Blk.new wr 43 #[.int .i64 x.frm, .int .i64 x.to_, .int .i64 x.name.kind, .string (bs x.name.owner), .int .i64 x.name.num, .int .i64 x.name.idx, .string (bs x.name.text)])
      have HN6 : Hid (p.N ≤ st.2.length + n) := Lib.hid (by
        have h2 := HO.out.nd.length_le_of_subset (l₂ := st.2) (fun y hy => HE.out.1.sub y hy)
        have h3 := HN.out
        simp only at h2
        omega)
      clear y0 y1 y2 y3 y4 y5 y6 hba hxb
      generalize wr.alloc (.cells #[.int .i64 x.frm, .int .i64 x.to_, .int .i64 x.name.kind, .string (bs x.name.owner), .int .i64 x.name.num, .int .i64 x.name.idx, .string (bs x.name.text)] 43) = W6 at *
      obtain ⟨cb, hcb⟩ : ∃ cb, wr.heap.size = cb := ⟨_, rfl⟩
      rw [hcb] at ZX ⊢
      clear hcb
      have x0 := ZX.out.cell 0
      have x1 := ZX.out.cell 1
      simp only [List.getElem?_toArray, List.getElem?_cons_zero, List.getElem?_cons_succ] at x0 x1
      have HSN := Lib.hid (show sucE (row.take (m + 1)) = sucE (row.take m) ++ [x.to_] by
        rw [HTK.out]
        unfold sucE
        rw [List.map_append]
        rfl)
      have HR := RG.out x.to_ (by unfold sucE; exact List.mem_map.2 ⟨x, HMX.out, rfl⟩)
      go_wp2_with fail
      go_at_call 63
      refine (HV.out W6 st.2 st.1 x.to_ S6.out T6.out HE.out.1.ok HN6.out HR.1 HR.2).mono ?_
      rintro e w7 ⟨rfl, S7, T7⟩
      have HS7 := Lib.hid S7
      have HT7 := Lib.hid T7
      clear S7 T7 x0 x1
      go_wp2_with fail
      go_roundw
      case rel => exact ⟨m + 1, by omega, by go_num, by rw [HSN.out, List.foldl_append, HST.out]; exact HS7.out, by rw [HSN.out, List.foldl_append, HST.out]; exact HT7.out⟩
      case measure => simp [intOf]; omega
    · have j6 : decide ((m : Int) < (row.length : Int)) = false := decide_eq_false (by omega)
      have HSN := Lib.hid (show sucE (row.take m) = sucE row by rw [List.take_of_length_le (by omega)])
      rw [HSN.out] at S T
      clear hS hT
      go_wp2_with fail
      exact bodyPost_end (results_none (by kernel_rfl) _ _ _) rfl ⟨rfl, S.out, T.out⟩
theorem vis_allE (p : VP) (l : List Ac) (B : Nat) (hg : GAt p.W0 B p.g l) (hl : l.length ≤ 100) (hr : ∀ a ∈ l, a.reads.length ≤ 10) (hN : p.N = l.length) (hsu : p.succ = fun i => sucE ((UT l.length (lnkD l).flatten).getD i.toNat [])) (how : p.own = fun _ => none) (hrg : ∀ i : Int, 0 ≤ i ∧ i < (p.N : Int) → ∀ x ∈ p.succ i, 0 ≤ x ∧ x < (p.N : Int)) (hJ : ∀ w w' t, p.J w t → (∀ i, i < p.B1 → i < w.heap.size → w'.heap[i]? = w.heap[i]?) → p.J w' t) (hnx : p.nx = .func (.func 49) #[] #[ptrV p.gb]) : ∀ n, VisSaid p n
  | 0 => visitE p p.gb (by omega) hnx hJ 0 (fun h => absurd h (by omega))
  | n + 1 => visitE p p.gb (by omega) hnx hJ (n + 1) fun _ => nextE p l B hg hl hr hN hsu how hrg hJ n (vis_allE p l B hg hl hr hN hsu how hrg hJ hnx n)
end Go.Proofs.Ytmjkcanjfjfkfaa
