/- Walks of layer 47: what is closed. -/
import Derived.Test.YtmjkcanjfjfkfaaT5
import Derived.Test.YtmjkcanjfjfkfaaT16
import Derived.Test.YtmjkcanjfjfkfaaE3
namespace Go.Proofs.Ytmjkcanjfjfkfaa
open Go.RowKit
set_option linter.unusedSimpArgs false
set_option linter.unusedVariables false
attribute [local go_sem ↓] Go.wp_at_zero Go.wp_at_succ
open Go.MapKept Go.ChangeMaps
/-- What a search for a closed set keeps besides: the turns of the processes. -/
structure JL (W0 WB : World) (B1 tv tb : Nat) (w : World) (t : Bs → List Int) : Prop where
  box : Blk w tv 108 #[.map (some tb)]
  tvB : tv < B1
  rows : MapRowsS 3 1 inC w (fun i => W0.heap.size ≤ i ∧ i < B1) tb t
  same : ∀ i, i < B1 → i ≠ tb → w.heap[i]? = WB.heap[i]?
  sz : B1 ≤ w.heap.size
theorem JL.keep {W0 WB : World} {B1 tv tb : Nat} {w w' : World} {t : Bs → List Int} (h : JL W0 WB B1 tv tb w t) (hk : ∀ i, i < B1 → i < w.heap.size → w'.heap[i]? = w.heap[i]?) : JL W0 WB B1 tv tb w' t := by
  have hs := h.sz
  have hv := h.tvB
  refine ⟨(hk tv h.tvB (by omega)).trans h.box, h.tvB, h.rows.keep (fun es c h1 _ => hk _ h1.2 (by omega)) (fun g cs h1 _ => hk _ h1.2 (by omega)) (fun _ _ h => h), fun i h1 h2 => (hk i h1 (by omega)).trans (h.same i h1 h2), ?_⟩
  have h1 := hk (B1 - 1) (by omega) (by omega)
  rw [Array.getElem?_eq_getElem (show B1 - 1 < w.heap.size by omega)] at h1
  have := (Array.getElem?_eq_some_iff.1 h1).1
  omega
theorem VS.del {p : VP} {w w' : World} {R : List Int} {tb : Nat} (h : VS p w R) (hm : ∃ es c, w.heap[tb]? = some (.map es c)) (hne : tb ≠ p.mb) (h0 : p.W0.heap.size ≤ tb) (hg : w.grownBy w' (some tb)) : VS p w' R := by
  obtain ⟨es, c, hb⟩ := hm
  have nb : ∀ {g : Nat} {t : TypeId} {cs : Array Value}, Blk w g t cs → some g ≠ some tb := fun hk e => by
    injection e with e
    unfold Blk at hk
    rw [e, hb] at hk
    cases hk
  obtain ⟨v, h1, h2⟩ := h.row
  exact ⟨h.fr.grown hg h.fr.size (fun k hk => by injection hk with hk; omega), h.b0, Nat.le_trans h.b1 hg.size, h.gbx.grown hg (nb h.gbx), h.seen.grown hg (nb h.seen), h.set.same (hg.block _ h.set.lt (fun e => hne (by injection e with e; exact e.symm))), ⟨v, h1.grown hg (nb h1), h2.kept hg (.inr (own_not_map h2 hb))⟩, h.nxt.grown hg (nb h.nxt), h.vis.grown hg (nb h.vis), h.mB, h.rB⟩
theorem JL.del {W0 WB : World} {B1 tv tb : Nat} {w w' : World} {t : Bs → List Int} (h : JL W0 WB B1 tv tb w t) {k : Bs} (hr : MapRowsS 3 1 inC w' (fun i => W0.heap.size ≤ i ∧ i < B1) tb (fun m => if m = k then [] else t m)) (hg : w.grownBy w' (some tb)) : JL W0 WB B1 tv tb w' (upT t k) := by
  have hs := h.sz
  have hv := h.tvB
  obtain ⟨es, c, hb⟩ := h.rows.map
  refine ⟨h.box.grown hg (fun e => ?_), h.tvB, hr, fun i h1 h2 => (hg.block i (by omega) (fun e => h2 (by injection e))).trans (h.same i h1 h2), Nat.le_trans hs hg.size⟩
  injection e with e
  have := h.box
  unfold Blk at this
  rw [e, hb] at this
  cases this
def NxtSaidL (p : VP) (gb_ tv : Nat) (n : Nat) : Prop := ∀ (w : World) (R : List Int) (t : Bs → List Int) (i : Int), VS p w R → p.J w t → VOk47 p.N (t, R) → p.N ≤ R.length + n → 0 ≤ i → i < (p.N : Int) →
  Calls Try.prog 51 #[.int .i64 i, visV p, ptrV gb_, ptrV tv] w fun e w' => e = .returned (.tuple #[]) ∧ VS p w' (nxtF p.succ p.own n (t, R) i).2 ∧ p.J w' (nxtF p.succ p.own n (t, R) i).1
set_option maxRecDepth 100000 in
set_option maxHeartbeats 1000000 in
theorem visitL (p : VP) (gb_ tv : Nat) (hNl : p.N ≤ 100) (hnx : p.nx = .func (.func 51) #[] #[ptrV gb_, ptrV tv]) (hJ : ∀ w w' t, p.J w t → (∀ i, i < p.B1 → i < w.heap.size → w'.heap[i]? = w.heap[i]?) → p.J w' t) (n : Nat) (hN : 0 < n → NxtSaidL p gb_ tv (n - 1)) : VisSaid p n := by
  intro w R t i hS hT hO hn h0 h1
  obtain ⟨v, hv, hrow⟩ := hS.row
  have S := Lib.hid hS
  have c0 := hS.seen.cell 0
  simp only [List.getElem?_toArray, List.getElem?_cons_zero] at c0
  by_cases hm : i ∈ R
  · have hlk := hS.set.look i (decide_eq_true hm)
    rw [visF_in_ _ _ _ _ hm]
    have T := Lib.hid hT
    clear hS hT hO hn hv hrow hm hN hJ hnx
    go_enter Try.func63, Try.ntmps63
    go_wp2_with fail
    exact bodyPost_end (results_none (by kernel_rfl) _ _ _) rfl ⟨rfl, S.out, T.out⟩
  · have hlk := hS.set.look i (decide_eq_false hm)
    cases n with
    | zero =>
      exfalso
      have := full_range (hO.step hm ⟨h0, h1⟩).nd (hO.step hm ⟨h0, h1⟩).rg
      simp at this
      omega
    | succ n =>
    rw [visF_new _ _ _ _ hm]
    have hO2 := Lib.hid (hO.step hm ⟨h0, h1⟩)
    have hRl := full_range hO.nd hO.rg
    obtain ⟨w1, hput, hset1, hg1⟩ := hS.set.put hm
    have z1 := hv.grown hg1 (hS.set.noCells hv)
    have r1 : w1.ownsRow p.B1 3 1 v R.length (R.flatMap inC) := own_same hrow fun q hq => by
      obtain ⟨cur, hc⟩ := own_cells_of hrow hq
      exact hg1.block q (Array.getElem?_eq_some_iff.1 hc).1 (hS.set.noCells (show Blk w q _ _ from hc))
    have G1 := Lib.hid (hS.gbx.grown hg1 (hS.set.noCells hS.gbx))
    have s1 := Lib.hid (hS.seen.grown hg1 (hS.set.noCells hS.seen))
    have n1 := Lib.hid (hS.nxt.grown hg1 (hS.set.noCells hS.nxt))
    have v1 := Lib.hid (hS.vis.grown hg1 (hS.set.noCells hS.vis))
    have hsz1 := hg1.size
    have FR1 := Lib.hid (hS.fr.grown hg1 hS.fr.size (fun k hk => by injection hk with hk; have := hS.mB; have := hS.b0; omega))
    have c1 := s1.out.cell 0
    have c2 := z1.cell 0
    have f2 := z1.frozen 0
    simp only [List.getElem?_toArray, List.getElem?_cons_zero] at c1 c2
    obtain ⟨A, c, rfl, hc⟩ := own_len r1
    have K1 := Lib.hid (fun j (hj : j < p.B1) (hw : j < w.heap.size) => hg1.block j hw (fun e => by injection e with e; have := hS.mB; omega))
    have Z1 := Lib.hid z1
    have R1 := Lib.hid r1
    have ST1 := Lib.hid hset1
    have T := Lib.hid hT
    have HN : Hid (NxtSaidL p gb_ tv n) := Lib.hid (hN (by omega))
    have HJ := Lib.hid hJ
    have HNX := Lib.hid hnx
    have hb1 := hS.b1
    have hb0 := hS.b0
    have hrB := hS.rB
    have hmB := Lib.hid hS.mB
    have hNn : Hid (p.N ≤ (R ++ [i]).length + n) := Lib.hid (by rw [List.length_append, List.length_singleton]; omega)
    clear hS hT hO hv hrow hm hN hJ hnx z1 r1 hset1 hg1
    obtain ⟨i0, hi, hz0, hz1, hz2⟩ := info_parts infoIn
    go_enter Try.func63, Try.ntmps63
    go_upto_region 2 with (fail)
    clear hput hlk c0
    have ha := (Below.refl w1.heap.size w1).alloc (Nat.le_refl _) (.cells #[.int .i64 i] 3)
    have Z2 := Lib.hid (Z1.out.next ha Z1.out.lt)
    have R2 := Lib.hid (own_next R1.out ha)
    have X2 := Lib.hid (rd_new1 w1 i)
    go_wp2_with (at_builtin; refine wpList_append_rd _ rfl _ _ 36 rfl p.B1 3 i0 _ 1 8 Try.underlying36 hi hz0 hz1 hz2 rfl (by decide) _ _ _ rfl R2.out _ _ _ rfl X2.out rfl ?c2 ?c3 ?c4 ?c5 ?_)
    case c2 => intro u hu; simp only [List.flatMap_cons, List.flatMap_nil, List.append_nil, inC, List.mem_cons, List.not_mem_nil, or_false] at hu; subst hu; rfl
    case c3 => unfold maxLen; omega
    case c4 => omega
    case c5 => omega
    intro ao cap w3 hown3 hg3
    have hv3 := own_apart_blk R2.out Z2.out (by decide)
    have Z3 := Lib.hid (Z2.out.grown hg3 hv3)
    have s3 := Lib.hid ((s1.out.next ha s1.out.lt).grown hg3 (own_apart_blk R2.out (s1.out.next ha s1.out.lt) (by decide)))
    have g3 := Lib.hid ((G1.out.next ha G1.out.lt).grown hg3 (own_apart_blk R2.out (G1.out.next ha G1.out.lt) (by decide)))
    have n3 := Lib.hid ((n1.out.next ha n1.out.lt).grown hg3 (own_apart_blk R2.out (n1.out.next ha n1.out.lt) (by decide)))
    have v3 := Lib.hid ((v1.out.next ha v1.out.lt).grown hg3 (own_apart_blk R2.out (v1.out.next ha v1.out.lt) (by decide)))
    have ST3 := Lib.hid ((ST1.out.next ha).same (hg3.block _ (ST1.out.next ha).lt (fun e => by
      obtain ⟨cur, hcc⟩ := own_cells_of R2.out e.symm
      exact (ST1.out.next ha).noCells (show Blk _ _ _ _ from hcc) rfl)))
    have HB3 := Lib.hid (((Below.refl p.B1 w1).alloc (Nat.le_trans hb1 hsz1) (.cells #[.int .i64 i] 3)).grown hg3 (by rw [World.size_alloc]; omega) (fun k hk => own_ge R2.out hk))
    have HOW3 := Lib.hid hown3
    have f3 := Z3.out.frozen 0
    have c3 := Z3.out.cell 0
    simp only [List.getElem?_toArray, List.getElem?_cons_zero] at c3
    have HB4 := Lib.hid (HB3.out.setCell (p := ⟨p.rb, 0, none⟩) hrB (.slice ao (R.length + 1) cap))
    have S4 : Hid (VS p (w3.setCell ⟨p.rb, 0, none⟩ (.slice ao (R.length + 1) cap)) (R ++ [i])) := Lib.hid {
      fr := FR1.out.trans (HB4.out.mono hb0)
      b0 := hb0
      b1 := Nat.le_trans (Nat.le_trans hb1 hsz1) HB4.out.size
      gbx := g3.out.far (g3.out.ne Z3.out (by decide)) _
      seen := s3.out.far (s3.out.ne Z3.out (by decide)) _
      set := ST3.out.same (Below.heap_setCell w3 ⟨p.rb, 0, none⟩ _ _ (fun e => ST3.out.noCells Z3.out (congrArg some e.symm)))
      row := ⟨_, Z3.out.set_ 0 _, by
        rw [List.length_append, List.flatMap_append]
        exact own_same (by simpa [inC] using HOW3.out) fun q hq => Below.heap_setCell w3 ⟨p.rb, 0, none⟩ _ _ (fun e => own_blk_ne HOW3.out Z3.out (by decide) (hq.trans (congrArg some e)))⟩
      nxt := n3.out.far (n3.out.ne Z3.out (by decide)) _
      vis := v3.out.far (v3.out.ne Z3.out (by decide)) _
      mB := hmB.out
      rB := hrB }
    have J4 := Lib.hid (HJ.out w _ t T.out fun j hj hw => (HB4.out.block j hj).trans (K1.out j hj hw))
    have d0 := S4.out.nxt.cell 0
    have d1 := S4.out.vis.cell 0
    rw [HNX.out] at d0
    simp only [List.getElem?_toArray, List.getElem?_cons_zero] at d0 d1
    clear hown3 hg3 hv3 c2 f2 Z2 R2 X2 i0 hi hz0 hz1 hz2 ha G1 s1 n1 v1 Z1 R1 ST1 hc c1
    go_wp2_with fail
    go_at_call 51
    refine (HN.out _ _ t i S4.out J4.out hO2.out hNn.out h0 h1).mono ?_
    rintro e w5 ⟨rfl, S5, J5⟩
    go_wp2_with fail
    exact bodyPost_end (results_none (by kernel_rfl) _ _ _) rfl ⟨rfl, S5, J5⟩
def foLRel (p : VP) (n : Nat) (tl : List Int) (st : VSt) (i : Value) (wr : World) : Prop := ∃ m : Nat, m ≤ tl.length ∧ i = .int .i64 m ∧ VS p wr (((tl.take m)).foldl (visF p.succ p.own n) st).2 ∧ p.J wr ((tl.take m).foldl (visF p.succ p.own n) st).1
set_option maxRecDepth 100000 in
set_option maxHeartbeats 2000000 in
theorem nextL (p : VP) (WB : World) (tv tb : Nat) (l : List Ac) (B : Nat) (hg : GAt p.W0 B p.g l) (hl : l.length ≤ 100) (hr : ∀ a ∈ l, a.reads.length ≤ 10) (hN : p.N = l.length) (hsu : p.succ = fun i => sucC ((lnkD l).getD i.toNat [])) (how : p.own = prK (l.map Ac.key)) (hrg : ∀ i : Int, 0 ≤ i ∧ i < (p.N : Int) → ∀ x ∈ p.succ i, 0 ≤ x ∧ x < (p.N : Int)) (hJ0 : p.J = JL p.W0 WB p.B1 tv tb) (n : Nat) (hV : VisSaid p n) : NxtSaidL p p.gb tv n := by
  intro w R t i hS hT hO hn h0 h1
  obtain ⟨k, rfl⟩ : ∃ k : Nat, i = (k : Int) := ⟨i.toNat, by omega⟩
  have hk : k < l.length := by omega
  obtain ⟨bl, c, A, c2, gl0, gl1, gl2, gl3⟩ := hg.lrow hk
  have hRW : p.succ (k : Int) = sucC ((lnkD l)[k]'(by rw [lnkD_len]; exact hk)) := by
    rw [hsu]
    simp only [Int.toNat_natCast]
    rw [List.getD_eq_getElem?_getD, List.getElem?_eq_getElem (by rw [lnkD_len]; exact hk), Option.getD_some]
  have hJ : ∀ w w' t, p.J w t → (∀ i, i < p.B1 → i < w.heap.size → w'.heap[i]? = w.heap[i]?) → p.J w' t := fun w w' t h => by
    rw [hJ0] at h ⊢
    exact h.keep
  have HJ0 := Lib.hid hJ0
  have HOWN := Lib.hid (show p.own (k : Int) = if l[k].key.cls = 0 then none else some l[k].key.lin by rw [how]; exact prK_at hk)
  obtain ⟨Ak, ck, gk0, gk1⟩ := hg.keyrow
  have HKR := Lib.hid gk1
  have HK := Lib.hid hk
  have z0 := (hS.fr.cell (p := ⟨p.g, 0, none⟩) hg.lt).trans gk0
  have HZ0 := Lib.hid (fun (W : World) (hW : Below p.W0.heap.size p.W0 W) => (hW.cell (p := ⟨p.g, 0, none⟩) hg.lt).trans gk0)
  have hrl : ((lnkD l)[k]'(by rw [lnkD_len]; exact hk)).length ≤ 10000 := by
    exact Nat.le_trans (lnkF_row_len [] l hr _ (List.getElem_mem _)) (by omega)
  obtain ⟨row, hrow⟩ : ∃ row, (lnkD l)[k]'(by rw [lnkD_len]; exact hk) = row := ⟨_, rfl⟩
  rw [hrow] at hRW gl2 gl3 hrl
  have HX := Lib.hid gl3
  have y0 := hS.gbx.cell 0
  simp only [List.getElem?_toArray, List.getElem?_cons_zero] at y0
  have y1 := (hS.fr.cell (p := ⟨p.g, 1, none⟩) hg.lt).trans gl1
  have y2 := (hS.fr.cell (p := ⟨bl, k, none⟩) gl0).trans gl2
  have j0 : (0 : Int) ≤ (k : Int) := by omega
  have j1 : (k : Int) < (l.length : Int) := by omega
  have FX := Lib.hid (foldVis (visF_ext (own := p.own) hrg n))
  have SU := Lib.hid hRW
  have RG := Lib.hid (fun x (hx : x ∈ sucC row) => hrg (k : Int) ⟨h0, h1⟩ x (by rw [hRW]; exact hx))
  have HV := Lib.hid hV
  have HJ := Lib.hid hJ
  have HO := Lib.hid hO
  have HN := Lib.hid hn
  have H0 : Hid (frCRel p n row (t, R) (.int .i64 (0 : Nat)) w) := Lib.hid ⟨0, Nat.zero_le _, rfl, by simpa [sucC, srcs] using hS, by simpa [sucC, srcs] using hT⟩
  have HRW2 := Lib.hid hRW
  clear z0 gk0 gk1 hJ0
  clear hg hS hT hO hn hRW hrow gl0 gl1 gl2 gl3 hsu how hrg hV hJ hr
  unfold visV
  go_enter Try.func51, Try.ntmps51
  go_wp2_with fail
  clear y0 y1 y2
  go_loopw [20] (fun i wr => frCRel p n row (t, R) i wr) (fun i _ => row.length - (intOf i).toNat)
  case atStart => exact H0.out
  case round =>
    clear H0
    obtain ⟨m, hml, rfl, hS, hT⟩ := hrel
    have S := Lib.hid hS
    have T := Lib.hid hT
    by_cases hm : m < row.length
    · have j4 : (0 : Int) ≤ (m : Int) := by omega
      have j5 : (m : Int) < (row.length : Int) := by omega
      have j6 : decide ((m : Int) < (row.length : Int)) = true := decide_eq_true j5
      obtain ⟨xb, xo, hbe, hxb, y0, y1, y2, y3, y4, y5, y6⟩ := RdLk.piece (RdP.next HX.out hS.fr) hm
      subst hbe
      have HTK := Lib.hid (show row.take (m + 1) = row.take m ++ [row[m]] from List.take_succ_eq_append_getElem hm)
      obtain ⟨x, hx⟩ : ∃ x, row[m] = x := ⟨_, rfl⟩
      rw [hx] at y0 y1 y2 y3 y4 y5 y6 HTK
      have HMX := Lib.hid (show x ∈ row by rw [← hx]; exact List.getElem_mem hm)
      obtain ⟨st, hst⟩ : ∃ st, (sucC (row.take m)).foldl (visF p.succ p.own n) (t, R) = st := ⟨_, rfl⟩
      rw [hst] at S T
      have HST := Lib.hid hst
      have HE := Lib.hid (FX.out (sucC (row.take m)) (t, R) HO.out HN.out (fun z hz => RG.out z (sucC_sub hz)))
      rw [hst] at HE
      clear hx hS hT hst
      go_upto_region 3 with (fail)
      have hba := (Below.refl wr.heap.size wr).alloc (Nat.le_refl _) (.cells #[.int .i64 x.frm, .int .i64 x.to_, .int .i64 x.name.kind, .string (bs x.name.owner), .int .i64 x.name.num, .int .i64 x.name.idx, .string (bs x.name.text)] 43)
      have S6 := Lib.hid (S.out.next hba)
      have hb1 := S.out.b1
      have T6 := Lib.hid (HJ.out wr _ _ T.out (fun j hj hw => hba.block j hw))
      have ZX := Lib.hid (Blk.new wr 43 #[.int .i64 x.frm, .int .i64 x.to_, .int .i64 x.name.kind, .string (bs x.name.owner), .int .i64 x.name.num, .int .i64 x.name.idx, .string (bs x.name.text)])
      have HN6 : Hid (p.N ≤ st.2.length + n) := Lib.hid (by
        have h2 := HO.out.nd.length_le_of_subset (l₂ := st.2) (fun y hy => HE.out.1.sub y hy)
        have h3 := HN.out
        simp only at h2
        omega)
      clear y0 y1 y2 y3 y4 y5 y6 hba hxb
      generalize wr.alloc (.cells #[.int .i64 x.frm, .int .i64 x.to_, .int .i64 x.name.kind, .string (bs x.name.owner), .int .i64 x.name.num, .int .i64 x.name.idx, .string (bs x.name.text)] 43) = W6 at *
      obtain ⟨cb, hcb⟩ : ∃ cb, wr.heap.size = cb := ⟨_, rfl⟩
      rw [hcb] at ZX ⊢
      clear hcb
      have x0 := ZX.out.cell 0
      have x1 := ZX.out.cell 1
      simp only [List.getElem?_toArray, List.getElem?_cons_zero, List.getElem?_cons_succ] at x0 x1
      by_cases hp : 0 ≤ x.frm
      · have d0 : decide (0 ≤ x.frm) = true := decide_eq_true hp
        have HSN := Lib.hid (show sucC (row.take (m + 1)) = sucC (row.take m) ++ [x.frm] by
          rw [HTK.out]
          unfold sucC srcs
          rw [List.filter_append, List.map_append]
          simp [hp])
        have HR := RG.out x.frm (by unfold sucC srcs; exact List.mem_map.2 ⟨x, List.mem_filter.2 ⟨HMX.out, d0⟩, rfl⟩)
        go_wp2_with fail
        go_at_call 63
        refine (HV.out W6 st.2 st.1 x.frm S6.out T6.out HE.out.1.ok HN6.out HR.1 HR.2).mono ?_
        rintro e w7 ⟨rfl, S7, T7⟩
        have HS7 := Lib.hid S7
        have HT7 := Lib.hid T7
        clear S7 T7 x0 x1
        go_wp2_with fail
        go_roundw
        case rel => exact ⟨m + 1, by omega, by go_num, by rw [HSN.out, List.foldl_append, HST.out]; exact HS7.out, by rw [HSN.out, List.foldl_append, HST.out]; exact HT7.out⟩
        case measure => simp [intOf]; omega
      · have d0 : decide (0 ≤ x.frm) = false := decide_eq_false hp
        have HSN := Lib.hid (show sucC (row.take (m + 1)) = sucC (row.take m) by
          rw [HTK.out]
          unfold sucC srcs
          rw [List.filter_append, List.map_append]
          simp [of_decide_eq_false d0])
        clear hp
        go_wp2_with fail
        go_roundw
        case rel => exact ⟨m + 1, by omega, by go_num, by rw [HSN.out, HST.out]; exact S6.out, by rw [HSN.out, HST.out]; exact T6.out⟩
        case measure => simp [intOf]; omega
    · have j6 : decide ((m : Int) < (row.length : Int)) = false := decide_eq_false (by omega)
      have HSN := Lib.hid (show sucC (row.take m) = sucC row by rw [List.take_of_length_le (by omega)])
      rw [HSN.out] at S T
      have HE := Lib.hid (FX.out (sucC row) (t, R) HO.out HN.out RG.out)
      obtain ⟨st, hst⟩ : ∃ st, (sucC row).foldl (visF p.succ p.own n) (t, R) = st := ⟨_, rfl⟩
      rw [hst] at S T HE
      have HST := Lib.hid hst
      have HNR := Lib.hid (show p.N ≤ st.2.length + n by
        have h2 := HO.out.nd.length_le_of_subset (l₂ := st.2) (fun y hy => HE.out.1.sub y hy)
        have h3 := HN.out
        simp only at h2
        omega)
      have HNF := Lib.hid (show nxtF p.succ p.own n (t, R) (k : Int) = (match p.own (k : Int) with
          | none => st
          | some q => (st.1 q).foldl (visF p.succ p.own n) (upT st.1 q, st.2)) by
        unfold nxtF
        rw [HRW2.out, HST.out]
        rfl)
      have z0 := HZ0.out wr hS.fr
      have y0 := hS.gbx.cell 0
      simp only [List.getElem?_toArray, List.getElem?_cons_zero] at y0
      have hkm : k < (l.map Ac.key).length := by rw [List.length_map]; exact HK.out
      obtain ⟨kb, ko, hbe, hkb, v0, v1, v2, v3⟩ := RdKy.piece (RdP.next HKR.out hS.fr) hkm
      subst hbe
      have HKE := Lib.hid (show (l.map Ac.key)[k] = (l[k]'HK.out).key from List.getElem_map ..)
      rw [HKE.out] at v0 v1 v2 v3
      obtain ⟨ky, hky⟩ : ∃ ky, (l[k]'HK.out).key = ky := ⟨_, rfl⟩
      rw [hky] at v0 v1 v2 v3 HOWN
      clear hS hT hst hky
      go_upto_region 7 with (fail)
      have hba := (Below.refl wr.heap.size wr).alloc (Nat.le_refl _) (.cells #[.int .i64 ky.tick, .int .i64 ky.cls, .int .i64 ky.num, .string (bs ky.lin)] 56)
      have S6 := Lib.hid (S.out.next hba)
      have T6 := Lib.hid (HJ.out wr _ _ T.out (fun j hj hw => hba.block j hw))
      have ZX := Lib.hid (Blk.new wr 56 #[.int .i64 ky.tick, .int .i64 ky.cls, .int .i64 ky.num, .string (bs ky.lin)])
      clear v0 v1 v2 v3 z0 y0 hba hkb S T
      generalize wr.alloc (.cells #[.int .i64 ky.tick, .int .i64 ky.cls, .int .i64 ky.num, .string (bs ky.lin)] 56) = W6 at *
      obtain ⟨cb, hcb⟩ : ∃ cb, wr.heap.size = cb := ⟨_, rfl⟩
      rw [hcb] at ZX ⊢
      clear hcb
      have x1 := ZX.out.cell 1
      have x3 := ZX.out.cell 3
      simp only [List.getElem?_toArray, List.getElem?_cons_zero, List.getElem?_cons_succ] at x1 x3
      by_cases hcl : ky.cls = 0
      · have j7 : (ky.cls != 0) = false := by rw [hcl]; rfl
        have HNG := Lib.hid (show nxtF p.succ p.own n (t, R) (k : Int) = st by rw [HNF.out, HOWN.out, if_pos hcl])
        clear hcl
        go_wp2_with fail
        exact bodyPost_end (results_none (by kernel_rfl) _ _ _) rfl ⟨rfl, by rw [HNG.out]; exact S6.out, by rw [HNG.out]; exact T6.out⟩
      · have j7 : (ky.cls != 0) = true := by rw [bne_iff_ne]; exact hcl
        have HNG := Lib.hid (show nxtF p.succ p.own n (t, R) (k : Int) = (st.1 ky.lin).foldl (visF p.succ p.own n) (upT st.1 ky.lin, st.2) by rw [HNF.out, HOWN.out, if_neg hcl])
        have J6 := Lib.hid (show JL p.W0 WB p.B1 tv tb W6 st.1 by rw [← HJ0.out]; exact T6.out)
        have x2 := J6.out.box.cell 0
        simp only [List.getElem?_toArray, List.getElem?_cons_zero] at x2
        obtain ⟨hF, ents, hmat, hpw, hen, hcov⟩ := id J6.out.rows
        have hfind : OwnF (fun i => p.W0.heap.size ≤ i ∧ i < p.B1) 3 1 W6 ((lookM ky.lin ents).getD (.slice none 0 0)) (st.1 ky.lin).length ((st.1 ky.lin).flatMap inC) := by
          cases hlk : lookM ky.lin ents with
          | some v => exact (hen _ (look_mem hlk)).1
          | none =>
            have : st.1 ky.lin = [] := Classical.byContradiction fun hd => by
              have := hcov _ hd
              rw [hlk] at this
              cases this
            rw [this]
            exact ⟨World.ownsRow_nil _ _ _ _, fun g hg => by cases hg⟩
        obtain ⟨At, ct, hve, hct⟩ := own_len hfind.1
        have hlook := map_lookS hmat ky.lin Try.underlying108 (show (zeroValue 36).run Try.prog W6 = .ok (.slice none 0 0) W6 by kernel_rfl)
        rw [hve] at hlook hfind
        have HFD := Lib.hid hfind
        have HMT := Lib.hid (show (fun i => p.W0.heap.size ≤ i ∧ i < p.B1) tb ∧ MapAtS W6 tb ents ∧ _ ∧ _ ∧ _ from ⟨hF, hmat, hpw, hen, hcov⟩)
        have HTR := Lib.hid (HE.out.1.ok.tr ky.lin)
        have hTl : (st.1 ky.lin).length ≤ ct := hct
        obtain ⟨tl, htl⟩ : ∃ tl, st.1 ky.lin = tl := ⟨_, rfl⟩
        have HTLE := Lib.hid htl
        rw [htl] at HFD hlook HNG HTR hct
        clear hF hmat hpw hen hcov hfind hve htl hcl hTl
        go_upto_region 9 with (fail)
        clear hlook
        go_wp2_with (refine wpList_delS _ rfl _ _ rfl rfl rfl HMT.out.2.1 Try.underlying108 ?_)
        intro w9 hm9 hg9
        have hmbn : tb ≠ p.mb := by
          have h1 := HMT.out.1.2
          have h2 := S6.out.mB
          omega
        have S9 := Lib.hid (S6.out.del J6.out.rows.map hmbn HMT.out.1.1 hg9)
        have J9 := Lib.hid (J6.out.del (MapRowsS.del HMT.out ky.lin hm9 hg9) hg9)
        have O9 := Lib.hid (show w9.ownsRow 0 3 1 (.slice At tl.length ct) tl.length (tl.flatMap inC) from HFD.out.1.kept hg9 (.inr (by
          obtain ⟨es, c, h⟩ := J6.out.rows.map
          exact own_not_map HFD.out.1 h)))
        have HBL := Lib.hid (fun b (hb : (Value.slice At tl.length ct).ownBlock = some b) => show b < p.B1 ∧ b ≠ tb by
          refine ⟨(HFD.out.2 b hb).2, fun e => ?_⟩
          obtain ⟨es, c, h⟩ := J9.out.rows.map
          exact own_not_map O9.out h (e ▸ hb))
        have HO9 := Lib.hid (show VOk47 p.N (upT st.1 ky.lin, st.2) from HE.out.1.ok.up ky.lin)
        have T9 := Lib.hid (show p.J w9 (upT st.1 ky.lin) by rw [HJ0.out]; exact J9.out)
        have H1 : Hid (foLRel p n tl (upT st.1 ky.lin, st.2) (.int .i64 (0 : Nat)) w9) := Lib.hid ⟨0, Nat.zero_le _, rfl, by simpa using S9.out, by simpa using T9.out⟩
        have htll : tl.length ≤ ct := hct
        clear hm9 hg9 hmbn x1 x2 x3
        go_wp2_with fail
        go_loopw [51] (fun i wr => foLRel p n tl (upT st.1 ky.lin, st.2) i wr) (fun i _ => tl.length - (intOf i).toNat)
        case atStart => exact H1.out
        case round =>
          clear H1
          obtain ⟨m, hml, rfl, hS, hT⟩ := hrel
          have S := Lib.hid hS
          have T := Lib.hid hT
          by_cases hm : m < tl.length
          · have j4 : (0 : Int) ≤ (m : Int) := by omega
            have j5 : (m : Int) < (tl.length : Int) := by omega
            have j6 : decide ((m : Int) < (tl.length : Int)) = true := decide_eq_true j5
            have JW := Lib.hid (show JL p.W0 WB p.B1 tv tb wr _ by rw [← HJ0.out]; exact hT)
            have OW := Lib.hid (show RdIn wr (.slice At tl.length ct) tl from Rd.of_own (own_same O9.out fun b hb => (JW.out.same b (HBL.out b hb).1 (HBL.out b hb).2).trans (J9.out.same b (HBL.out b hb).1 (HBL.out b hb).2).symm))
            have hmx : tl.length ≤ maxLen := by
              obtain ⟨_, _, c', _, hc1, hc2, _⟩ := Rd.at_ OW.out (by omega)
              omega
            unfold maxLen at hmx
            obtain ⟨xb, xo, hbe, hxb, y0⟩ := RdIn_piece OW.out hm
            have HBE := Lib.hid hbe
            rw [hbe]
            have HTK := Lib.hid (show tl.take (m + 1) = tl.take m ++ [tl[m]] from List.take_succ_eq_append_getElem hm)
            have HR := HTR.out _ (List.getElem_mem hm)
            obtain ⟨x, hx⟩ : ∃ x, tl[m] = x := ⟨_, rfl⟩
            rw [hx] at y0 HTK HR
            obtain ⟨su, hsu⟩ : ∃ su, (tl.take m).foldl (visF p.succ p.own n) (upT st.1 ky.lin, st.2) = su := ⟨_, rfl⟩
            rw [hsu] at S T
            have HSU := Lib.hid hsu
            have HE2 := Lib.hid (FX.out (tl.take m) (upT st.1 ky.lin, st.2) HO9.out HNR.out (fun z hz => HTR.out z (List.mem_of_mem_take hz)))
            rw [hsu] at HE2
            have HN6 : Hid (p.N ≤ su.2.length + n) := Lib.hid (by
              have h2 := HO9.out.nd.length_le_of_subset (l₂ := su.2) (fun y hy => HE2.out.1.sub y hy)
              have h3 := HNR.out
              simp only at h2
              omega)
            clear hx hS hT hsu hbe JW
            go_wp2_with fail
            go_at_call 63
            refine (HV.out wr su.2 su.1 x S.out T.out HE2.out.1.ok HN6.out HR.1 HR.2).mono ?_
            rintro e w7 ⟨rfl, S7, T7⟩
            have HS7 := Lib.hid S7
            have HT7 := Lib.hid T7
            clear S7 T7 y0
            go_wp2_with fail
            go_roundw
            case rel => exact ⟨m + 1, by omega, by go_num, by rw [HTK.out, List.foldl_append, HSU.out]; exact HS7.out, by rw [HTK.out, List.foldl_append, HSU.out]; exact HT7.out⟩
            case measure => simp [intOf]; omega
          · have j6 : decide ((m : Int) < (tl.length : Int)) = false := decide_eq_false (by omega)
            have HTE := Lib.hid (show tl.take m = tl from List.take_of_length_le (by omega))
            rw [HTE.out] at S T
            clear hS hT
            go_wp2_with fail
            exact bodyPost_end (results_none (by kernel_rfl) _ _ _) rfl ⟨rfl, by rw [HNG.out]; exact S.out, by rw [HNG.out]; exact T.out⟩
end Go.Proofs.Ytmjkcanjfjfkfaa
