/- Walks of layer 47: a search from a list; causes and effects. -/
import Derived.Test.YtmjkcanjfjfkfaaT3
import Derived.Test.YtmjkcanjfjfkfaaB12
import Derived.Test.YtmjkcanjfjfkfaaE4
namespace Go.Proofs.Ytmjkcanjfjfkfaa
open Go.RowKit
set_option linter.unusedSimpArgs false
set_option linter.unusedVariables false
attribute [local go_sem ↓] Go.wp_at_zero Go.wp_at_succ
open Go.MapKept Go.ChangeMaps
theorem run_store_fn {P : Program} {w : World} {a : Addr} {m : Mode} (f : Fn) (x y : Array Value) : (store a (.func f x y) m).run P w = stored P w a (.func f x y) m := run_store P w a _ m rfl
attribute [local go_sem] run_store_fn
theorem Blk.newE (w : World) (t : TypeId) (cs : Array Value) (b : Nat) (h : w.heap.size = b) : Blk (w.alloc (.cells cs t)) b t cs := by subst h; exact Blk.new w t cs
theorem SetAt.newE (w : World) (b : Nat) (h : w.heap.size = b) : SetAt (w.alloc (.map #[] 0)) b [] := by subst h; exact MapAtI.new w
def reaRel (p : VP) (xs : List Int) (t0 : Bs → List Int) (i : Value) (wr : World) : Prop := ∃ m : Nat, m ≤ xs.length ∧ i = .int .i64 m ∧ VS p wr ((xs.take m).foldl (visF p.succ p.own p.N) (t0, [])).2 ∧ p.J wr ((xs.take m).foldl (visF p.succ p.own p.N) (t0, [])).1
theorem reach_start (W0 : World) (g gb N : Nat) (nx : Value) (succ : Int → List Int) (own : Int → Option Bs) (J : World → (Bs → List Int) → Prop) {w : World} (hfr : Below W0.heap.size W0 w) (hgb : Blk w gb 28 #[ptrV g]) :
    VS ⟨W0, w.heap.size, g, gb, w.heap.size + 1 + 1, w.heap.size + 1 + 1 + 1, w.heap.size, w.heap.size + 1 + 1 + 1 + 1, w.heap.size + 1, N, nx, succ, own, J⟩ (((((w.alloc (.cells #[nx] 101)).alloc (.map #[] 0)).alloc (.cells #[.map (some (w.heap.size + 1))] 120)).alloc (.cells #[.slice none 0 0] 36)).alloc (.cells #[(.func (.func 63) #[] #[ptrV (w.heap.size + 1 + 1), ptrV (w.heap.size + 1 + 1 + 1), ptrV w.heap.size, ptrV (w.heap.size + 1 + 1 + 1 + 1)])] 100)) [] ∧ Below w.heap.size w (((((w.alloc (.cells #[nx] 101)).alloc (.map #[] 0)).alloc (.cells #[.map (some (w.heap.size + 1))] 120)).alloc (.cells #[.slice none 0 0] 36)).alloc (.cells #[(.func (.func 63) #[] #[ptrV (w.heap.size + 1 + 1), ptrV (w.heap.size + 1 + 1 + 1), ptrV w.heap.size, ptrV (w.heap.size + 1 + 1 + 1 + 1)])] 100)) := by
  have b0 := ((((((Below.refl w.heap.size w).alloc (Nat.le_refl _) (.cells #[nx] 101)).alloc (by try simp only [World.size_alloc] <;> omega) (.map #[] 0)).alloc (by try simp only [World.size_alloc] <;> omega) (.cells #[.map (some (w.heap.size + 1))] 120)).alloc (by try simp only [World.size_alloc] <;> omega) (.cells #[.slice none 0 0] 36)).alloc (by try simp only [World.size_alloc] <;> omega) (.cells #[(.func (.func 63) #[] #[ptrV (w.heap.size + 1 + 1), ptrV (w.heap.size + 1 + 1 + 1), ptrV w.heap.size, ptrV (w.heap.size + 1 + 1 + 1 + 1)])] 100))
  have n0 := (Blk.new w 101 #[nx]).next (((((Below.refl (w.alloc (.cells #[nx] 101)).heap.size (w.alloc (.cells #[nx] 101))).alloc (Nat.le_refl _) (.map #[] 0)).alloc (by try simp only [World.size_alloc] <;> omega) (.cells #[.map (some (w.heap.size + 1))] 120)).alloc (by try simp only [World.size_alloc] <;> omega) (.cells #[.slice none 0 0] 36)).alloc (by try simp only [World.size_alloc] <;> omega) (.cells #[(.func (.func 63) #[] #[ptrV (w.heap.size + 1 + 1), ptrV (w.heap.size + 1 + 1 + 1), ptrV w.heap.size, ptrV (w.heap.size + 1 + 1 + 1 + 1)])] 100)) (Blk.new w _ _).lt
  have m0 := (SetAt.newE (w.alloc (.cells #[nx] 101)) (w.heap.size + 1) (by simp only [World.size_alloc])).next ((((Below.refl ((w.alloc (.cells #[nx] 101)).alloc (.map #[] 0)).heap.size ((w.alloc (.cells #[nx] 101)).alloc (.map #[] 0))).alloc (Nat.le_refl _) (.cells #[.map (some (w.heap.size + 1))] 120)).alloc (by try simp only [World.size_alloc] <;> omega) (.cells #[.slice none 0 0] 36)).alloc (by try simp only [World.size_alloc] <;> omega) (.cells #[(.func (.func 63) #[] #[ptrV (w.heap.size + 1 + 1), ptrV (w.heap.size + 1 + 1 + 1), ptrV w.heap.size, ptrV (w.heap.size + 1 + 1 + 1 + 1)])] 100))
  have s0 := (Blk.newE ((w.alloc (.cells #[nx] 101)).alloc (.map #[] 0)) 120 #[.map (some (w.heap.size + 1))] (w.heap.size + 1 + 1) (by simp only [World.size_alloc])).next (((Below.refl (((w.alloc (.cells #[nx] 101)).alloc (.map #[] 0)).alloc (.cells #[.map (some (w.heap.size + 1))] 120)).heap.size (((w.alloc (.cells #[nx] 101)).alloc (.map #[] 0)).alloc (.cells #[.map (some (w.heap.size + 1))] 120))).alloc (Nat.le_refl _) (.cells #[.slice none 0 0] 36)).alloc (by try simp only [World.size_alloc] <;> omega) (.cells #[(.func (.func 63) #[] #[ptrV (w.heap.size + 1 + 1), ptrV (w.heap.size + 1 + 1 + 1), ptrV w.heap.size, ptrV (w.heap.size + 1 + 1 + 1 + 1)])] 100)) (Blk.newE ((w.alloc (.cells #[nx] 101)).alloc (.map #[] 0)) _ _ (w.heap.size + 1 + 1) (by simp only [World.size_alloc])).lt
  have r0 := (Blk.newE (((w.alloc (.cells #[nx] 101)).alloc (.map #[] 0)).alloc (.cells #[.map (some (w.heap.size + 1))] 120)) 36 #[.slice none 0 0] (w.heap.size + 1 + 1 + 1) (by simp only [World.size_alloc])).next ((Below.refl ((((w.alloc (.cells #[nx] 101)).alloc (.map #[] 0)).alloc (.cells #[.map (some (w.heap.size + 1))] 120)).alloc (.cells #[.slice none 0 0] 36)).heap.size ((((w.alloc (.cells #[nx] 101)).alloc (.map #[] 0)).alloc (.cells #[.map (some (w.heap.size + 1))] 120)).alloc (.cells #[.slice none 0 0] 36))).alloc (Nat.le_refl _) (.cells #[(.func (.func 63) #[] #[ptrV (w.heap.size + 1 + 1), ptrV (w.heap.size + 1 + 1 + 1), ptrV w.heap.size, ptrV (w.heap.size + 1 + 1 + 1 + 1)])] 100)) (Blk.newE (((w.alloc (.cells #[nx] 101)).alloc (.map #[] 0)).alloc (.cells #[.map (some (w.heap.size + 1))] 120)) _ _ (w.heap.size + 1 + 1 + 1) (by simp only [World.size_alloc])).lt
  have v0 := Blk.newE ((((w.alloc (.cells #[nx] 101)).alloc (.map #[] 0)).alloc (.cells #[.map (some (w.heap.size + 1))] 120)).alloc (.cells #[.slice none 0 0] 36)) 100 #[(.func (.func 63) #[] #[ptrV (w.heap.size + 1 + 1), ptrV (w.heap.size + 1 + 1 + 1), ptrV w.heap.size, ptrV (w.heap.size + 1 + 1 + 1 + 1)])] (w.heap.size + 1 + 1 + 1 + 1) (by simp only [World.size_alloc])
  refine ⟨{
    fr := hfr.trans (b0.mono hfr.size)
    b0 := hfr.size
    b1 := b0.size
    gbx := hgb.next b0 hgb.lt
    seen := s0
    set := m0
    row := ⟨_, r0, World.ownsRow_nil _ _ _ _⟩
    nxt := n0
    vis := v0
    mB := by show w.heap.size ≤ w.heap.size + 1; omega
    rB := by show w.heap.size ≤ w.heap.size + 1 + 1 + 1; omega }, b0⟩
set_option maxRecDepth 100000 in
set_option maxHeartbeats 2000000 in
/-- A search from a list. -/
theorem reach_is (W0 : World) (g gb N : Nat) (fn : Fn) (ta ca : Array Value) (succ : Int → List Int) (own : Int → Option Bs) (J : World → (Bs → List Int) → Prop) {w : World} {v : Value} {xs : List Int} (hfr : Below W0.heap.size W0 w) (hgb : Blk w gb 28 #[ptrV g]) (hx : RdA W0 v xs) (hNl : N ≤ 100) (hxl : xs.length ≤ 1000000) (hxr : ∀ x ∈ xs, 0 ≤ x ∧ x < (N : Int)) (hrg : ∀ i : Int, 0 ≤ i ∧ i < (N : Int) → ∀ x ∈ succ i, 0 ≤ x ∧ x < (N : Int)) (t0 : Bs → List Int) (ht0 : ∀ k, ∀ x ∈ t0 k, 0 ≤ x ∧ x < (N : Int)) (hT : J w t0) (hJ : ∀ w1 w2 t, J w1 t → (∀ i, i < w.heap.size → i < w1.heap.size → w2.heap[i]? = w1.heap[i]?) → J w2 t) (hV : VisSaid ⟨W0, w.heap.size, g, gb, w.heap.size + 1 + 1, w.heap.size + 1 + 1 + 1, w.heap.size, w.heap.size + 1 + 1 + 1 + 1, w.heap.size + 1, N, (.func fn ta ca), succ, own, J⟩ N) :
    Calls Try.prog 43 #[v, .func fn ta ca] w fun e w' => ∃ v', e = .returned v' ∧ RdIn w' v' (srtI (xs.foldl (visF succ own N) (t0, [])).2) ∧ Below W0.heap.size W0 w' := by
  obtain ⟨A, c, rfl, hc⟩ := RdA.form hx
  have HX := Lib.hid hx
  obtain ⟨nx, hnx⟩ : ∃ nx, Value.func fn ta ca = nx := ⟨_, rfl⟩
  have hst := reach_start W0 g gb N nx succ own J hfr hgb
  rw [← hnx] at hst
  have HST := Lib.hid hst
  have HT : Hid (J (((((w.alloc (.cells #[(.func fn ta ca)] 101)).alloc (.map #[] 0)).alloc (.cells #[.map (some (w.heap.size + 1))] 120)).alloc (.cells #[.slice none 0 0] 36)).alloc (.cells #[(.func (.func 63) #[] #[ptrV (w.heap.size + 1 + 1), ptrV (w.heap.size + 1 + 1 + 1), ptrV w.heap.size, ptrV (w.heap.size + 1 + 1 + 1 + 1)])] 100)) t0) := Lib.hid (hJ w _ t0 hT fun j hj _ => hst.2.block j hj)
  have HV := Lib.hid hV
  have HXR := Lib.hid hxr
  have FX := Lib.hid (fun (l : List Int) (hl : ∀ x ∈ l, 0 ≤ x ∧ x < (N : Int)) => foldVis (visF_ext (own := own) hrg N) l (t0, []) ⟨List.nodup_nil, fun x hx => by simp at hx, ht0⟩ (by simp) hl)
  have hfs := hfr.size
  have hmm := @run_makeMap Try.prog
  clear hx hfr hgb hT hJ hV hrg ht0 hxr hst hnx
  go_enter Try.func43, Try.ntmps43
  go_upto_region 5 with (fail)
  have S0 := Lib.hid HST.out.1
  clear HST
  generalize (((((w.alloc (.cells #[(.func fn ta ca)] 101)).alloc (.map #[] 0)).alloc (.cells #[.map (some (w.heap.size + 1))] 120)).alloc (.cells #[.slice none 0 0] 36)).alloc (.cells #[(.func (.func 63) #[] #[ptrV (w.heap.size + 1 + 1), ptrV (w.heap.size + 1 + 1 + 1), ptrV w.heap.size, ptrV (w.heap.size + 1 + 1 + 1 + 1)])] 100)) = W5 at *
  obtain ⟨p, hp⟩ : ∃ p : VP, ⟨W0, w.heap.size, g, gb, w.heap.size + 1 + 1, w.heap.size + 1 + 1 + 1, w.heap.size, w.heap.size + 1 + 1 + 1 + 1, w.heap.size + 1, N, (.func fn ta ca), succ, own, J⟩ = p := ⟨_, rfl⟩
  have P1 := Lib.hid (show p.sb = w.heap.size + 1 + 1 by rw [← hp])
  have P2 := Lib.hid (show p.rb = w.heap.size + 1 + 1 + 1 by rw [← hp])
  have P3 := Lib.hid (show p.nb = w.heap.size by rw [← hp])
  have P4 := Lib.hid (show p.vb = w.heap.size + 1 + 1 + 1 + 1 by rw [← hp])
  have P5 := Lib.hid (show p.succ = succ by rw [← hp])
  have P6 := Lib.hid (show p.own = own by rw [← hp])
  have P7 := Lib.hid (show p.N = N by rw [← hp])
  have P8 := Lib.hid (show p.W0 = W0 by rw [← hp])
  have P9 := Lib.hid (show p.J = J by rw [← hp])
  have PA := Lib.hid (show p.B1 = w.heap.size by rw [← hp])
  rw [hp] at S0 HV
  clear hp
  rw [← P4.out, ← P2.out, ← P1.out, ← P3.out]
  rw [← P5.out, ← P6.out] at FX
  rw [← P8.out] at HX
  rw [← P9.out] at HT
  rw [← P7.out] at FX HXR HV hNl
  clear P1 P2 P3 P4 P9 hfs hmm
  have H0 : Hid (reaRel p xs t0 (.int .i64 (0 : Nat)) W5) := Lib.hid ⟨0, Nat.zero_le _, rfl, S0.out, HT.out⟩
  clear S0 HT
  go_wp2_with fail
  go_loopw [14] (fun i wr => reaRel p xs t0 i wr) (fun i _ => xs.length - (intOf i).toNat)
  case atStart => exact H0.out
  case round =>
    clear H0
    obtain ⟨m, hml, rfl, hS, hT⟩ := hrel
    obtain ⟨st, hst⟩ : ∃ st, (xs.take m).foldl (visF p.succ p.own p.N) (t0, []) = st := ⟨_, rfl⟩
    have HE := Lib.hid (FX.out (xs.take m) (fun z hz => HXR.out z (List.mem_of_mem_take hz)))
    rw [hst] at hS hT HE
    have HST := Lib.hid hst
    have S := Lib.hid hS
    have T := Lib.hid hT
    have d1 := hS.vis.cell 0
    obtain ⟨v, hv, hrow⟩ := hS.row
    have z0 := hv.cell 0
    have hb1 := hS.b1
    have hb0 := hS.b0
    obtain ⟨A2, c2, rfl, hc2⟩ := own_len hrow
    simp only [List.getElem?_toArray, List.getElem?_cons_zero] at d1 z0
    by_cases hm : m < xs.length
    · have j4 : (0 : Int) ≤ (m : Int) := by omega
      have j5 : (m : Int) < (xs.length : Int) := by omega
      have j6 : decide ((m : Int) < (xs.length : Int)) = true := decide_eq_true j5
      obtain ⟨xb, xo, hbe, hxb, y0⟩ := RdA.piece (RdA.next HX.out hS.fr) hm
      subst hbe
      have HTK := Lib.hid (show xs.take (m + 1) = xs.take m ++ [xs[m]] from List.take_succ_eq_append_getElem hm)
      have HR := HXR.out _ (List.getElem_mem hm)
      obtain ⟨x, hx⟩ : ∃ x, xs[m] = x := ⟨_, rfl⟩
      rw [hx] at y0 HTK HR
      unfold visV at d1
      clear hx hS hT hst hv hrow z0 hc2
      go_wp2_with fail
      go_at_call 63
      refine (HV.out wr st.2 st.1 x S.out T.out HE.out.1.ok (by omega) HR.1 HR.2).mono ?_
      rintro e w7 ⟨rfl, S7, T7⟩
      have HS7 := Lib.hid S7
      have HT7 := Lib.hid T7
      clear S7 T7 d1 y0
      go_wp2_with fail
      go_roundw
      case rel => exact ⟨m + 1, by omega, by go_num, by rw [HTK.out, List.foldl_append, HST.out]; exact HS7.out, by rw [HTK.out, List.foldl_append, HST.out]; exact HT7.out⟩
      case measure => simp [intOf]; omega
    · have j6 : decide ((m : Int) < (xs.length : Int)) = false := decide_eq_false (by omega)
      have HSN := Lib.hid (show xs.foldl (visF p.succ p.own p.N) (t0, []) = st by rw [← HST.out, List.take_of_length_le (show xs.length ≤ m by omega)])
      have hRl := full_range HE.out.1.ok.nd HE.out.1.ok.rg
      have HSO := Lib.hid (isort_is hrow (by omega) (by omega))
      have HV0 := Lib.hid hv
      have HOW := Lib.hid hrow
      clear hS hT hst hv hrow
      go_wp2_with fail
      go_at_call 64
      refine HSO.out.mono ?_
      rintro e w8 ⟨rfl, hown8, hg8, hb8⟩
      have z8 := (HV0.out.grown hg8 (own_apart_blk HOW.out HV0.out (by decide))).cell 0
      simp only [List.getElem?_toArray, List.getElem?_cons_zero] at z8
      have HOW8 := Lib.hid hown8
      have HB8 := Lib.hid (S.out.fr.trans (hb8.mono S.out.b0))
      clear hown8 hg8 hb8 z0 d1
      go_wp2_with fail
      go_ret
      exact ⟨_, rfl, by rw [← P5.out, ← P6.out, ← P7.out, HSN.out]; exact Rd.of_own HOW8.out, by rw [← P8.out]; exact HB8.out⟩
end Go.Proofs.Ytmjkcanjfjfkfaa
