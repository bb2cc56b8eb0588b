/- Plain facts of layer 47: the definition's reach is what the search finds. -/
import Derived.Test.YtmjkcanjfjfkfaaP8
import Derived.Test.YtmjkcanjfjfkfaaT5
import Derived.Test.YtmjkcanjfjfkfaaT7
namespace Go.Proofs.Ytmjkcanjfjfkfaa
set_option linter.unusedSimpArgs false
set_option linter.unusedVariables false
theorem rch_sea {E : List Lk} {ks : List Ky} {fwd ow : Bool} {L : Nat} {m0 : List Bool} {out xs : List Int} {succ : Int → List Int} {own : Int → Option Bs} {t0 : Bs → List Int} (h : RchP E ks fwd ow L m0 out) (hm : MkOf m0 xs ks.length) (hx : ∀ x ∈ xs, 0 ≤ x ∧ x < (ks.length : Int))
    (hr : ∀ i : Int, 0 ≤ i ∧ i < (ks.length : Int) → ∀ x ∈ succ i, 0 ≤ x ∧ x < (ks.length : Int)) (ht : ∀ k, ∀ x ∈ t0 k, 0 ≤ x ∧ x < (ks.length : Int)) (hE : ∀ x ∈ E, x.frm < (ks.length : Int) ∧ 0 ≤ x.to_ ∧ x.to_ < (ks.length : Int))
    (hs : ∀ x y : Int, 0 ≤ x → x < (ks.length : Int) → (y ∈ succ x ↔ ∃ z ∈ E, 0 ≤ z.frm ∧ srcF fwd z = x ∧ dstF fwd z = y))
    (h1 : ∀ (x : Int) k y, 0 ≤ x → x < (ks.length : Int) → own x = some k → y ∈ t0 k → ow = true ∧ 0 ≤ y ∧ y < (L : Int) ∧ (prK ks x).isSome = true ∧ prK ks x = prK ks y)
    (h2 : ow = true → ∀ i k : Nat, i < ks.length → k < L → (prK ks i).isSome = true → prK ks i = prK ks k → ∃ q, own (i : Int) = some q ∧ (k : Int) ∈ t0 q) : out = seaS succ own ks.length t0 xs := by
  obtain ⟨m, hml, rfl, hsub, hcl, hmin⟩ := h
  obtain ⟨v1, v2, v3⟩ := vis_lst (own := own) hr ht hx
  have hlst : Lst succ own t0 xs (fun x => 0 ≤ x ∧ x < (ks.length : Int) ∧ mkd m x = true) := {
    has := fun x hxm => ⟨(hx x hxm).1, (hx x hxm).2, hsub _ ((hm.2 x (hx x hxm).1 (hx x hxm).2).2 hxm)⟩
    clo := fun x ⟨x0, x1, xm⟩ y hy => by
      have hyr := hr x ⟨x0, x1⟩ y hy
      obtain ⟨z, hz, z0, zx, zy⟩ := (hs x y x0 x1).1 hy
      refine ⟨hyr.1, hyr.2, ?_⟩
      rw [← zy]
      exact hcl.lk z hz z0 (by rw [zx]; exact xm)
    cow := fun x k ⟨x0, x1, xm⟩ hk y hy => by
      have hyr := ht k y hy
      obtain ⟨g1, g2, g3, g4, g5⟩ := h1 x k y x0 x1 hk hy
      refine ⟨hyr.1, hyr.2, ?_⟩
      have e1 : ((x.toNat : Nat) : Int) = x := Int.toNat_of_nonneg x0
      have e2 : ((y.toNat : Nat) : Int) = y := Int.toNat_of_nonneg hyr.1
      have := hcl.ow g1 x.toNat y.toNat (by omega) (by omega) (by rw [e1]; exact g4) (by rw [e1, e2]; exact g5) (by rw [e1]; exact xm)
      rwa [e2] at this
    min := fun P p1 p2 p3 x ⟨x0, x1, xm⟩ => by
      refine hmin (fun j => 0 ≤ j ∧ j < (ks.length : Int) ∧ P j) ⟨fun z hz z0 => ?_, fun hw i k hi hk ho he hp => ?_⟩ (fun j j0 jm => ?_) x x0 xm |>.2.2
      · rintro ⟨a0, a1, ap⟩
        have hy := (hs _ _ a0 a1).2 ⟨z, hz, z0, rfl, rfl⟩
        have := hr _ ⟨a0, a1⟩ _ hy
        exact ⟨this.1, this.2, p2 _ ap _ hy⟩
      · obtain ⟨q, hq, hkq⟩ := h2 hw i k hi hk ho he
        have := ht q _ hkq
        exact ⟨this.1, this.2, p3 _ q hp.2.2 hq _ hkq⟩
      · have hjl : j < (ks.length : Int) := by
          by_cases hj : j < (ks.length : Int)
          · exact hj
          · unfold mkd at jm
            rw [List.getD_eq_getElem?_getD, List.getElem?_eq_none (by have := hm.1; omega)] at jm
            cases jm
        exact ⟨j0, hjl, p1 j ((hm.2 j j0 hjl).1 jm)⟩ }
  unfold seaS
  refine asc_ext (outS_asc _ _) (srtI_asc v2) fun x => ?_
  rw [srtI_mem, outS_mem]
  exact hlst.same v1 x
theorem lnk_rg {l : List Ac} : ∀ x ∈ (lnkD l).flatten, x.frm < ((l.map Ac.key).length : Int) ∧ 0 ≤ x.to_ ∧ x.to_ < ((l.map Ac.key).length : Int) := fun x hx => by
  rw [List.length_map]
  exact ⟨(lnkD_frm hx).2, lnkD_to hx⟩
theorem stpC_mem {l : List Ac} {x y : Int} (h0 : 0 ≤ x) (h1 : x < (l.length : Int)) : y ∈ stpC l x ↔ ∃ z ∈ (lnkD l).flatten, 0 ≤ z.frm ∧ z.to_ = x ∧ z.frm = y := by
  have hlen : x.toNat < (lnkD l).length := by rw [lnkD_len]; omega
  unfold stpC sucC srcs
  rw [List.getD_eq_getElem?_getD, List.getElem?_eq_getElem hlen, Option.getD_some, ← lnkD_row l x.toNat hlen, Int.toNat_of_nonneg h0, List.mem_map]
  constructor
  · rintro ⟨z, hz, rfl⟩
    obtain ⟨a, b⟩ := List.mem_filter.1 hz
    obtain ⟨c, d⟩ := List.mem_filter.1 a
    exact ⟨z, c, of_decide_eq_true b, of_decide_eq_true d, rfl⟩
  · rintro ⟨z, a, b, c, rfl⟩
    exact ⟨z, List.mem_filter.2 ⟨List.mem_filter.2 ⟨a, decide_eq_true c⟩, decide_eq_true b⟩, rfl⟩
theorem stpE_mem {l : List Ac} {x y : Int} (h0 : 0 ≤ x) (h1 : x < (l.length : Int)) : y ∈ stpE l x ↔ ∃ z ∈ (lnkD l).flatten, 0 ≤ z.frm ∧ z.frm = x ∧ z.to_ = y := by
  have hlen : x.toNat < (UT l.length (lnkD l).flatten).length := by rw [UT_len]; omega
  unfold stpE sucE
  rw [List.getD_eq_getElem?_getD, List.getElem?_eq_getElem hlen, Option.getD_some, UT_get, List.mem_map, Int.toNat_of_nonneg h0]
  constructor
  · rintro ⟨z, hz, rfl⟩
    obtain ⟨a, b⟩ := List.mem_filter.1 hz
    have := of_decide_eq_true b
    exact ⟨z, a, by omega, this, rfl⟩
  · rintro ⟨z, a, b, c, rfl⟩
    exact ⟨z, List.mem_filter.2 ⟨a, decide_eq_true c⟩, rfl⟩
/-- The definition's reach backward is what Causes finds. -/
theorem rch_causes {l : List Ac} {L : Nat} {m0 : List Bool} {out xs : List Int} (h : RchP (lnkD l).flatten (l.map Ac.key) false false L m0 out) (hm : MkOf m0 xs l.length) (hx : ∀ x ∈ xs, 0 ≤ x ∧ x < (l.length : Int)) : out = seaS (stpC l) (fun _ => none) l.length (fun _ => []) xs := by
  have e : (l.map Ac.key).length = l.length := List.length_map ..
  have := rch_sea (succ := stpC l) (own := fun _ => none) (t0 := fun _ => []) h (by rw [e]; exact hm) (by rw [e]; exact hx) (by rw [e]; exact stpC_rg l) (fun _ x hx => by cases hx) lnk_rg (fun x y h0 h1 => by rw [e] at h1; exact stpC_mem h0 h1) (fun x k y _ _ hk _ => by cases hk) (fun h => by cases h)
  rwa [e] at this
/-- The definition's reach forward is what Effects finds. -/
theorem rch_effects {l : List Ac} {L : Nat} {m0 : List Bool} {out xs : List Int} (h : RchP (lnkD l).flatten (l.map Ac.key) true false L m0 out) (hm : MkOf m0 xs l.length) (hx : ∀ x ∈ xs, 0 ≤ x ∧ x < (l.length : Int)) : out = seaS (stpE l) (fun _ => none) l.length (fun _ => []) xs := by
  have e : (l.map Ac.key).length = l.length := List.length_map ..
  have := rch_sea (succ := stpE l) (own := fun _ => none) (t0 := fun _ => []) h (by rw [e]; exact hm) (by rw [e]; exact hx) (by rw [e]; exact stpE_rg l) (fun _ x hx => by cases hx) lnk_rg (fun x y h0 h1 => by rw [e] at h1; exact stpE_mem h0 h1) (fun x k y _ _ hk _ => by cases hk) (fun h => by cases h)
  rwa [e] at this
theorem prK_take {ks : List Ky} {L : Nat} {y : Int} (h0 : 0 ≤ y) (h : y < (L : Int)) : prK (ks.take L) y = prK ks y := by
  unfold prK
  rw [List.getElem?_take, if_pos (by omega)]
/-- The definition's reach with the actions of the same processes is what Closed finds. -/
theorem rch_closed {l : List Ac} {L : Nat} (hL : L ≤ l.length) {m0 : List Bool} {out xs : List Int} (h : RchP (lnkD l).flatten (l.map Ac.key) false true L m0 out) (hm : MkOf m0 xs l.length) (hx : ∀ x ∈ xs, 0 ≤ x ∧ x < (l.length : Int)) : out = seaS (stpC l) (prK (l.map Ac.key)) l.length (trn ((l.map Ac.key).take L)) xs := by
  have e : (l.map Ac.key).length = l.length := List.length_map ..
  have ht : ∀ k, ∀ x ∈ trn ((l.map Ac.key).take L) k, 0 ≤ x ∧ x < (l.length : Int) := fun k x hx => by
    have := trn_mem.1 hx
    rw [List.length_take, e] at this
    omega
  have := rch_sea (succ := stpC l) (own := prK (l.map Ac.key)) (t0 := trn ((l.map Ac.key).take L)) h (by rw [e]; exact hm) (by rw [e]; exact hx) (by rw [e]; exact stpC_rg l) (by rw [e]; exact ht) lnk_rg (fun x y h0 h1 => by rw [e] at h1; exact stpC_mem h0 h1)
    (fun x k y x0 x1 hk hy => by
      obtain ⟨a, b, c⟩ := trn_mem.1 hy
      rw [List.length_take, e] at b
      rw [prK_take a (by omega)] at c
      exact ⟨rfl, a, by omega, by rw [hk]; rfl, by rw [hk, c]⟩)
    (fun _ i k hi hk ho he => by
      obtain ⟨q, hq⟩ := Option.isSome_iff_exists.1 ho
      refine ⟨q, hq, trn_mem.2 ⟨by omega, by rw [List.length_take]; omega, ?_⟩⟩
      rw [prK_take (by omega) (by omega), ← he, hq])
  rwa [e] at this
end Go.Proofs.Ytmjkcanjfjfkfaa
