/- Words for memory: an action's box and its two rows of changes. -/
import Derived.Test.YtamjllakfgphnaaGreatDoorM15
import Derived.Test.YtamjllakfgphnaaGreatDoorGR
import Derived.Test.YtamjllakfgphnaaGreatDoorQ1
namespace Go.Proofs.YtamjllakfgphnaaGreatDoor
open Go.RowKit
set_option linter.unusedSimpArgs false
set_option linter.unusedVariables false
abbrev OwnCh (w : World) (B : Nat) (v : Value) (l : List Ch) : Prop := OwnP 105 7 chC w B v l
theorem apart_at {w : World} {B s e n : Nat} {rv wv v' : Value} {xs : List Value} (hw : w.ownsRow B e s wv n xs) (ha : Apart rv wv) (hat : AtOr w rv v') : Apart v' wv := by
  intro g hv hwv
  rcases hat with e1 | e1
  · rw [e1] at hv; exact ha g hv hwv
  · rw [e1] at hv
    injection hv with hv
    subst hv
    obtain ⟨cur, hc⟩ := own_cells_of hw hwv
    rw [Array.getElem?_eq_none (Nat.le_refl _)] at hc
    cases hc
/-- An append to the one row of an action's box, and the store into the box. -/
theorem box_push {w0 w1 : World} {B xb : Nat} {cs : Array Value} {rv wv v' : Value} {rs ws : List Ch} {c : Ch} (hx : Blk w0 xb 77 cs) (hr : OwnCh w0 B rv rs) (hw : OwnCh w0 B wv ws) (ha : Apart rv wv)
    (hn : w1.ownsRow B 105 7 v' (rs.length + 1) (rs.flatMap chC ++ chC c)) (hg : w0.grownBy w1 rv.ownBlock) (hat : AtOr w0 rv v') (j : Nat) (hxB : xb < B) :
    Blk (w1.setCell ⟨xb, j, none⟩ v') xb 77 (cs.setIfInBounds j v') ∧ OwnCh (w1.setCell ⟨xb, j, none⟩ v') B v' (rs ++ [c]) ∧ OwnCh (w1.setCell ⟨xb, j, none⟩ v') B wv ws ∧ Apart v' wv ∧ Below xb w0 (w1.setCell ⟨xb, j, none⟩ v') ∧ Kept [105, 77] w0 (w1.setCell ⟨xb, j, none⟩ v') := by
  have hb1 : Blk w1 xb 77 cs := hx.grown hg (fun e => own_blk_ne hr hx (by decide) e.symm)
  have k : Kept [77] w1 (w1.setCell ⟨xb, j, none⟩ v') := Kept.of_blk _ hb1 (only_setCell (World.grownBy.refl w1 _) (.inl rfl) _) (by decide)
  exact ⟨hb1.set_ j v', own_keep (OwnP.snoc hn) k (by decide), own_keep (own_apart hw hg ha) k (by decide), apart_at hw ha hat, (below_own (Below.refl xb w0) hr hg (Nat.le_of_lt hxB) (Nat.le_of_lt hx.lt)).setCell (p := ⟨xb, j, none⟩) (Nat.le_refl _) _, (Kept.mono (Kept.of_own [105] hr hg (by decide)) (fun e he => by simp at he ⊢; exact he.1)).trans (Kept.mono k (fun e he => by simp at he ⊢; exact he.2))⟩
theorem rdsU_le (s : St) (a : A54) (m : Nat) : (rdsU s a m).length ≤ 4 := by
  unfold rdsU
  rw [List.length_map]
  refine Nat.le_trans (List.length_filter_le _ _) ?_
  rw [List.length_take]
  exact Nat.min_le_right _ _
theorem wrsU_le (a : A54) (m : Nat) : (wrsU a m).length ≤ 4 := by
  unfold wrsU
  rw [List.length_map]
  refine Nat.le_trans (List.length_filter_le _ _) ?_
  rw [List.length_take]
  exact Nat.min_le_right _ _
theorem bit_is (x : Int) (d : Nat) : (bits BinOp.and IntKind.u8 (x / 2 ^ d) 1 == 1) = hasB x d := by
  unfold hasB
  rw [Int.fdiv_eq_ediv_of_nonneg _ (Int.pow_nonneg (by decide))]
  rfl
end Go.Proofs.YtamjllakfgphnaaGreatDoor
