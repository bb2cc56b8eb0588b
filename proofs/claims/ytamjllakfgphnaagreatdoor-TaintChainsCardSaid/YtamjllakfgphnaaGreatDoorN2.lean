/- A region in a round, walked as outside a round, where none of its operations is a defer statement. -/
import Derived.Sort.BigQuietIn
import Derived.Test.YtamjllakfgphnaaGreatDoorN1
namespace Go.Proofs.YtamjllakfgphnaaGreatDoor
open Go.RowKit Go.Shelf
set_option linter.unusedSimpArgs false
set_option linter.unusedVariables false
def noDefer (o : Oper) : Bool := match o.op with | .defer _ => false | _ => true
theorem noDefer_ne {o : Oper} (h : noDefer o = true) (c : Call) : o.op ≠ .defer c := fun e => by unfold noDefer at h; rw [e] at h; cases h
theorem Oper_wpIn_round {F : Fence} {n : Nat} {P : Program} {o : Oper} {a : Go.Act} {w : World} {K K' : Go.Act → World → Prop} {Q : Exit → Go.Act → World → Prop} (l : Nat) (hro : F.round = none) (hd : noDefer o = true) (hK : ∀ a w, K a w → K' a w)
    (h : o.wpIn F n P a w K Q) : o.wpIn (F.inRound l) n P a w K' Q := by
  have h := Oper.wpIn_mono hK h
  unfold Oper.wpIn at h ⊢
  refine ⟨h.1, ?_⟩
  have h2 := h.2
  rw [Oper.semAt_eq _ _ _ (noDefer_ne hd)] at h2 ⊢
  exact h2
theorem wpAnyIn_round {F : Fence} {n : Nat} {P : Program} {md : Region.Mode} {ops : Array Oper} {Q : Exit → Go.Act → World → Prop} (l : Nat) (hro : F.round = none) (hd : ∀ (i : Nat) (o : Oper), ops[i]? = some o → noDefer o = true) :
    ∀ (fuel : Nat) (listed : Array Bool) (a : Go.Act) (w : World), wpAnyIn F n P md ops Q fuel listed a w → wpAnyIn (F.inRound l) n P md ops Q fuel listed a w
  | 0, listed, a, w, h => h
  | fuel + 1, listed, a, w, h => by
    refine ⟨h.1, fun i hi => ?_⟩
    have h2 := h.2 i hi
    unfold wpOpIn at h2 ⊢
    cases ho : ops[i]? with
    | none => rw [ho] at h2; exact wpAnyIn_round l hro hd fuel _ _ _ h2
    | some o =>
      rw [ho] at h2
      simp only at h2 ⊢
      split
      · rename_i hw
        rw [if_pos hw] at h2
        exact Oper_wpIn_round l hro (hd i o ho) (fun a w => wpAnyIn_round l hro hd fuel _ a w) h2
      · rename_i hw
        rw [if_neg hw] at h2
        exact ⟨h2.1, wpAnyIn_round l hro hd fuel _ _ _ h2.2⟩
theorem noDefer_all {ops : Array Oper} (h : ops.toList.all noDefer = true) (i : Nat) (o : Oper) (hi : ops[i]? = some o) : noDefer o = true := by
  rw [List.all_eq_true] at h
  exact h o (by rw [← Array.getElem?_toList] at hi; exact List.mem_of_getElem? hi)
/-- A region that draws its order. -/
theorem wpIn_region_any_round {F : Fence} {n : Nat} {P : Program} {ops : Array Oper} {Q : Exit → Go.Act → World → Prop} {id l : Nat} {a : Go.Act} {w : World} (hro : F.round = none) (hd : ops.toList.all noDefer = true) (hm : P.follows .mixedOrders = true)
    (h : wpAnyIn F n P .any ops Q ops.size (Array.replicate ops.size false) a { w with drawn := w.drawn + 1 }) : (Code.region id ops true).wpIn (F.inRound l) n P Q a w :=
  wpIn_region_any hm (wpAnyIn_round l hro (fun i o => noDefer_all hd i o) _ _ _ _ h)
/-- A region that only reads, walked once. -/
theorem wpIn_region_quiet_round {F : Fence} {n : Nat} {P : Program} {Q : Exit → Go.Act → World → Prop} {id l : Nat} {a : Go.Act} {w : World} {ls : List Oper} (hro : F.round = none) (hd : ls.all noDefer = true) (hm : P.follows .mixedOrders = true) (hB : Region.lexB .any ls.toArray = true)
    (h : wpQuietIn F n P ls.toArray (fun w' => ∃ n, w' = w.drewN n) (fun a' => ∀ w', (∃ n, w' = w.drewN n) → Q .normal a' w') ls a) : (Code.region id ls.toArray true).wpIn (F.inRound l) n P Q a w := by
  simp only [Region.lexB, Bool.and_eq_true] at hB
  refine wpIn_region_any_round hro (by simpa using hd) hm (wpAnyIn_of_quiet (C := fun w' => ∃ n, w' = w.drewN n) (Q := fun a' => ∀ w', (∃ n, w' = w.drewN n) → Q .normal a' w') hro (fun _ w' hw' h => h w' hw') _ _ _ _ ⟨1, rfl⟩ ?_)
  have := wpAnyQIn_lex (F := F) (n := n) (C := fun w' => ∃ n, w' = w.drewN n) (md := .any) hB.1 ls 0 (Array.replicate ls.toArray.size false) a (by simp) (by simpa using hB.2) h
  simpa using this
end Go.Proofs.YtamjllakfgphnaaGreatDoor
