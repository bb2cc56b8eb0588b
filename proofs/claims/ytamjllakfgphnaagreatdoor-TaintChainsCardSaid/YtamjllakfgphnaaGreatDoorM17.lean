/- Words for memory: versions and graphs behind a store to a world's block. -/
import Derived.Test.YtamjllakfgphnaaGreatDoorM16
import Derived.Test.YtamjllakfgphnaaGreatDoorW83
namespace Go.Proofs.YtamjllakfgphnaaGreatDoor
open Go.RowKit
set_option linter.unusedSimpArgs false
set_option linter.unusedVariables false
abbrev LW : List TypeId := [49]
theorem VAt.keepB {w w' : World} {F : Nat → Prop} {g : Nat} {s0 : St} {l : List Ac} (h : VAt w F g s0 l) (k : Kept LW w w') (m : KpM w w') : VAt w' F g s0 l := by
  obtain ⟨pb, va, vk, pl, bw, br, h⟩ := h
  exact ⟨pb, va, vk, pl, bw, br, ⟨h.blk.keep k rfl, h.fg, h.base.keep k rfl rfl, h.last.keep k rfl rfl, OwnAc.keep h.act k rfl rfl, h.actF, OwnKp.keep h.kp k rfl rfl rfl, h.kpF, h.wr.kept k m rfl (fun _ h => h), h.rd.kept k m rfl (fun _ h => h), h.ne⟩⟩
theorem GAt.keepB {w w' : World} {B g : Nat} {l : List Ac} (h : GAt w B g l) (k : Kept LW w w') (m : KpM w w') : GAt w' B g l := by
  obtain ⟨vk, vl, vu, bw, vL, vU, h⟩ := h
  exact ⟨vk, vl, vu, bw, vL, vU, ⟨h.blk.keep k rfl, h.gB, own_keep h.ky k rfl, h.lu.keep k rfl rfl, h.wr.kept k m rfl (fun _ h => h)⟩⟩
/-- A store to a world's block. -/
theorem world_set {w : World} {b : Nat} {cs : Array Value} (h : Blk w b 49 cs) (i : Nat) (v : Value) : Kept LW w (w.setCell ⟨b, i, none⟩ v) ∧ KpM w (w.setCell ⟨b, i, none⟩ v) := by
  have hg : w.grownBy (w.setCell ⟨b, i, none⟩ v) (some b) := only_setCell (only_of_below (Below.refl _ _) _) (.inl rfl) v
  exact ⟨Kept.of_blk _ h hg rfl, KpM.of_blk h hg⟩
end Go.Proofs.YtamjllakfgphnaaGreatDoor
