/- Walks of layer 54: the objects of the runs, the processes, places. -/
import Derived.Test.YtamjllakfgphnaaGreatDoorGO
import Derived.Test.YtamjllakfgphnaaGreatDoorQ1
namespace Go.Proofs.YtamjllakfgphnaaGreatDoor
open Go.RowKit
set_option linter.unusedSimpArgs false
set_option linter.unusedVariables false
attribute [local go_sem ↓] Go.wp_at_zero Go.wp_at_succ
def ob54 : List Nm := [obA, obB, obT, obC]
def so54 : List Nm := [obT, obC, obA, obB]
theorem ob54_sorted : sortU cmpN ob54 = so54 := by decide +kernel
theorem ob54_own : ∀ a ∈ ob54, OwnE a := by
  intro a ha
  simp only [ob54, List.mem_cons, List.not_mem_nil, or_false] at ha
  rcases ha with rfl | rfl | rfl | rfl <;> rfl
def RowP (l : List Nm) (w : World) (e : Ending) (w' : World) : Prop := ∃ g c, e = .returned (.slice (some ⟨g, 0, none⟩) l.length c) ∧ w'.ownsRow w.heap.size 26 5 (.slice (some ⟨g, 0, none⟩) l.length c) l.length (l.flatMap nmC) ∧ Below w.heap.size w w'
set_option maxRecDepth 100000 in
theorem objects_is (w : World) : Calls Tryz.prog 30 #[] w (RowP ob54 w) := by
  go_enter Tryz.func30, Tryz.ntmps30
  go_wp2_with fail
  refine (box_is [97] _).mono ?_
  rintro e w1 ⟨rfl, h1⟩
  go_wp2_with fail
  refine (box_is [98] _).mono ?_
  rintro e w2 ⟨rfl, h2⟩
  go_wp2_with fail
  refine (terminal_is 1 _).mono ?_
  rintro e w3 ⟨rfl, h3⟩
  go_wp2_with fail
  refine (clock_is _).mono ?_
  rintro e w4 ⟨rfl, h4⟩
  have HB := Lib.hid (((h1.trans (h2.mono h1.size)).trans (h3.mono (Nat.le_trans h1.size h2.size))).trans (h4.mono (Nat.le_trans (Nat.le_trans h1.size h2.size) h3.size)))
  clear h1 h2 h3 h4
  unfold nmV nmA
  go_wp2_with fail
  go_ret
  exact ⟨w4.heap.size, 4, rfl, ⟨rfl, .inr ⟨_, 4, _, rfl, HB.out.size, Blk.new w4 26 (ob54.flatMap nmC).toArray, Nat.le_refl _, by unfold maxLen; omega, rfl, rfl⟩⟩, HB.out.alloc HB.out.size _⟩
set_option maxRecDepth 100000 in
theorem sorted54_is (w : World) : Calls Tryz.prog 38 #[] w (RowP so54 w) := by
  go_enter Tryz.func38, Tryz.ntmps38
  go_wp2_with (go_at_call 30; refine (objects_is _).mono ?_)
  rintro e w2 ⟨g, c, rfl, hown, hb⟩
  have HB := Lib.hid hb
  have HR := Lib.hid (show RdNm w2 (.slice (some ⟨g, 0, none⟩) ob54.length c) ob54 from Rd.of_own hown)
  clear hown hb
  go_wp2_with fail
  refine (sort_is HR.out (by decide) (by decide) ob54_own).mono ?_
  rintro e w3 ⟨v, rfl, hown, hb⟩
  rw [ob54_sorted] at hown
  have HB7 := Lib.hid (HB.out.trans (hb.mono HB.out.size))
  have hown2 := own_base hown HB.out.size
  clear hb hown
  obtain ⟨hl, ⟨_, h0⟩ | ⟨g, cap, cur, rfl, r⟩⟩ := hown2
  · simp [so54] at h0
  have HO : Hid (w3.ownsRow w.heap.size 26 5 (.slice (some ⟨g, 0, none⟩) so54.length cap) so54.length (so54.flatMap nmC)) := Lib.hid ⟨hl, .inr ⟨g, cap, cur, rfl, r⟩⟩
  clear hl r
  go_wp2
  go_ret
  exact ⟨g, cap, rfl, HO.out, HB7.out⟩
def names54 : Value := .agg #[.string (bs [50]), .string (bs [50, 46, 49]), .string (bs [51]), .string (bs [49])]
theorem names54_is (w : World) : Calls Tryz.prog 37 #[] w fun e w' => e = .returned names54 ∧ Below w.heap.size w w' := by
  go_enter Tryz.func37, Tryz.ntmps37
  go_wp2
  exact bodyPost_ret (v := names54) (by simp [results, Tryz.results37, go_sem, names54, bs]) rfl ⟨rfl, (Below.refl _ _).alloc (Nat.le_refl _) _⟩
end Go.Proofs.YtamjllakfgphnaaGreatDoor
