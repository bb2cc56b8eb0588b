/- Walks of layer 47: Sources and Uses of an index that is none. -/
import Derived.Test.YtmjkcanjfjfkfaaT14
namespace Go.Proofs.Ytmjkcanjfjfkfaa
open Go.RowKit
set_option linter.unusedSimpArgs false
set_option linter.unusedVariables false
attribute [local go_sem ↓] Go.wp_at_zero Go.wp_at_succ
set_option maxRecDepth 100000 in
theorem sources_err {w : World} {B g : Nat} {l : List Ac} {x : Int} (hg : GAt w B g l) (hx : inR l.length x = false) (hl : l.length ≤ 100) : Calls Try.prog 27 #[.pointer (some ⟨g, 0, none⟩), .int .i64 x] w fun e w' => e = .returned (.tuple #[.slice none 0 0, .int .i64 2]) ∧ Below w.heap.size w w' := by
  have ha := (Below.refl w.heap.size w).alloc (Nat.le_refl _) (.cells #[.int .i64 x] 3)
  have HA := Lib.hid ha
  have HC := Lib.hid (gcheck_is (hg.next ha) (rd_new1 w x) (by omega) (by simp))
  have HE := Lib.hid (show chk2 l.length [x] = 2 by unfold chk2; simp [hx])
  clear hg ha hx
  go_enter Try.func27, Try.ntmps27
  go_wp2_with fail
  go_at_call 37
  refine HC.out.mono ?_
  rintro e w1 ⟨rfl, hb1⟩
  rw [HE.out]
  have HB1 := Lib.hid (HA.out.trans (hb1.mono HA.out.size))
  clear hb1 HC HA HE
  go_wp2_with fail
  go_ret2
  exact ⟨rfl, HB1.out⟩
set_option maxRecDepth 100000 in
theorem uses_err {w : World} {B g : Nat} {l : List Ac} {x : Int} (hg : GAt w B g l) (hx : inR l.length x = false) (hl : l.length ≤ 100) : Calls Try.prog 28 #[.pointer (some ⟨g, 0, none⟩), .int .i64 x] w fun e w' => e = .returned (.tuple #[.slice none 0 0, .int .i64 2]) ∧ Below w.heap.size w w' := by
  have ha := (Below.refl w.heap.size w).alloc (Nat.le_refl _) (.cells #[.int .i64 x] 3)
  have HA := Lib.hid ha
  have HC := Lib.hid (gcheck_is (hg.next ha) (rd_new1 w x) (by omega) (by simp))
  have HE := Lib.hid (show chk2 l.length [x] = 2 by unfold chk2; simp [hx])
  clear hg ha hx
  go_enter Try.func28, Try.ntmps28
  go_wp2_with fail
  go_at_call 37
  refine HC.out.mono ?_
  rintro e w1 ⟨rfl, hb1⟩
  rw [HE.out]
  have HB1 := Lib.hid (HA.out.trans (hb1.mono HA.out.size))
  clear hb1 HC HA HE
  go_wp2_with fail
  go_ret2
  exact ⟨rfl, HB1.out⟩
end Go.Proofs.Ytmjkcanjfjfkfaa
