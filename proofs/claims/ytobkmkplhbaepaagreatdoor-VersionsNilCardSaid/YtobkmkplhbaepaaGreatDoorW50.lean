/- Walks of layer 46: nil Versions. -/
import Derived.Test.YtobkmkplhbaepaaGreatDoorGK
namespace Go.Proofs.YtobkmkplhbaepaaGreatDoor
open Go.RowKit
set_option linter.unusedSimpArgs false
set_option linter.unusedVariables false
attribute [local go_sem ↓] Go.wp_at_zero Go.wp_at_succ
set_option maxRecDepth 100000 in
theorem len_nil {w : World}  : Calls Tryz.prog 26 #[.pointer none] w fun e w' => e = .returned (.int .i64 0) ∧ Below w.heap.size w w' := by
  go_enter Tryz.func26, Tryz.ntmps26
  go_wp2_with (go_at_call 48; refine none_nil.mono ?_; rintro e w' ⟨rfl, rfl⟩)
  go_ret
  exact ⟨rfl, Below.refl _ _⟩
set_option maxRecDepth 100000 in
theorem state_nil {w : World} (t : Int) : Calls Tryz.prog 33 #[.pointer none, .int .i64 t] w fun e w' => e = .returned (.tuple #[.pointer none, .int .i64 1]) ∧ Below w.heap.size w w' := by
  go_enter Tryz.func33, Tryz.ntmps33
  go_wp2_with (go_at_call 48; refine none_nil.mono ?_; rintro e w' ⟨rfl, rfl⟩)
  go_ret2
  exact ⟨rfl, Below.refl _ _⟩
set_option maxRecDepth 100000 in
theorem consistent_nil {w : World}  : Calls Tryz.prog 36 #[.pointer none] w fun e w' => e = .returned (.int .i64 0) ∧ Below w.heap.size w w' := by
  go_enter Tryz.func36, Tryz.ntmps36
  go_wp2_with (go_at_call 48; refine none_nil.mono ?_; rintro e w' ⟨rfl, rfl⟩)
  go_ret
  exact ⟨rfl, Below.refl _ _⟩
set_option maxRecDepth 100000 in
theorem names_nil {w : World}  : Calls Tryz.prog 20 #[.pointer none] w fun e w' => e = .returned (.slice none 0 0) ∧ Below w.heap.size w w' := by
  go_enter Tryz.func20, Tryz.ntmps20
  go_wp2_with (go_at_call 48; refine none_nil.mono ?_; rintro e w' ⟨rfl, rfl⟩)
  go_ret
  exact ⟨rfl, Below.refl _ _⟩
set_option maxRecDepth 100000 in
theorem clone_nil {w : World}  : Calls Tryz.prog 23 #[.pointer none] w fun e w' => e = .returned (.pointer none) ∧ Below w.heap.size w w' := by
  go_enter Tryz.func23, Tryz.ntmps23
  go_wp2_with (go_at_call 48; refine none_nil.mono ?_; rintro e w' ⟨rfl, rfl⟩)
  go_ret
  exact ⟨rfl, Below.refl _ _⟩
set_option maxRecDepth 100000 in
theorem of_nil {w : World} (n : Nm) : Calls Tryz.prog 16 #[.pointer none, nmV n] w fun e w' => e = .returned (.slice none 0 0) ∧ Below w.heap.size w w' := by
  simp only [nmV, nmA]
  go_enter Tryz.func16, Tryz.ntmps16
  go_wp2_with (go_at_call 48; refine none_nil.mono ?_; rintro e w' ⟨rfl, rfl⟩)
  go_ret
  exact ⟨rfl, (Below.refl _ _).alloc (Nat.le_refl _) _⟩
set_option maxRecDepth 100000 in
theorem readers_nil {w : World} (n : Nm) (t : Int) : Calls Tryz.prog 34 #[.pointer none, nmV n, .int .i64 t] w fun e w' => e = .returned (.tuple #[.slice none 0 0, .int .i64 1]) ∧ Below w.heap.size w w' := by
  simp only [nmV, nmA]
  go_enter Tryz.func34, Tryz.ntmps34
  go_wp2_with (go_at_call 48; refine none_nil.mono ?_; rintro e w' ⟨rfl, rfl⟩)
  go_ret2
  exact ⟨rfl, (Below.refl _ _).alloc (Nat.le_refl _) _⟩
set_option maxRecDepth 100000 in
theorem find_nil {w : World} (k0 k1 k2 : Int) (k3 : ByteArray) : Calls Tryz.prog 31 #[.pointer none, .agg #[.int .i64 k0, .int .i64 k1, .int .i64 k2, .string k3]] w fun e w' => e = .returned (.tuple #[.int .i64 0, .bool false]) ∧ Below w.heap.size w w' := by
  go_enter Tryz.func31, Tryz.ntmps31
  go_wp2_with (go_at_call 48; refine none_nil.mono ?_; rintro e w' ⟨rfl, rfl⟩)
  go_ret2
  exact ⟨rfl, (Below.refl _ _).alloc (Nat.le_refl _) _⟩
set_option maxRecDepth 100000 in
theorem append_nil {w : World} (k0 k1 k2 : Int) (k3 : ByteArray) (u1 u2 : Value) : Calls Tryz.prog 24 #[.pointer none, .agg #[.int .i64 k0, .int .i64 k1, .int .i64 k2, .string k3, u1, u2]] w fun e w' => e = .returned (.int .i64 1) ∧ Below w.heap.size w w' := by
  go_enter Tryz.func24, Tryz.ntmps24
  go_wp2_with (go_at_call 48; refine none_nil.mono ?_; rintro e w' ⟨rfl, rfl⟩)
  go_ret
  exact ⟨rfl, (Below.refl _ _).alloc (Nat.le_refl _) _⟩
set_option maxRecDepth 100000 in
theorem changed_nil {w : World} (a b : Int) : Calls Tryz.prog 22 #[.pointer none, .int .i64 a, .int .i64 b] w fun e w' => e = .returned (.tuple #[.slice none 0 0, .int .i64 1]) ∧ Below w.heap.size w w' := by
  go_enter Tryz.func22, Tryz.ntmps22
  go_wp2_with (go_at_call 33; refine (state_nil a).mono ?_; rintro e w' ⟨rfl, hb⟩; have HB := Lib.hid hb; clear hb)
  go_ret2
  exact ⟨rfl, HB.out⟩
set_option maxRecDepth 100000 in
theorem common_nil1 {w : World} (q : Option Addr) : Calls Tryz.prog 29 #[.pointer none, .pointer q] w fun e w' => e = .returned (.int .i64 0) ∧ Below w.heap.size w w' := by
  go_enter Tryz.func29, Tryz.ntmps29
  go_wp2_with (go_at_call 48; refine none_nil.mono ?_; rintro e w' ⟨rfl, rfl⟩)
  go_ret
  exact ⟨rfl, Below.refl _ _⟩
set_option maxRecDepth 100000 in
set_option maxHeartbeats 1000000 in
theorem common_nil2 {w : World} {g : Nat} {pb : Addr} (h0 : w.cell? ⟨g, 0, none⟩ = some (.pointer (some pb))) : Calls Tryz.prog 29 #[.pointer (some ⟨g, 0, none⟩), .pointer none] w fun e w' => e = .returned (.int .i64 0) ∧ Below w.heap.size w w' := by
  go_enter Tryz.func29, Tryz.ntmps29
  have ONCE : True := trivial
  go_wp2_with (first | (clear ONCE; go_at_call 48; refine (none_is h0).mono ?_; rintro e w' ⟨rfl, rfl⟩) | (go_at_call 48; refine none_nil.mono ?_; rintro e w' ⟨rfl, rfl⟩))
  go_ret
  exact ⟨rfl, Below.refl _ _⟩
theorem equal_nn {w : World}  : Calls Tryz.prog 25 #[.pointer none, .pointer none] w fun e w' => e = .returned (.bool true) ∧ Below w.heap.size w w' := by
  go_enter Tryz.func25, Tryz.ntmps25
  go_wp2
  go_ret
  exact ⟨rfl, Below.refl _ _⟩
theorem equal_ns {w : World} (q : Addr) : Calls Tryz.prog 25 #[.pointer none, .pointer (some q)] w fun e w' => e = .returned (.bool false) ∧ Below w.heap.size w w' := by
  go_enter Tryz.func25, Tryz.ntmps25
  go_wp2
  go_ret
  exact ⟨rfl, Below.refl _ _⟩
theorem equal_sn {w : World} (q : Addr) : Calls Tryz.prog 25 #[.pointer (some q), .pointer none] w fun e w' => e = .returned (.bool false) ∧ Below w.heap.size w w' := by
  go_enter Tryz.func25, Tryz.ntmps25
  go_wp2
  go_ret
  exact ⟨rfl, Below.refl _ _⟩
set_option maxRecDepth 100000 in
set_option maxHeartbeats 1000000 in
theorem before_nil {w : World} (n : Nm) (t : Int) : Calls Tryz.prog 17 #[.pointer none, nmV n, .int .i64 t] w fun e w' => e = .returned (.tuple #[.agg #[.int .i64 0, .string ⟨#[]⟩, .bool false], .int .i64 1]) ∧ Below w.heap.size w w' := by
  have rb := Blk.new (w.alloc (.cells #[.int .i64 n.kind, .string (bs n.owner), .int .i64 n.num, .int .i64 n.idx, .string (bs n.text)] 40)) 44 #[.int .i64 0, .string ⟨#[]⟩, .bool false]
  rw [World.size_alloc] at rb
  have q0 := rb.cell 0
  have f0 := rb.frozen 0
  have q1 := rb.cell 1
  have f1 := rb.frozen 1
  have q2 := rb.cell 2
  have f2 := rb.frozen 2
  simp only [List.getElem?_toArray, List.getElem?_cons_zero, List.getElem?_cons_succ] at q0 q1 q2
  clear rb
  simp only [nmV, nmA]
  go_enter Tryz.func17, Tryz.ntmps17
  go_wp2_with (go_at_call 48; refine none_nil.mono ?_; rintro e w' ⟨rfl, rfl⟩)
  exact bodyPost_ret (v := .tuple #[.agg #[.int .i64 0, .string ⟨#[]⟩, .bool false], .int .i64 1]) (by simp [results, Tryz.results17, go_sem, q0, q1, q2]) rfl ⟨rfl, (((Below.refl w.heap.size w).alloc (Nat.le_refl _) (.cells #[.int .i64 n.kind, .string (bs n.owner), .int .i64 n.num, .int .i64 n.idx, .string (bs n.text)] 40)).alloc (by simp) (.cells #[.int .i64 0, .string ⟨#[]⟩, .bool false] 44))⟩
set_option maxRecDepth 100000 in
set_option maxHeartbeats 1000000 in
theorem action_nil {w : World} (t : Int) : Calls Tryz.prog 30 #[.pointer none, .int .i64 t] w fun e w' => e = .returned (.tuple #[.agg #[.int .i64 0, .int .i64 0, .int .i64 0, .string ⟨#[]⟩, .slice none 0 0, .slice none 0 0], .int .i64 1]) ∧ Below w.heap.size w w' := by
  have rb := Blk.new w 61 #[.int .i64 0, .int .i64 0, .int .i64 0, .string ⟨#[]⟩, .slice none 0 0, .slice none 0 0]
  skip
  have q0 := rb.cell 0
  have f0 := rb.frozen 0
  have q1 := rb.cell 1
  have f1 := rb.frozen 1
  have q2 := rb.cell 2
  have f2 := rb.frozen 2
  have q3 := rb.cell 3
  have f3 := rb.frozen 3
  have q4 := rb.cell 4
  have f4 := rb.frozen 4
  have q5 := rb.cell 5
  have f5 := rb.frozen 5
  simp only [List.getElem?_toArray, List.getElem?_cons_zero, List.getElem?_cons_succ] at q0 q1 q2 q3 q4 q5
  clear rb
  go_enter Tryz.func30, Tryz.ntmps30
  go_wp2_with (go_at_call 48; refine none_nil.mono ?_; rintro e w' ⟨rfl, rfl⟩)
  exact bodyPost_ret (v := .tuple #[.agg #[.int .i64 0, .int .i64 0, .int .i64 0, .string ⟨#[]⟩, .slice none 0 0, .slice none 0 0], .int .i64 1]) (by simp [results, Tryz.results30, go_sem, q0, q1, q2, q3, q4, q5]) rfl ⟨rfl, ((Below.refl w.heap.size w).alloc (Nat.le_refl _) (.cells #[.int .i64 0, .int .i64 0, .int .i64 0, .string ⟨#[]⟩, .slice none 0 0, .slice none 0 0] 61))⟩
end Go.Proofs.YtobkmkplhbaepaaGreatDoor
