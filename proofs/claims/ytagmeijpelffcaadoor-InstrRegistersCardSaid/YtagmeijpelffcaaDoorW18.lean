/- Walks of layer 16: Reads and Writes of the program. -/
import Derived.Test.YtagmeijpelffcaaDoorW17
namespace Go.Proofs.YtagmeijpelffcaaDoor
open Go.RowKit Go.Sort
set_option linter.unusedSimpArgs false
set_option linter.unusedVariables false
/-- What the walk of Reads looks at: the boxed instruction, the row of the table. -/
def Env (w : World) (bx rw : Nat) (a b c f : Int) (u : Bool) : Prop :=
  bx < w.heap.size ∧ rw < w.heap.size ∧ w.cell? ⟨bx, 1, none⟩ = some (.int .i64 a) ∧ w.cell? ⟨bx, 2, none⟩ = some (.int .i64 b) ∧ w.cell? ⟨bx, 3, none⟩ = some (.int .i64 c) ∧ w.cell? ⟨rw, 1, none⟩ = some (.int .i64 f) ∧ w.cell? ⟨rw, 4, none⟩ = some (.bool u)
theorem Env.grow {w w' : World} {B bx rw : Nat} {a b c f : Int} {u : Bool} (h : Env w bx rw a b c f u) (hb : Below B w w') (h1 : bx < B) (h2 : rw < B) : Env w' bx rw a b c f u := by
  have e : ∀ g o, g < B → w'.cell? ⟨g, o, none⟩ = w.cell? ⟨g, o, none⟩ := fun g o hg => hb.cell (p := ⟨g, o, none⟩) hg
  obtain ⟨h3, h4, h5, h6, h7, h8, h9⟩ := h
  exact ⟨Nat.lt_of_lt_of_le h3 hb.size, Nat.lt_of_lt_of_le h4 hb.size, by rw [e _ _ h1]; exact h5, by rw [e _ _ h1]; exact h6, by rw [e _ _ h1]; exact h7, by rw [e _ _ h2]; exact h8, by rw [e _ _ h2]; exact h9⟩
theorem env_new (w1 : World) (bx : Nat) (op a b c f lo hi : Int) (s : ByteArray) (u v : Bool) (A : At4 w1 bx (.int .i64 op) (.int .i64 a) (.int .i64 b) (.int .i64 c)) :
    Env (w1.alloc (.cells #[.string s, .int .i64 f, .int .i64 lo, .int .i64 hi, .bool u, .bool v] 84)) bx w1.heap.size a b c f u := by
  obtain ⟨h0, _, h1, h2, h3⟩ := A
  have e : ∀ o, (w1.alloc (.cells #[.string s, .int .i64 f, .int .i64 lo, .int .i64 hi, .bool u, .bool v] 84)).cell? ⟨bx, o, none⟩ = w1.cell? ⟨bx, o, none⟩ := fun o => (bcell ((Below.refl w1.heap.size w1).alloc (Nat.le_refl _) _)).1 bx o h0
  refine ⟨by simp; omega, by simp, by rw [e]; exact h1, by rw [e]; exact h2, by rw [e]; exact h3, ?_, ?_⟩
  · rw [box_cell]; rfl
  · rw [box_cell]; rfl
theorem new1s (w : World) (n : Nat) (hn : w.heap.size = n) (v : Value) (t : TypeId) (j : Nat) (u : Value) (h : [v][j]? = some u) : (w.alloc (.cells #[v] t)).cell? ((⟨n, 0, none⟩ : Addr).add j) = some u := by
  subst hn; exact new1 w v t j u h
theorem reads_no (op a b c : Int) (w : World) (ho : OpsAt w) (h : chk op a b c ≠ 0) :
    Calls Tryd.prog 42 #[.agg #[.int .i64 op, .int .i64 a, .int .i64 b, .int .i64 c]] w fun e w' => (∃ v, e = .returned v ∧ Reads w' w.heap.size v []) ∧ Below w.heap.size w w' := by
  have hne : (chk op a b c != 0) = true := by simpa using h
  go_enter Tryd.func42, Tryd.ntmps42
  go_wp2_with fail
  refine (check_is _ _ _ _ _ _ (ho.alloc _) rfl).mono ?_
  rintro e w1 ⟨rfl, k1⟩
  go_wp2
  go_ret
  exact ⟨⟨_, rfl, .inl ⟨rfl, rfl⟩⟩, below1 k1⟩
theorem writes_no (op a b c : Int) (w : World) (ho : OpsAt w) (h : chk op a b c ≠ 0) :
    Calls Tryd.prog 44 #[.agg #[.int .i64 op, .int .i64 a, .int .i64 b, .int .i64 c]] w fun e w' => (∃ v, e = .returned v ∧ Reads w' w.heap.size v []) ∧ Below w.heap.size w w' := by
  have hne : (chk op a b c != 0) = true := by simpa using h
  go_enter Tryd.func44, Tryd.ntmps44
  go_wp2_with fail
  refine (check_is _ _ _ _ _ _ (ho.alloc _) rfl).mono ?_
  rintro e w1 ⟨rfl, k1⟩
  go_wp2
  go_ret
  exact ⟨⟨_, rfl, .inl ⟨rfl, rfl⟩⟩, below1 k1⟩
theorem writes_yes (op a b c : Int) (w : World) (ho : OpsAt w) (h : chk op a b c = 0) (hs : setsB op.toNat = true) :
    Calls Tryd.prog 44 #[.agg #[.int .i64 op, .int .i64 a, .int .i64 b, .int .i64 c]] w fun e w' => (∃ v, e = .returned v ∧ Reads w' w.heap.size v [a]) ∧ Below w.heap.size w w' := by
  obtain ⟨h0, h1, _⟩ := chk_zero h
  have H := Lib.hid h
  clear h
  have A0 := At4.new w (.int .i64 op) (.int .i64 a) (.int .i64 b) (.int .i64 c) 26
  go_enter Tryd.func44, Tryd.ntmps44
  go_wp2_with fail
  refine (check_is _ _ _ _ 0 _ (ho.alloc _) H.out).mono ?_
  rintro e w1 ⟨rfl, k1⟩
  have O1 := (ho.alloc _).next k1
  obtain ⟨z, q0, q1, q2, q3⟩ := A0.next k1
  obtain ⟨c0, c1, c2, c3, c4, c5⟩ := O1.2 op.toNat (by omega)
  rw [hs] at c5
  have B1 := below1 k1
  have hrd : Reads (w1.alloc (.cells #[.int .i64 a] 3)) w.heap.size (.slice (some ⟨w1.heap.size, 0, none⟩) 1 1) [a] := .inr ⟨w1.heap.size, 1, rfl, B1.size, by simp, fun i hi => by
    have : i = 0 := by simp at hi; exact hi
    subst this
    rw [box_cell]; rfl⟩
  clear hs k1 A0 O1 c0 c1 c2 c3 c4
  go_wp2
  go_ret
  exact ⟨⟨_, rfl, hrd⟩, balloc B1 _⟩
theorem writes_not (op a b c : Int) (w : World) (ho : OpsAt w) (h : chk op a b c = 0) (hs : setsB op.toNat = false) :
    Calls Tryd.prog 44 #[.agg #[.int .i64 op, .int .i64 a, .int .i64 b, .int .i64 c]] w fun e w' => (∃ v, e = .returned v ∧ Reads w' w.heap.size v []) ∧ Below w.heap.size w w' := by
  obtain ⟨h0, h1, _⟩ := chk_zero h
  have H := Lib.hid h
  clear h
  have A0 := At4.new w (.int .i64 op) (.int .i64 a) (.int .i64 b) (.int .i64 c) 26
  go_enter Tryd.func44, Tryd.ntmps44
  go_wp2_with fail
  refine (check_is _ _ _ _ 0 _ (ho.alloc _) H.out).mono ?_
  rintro e w1 ⟨rfl, k1⟩
  have O1 := (ho.alloc _).next k1
  obtain ⟨z, q0, q1, q2, q3⟩ := A0.next k1
  obtain ⟨c0, c1, c2, c3, c4, c5⟩ := O1.2 op.toNat (by omega)
  rw [hs] at c5
  have B1 := below1 k1
  clear hs k1 A0 O1 c0 c1 c2 c3 c4
  go_wp2
  go_ret
  exact ⟨⟨_, rfl, .inl ⟨rfl, rfl⟩⟩, B1⟩
set_option maxRecDepth 100000 in
set_option maxHeartbeats 1000000 in
theorem reads_u4 (op a b c : Int) (w : World) (ho : OpsAt w) (h : chk op a b c = 0) (hu : usesB op.toNat = true) (hf : formI op.toNat = 4) :
    Calls Tryd.prog 42 #[.agg #[.int .i64 op, .int .i64 a, .int .i64 b, .int .i64 c]] w fun e w' => (∃ v, e = .returned v ∧ Reads w' w.heap.size v (incr [a])) ∧ Below w.heap.size w w' := by
  obtain ⟨i0, hi, hz0, hz1, hz2⟩ := info_parts info3
  obtain ⟨h0, h1, _⟩ := chk_zero h
  have H := Lib.hid h
  clear h
  have A0 := At4.new w (.int .i64 op) (.int .i64 a) (.int .i64 b) (.int .i64 c) 26
  go_enter Tryd.func42, Tryd.ntmps42
  go_wp2_with fail
  refine (check_is _ _ _ _ 0 _ (ho.alloc _) H.out).mono ?_
  rintro e w1 ⟨rfl, k1⟩
  have O1 := (ho.alloc _).next k1
  have A1 := A0.next k1
  have B1 := below1 k1
  obtain ⟨z, q0, q1, q2, q3⟩ := id A1
  obtain ⟨c0, c1, c2, c3, c4, c5⟩ := O1.2 op.toNat (by omega)
  rw [hu] at c4
  rw [hf] at c1
  clear hu hf k1 A0 O1
  have E1 := env_new w1 w.heap.size op a b c 4 (lowI op.toNat) (highI op.toNat) (wordB op.toNat) true (setsB op.toNat) A1
  have B2 : Below w.heap.size w (w1.alloc (.cells #[.string (wordB op.toNat), .int .i64 4, .int .i64 (lowI op.toNat), .int .i64 (highI op.toNat), .bool true, .bool (setsB op.toNat)] 84)) := balloc B1 _
  have hS : (w1.alloc (.cells #[.string (wordB op.toNat), .int .i64 4, .int .i64 (lowI op.toNat), .int .i64 (highI op.toNat), .bool true, .bool (setsB op.toNat)] 84)).heap.size = w1.heap.size + 1 := by simp
  have HS := Lib.hid hS
  have own0 : (w1.alloc (.cells #[.string (wordB op.toNat), .int .i64 4, .int .i64 (lowI op.toNat), .int .i64 (highI op.toNat), .bool true, .bool (setsB op.toNat)] 84)).ownsRow (w1.heap.size + 1) 3 1 (.slice none 0 0) 0 (i64s []) := ⟨rfl, .inl ⟨rfl, rfl⟩⟩
  have hzz : w.heap.size < w1.heap.size := z
  go_wp2_with (first | (at_builtin; refine wpList_append_own _ rfl _ _ 79 rfl (w1.heap.size + 1) 3 i0 (.int .i64 0) 1 8 Tryd.underlying79 hi hz0 hz1 hz2 rfl (by decide) _ _ _ rfl (own0.alloc _) ⟨w1.heap.size + 1, 0, none⟩ 1 1 [.int .i64 a] rfl rfl ?c1 ?c2 ?c3 ?c4 ?c5 ?_) | (go_at_call 49; go_in))
  case c1 => exact fun j u h => new1s _ _ (by simp) _ _ j u h
  case c2 => intro u hu; simp at hu; subst hu; rfl
  case c3 => unfold maxLen; omega
  case c4 => omega
  case c5 => simp
  intro v1 x1 ownn1 gr1 _
  have D1 : Below (w1.heap.size + 1) (w1.alloc (.cells #[.string (wordB op.toNat), .int .i64 4, .int .i64 (lowI op.toNat), .int .i64 (highI op.toNat), .bool true, .bool (setsB op.toNat)] 84)) x1 := ((Below.refl _ _).alloc (by rw [HS.out]; exact Nat.le_refl _) _).grown gr1 (by simp) (fun g hg => own_ge own0 hg)
  have own1 : x1.ownsRow (w1.heap.size + 1) 3 1 v1 1 (i64s [a]) := ownn1
  obtain ⟨y1, y2, p1, p2, p3, p4, p5⟩ := E1.grow D1 (by omega) (by omega)
  have sz1 : w1.heap.size + 1 ≤ x1.heap.size := by have := D1.size; rw [HS.out] at this; exact this
  clear ownn1 gr1
  clear q0 q1 q2 q3 c0 c1 c2 c3 c4 c5 A1
  go_wp2_with (first | (go_at_call 57; refine (increasing_any v1 [a] (w1.heap.size + 1) _ own1 (by simp) (by simp) sz1).mono ?_; rintro e w9 ⟨⟨u, rfl, hr⟩, k9⟩) | (go_at_call 49; go_in))
  go_ret
  exact ⟨⟨u, rfl, hr.mono (by omega)⟩, (B2.trans (D1.mono (by omega))).trans (k9.mono (by omega))⟩
set_option maxRecDepth 100000 in
set_option maxHeartbeats 1000000 in
theorem reads_u5 (op a b c : Int) (w : World) (ho : OpsAt w) (h : chk op a b c = 0) (hu : usesB op.toNat = true) (hf : formI op.toNat = 5) :
    Calls Tryd.prog 42 #[.agg #[.int .i64 op, .int .i64 a, .int .i64 b, .int .i64 c]] w fun e w' => (∃ v, e = .returned v ∧ Reads w' w.heap.size v (incr [a, b])) ∧ Below w.heap.size w w' := by
  obtain ⟨i0, hi, hz0, hz1, hz2⟩ := info_parts info3
  obtain ⟨h0, h1, _⟩ := chk_zero h
  have H := Lib.hid h
  clear h
  have A0 := At4.new w (.int .i64 op) (.int .i64 a) (.int .i64 b) (.int .i64 c) 26
  go_enter Tryd.func42, Tryd.ntmps42
  go_wp2_with fail
  refine (check_is _ _ _ _ 0 _ (ho.alloc _) H.out).mono ?_
  rintro e w1 ⟨rfl, k1⟩
  have O1 := (ho.alloc _).next k1
  have A1 := A0.next k1
  have B1 := below1 k1
  obtain ⟨z, q0, q1, q2, q3⟩ := id A1
  obtain ⟨c0, c1, c2, c3, c4, c5⟩ := O1.2 op.toNat (by omega)
  rw [hu] at c4
  rw [hf] at c1
  clear hu hf k1 A0 O1
  have E1 := env_new w1 w.heap.size op a b c 5 (lowI op.toNat) (highI op.toNat) (wordB op.toNat) true (setsB op.toNat) A1
  have B2 : Below w.heap.size w (w1.alloc (.cells #[.string (wordB op.toNat), .int .i64 5, .int .i64 (lowI op.toNat), .int .i64 (highI op.toNat), .bool true, .bool (setsB op.toNat)] 84)) := balloc B1 _
  have hS : (w1.alloc (.cells #[.string (wordB op.toNat), .int .i64 5, .int .i64 (lowI op.toNat), .int .i64 (highI op.toNat), .bool true, .bool (setsB op.toNat)] 84)).heap.size = w1.heap.size + 1 := by simp
  have HS := Lib.hid hS
  have own0 : (w1.alloc (.cells #[.string (wordB op.toNat), .int .i64 5, .int .i64 (lowI op.toNat), .int .i64 (highI op.toNat), .bool true, .bool (setsB op.toNat)] 84)).ownsRow (w1.heap.size + 1) 3 1 (.slice none 0 0) 0 (i64s []) := ⟨rfl, .inl ⟨rfl, rfl⟩⟩
  have hzz : w.heap.size < w1.heap.size := z
  go_wp2_with (first | (at_builtin; refine wpList_append_own _ rfl _ _ 79 rfl (w1.heap.size + 1) 3 i0 (.int .i64 0) 1 8 Tryd.underlying79 hi hz0 hz1 hz2 rfl (by decide) _ _ _ rfl (own0.alloc _) ⟨w1.heap.size + 1, 0, none⟩ 1 1 [.int .i64 a] rfl rfl ?c1 ?c2 ?c3 ?c4 ?c5 ?_) | (go_at_call 49; go_in))
  case c1 => exact fun j u h => new1s _ _ (by simp) _ _ j u h
  case c2 => intro u hu; simp at hu; subst hu; rfl
  case c3 => unfold maxLen; omega
  case c4 => omega
  case c5 => simp
  intro v1 x1 ownn1 gr1 _
  have D1 : Below (w1.heap.size + 1) (w1.alloc (.cells #[.string (wordB op.toNat), .int .i64 5, .int .i64 (lowI op.toNat), .int .i64 (highI op.toNat), .bool true, .bool (setsB op.toNat)] 84)) x1 := ((Below.refl _ _).alloc (by rw [HS.out]; exact Nat.le_refl _) _).grown gr1 (by simp) (fun g hg => own_ge own0 hg)
  have own1 : x1.ownsRow (w1.heap.size + 1) 3 1 v1 1 (i64s [a]) := ownn1
  obtain ⟨y1, y2, p1, p2, p3, p4, p5⟩ := E1.grow D1 (by omega) (by omega)
  have sz1 : w1.heap.size + 1 ≤ x1.heap.size := by have := D1.size; rw [HS.out] at this; exact this
  clear ownn1 gr1
  clear q0 q1 q2 q3 c0 c1 c2 c3 c4 c5 A1
  go_wp2_with (first | (at_builtin; refine wpList_append_own _ rfl _ _ 79 rfl (w1.heap.size + 1) 3 i0 (.int .i64 0) 1 8 Tryd.underlying79 hi hz0 hz1 hz2 rfl (by decide) _ _ _ rfl (own1.alloc _) ⟨x1.heap.size, 0, none⟩ 1 1 [.int .i64 b] rfl rfl ?d1 ?d2 ?d3 ?d4 ?d5 ?_) | (go_at_call 49; go_in))
  case d1 => exact fun j u h => new1 _ _ _ j u h
  case d2 => intro u hu; simp at hu; subst hu; rfl
  case d3 => unfold maxLen; omega
  case d4 => omega
  case d5 => simp; omega
  intro v2 x2 ownn2 gr2 _
  have D2 : Below (w1.heap.size + 1) (w1.alloc (.cells #[.string (wordB op.toNat), .int .i64 5, .int .i64 (lowI op.toNat), .int .i64 (highI op.toNat), .bool true, .bool (setsB op.toNat)] 84)) x2 := (D1.alloc (by omega) _).grown gr2 (by simp; omega) (fun g hg => own_ge own1 hg)
  have own2 : x2.ownsRow (w1.heap.size + 1) 3 1 v2 2 (i64s [a, b]) := ownn2
  obtain ⟨y1, y2, p1, p2, p3, p4, p5⟩ := E1.grow D2 (by omega) (by omega)
  have sz2 : w1.heap.size + 1 ≤ x2.heap.size := by have := D2.size; rw [HS.out] at this; exact this
  clear ownn2 gr2
  go_wp2_with (first | (go_at_call 57; refine (increasing_any v2 [a, b] (w1.heap.size + 1) _ own2 (by simp) (by simp) sz2).mono ?_; rintro e w9 ⟨⟨u, rfl, hr⟩, k9⟩) | (go_at_call 49; go_in))
  go_ret
  exact ⟨⟨u, rfl, hr.mono (by omega)⟩, (B2.trans (D2.mono (by omega))).trans (k9.mono (by omega))⟩
set_option maxRecDepth 100000 in
set_option maxHeartbeats 1000000 in
theorem reads_u1 (op a b c : Int) (w : World) (ho : OpsAt w) (h : chk op a b c = 0) (hu : usesB op.toNat = true) (hf : formI op.toNat = 1) :
    Calls Tryd.prog 42 #[.agg #[.int .i64 op, .int .i64 a, .int .i64 b, .int .i64 c]] w fun e w' => (∃ v, e = .returned v ∧ Reads w' w.heap.size v (incr [a])) ∧ Below w.heap.size w w' := by
  obtain ⟨i0, hi, hz0, hz1, hz2⟩ := info_parts info3
  obtain ⟨h0, h1, _⟩ := chk_zero h
  have H := Lib.hid h
  clear h
  have A0 := At4.new w (.int .i64 op) (.int .i64 a) (.int .i64 b) (.int .i64 c) 26
  go_enter Tryd.func42, Tryd.ntmps42
  go_wp2_with fail
  refine (check_is _ _ _ _ 0 _ (ho.alloc _) H.out).mono ?_
  rintro e w1 ⟨rfl, k1⟩
  have O1 := (ho.alloc _).next k1
  have A1 := A0.next k1
  have B1 := below1 k1
  obtain ⟨z, q0, q1, q2, q3⟩ := id A1
  obtain ⟨c0, c1, c2, c3, c4, c5⟩ := O1.2 op.toNat (by omega)
  rw [hu] at c4
  rw [hf] at c1
  clear hu hf k1 A0 O1
  have E1 := env_new w1 w.heap.size op a b c 1 (lowI op.toNat) (highI op.toNat) (wordB op.toNat) true (setsB op.toNat) A1
  have B2 : Below w.heap.size w (w1.alloc (.cells #[.string (wordB op.toNat), .int .i64 1, .int .i64 (lowI op.toNat), .int .i64 (highI op.toNat), .bool true, .bool (setsB op.toNat)] 84)) := balloc B1 _
  have hS : (w1.alloc (.cells #[.string (wordB op.toNat), .int .i64 1, .int .i64 (lowI op.toNat), .int .i64 (highI op.toNat), .bool true, .bool (setsB op.toNat)] 84)).heap.size = w1.heap.size + 1 := by simp
  have HS := Lib.hid hS
  have own0 : (w1.alloc (.cells #[.string (wordB op.toNat), .int .i64 1, .int .i64 (lowI op.toNat), .int .i64 (highI op.toNat), .bool true, .bool (setsB op.toNat)] 84)).ownsRow (w1.heap.size + 1) 3 1 (.slice none 0 0) 0 (i64s []) := ⟨rfl, .inl ⟨rfl, rfl⟩⟩
  have hzz : w.heap.size < w1.heap.size := z
  go_wp2_with (first | (at_builtin; refine wpList_append_own _ rfl _ _ 79 rfl (w1.heap.size + 1) 3 i0 (.int .i64 0) 1 8 Tryd.underlying79 hi hz0 hz1 hz2 rfl (by decide) _ _ _ rfl (own0.alloc _) ⟨w1.heap.size + 1, 0, none⟩ 1 1 [.int .i64 a] rfl rfl ?c1 ?c2 ?c3 ?c4 ?c5 ?_) | (go_at_call 49; go_in))
  case c1 => exact fun j u h => new1s _ _ (by simp) _ _ j u h
  case c2 => intro u hu; simp at hu; subst hu; rfl
  case c3 => unfold maxLen; omega
  case c4 => omega
  case c5 => simp
  intro v1 x1 ownn1 gr1 _
  have D1 : Below (w1.heap.size + 1) (w1.alloc (.cells #[.string (wordB op.toNat), .int .i64 1, .int .i64 (lowI op.toNat), .int .i64 (highI op.toNat), .bool true, .bool (setsB op.toNat)] 84)) x1 := ((Below.refl _ _).alloc (by rw [HS.out]; exact Nat.le_refl _) _).grown gr1 (by simp) (fun g hg => own_ge own0 hg)
  have own1 : x1.ownsRow (w1.heap.size + 1) 3 1 v1 1 (i64s [a]) := ownn1
  obtain ⟨y1, y2, p1, p2, p3, p4, p5⟩ := E1.grow D1 (by omega) (by omega)
  have sz1 : w1.heap.size + 1 ≤ x1.heap.size := by have := D1.size; rw [HS.out] at this; exact this
  clear ownn1 gr1
  clear q0 q1 q2 q3 c0 c1 c2 c3 c4 c5 A1
  go_wp2_with (first | (go_at_call 57; refine (increasing_any v1 [a] (w1.heap.size + 1) _ own1 (by simp) (by simp) sz1).mono ?_; rintro e w9 ⟨⟨u, rfl, hr⟩, k9⟩) | (go_at_call 49; go_in))
  go_ret
  exact ⟨⟨u, rfl, hr.mono (by omega)⟩, (B2.trans (D1.mono (by omega))).trans (k9.mono (by omega))⟩
set_option maxRecDepth 100000 in
set_option maxHeartbeats 1000000 in
theorem reads_n0 (op a b c : Int) (w : World) (ho : OpsAt w) (h : chk op a b c = 0) (hu : usesB op.toNat = false) (hf : formI op.toNat = 0) :
    Calls Tryd.prog 42 #[.agg #[.int .i64 op, .int .i64 a, .int .i64 b, .int .i64 c]] w fun e w' => (∃ v, e = .returned v ∧ Reads w' w.heap.size v []) ∧ Below w.heap.size w w' := by
  obtain ⟨i0, hi, hz0, hz1, hz2⟩ := info_parts info3
  obtain ⟨h0, h1, _⟩ := chk_zero h
  have H := Lib.hid h
  clear h
  have A0 := At4.new w (.int .i64 op) (.int .i64 a) (.int .i64 b) (.int .i64 c) 26
  go_enter Tryd.func42, Tryd.ntmps42
  go_wp2_with fail
  refine (check_is _ _ _ _ 0 _ (ho.alloc _) H.out).mono ?_
  rintro e w1 ⟨rfl, k1⟩
  have O1 := (ho.alloc _).next k1
  have A1 := A0.next k1
  have B1 := below1 k1
  obtain ⟨z, q0, q1, q2, q3⟩ := id A1
  obtain ⟨c0, c1, c2, c3, c4, c5⟩ := O1.2 op.toNat (by omega)
  rw [hu] at c4
  rw [hf] at c1
  clear hu hf k1 A0 O1
  go_wp2_with (first | (go_at_call 57; refine (increasing_nil _).mono ?_; rintro e w' ⟨rfl, rfl⟩) | go_in)
  go_ret
  exact ⟨⟨_, rfl, .inl ⟨rfl, rfl⟩⟩, balloc B1 _⟩
set_option maxRecDepth 100000 in
set_option maxHeartbeats 1000000 in
theorem reads_n2 (op a b c : Int) (w : World) (ho : OpsAt w) (h : chk op a b c = 0) (hu : usesB op.toNat = false) (hf : formI op.toNat = 2) :
    Calls Tryd.prog 42 #[.agg #[.int .i64 op, .int .i64 a, .int .i64 b, .int .i64 c]] w fun e w' => (∃ v, e = .returned v ∧ Reads w' w.heap.size v (incr [b])) ∧ Below w.heap.size w w' := by
  obtain ⟨i0, hi, hz0, hz1, hz2⟩ := info_parts info3
  obtain ⟨h0, h1, _⟩ := chk_zero h
  have H := Lib.hid h
  clear h
  have A0 := At4.new w (.int .i64 op) (.int .i64 a) (.int .i64 b) (.int .i64 c) 26
  go_enter Tryd.func42, Tryd.ntmps42
  go_wp2_with fail
  refine (check_is _ _ _ _ 0 _ (ho.alloc _) H.out).mono ?_
  rintro e w1 ⟨rfl, k1⟩
  have O1 := (ho.alloc _).next k1
  have A1 := A0.next k1
  have B1 := below1 k1
  obtain ⟨z, q0, q1, q2, q3⟩ := id A1
  obtain ⟨c0, c1, c2, c3, c4, c5⟩ := O1.2 op.toNat (by omega)
  rw [hu] at c4
  rw [hf] at c1
  clear hu hf k1 A0 O1
  have E1 := env_new w1 w.heap.size op a b c 2 (lowI op.toNat) (highI op.toNat) (wordB op.toNat) false (setsB op.toNat) A1
  have B2 : Below w.heap.size w (w1.alloc (.cells #[.string (wordB op.toNat), .int .i64 2, .int .i64 (lowI op.toNat), .int .i64 (highI op.toNat), .bool false, .bool (setsB op.toNat)] 84)) := balloc B1 _
  have hS : (w1.alloc (.cells #[.string (wordB op.toNat), .int .i64 2, .int .i64 (lowI op.toNat), .int .i64 (highI op.toNat), .bool false, .bool (setsB op.toNat)] 84)).heap.size = w1.heap.size + 1 := by simp
  have HS := Lib.hid hS
  have own0 : (w1.alloc (.cells #[.string (wordB op.toNat), .int .i64 2, .int .i64 (lowI op.toNat), .int .i64 (highI op.toNat), .bool false, .bool (setsB op.toNat)] 84)).ownsRow (w1.heap.size + 1) 3 1 (.slice none 0 0) 0 (i64s []) := ⟨rfl, .inl ⟨rfl, rfl⟩⟩
  have hzz : w.heap.size < w1.heap.size := z
  go_wp2_with (first | (at_builtin; refine wpList_append_own _ rfl _ _ 79 rfl (w1.heap.size + 1) 3 i0 (.int .i64 0) 1 8 Tryd.underlying79 hi hz0 hz1 hz2 rfl (by decide) _ _ _ rfl (own0.alloc _) ⟨w1.heap.size + 1, 0, none⟩ 1 1 [.int .i64 b] rfl rfl ?c1 ?c2 ?c3 ?c4 ?c5 ?_) | (go_at_call 49; go_in))
  case c1 => exact fun j u h => new1s _ _ (by simp) _ _ j u h
  case c2 => intro u hu; simp at hu; subst hu; rfl
  case c3 => unfold maxLen; omega
  case c4 => omega
  case c5 => simp
  intro v1 x1 ownn1 gr1 _
  have D1 : Below (w1.heap.size + 1) (w1.alloc (.cells #[.string (wordB op.toNat), .int .i64 2, .int .i64 (lowI op.toNat), .int .i64 (highI op.toNat), .bool false, .bool (setsB op.toNat)] 84)) x1 := ((Below.refl _ _).alloc (by rw [HS.out]; exact Nat.le_refl _) _).grown gr1 (by simp) (fun g hg => own_ge own0 hg)
  have own1 : x1.ownsRow (w1.heap.size + 1) 3 1 v1 1 (i64s [b]) := ownn1
  obtain ⟨y1, y2, p1, p2, p3, p4, p5⟩ := E1.grow D1 (by omega) (by omega)
  have sz1 : w1.heap.size + 1 ≤ x1.heap.size := by have := D1.size; rw [HS.out] at this; exact this
  clear ownn1 gr1
  clear q0 q1 q2 q3 c0 c1 c2 c3 c4 c5 A1
  go_wp2_with (first | (go_at_call 57; refine (increasing_any v1 [b] (w1.heap.size + 1) _ own1 (by simp) (by simp) sz1).mono ?_; rintro e w9 ⟨⟨u, rfl, hr⟩, k9⟩) | (go_at_call 49; go_in))
  go_ret
  exact ⟨⟨u, rfl, hr.mono (by omega)⟩, (B2.trans (D1.mono (by omega))).trans (k9.mono (by omega))⟩
set_option maxRecDepth 100000 in
set_option maxHeartbeats 1000000 in
theorem reads_n4 (op a b c : Int) (w : World) (ho : OpsAt w) (h : chk op a b c = 0) (hu : usesB op.toNat = false) (hf : formI op.toNat = 4) :
    Calls Tryd.prog 42 #[.agg #[.int .i64 op, .int .i64 a, .int .i64 b, .int .i64 c]] w fun e w' => (∃ v, e = .returned v ∧ Reads w' w.heap.size v []) ∧ Below w.heap.size w w' := by
  obtain ⟨i0, hi, hz0, hz1, hz2⟩ := info_parts info3
  obtain ⟨h0, h1, _⟩ := chk_zero h
  have H := Lib.hid h
  clear h
  have A0 := At4.new w (.int .i64 op) (.int .i64 a) (.int .i64 b) (.int .i64 c) 26
  go_enter Tryd.func42, Tryd.ntmps42
  go_wp2_with fail
  refine (check_is _ _ _ _ 0 _ (ho.alloc _) H.out).mono ?_
  rintro e w1 ⟨rfl, k1⟩
  have O1 := (ho.alloc _).next k1
  have A1 := A0.next k1
  have B1 := below1 k1
  obtain ⟨z, q0, q1, q2, q3⟩ := id A1
  obtain ⟨c0, c1, c2, c3, c4, c5⟩ := O1.2 op.toNat (by omega)
  rw [hu] at c4
  rw [hf] at c1
  clear hu hf k1 A0 O1
  go_wp2_with (first | (go_at_call 57; refine (increasing_nil _).mono ?_; rintro e w' ⟨rfl, rfl⟩) | go_in)
  go_ret
  exact ⟨⟨_, rfl, .inl ⟨rfl, rfl⟩⟩, balloc B1 _⟩
set_option maxRecDepth 100000 in
set_option maxHeartbeats 1000000 in
theorem reads_n3 (op a b c : Int) (w : World) (ho : OpsAt w) (h : chk op a b c = 0) (hu : usesB op.toNat = false) (hf : formI op.toNat = 3) :
    Calls Tryd.prog 42 #[.agg #[.int .i64 op, .int .i64 a, .int .i64 b, .int .i64 c]] w fun e w' => (∃ v, e = .returned v ∧ Reads w' w.heap.size v (incr [b, c])) ∧ Below w.heap.size w w' := by
  obtain ⟨i0, hi, hz0, hz1, hz2⟩ := info_parts info3
  obtain ⟨h0, h1, _⟩ := chk_zero h
  have H := Lib.hid h
  clear h
  have A0 := At4.new w (.int .i64 op) (.int .i64 a) (.int .i64 b) (.int .i64 c) 26
  go_enter Tryd.func42, Tryd.ntmps42
  go_wp2_with fail
  refine (check_is _ _ _ _ 0 _ (ho.alloc _) H.out).mono ?_
  rintro e w1 ⟨rfl, k1⟩
  have O1 := (ho.alloc _).next k1
  have A1 := A0.next k1
  have B1 := below1 k1
  obtain ⟨z, q0, q1, q2, q3⟩ := id A1
  obtain ⟨c0, c1, c2, c3, c4, c5⟩ := O1.2 op.toNat (by omega)
  rw [hu] at c4
  rw [hf] at c1
  clear hu hf k1 A0 O1
  have E1 := env_new w1 w.heap.size op a b c 3 (lowI op.toNat) (highI op.toNat) (wordB op.toNat) false (setsB op.toNat) A1
  have B2 : Below w.heap.size w (w1.alloc (.cells #[.string (wordB op.toNat), .int .i64 3, .int .i64 (lowI op.toNat), .int .i64 (highI op.toNat), .bool false, .bool (setsB op.toNat)] 84)) := balloc B1 _
  have hS : (w1.alloc (.cells #[.string (wordB op.toNat), .int .i64 3, .int .i64 (lowI op.toNat), .int .i64 (highI op.toNat), .bool false, .bool (setsB op.toNat)] 84)).heap.size = w1.heap.size + 1 := by simp
  have HS := Lib.hid hS
  have own0 : (w1.alloc (.cells #[.string (wordB op.toNat), .int .i64 3, .int .i64 (lowI op.toNat), .int .i64 (highI op.toNat), .bool false, .bool (setsB op.toNat)] 84)).ownsRow (w1.heap.size + 1) 3 1 (.slice none 0 0) 0 (i64s []) := ⟨rfl, .inl ⟨rfl, rfl⟩⟩
  have hzz : w.heap.size < w1.heap.size := z
  go_wp2_with (first | (at_builtin; refine wpList_append_own _ rfl _ _ 79 rfl (w1.heap.size + 1) 3 i0 (.int .i64 0) 1 8 Tryd.underlying79 hi hz0 hz1 hz2 rfl (by decide) _ _ _ rfl (own0.alloc _) ⟨w1.heap.size + 1, 0, none⟩ 1 1 [.int .i64 b] rfl rfl ?c1 ?c2 ?c3 ?c4 ?c5 ?_) | (go_at_call 49; go_in))
  case c1 => exact fun j u h => new1s _ _ (by simp) _ _ j u h
  case c2 => intro u hu; simp at hu; subst hu; rfl
  case c3 => unfold maxLen; omega
  case c4 => omega
  case c5 => simp
  intro v1 x1 ownn1 gr1 _
  have D1 : Below (w1.heap.size + 1) (w1.alloc (.cells #[.string (wordB op.toNat), .int .i64 3, .int .i64 (lowI op.toNat), .int .i64 (highI op.toNat), .bool false, .bool (setsB op.toNat)] 84)) x1 := ((Below.refl _ _).alloc (by rw [HS.out]; exact Nat.le_refl _) _).grown gr1 (by simp) (fun g hg => own_ge own0 hg)
  have own1 : x1.ownsRow (w1.heap.size + 1) 3 1 v1 1 (i64s [b]) := ownn1
  obtain ⟨y1, y2, p1, p2, p3, p4, p5⟩ := E1.grow D1 (by omega) (by omega)
  have sz1 : w1.heap.size + 1 ≤ x1.heap.size := by have := D1.size; rw [HS.out] at this; exact this
  clear ownn1 gr1
  clear q0 q1 q2 q3 c0 c1 c2 c3 c4 c5 A1
  go_wp2_with (first | (at_builtin; refine wpList_append_own _ rfl _ _ 79 rfl (w1.heap.size + 1) 3 i0 (.int .i64 0) 1 8 Tryd.underlying79 hi hz0 hz1 hz2 rfl (by decide) _ _ _ rfl (own1.alloc _) ⟨x1.heap.size, 0, none⟩ 1 1 [.int .i64 c] rfl rfl ?d1 ?d2 ?d3 ?d4 ?d5 ?_) | (go_at_call 49; go_in))
  case d1 => exact fun j u h => new1 _ _ _ j u h
  case d2 => intro u hu; simp at hu; subst hu; rfl
  case d3 => unfold maxLen; omega
  case d4 => omega
  case d5 => simp; omega
  intro v2 x2 ownn2 gr2 _
  have D2 : Below (w1.heap.size + 1) (w1.alloc (.cells #[.string (wordB op.toNat), .int .i64 3, .int .i64 (lowI op.toNat), .int .i64 (highI op.toNat), .bool false, .bool (setsB op.toNat)] 84)) x2 := (D1.alloc (by omega) _).grown gr2 (by simp; omega) (fun g hg => own_ge own1 hg)
  have own2 : x2.ownsRow (w1.heap.size + 1) 3 1 v2 2 (i64s [b, c]) := ownn2
  obtain ⟨y1, y2, p1, p2, p3, p4, p5⟩ := E1.grow D2 (by omega) (by omega)
  have sz2 : w1.heap.size + 1 ≤ x2.heap.size := by have := D2.size; rw [HS.out] at this; exact this
  clear ownn2 gr2
  go_wp2_with (first | (go_at_call 57; refine (increasing_any v2 [b, c] (w1.heap.size + 1) _ own2 (by simp) (by simp) sz2).mono ?_; rintro e w9 ⟨⟨u, rfl, hr⟩, k9⟩) | (go_at_call 49; go_in))
  go_ret
  exact ⟨⟨u, rfl, hr.mono (by omega)⟩, (B2.trans (D2.mono (by omega))).trans (k9.mono (by omega))⟩
set_option maxRecDepth 100000 in
set_option maxHeartbeats 1000000 in
theorem reads_n5 (op a b c : Int) (w : World) (ho : OpsAt w) (h : chk op a b c = 0) (hu : usesB op.toNat = false) (hf : formI op.toNat = 5) :
    Calls Tryd.prog 42 #[.agg #[.int .i64 op, .int .i64 a, .int .i64 b, .int .i64 c]] w fun e w' => (∃ v, e = .returned v ∧ Reads w' w.heap.size v (incr [b])) ∧ Below w.heap.size w w' := by
  obtain ⟨i0, hi, hz0, hz1, hz2⟩ := info_parts info3
  obtain ⟨h0, h1, _⟩ := chk_zero h
  have H := Lib.hid h
  clear h
  have A0 := At4.new w (.int .i64 op) (.int .i64 a) (.int .i64 b) (.int .i64 c) 26
  go_enter Tryd.func42, Tryd.ntmps42
  go_wp2_with fail
  refine (check_is _ _ _ _ 0 _ (ho.alloc _) H.out).mono ?_
  rintro e w1 ⟨rfl, k1⟩
  have O1 := (ho.alloc _).next k1
  have A1 := A0.next k1
  have B1 := below1 k1
  obtain ⟨z, q0, q1, q2, q3⟩ := id A1
  obtain ⟨c0, c1, c2, c3, c4, c5⟩ := O1.2 op.toNat (by omega)
  rw [hu] at c4
  rw [hf] at c1
  clear hu hf k1 A0 O1
  have E1 := env_new w1 w.heap.size op a b c 5 (lowI op.toNat) (highI op.toNat) (wordB op.toNat) false (setsB op.toNat) A1
  have B2 : Below w.heap.size w (w1.alloc (.cells #[.string (wordB op.toNat), .int .i64 5, .int .i64 (lowI op.toNat), .int .i64 (highI op.toNat), .bool false, .bool (setsB op.toNat)] 84)) := balloc B1 _
  have hS : (w1.alloc (.cells #[.string (wordB op.toNat), .int .i64 5, .int .i64 (lowI op.toNat), .int .i64 (highI op.toNat), .bool false, .bool (setsB op.toNat)] 84)).heap.size = w1.heap.size + 1 := by simp
  have HS := Lib.hid hS
  have own0 : (w1.alloc (.cells #[.string (wordB op.toNat), .int .i64 5, .int .i64 (lowI op.toNat), .int .i64 (highI op.toNat), .bool false, .bool (setsB op.toNat)] 84)).ownsRow (w1.heap.size + 1) 3 1 (.slice none 0 0) 0 (i64s []) := ⟨rfl, .inl ⟨rfl, rfl⟩⟩
  have hzz : w.heap.size < w1.heap.size := z
  go_wp2_with (first | (at_builtin; refine wpList_append_own _ rfl _ _ 79 rfl (w1.heap.size + 1) 3 i0 (.int .i64 0) 1 8 Tryd.underlying79 hi hz0 hz1 hz2 rfl (by decide) _ _ _ rfl (own0.alloc _) ⟨w1.heap.size + 1, 0, none⟩ 1 1 [.int .i64 b] rfl rfl ?c1 ?c2 ?c3 ?c4 ?c5 ?_) | (go_at_call 49; go_in))
  case c1 => exact fun j u h => new1s _ _ (by simp) _ _ j u h
  case c2 => intro u hu; simp at hu; subst hu; rfl
  case c3 => unfold maxLen; omega
  case c4 => omega
  case c5 => simp
  intro v1 x1 ownn1 gr1 _
  have D1 : Below (w1.heap.size + 1) (w1.alloc (.cells #[.string (wordB op.toNat), .int .i64 5, .int .i64 (lowI op.toNat), .int .i64 (highI op.toNat), .bool false, .bool (setsB op.toNat)] 84)) x1 := ((Below.refl _ _).alloc (by rw [HS.out]; exact Nat.le_refl _) _).grown gr1 (by simp) (fun g hg => own_ge own0 hg)
  have own1 : x1.ownsRow (w1.heap.size + 1) 3 1 v1 1 (i64s [b]) := ownn1
  obtain ⟨y1, y2, p1, p2, p3, p4, p5⟩ := E1.grow D1 (by omega) (by omega)
  have sz1 : w1.heap.size + 1 ≤ x1.heap.size := by have := D1.size; rw [HS.out] at this; exact this
  clear ownn1 gr1
  clear q0 q1 q2 q3 c0 c1 c2 c3 c4 c5 A1
  go_wp2_with (first | (go_at_call 57; refine (increasing_any v1 [b] (w1.heap.size + 1) _ own1 (by simp) (by simp) sz1).mono ?_; rintro e w9 ⟨⟨u, rfl, hr⟩, k9⟩) | (go_at_call 49; go_in))
  go_ret
  exact ⟨⟨u, rfl, hr.mono (by omega)⟩, (B2.trans (D1.mono (by omega))).trans (k9.mono (by omega))⟩
set_option maxRecDepth 100000 in
set_option maxHeartbeats 1000000 in
theorem reads_n6 (op a b c : Int) (w : World) (ho : OpsAt w) (h : chk op a b c = 0) (hu : usesB op.toNat = false) (hf : formI op.toNat = 6) :
    Calls Tryd.prog 42 #[.agg #[.int .i64 op, .int .i64 a, .int .i64 b, .int .i64 c]] w fun e w' => (∃ v, e = .returned v ∧ Reads w' w.heap.size v []) ∧ Below w.heap.size w w' := by
  obtain ⟨i0, hi, hz0, hz1, hz2⟩ := info_parts info3
  obtain ⟨h0, h1, _⟩ := chk_zero h
  have H := Lib.hid h
  clear h
  have A0 := At4.new w (.int .i64 op) (.int .i64 a) (.int .i64 b) (.int .i64 c) 26
  go_enter Tryd.func42, Tryd.ntmps42
  go_wp2_with fail
  refine (check_is _ _ _ _ 0 _ (ho.alloc _) H.out).mono ?_
  rintro e w1 ⟨rfl, k1⟩
  have O1 := (ho.alloc _).next k1
  have A1 := A0.next k1
  have B1 := below1 k1
  obtain ⟨z, q0, q1, q2, q3⟩ := id A1
  obtain ⟨c0, c1, c2, c3, c4, c5⟩ := O1.2 op.toNat (by omega)
  rw [hu] at c4
  rw [hf] at c1
  clear hu hf k1 A0 O1
  go_wp2_with (first | (go_at_call 57; refine (increasing_nil _).mono ?_; rintro e w' ⟨rfl, rfl⟩) | go_in)
  go_ret
  exact ⟨⟨_, rfl, .inl ⟨rfl, rfl⟩⟩, balloc B1 _⟩
theorem new_end : True := trivial
end Go.Proofs.YtagmeijpelffcaaDoor
