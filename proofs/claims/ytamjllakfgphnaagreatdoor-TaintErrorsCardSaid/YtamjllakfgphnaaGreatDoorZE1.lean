/- Walks and plain facts, packed: GA, GW, W98, W115, W116, W118, W111, W119, W61, W62, W51, W117, W120, W109. -/
import Derived.Laws.IdiomCopy
import Derived.Lib.SliceRun
import Derived.Test.YtamjllakfgphnaaGreatDoorZA7
set_option linter.unusedSimpArgs false
set_option linter.unusedVariables false
namespace Go.Proofs.YtamjllakfgphnaaGreatDoor
section
variable {κ : Type} (c : κ → κ → Int)
variable {c} {S : κ → Prop}
theorem mem_compact [DecidableEq κ] {x : κ} : ∀ l : List κ, x ∈ compact l ↔ x ∈ l
  | [] => Iff.rfl
  | [a] => Iff.rfl
  | a :: b :: r => by
    have ih := mem_compact (x := x) (b :: r)
    rw [compact]
    split
    · rename_i e; subst e; rw [ih]; simp
    · rw [List.mem_cons, ih, List.mem_cons (b := a)]
theorem strict_compact [DecidableEq κ] (O : COrd c S) : ∀ {l : List κ}, (∀ a ∈ l, S a) → Weak c l → Strict c (compact l)
  | [], _, _ => List.Pairwise.nil
  | [a], _, _ => by simp [compact, Strict]
  | a :: b :: r, hS, h => by
    have h1 := List.pairwise_cons.1 h
    have hS' : ∀ x ∈ b :: r, S x := fun x hx => hS x (List.mem_cons_of_mem _ hx)
    have ih := strict_compact O hS' h1.2
    have ha := hS a (by simp)
    have hb := hS b (by simp)
    rw [compact]
    split
    · exact ih
    · rename_i hne
      have hab : c a b < 0 := by
        have := h1.1 b (by simp)
        have h0 : c a b ≠ 0 := fun e => hne ((O.eq ha hb).1 e)
        omega
      refine List.pairwise_cons.2 ⟨fun x hx => ?_, ih⟩
      rcases List.mem_cons.1 ((mem_compact _).1 hx) with rfl | hx
      · exact hab
      · have h3 := (List.pairwise_cons.1 h1.2).1 x hx
        have hxs := hS x (by simp [hx])
        by_cases e : c b x = 0
        · rw [← (O.eq hb hxs).1 e]; exact hab
        · exact O.trans ha hb hxs hab (by omega)
theorem compact_sortU [DecidableEq κ] (O : COrd c S) {l l0 : List κ} (hS : ∀ a ∈ l0, S a) (hp : l.Perm l0) (h : Weak c l) : compact l = sortU c l0 := by
  have hS' : ∀ a ∈ l, S a := fun a ha => hS a (hp.mem_iff.1 ha)
  refine strict_ext O (fun a ha => hS' a ((mem_compact l).1 ha)) (strict_compact O hS' h) (strict_sortU O l0 hS) fun a => ?_
  rw [mem_compact, mem_sortU O l0 hS, hp.mem_iff]
end
end Go.Proofs.YtamjllakfgphnaaGreatDoor
namespace Go.Proofs.YtamjllakfgphnaaGreatDoor
theorem objs_strict : Strict cmpN objs := by
  unfold Strict objs
  decide
end Go.Proofs.YtamjllakfgphnaaGreatDoor
namespace Go.Proofs.YtamjllakfgphnaaGreatDoor
open Go.RowKit
attribute [local go_sem ↓] Go.wp_at_zero Go.wp_at_succ
theorem none_nil {w : World} : Calls Tryz.prog 51 #[.pointer none] w fun e w' => e = .returned (.bool true) ∧ w = w' := by
  go_enter Tryz.func51, Tryz.ntmps51
  go_wp2
  go_ret
  exact ⟨rfl, rfl⟩
end Go.Proofs.YtamjllakfgphnaaGreatDoor
namespace Go.Proofs.YtamjllakfgphnaaGreatDoor
open Go.RowKit
attribute [local go_sem ↓] Go.wp_at_zero Go.wp_at_succ
theorem tcheck_n1 (w : World) (v : Value) : Calls Tryz.prog 40 #[.pointer none, v] w fun e w' => e = .returned (.int .i64 1) ∧ w = w' := by
  go_enter Tryz.func40, Tryz.ntmps40
  go_wp2_with fail
  go_ret
  exact ⟨rfl, rfl⟩
theorem tcheck_n2 (w : World) (p : Addr) : Calls Tryz.prog 40 #[.pointer (some p), .pointer none] w fun e w' => e = .returned (.int .i64 1) ∧ w = w' := by
  go_enter Tryz.func40, Tryz.ntmps40
  go_wp2_with fail
  go_ret
  exact ⟨rfl, rfl⟩
end Go.Proofs.YtamjllakfgphnaaGreatDoor
namespace Go.Proofs.YtamjllakfgphnaaGreatDoor
open Go.RowKit
attribute [local go_sem ↓] Go.wp_at_zero Go.wp_at_succ
set_option maxRecDepth 100000 in
theorem vlen_nil {w : World} : Calls Tryz.prog 41 #[.pointer none] w fun e w' => e = .returned (.int .i64 0) ∧ Below w.heap.size w w' := by
  go_enter Tryz.func41, Tryz.ntmps41
  go_wp2_with (go_at_call 51; refine none_nil.mono ?_; rintro e w' ⟨rfl, rfl⟩)
  go_ret
  exact ⟨rfl, Below.refl _ _⟩
set_option maxRecDepth 100000 in
set_option maxHeartbeats 1000000 in
theorem origin_nil {w : World} (n : Nm) (a i : Int) : Calls Tryz.prog 24 #[.pointer none, plV n a, .int .i64 i] w fun e w' => e = .returned (.tuple #[.int .i64 0, .int .i64 1]) ∧ Below w.heap.size w w' := by
  simp only [plV]
  go_enter Tryz.func24, Tryz.ntmps24
  go_wp2_with fail
  go_ret2
  exact ⟨rfl, (Below.refl _ _).alloc (Nat.le_refl _) _⟩
set_option maxRecDepth 100000 in
set_option maxHeartbeats 1000000 in
theorem tchain_err {w : World} {vx vg : Value} (n : Nm) (f a i er : Int) (hc : ∀ W, Below w.heap.size w W → Calls Tryz.prog 40 #[vx, vg] W fun e w' => e = .returned (.int .i64 er) ∧ W = w') (her : er ≠ 0) :
    Calls Tryz.prog 14 #[vx, vg, .int .i64 f, plV n a, .int .i64 i] w fun e w' => e = .returned (.tuple #[.slice none 0 0, .int .i64 er]) ∧ Below w.heap.size w w' := by
  simp only [plV]
  have HC := Lib.hid hc
  have d0 : (er != 0) = true := by rw [bne_iff_ne]; exact her
  clear hc her
  go_enter Tryz.func14, Tryz.ntmps14
  go_wp2_with fail
  go_at_call 40
  refine (HC.out _ ((Below.refl _ _).alloc (Nat.le_refl _) _)).mono ?_
  rintro e w2 ⟨rfl, rfl⟩
  go_wp2_with fail
  go_ret2
  exact ⟨rfl, (Below.refl _ _).alloc (Nat.le_refl _) _⟩
set_option maxRecDepth 100000 in
set_option maxHeartbeats 1000000 in
theorem tmarks_err {w : World} {vx vg v : Value} (i er : Int) (hc : ∀ W, Below w.heap.size w W → Calls Tryz.prog 40 #[vx, vg] W fun e w' => e = .returned (.int .i64 er) ∧ W = w') (her : er ≠ 0) :
    Calls Tryz.prog 25 #[vx, vg, v, .int .i64 i] w fun e w' => e = .returned (.tuple #[.slice none 0 0, .int .i64 er]) ∧ Below w.heap.size w w' := by
  have HC := Lib.hid hc
  have d0 : (er != 0) = true := by rw [bne_iff_ne]; exact her
  clear hc her
  go_enter Tryz.func25, Tryz.ntmps25
  go_wp2_with fail
  go_at_call 40
  refine (HC.out _ (Below.refl _ _)).mono ?_
  rintro e w2 ⟨rfl, rfl⟩
  go_wp2_with fail
  go_ret2
  exact ⟨rfl, Below.refl _ _⟩
theorem rdSt_nil (w : World) : RdSt w (.slice none 0 0) [] := RdP.nil
theorem lsrt_nil : lsrt [] = [] := List.eq_nil_of_length_eq_zero (by
  have := srtL_le []
  unfold lsrt
  rw [dif_pos (by simp)]
  simpa using this)
set_option maxRecDepth 100000 in
set_option maxHeartbeats 1000000 in
theorem tops_nil {w : World} : Calls Tryz.prog 70 #[.slice none 0 0] w fun e w' => e = .returned (.slice none 0 0) ∧ Below w.heap.size w w' := by
  go_enter Tryz.func70, Tryz.ntmps70
  go_wp2_with fail
  go_at_call 50
  refine (lsort_is (rdSt_nil w) (by simp) (by simp)).mono ?_
  rintro e w2 ⟨v', rfl, hv, hb⟩
  rw [lsrt_nil] at hv
  obtain ⟨A, c, rfl, hc⟩ := RdP.form hv
  have HB := Lib.hid hb
  clear hv hb hc
  go_wp2_with fail
  refine wp_loop_rounds 1 ?_
  rw [rounds_succ]
  go_wp2_with fail
  go_ret
  exact ⟨rfl, HB.out⟩
set_option maxRecDepth 100000 in
set_option maxHeartbeats 1000000 in
theorem icompact_nil {w : World} : Calls Tryz.prog 69 #[.slice none 0 0] w fun e w' => e = .returned (.slice none 0 0) ∧ w = w' := by
  go_enter Tryz.func69, Tryz.ntmps69
  go_wp2_with fail
  go_ret
  exact ⟨rfl, rfl⟩
set_option maxRecDepth 100000 in
set_option maxHeartbeats 1000000 in
theorem isort_nil {w : World} : Calls Tryz.prog 68 #[.slice none 0 0] w fun e w' => e = .returned (.tuple #[]) ∧ w = w' :=
  (AnyG.slices_Sort_int_none laidSortI none 0 w).mono fun e w' h => ⟨h.1, h.2.symm⟩
set_option maxRecDepth 100000 in
set_option maxHeartbeats 1000000 in
theorem roots_nil {w : World} : Calls Tryz.prog 118 #[.agg #[.slice none 0 0, .slice none 0 0]] w fun e w' => e = .returned (.slice none 0 0) ∧ Below w.heap.size w w' := by
  go_enter Tryz.func118, Tryz.ntmps118
  go_wp2_with fail
  refine wp_loop_rounds 1 ?_
  rw [rounds_succ]
  go_wp2_with fail
  go_ret
  exact ⟨rfl, (Below.refl _ _).alloc (Nat.le_refl _) _⟩
set_option maxRecDepth 100000 in
set_option maxHeartbeats 2000000 in
theorem canonical_nil {w : World} : Calls Tryz.prog 72 #[.agg #[.slice none 0 0, .slice none 0 0]] w fun e w' => e = .returned (.agg #[.slice none 0 0, .slice none 0 0]) ∧ Below w.heap.size w w' := by
  have hmm := @run_makeMap Tryz.prog
  go_enter Tryz.func72, Tryz.ntmps72
  go_wp2_with fail
  refine wp_loop_rounds 1 ?_
  rw [rounds_succ]
  go_wp2_with fail
  go_at_call 68
  refine isort_nil.mono ?_
  rintro e w2 ⟨rfl, rfl⟩
  go_wp2_with fail
  go_at_call 69
  refine icompact_nil.mono ?_
  rintro e w2 ⟨rfl, rfl⟩
  go_wp2_with fail
  go_at_call 118
  have hA := (((((Below.refl w.heap.size w).alloc (Nat.le_refl _) (.cells #[.slice none 0 0, .slice none 0 0] 88)).alloc (by simp) (.cells #[.slice none 0 0, .slice none 0 0] 88)).alloc (by simp; omega) (.cells #[.slice none 0 0, .slice none 0 0] 88)).alloc (by simp; omega) (.map #[] 0))
  have h1 := (((Blk.new w 88 #[.slice none 0 0, .slice none 0 0]).alloc (.cells #[.slice none 0 0, .slice none 0 0] 88)).alloc (.cells #[.slice none 0 0, .slice none 0 0] 88)).alloc (.map #[] 0)
  have h3 := ((Blk.new ((w.alloc (.cells #[.slice none 0 0, .slice none 0 0] 88)).alloc (.cells #[.slice none 0 0, .slice none 0 0] 88)) 88 #[.slice none 0 0, .slice none 0 0])).alloc (.map #[] 0)
  have h2 := (((Blk.new (w.alloc (.cells #[.slice none 0 0, .slice none 0 0] 88)) 88 #[.slice none 0 0, .slice none 0 0])).alloc (.cells #[.slice none 0 0, .slice none 0 0] 88)).alloc (.map #[] 0)
  simp only [World.size_alloc] at h1 h2 h3
  have HA := Lib.hid hA
  have Z1 := Lib.hid h1
  have Z3 := Lib.hid h3
  have Z2 := Lib.hid h2
  clear hA h1 h2 h3
  generalize ((((w.alloc (.cells #[.slice none 0 0, .slice none 0 0] 88)).alloc (.cells #[.slice none 0 0, .slice none 0 0] 88)).alloc (.cells #[.slice none 0 0, .slice none 0 0] 88)).alloc (.map #[] 0)) = W at *
  obtain ⟨b3, hb3⟩ : ∃ b, w.heap.size + 1 + 1 = b := ⟨_, rfl⟩
  rw [hb3] at Z3 ⊢
  obtain ⟨b4, hb4⟩ : ∃ b, b3 + 1 = b := ⟨_, rfl⟩
  rw [hb4] at ⊢
  obtain ⟨b2, hb2⟩ : ∃ b, w.heap.size + 1 = b := ⟨_, rfl⟩
  have HB2 := Lib.hid (show w.heap.size ≤ b2 by omega)
  rw [hb2] at Z2 ⊢
  clear hb2
  obtain ⟨b1, hb1⟩ : ∃ b, w.heap.size = b := ⟨_, rfl⟩
  have HB1 := Lib.hid hb1
  rw [hb1] at Z1 ⊢
  clear hb1 hb3 hb4
  refine roots_nil.mono ?_
  rintro e w5 ⟨rfl, hb⟩
  have HB5 := Lib.hid (HA.out.trans (hb.mono HA.out.size))
  have Z1' := Lib.hid (Z1.out.next hb Z1.out.lt)
  have Z2' := Lib.hid (Z2.out.next hb Z2.out.lt)
  have Z3' := Lib.hid (Z3.out.next hb Z3.out.lt)
  clear hb
  generalize w5 = W5 at *
  have c0 := Z1'.out.cell 1
  have c1 := Z3'.out.cell 0
  have c2 := Z3'.out.cell 1
  simp only [qB, qC, qD] at c0 c1 c2
  go_wp2_with fail
  refine wp_loop_rounds 1 ?_
  rw [rounds_succ]
  go_wp2_with fail
  refine wp_loop_rounds 1 ?_
  rw [rounds_succ]
  go_wp2_with fail
  go_at_call 70
  refine tops_nil.mono ?_
  rintro e w6 ⟨rfl, hb⟩
  have HB6 := Lib.hid (HB5.out.trans (hb.mono HB5.out.size))
  have Z2'' := Lib.hid (Z2'.out.next hb Z2'.out.lt)
  have Z3'' := Lib.hid (Z3'.out.next hb Z3'.out.lt)
  clear hb c0 c1 c2
  generalize w6 = W6 at *
  have c1 := Z3''.out.cell 0
  have c2 := Z3''.out.cell 1
  have r0 := Z2''.out.cell 0
  have r1 := Z2''.out.cell 1
  have g0 := Z2''.out.frozen 0
  have g1 := Z2''.out.frozen 1
  simp only [qB, qC, qD] at c1 c2 r0 r1
  go_wp2_with fail
  refine wp_loop_rounds 1 ?_
  rw [rounds_succ]
  go_wp2_with fail
  exact bodyPost_ret (v := .agg #[.slice none 0 0, .slice none 0 0]) (by simp [results, Tryz.results72, go_sem, r0, r1]) rfl ⟨rfl, (HB6.out.setCell (p := ⟨b2, 0, none⟩) HB2.out _).setCell (p := ⟨b2, 1, none⟩) HB2.out _⟩
set_option maxRecDepth 100000 in
set_option maxHeartbeats 1000000 in
theorem wempty_nil {w : World} : Calls Tryz.prog 27 #[.agg #[.slice none 0 0, .slice none 0 0]] w fun e w' => e = .returned (.bool true) ∧ Below w.heap.size w w' := by
  go_enter Tryz.func27, Tryz.ntmps27
  go_wp2_with (go_at_call 72; refine canonical_nil.mono ?_; rintro e w2 ⟨rfl, hb⟩; have HB := Lib.hid (((Below.refl w.heap.size w).alloc (Nat.le_refl _) (.cells #[.slice none 0 0, .slice none 0 0] 88)).trans (hb.mono (by simp))); clear hb)
  go_ret
  exact ⟨rfl, HB.out.alloc HB.out.size _⟩
set_option maxRecDepth 100000 in
set_option maxHeartbeats 2000000 in
theorem outside_nil {w : World} : Calls Tryz.prog 26 #[.pointer none, .agg #[.slice none 0 0, .slice none 0 0, .slice none 0 0]] w fun e w' => e = .returned (.agg #[.slice none 0 0, .slice none 0 0]) ∧ Below w.heap.size w w' := by
  go_enter Tryz.func26, Tryz.ntmps26
  go_wp2_with fail
  have hA := ((((Below.refl w.heap.size w).alloc (Nat.le_refl _) (.cells #[.slice none 0 0, .slice none 0 0, .slice none 0 0] 36)).alloc (by simp) (.cells #[.slice none 0 0, .slice none 0 0] 88)).alloc (by simp; omega) (.cells #[.slice none 0 0, .slice none 0 0] 88))
  have h2 := ((Blk.new (w.alloc (.cells #[.slice none 0 0, .slice none 0 0, .slice none 0 0] 36)) 88 #[.slice none 0 0, .slice none 0 0])).alloc (.cells #[.slice none 0 0, .slice none 0 0] 88)
  have h3 := ((Blk.new ((w.alloc (.cells #[.slice none 0 0, .slice none 0 0, .slice none 0 0] 36)).alloc (.cells #[.slice none 0 0, .slice none 0 0] 88)) 88 #[.slice none 0 0, .slice none 0 0]))
  simp only [World.size_alloc] at h2 h3
  have HA := Lib.hid hA
  have Z2 := Lib.hid h2
  have Z3 := Lib.hid h3
  clear hA h2 h3
  generalize (((w.alloc (.cells #[.slice none 0 0, .slice none 0 0, .slice none 0 0] 36)).alloc (.cells #[.slice none 0 0, .slice none 0 0] 88)).alloc (.cells #[.slice none 0 0, .slice none 0 0] 88)) = W at *
  obtain ⟨b3, hb3⟩ : ∃ b, w.heap.size + 1 + 1 = b := ⟨_, rfl⟩
  rw [hb3] at Z3 ⊢
  obtain ⟨b2, hb2⟩ : ∃ b, w.heap.size + 1 = b := ⟨_, rfl⟩
  have HB2 := Lib.hid (show w.heap.size ≤ b2 by omega)
  rw [hb2] at Z2 ⊢
  obtain ⟨b1, hb1⟩ : ∃ b, w.heap.size = b := ⟨_, rfl⟩
  have HB1 := Lib.hid hb1
  have HB13 := Lib.hid (show b1 ≤ b3 by omega)
  have HB23 := Lib.hid (show b2 ≠ b3 by omega)
  rw [hb1] at ⊢
  clear hb1 hb2 hb3
  go_at_call 41
  refine vlen_nil.mono ?_
  rintro e w5 ⟨rfl, hb⟩
  have HB5 := Lib.hid (HA.out.trans (hb.mono HA.out.size))
  have Z2' := Lib.hid (Z2.out.next hb Z2.out.lt)
  have Z3' := Lib.hid (Z3.out.next hb Z3.out.lt)
  clear hb
  generalize w5 = W5 at *
  have c1 := Z3'.out.cell 0
  have c2 := Z3'.out.cell 1
  have f0 := Z3'.out.frozen 0
  simp only [qB, qC, qD] at c1 c2
  go_wp2_with fail
  refine wp_loop_rounds 1 ?_
  rw [rounds_succ]
  go_wp2_with fail
  go_at_call 68
  refine isort_nil.mono ?_
  rintro e w2 ⟨rfl, rfl⟩
  go_wp2_with fail
  go_at_call 69
  refine icompact_nil.mono ?_
  rintro e w2 ⟨rfl, rfl⟩
  go_wp2_with fail
  go_at_call 70
  have hHB := Lib.hid (HB5.out.setCell (p := ⟨b3, 0, none⟩) (show w.heap.size ≤ b3 from by rw [HB1.out]; exact HB13.out) (Value.slice none 0 0))
  have Z2s := Lib.hid (Z2'.out.far (p := ⟨b3, 0, none⟩) HB23.out (Value.slice none 0 0))
  have Z3s := Lib.hid (Z3'.out.set_ 0 (Value.slice none 0 0))
  refine tops_nil.mono ?_
  rintro e w6 ⟨rfl, hb⟩
  have HB6 := Lib.hid (hHB.out.trans (hb.mono hHB.out.size))
  have Z2'' := Lib.hid (Z2s.out.next hb Z2s.out.lt)
  have Z3'' := Lib.hid (Z3s.out.next hb Z3s.out.lt)
  clear hb c1 c2 f0
  generalize w6 = W6 at *
  have c1 := Z3''.out.cell 0
  have c2 := Z3''.out.cell 1
  have r0 := Z2''.out.cell 0
  have r1 := Z2''.out.cell 1
  have g0 := Z2''.out.frozen 0
  have g1 := Z2''.out.frozen 1
  have e3 : (#[Value.slice none 0 0, Value.slice none 0 0] : Array Value).setIfInBounds 0 (Value.slice none 0 0) = #[Value.slice none 0 0, Value.slice none 0 0] := rfl
  try rw [e3] at c1 c2
  simp only [qB, qC, qD] at c1 c2 r0 r1
  go_wp2_with fail
  refine wp_loop_rounds 1 ?_
  rw [rounds_succ]
  go_wp2_with fail
  exact bodyPost_ret (v := .agg #[.slice none 0 0, .slice none 0 0]) (by simp [results, Tryz.results26, go_sem, r0, r1]) rfl ⟨rfl, (HB6.out.setCell (p := ⟨b2, 0, none⟩) HB2.out _).setCell (p := ⟨b2, 1, none⟩) HB2.out _⟩
end Go.Proofs.YtamjllakfgphnaaGreatDoor
namespace Go.Proofs
open Go.Shelf Go.Lib
shelf_lay_g SlLaysF0.n6 Slsf 6 at Tryz 143 as YtamjllakfgphnaaGreatDoor.laidSortR
end Go.Proofs
namespace Go.Proofs.YtamjllakfgphnaaGreatDoor
open Go.RowKit Go.MapKept Go.ChangeMaps Go.Shelf
attribute [local go_sem ↓] Go.wp_at_zero Go.wp_at_succ
theorem run_store_fn {P : Program} {w : World} {a : Addr} {m : Mode} (f : Fn) (x y : Array Value) : (store a (.func f x y) m).run P w = stored P w a (.func f x y) m := run_store P w a _ m rfl
attribute [local go_sem] run_store_fn
theorem rsort_nil {w : World} (fv : Value) : Calls Tryz.prog 143 #[.slice none 0 0, fv] w fun e w' => e = .returned (.tuple #[]) ∧ w = w' :=
  (AnyF.slices_SortFunc_none laidSortR none 0 fv w).mono fun e w' h => ⟨h.1, h.2.symm⟩
set_option maxRecDepth 100000 in
set_option maxHeartbeats 1000000 in
theorem rclone_nil {w : World} : Calls Tryz.prog 142 #[.slice none 0 0] w fun e w' => e = .returned (.slice none 0 0) ∧ w = w' := by
  have he : (binOp .eql 154 (.slice none 0 0) (.slice none 0 0)).run Tryz.prog w = .ok (.bool true) w := by kernel_rfl
  go_enter Tryz.func142, Tryz.ntmps142
  go_wp2_with fail
  go_ret
  exact ⟨rfl, rfl⟩
set_option maxRecDepth 100000 in
set_option maxHeartbeats 1000000 in
theorem limited_nil {w : World} : Calls Tryz.prog 145 #[.slice none 0 0] w fun e w' => e = .returned (.tuple #[.agg #[.slice none 0 0], .int .i64 0]) ∧ Below w.heap.size w w' := by
  go_enter Tryz.func145, Tryz.ntmps145
  go_wp2_with fail
  have r0 := (Blk.new w 156 #[.slice none 0 0]).cell 0
  simp only [List.getElem?_toArray, List.getElem?_cons_zero] at r0
  exact bodyPost_ret (v := .tuple #[.agg #[.slice none 0 0], .int .i64 0]) (by simp [results, Tryz.results145, go_sem, r0]) rfl ⟨rfl, (Below.refl _ _).alloc (Nat.le_refl _) _⟩
set_option maxRecDepth 100000 in
set_option maxHeartbeats 2000000 in
theorem ranges_nil {w : World} : Calls Tryz.prog 109 #[.slice none 0 0] w fun e w' => e = .returned (.tuple #[.agg #[.slice none 0 0], .int .i64 0]) ∧ Below w.heap.size w w' := by
  go_enter Tryz.func109, Tryz.ntmps109
  go_wp2_with fail
  refine wp_loop_rounds 1 ?_
  rw [rounds_succ]
  go_wp2_with (first | (go_at_call 142; refine rclone_nil.mono ?_; rintro e w2 ⟨rfl, rfl⟩) | (go_at_call 143; refine (rsort_nil _).mono ?_; rintro e w2 ⟨rfl, rfl⟩))
  refine wp_loop_rounds 1 ?_
  rw [rounds_succ]
  go_wp2_with fail
  go_at_call 145
  refine limited_nil.mono ?_
  rintro e w2 ⟨rfl, hb⟩
  have hA := (Below.refl w.heap.size w).alloc (Nat.le_refl _) (.cells #[.slice none 0 0] 156)
  have HB := Lib.hid (hA.trans (hb.mono hA.size))
  have Z := Lib.hid ((Blk.new w 156 #[.slice none 0 0]).next hb (by simp))
  clear hA hb
  generalize w2 = W2 at *
  obtain ⟨b, hb0⟩ : ∃ b, w.heap.size = b := ⟨_, rfl⟩
  have HB0 := Lib.hid (Nat.le_of_eq hb0)
  rw [hb0] at Z ⊢
  clear hb0
  have r0 := Z.out.cell 0
  have g0 := Z.out.frozen 0
  simp only [List.getElem?_toArray, List.getElem?_cons_zero] at r0
  go_wp2_with fail
  exact bodyPost_ret (v := .tuple #[.agg #[.slice none 0 0], .int .i64 0]) (by simp [results, Tryz.results109, go_sem, r0]) rfl ⟨rfl, HB.out.setCell (p := ⟨b, 0, none⟩) HB0.out _⟩
set_option maxRecDepth 100000 in
set_option maxHeartbeats 1000000 in
theorem sempty_nil {w : World} : Calls Tryz.prog 64 #[.agg #[.slice none 0 0]] w fun e w' => e = .returned (.bool true) ∧ Below w.heap.size w w' := by
  go_enter Tryz.func64, Tryz.ntmps64
  go_wp2_with fail
  go_ret
  exact ⟨rfl, (Below.refl _ _).alloc (Nat.le_refl _) _⟩
set_option maxRecDepth 100000 in
set_option maxHeartbeats 2000000 in
theorem reach_nil {w : World} (f : Nat) (cb : Array Value) : Calls Tryz.prog 105 #[.slice none 0 0, .func (.func f) #[] cb] w fun e w' => e = .returned (.slice none 0 0) ∧ Below w.heap.size w w' := by
  have hmm := @run_makeMap Tryz.prog
  go_enter Tryz.func105, Tryz.ntmps105
  go_upto_region 4 with (fail)
  have hA := ((((((Below.refl w.heap.size w).alloc (Nat.le_refl _) (.cells #[.func (.func f) #[] cb] 196)).alloc (by simp) (.map #[] 0)).alloc (by simp; omega) (.cells #[.map (some (w.heap.size + 1))] 152)).alloc (by simp; omega) (.cells #[.slice none 0 0] 33)).alloc (by simp; omega) (.cells #[.nilFunc] 195))
  have h3 := ((Blk.new (((w.alloc (.cells #[.func (.func f) #[] cb] 196)).alloc (.map #[] 0)).alloc (.cells #[.map (some (w.heap.size + 1))] 152)) 33 #[.slice none 0 0])).alloc (.cells #[.nilFunc] 195)
  have h4 := (Blk.new ((((w.alloc (.cells #[.func (.func f) #[] cb] 196)).alloc (.map #[] 0)).alloc (.cells #[.map (some (w.heap.size + 1))] 152)).alloc (.cells #[.slice none 0 0] 33)) 195 #[.nilFunc])
  simp only [World.size_alloc] at h3 h4
  have HA := Lib.hid hA
  have Z3 := Lib.hid h3
  have Z4 := Lib.hid h4
  clear hA h3 h4
  generalize (((((w.alloc (.cells #[.func (.func f) #[] cb] 196)).alloc (.map #[] 0)).alloc (.cells #[.map (some (w.heap.size + 1))] 152)).alloc (.cells #[.slice none 0 0] 33)).alloc (.cells #[.nilFunc] 195)) = W at *
  obtain ⟨b4, hb4⟩ : ∃ b, w.heap.size + 1 + 1 + 1 + 1 = b := ⟨_, rfl⟩
  obtain ⟨b3, hb3⟩ : ∃ b, w.heap.size + 1 + 1 + 1 = b := ⟨_, rfl⟩
  have HB34 := Lib.hid (show b3 ≠ b4 by omega)
  have HB04 := Lib.hid (show w.heap.size ≤ b4 by omega)
  rw [hb4] at Z4 ⊢
  rw [hb3] at Z3 ⊢
  clear hb4 hb3
  have z0 := Z3.out.cell 0
  have z4 := Z4.out.cell 0
  have g4 := Z4.out.frozen 0
  have n1 := HB34.out
  have n2 := Ne.symm HB34.out
  simp only [List.getElem?_toArray, List.getElem?_cons_zero] at z0 z4
  go_wp2_with fail
  refine wp_loop_rounds 1 ?_
  rw [rounds_succ]
  go_wp2_with (go_at_call 68; refine isort_nil.mono ?_; rintro e w2 ⟨rfl, rfl⟩)
  go_ret
  exact ⟨rfl, HA.out.setCell (p := ⟨b4, 0, none⟩) HB04.out _⟩
set_option maxRecDepth 100000 in
set_option maxHeartbeats 1000000 in
theorem effects_nil {w : World} {B g : Nat} {l : List Ac} (hg : GAt w B g l) (hl : l.length ≤ 1000000) : Calls Tryz.prog 60 #[.pointer (some ⟨g, 0, none⟩), .slice none 0 0] w fun e w' => e = .returned (.tuple #[.slice none 0 0, .int .i64 0]) ∧ Below w.heap.size w w' := by
  have HG := Lib.hid (hg.next ((Below.refl w.heap.size w).alloc (Nat.le_refl _) (.cells #[.pointer (some ⟨g, 0, none⟩)] 47)))
  have z := (Blk.new w 47 #[.pointer (some ⟨g, 0, none⟩)])
  have Z := Lib.hid z
  have HA := Lib.hid ((Below.refl w.heap.size w).alloc (Nat.le_refl _) (.cells #[.pointer (some ⟨g, 0, none⟩)] 47))
  clear hg z
  go_enter Tryz.func60, Tryz.ntmps60
  go_upto_region 1 with (fail)
  generalize (w.alloc (.cells #[.pointer (some ⟨g, 0, none⟩)] 47)) = W at *
  obtain ⟨b, hb0⟩ : ∃ b, w.heap.size = b := ⟨_, rfl⟩
  have HB0 := Lib.hid hb0
  rw [hb0] at Z ⊢
  clear hb0
  have z0 := Z.out.cell 0
  simp only [List.getElem?_toArray, List.getElem?_cons_zero] at z0
  go_wp2_with fail
  go_at_call 43
  refine (gcheck_is (xs := []) HG.out RdP.nil hl (by simp)).mono ?_
  rintro e w2 ⟨rfl, hb⟩
  rw [show chk2 l.length [] = 0 from rfl]
  have HB2 := Lib.hid (HA.out.trans (hb.mono HA.out.size))
  clear hb
  go_wp2_with fail
  go_at_call 105
  refine (reach_nil _ _).mono ?_
  rintro e w3 ⟨rfl, hb⟩
  have HB3 := Lib.hid (HB2.out.trans (hb.mono HB2.out.size))
  clear hb
  go_wp2_with fail
  go_ret2
  exact ⟨rfl, HB3.out⟩
end Go.Proofs.YtamjllakfgphnaaGreatDoor
namespace Go.Proofs.YtamjllakfgphnaaGreatDoor
open Go.RowKit Go.MapKept Go.ChangeMaps
attribute [local go_sem ↓] Go.wp_at_zero Go.wp_at_succ
attribute [local go_sem] run_store_fn
theorem has_none {w : World} {b : Nat} (h : SetAt w b []) (n : Int) : Calls Tryz.prog 85 #[.map (some b), .int .i64 n] w fun e w' => e = .returned (.bool false) ∧ w = w' := has_is h n
def mkdRel (l : List Int) (W : World) (v : Value) (wr : World) : Prop := ∃ k : Nat, k ≤ l.length ∧ v = .int .i64 k ∧ Below W.heap.size W wr
set_option maxRecDepth 100000 in
set_option maxHeartbeats 2000000 in
theorem marked_none {w : World} {b : Nat} {v : Value} {l : List Int} (hs : SetAt w b []) (hv : RdIn w v l) (hl : l.length ≤ 1000000) : Calls Tryz.prog 62 #[v, .map (some b)] w fun e w' => e = .returned (.tuple #[.agg #[.slice none 0 0], .int .i64 0]) ∧ Below w.heap.size w w' := by
  obtain ⟨A, c, rfl, hc⟩ := RdP.form hv
  have hA := (((Below.refl w.heap.size w).alloc (Nat.le_refl _) (.cells #[.slice none 0 0] 156)).alloc (by simp) (.cells #[.slice none 0 0] 154))
  have h0 := ((Blk.new w 156 #[.slice none 0 0])).alloc (.cells #[.slice none 0 0] 154)
  have h1 := (Blk.new (w.alloc (.cells #[.slice none 0 0] 156)) 154 #[.slice none 0 0])
  simp only [World.size_alloc] at h1
  have HA := Lib.hid hA
  have Z0 := Lib.hid h0
  have Z1 := Lib.hid h1
  have HS := Lib.hid (hs.next hA)
  have HV := Lib.hid (RdP.next hv hA)
  clear hA h0 h1 hs hv
  go_enter Tryz.func62, Tryz.ntmps62
  go_upto_region 2 with (fail)
  generalize ((w.alloc (.cells #[.slice none 0 0] 156)).alloc (.cells #[.slice none 0 0] 154)) = W at *
  obtain ⟨b1, hb1⟩ : ∃ b, w.heap.size + 1 = b := ⟨_, rfl⟩
  obtain ⟨b0, hb0⟩ : ∃ b, w.heap.size = b := ⟨_, rfl⟩
  have HB0 := Lib.hid (Nat.le_of_eq hb0)
  rw [hb1] at Z1 ⊢
  rw [hb0] at Z0 ⊢
  clear hb0 hb1
  have H0 : Hid (mkdRel l W (.int .i64 (0 : Nat)) W) := Lib.hid ⟨0, Nat.zero_le _, rfl, Below.refl _ _⟩
  go_wp2_with fail
  go_loopw [13] (fun v wr => mkdRel l W v wr) (fun v _ => l.length - (intOf v).toNat)
  case atStart => exact H0.out
  case round =>
    clear H0
    obtain ⟨k, hkl, rfl, hbw⟩ := hrel
    have HBW := Lib.hid hbw
    clear hbw
    by_cases hk : k < l.length
    · have j1 : (0 : Int) ≤ (k : Int) := by omega
      have j2 : (k : Int) < (l.length : Int) := by omega
      have j3 : decide ((k : Int) < (l.length : Int)) = true := decide_eq_true j2
      obtain ⟨bb, o1, hbe, hbb, x0⟩ := RdIn_piece (RdP.next HV.out HBW.out) hk
      subst hbe
      go_wp2_with (go_at_call 85; refine (has_none (HS.out.next HBW.out) _).mono ?_; rintro e w2 ⟨rfl, rfl⟩)
      go_roundw
      case rel => exact ⟨k + 1, by omega, by go_num, HBW.out⟩
      case measure => simp [intOf]; omega
    · have j3 : decide ((k : Int) < (l.length : Int)) = false := decide_eq_false (by omega)
      have c1 := (HBW.out.cell (p := ⟨b1, 0, none⟩) Z1.out.lt).trans (Z1.out.cell 0)
      simp only [List.getElem?_toArray, List.getElem?_cons_zero] at c1
      go_wp2_with fail
      go_at_call 109
      refine ranges_nil.mono ?_
      rintro e w2 ⟨rfl, hb⟩
      have hb2 := HBW.out.trans (hb.mono HBW.out.size)
      have Z2 := Lib.hid (Z0.out.next hb2 Z0.out.lt)
      have HB2 := Lib.hid (HA.out.trans (hb2.mono HA.out.size))
      clear hb hb2 c1
      generalize w2 = W2 at *
      have r0 := Z2.out.cell 0
      have g0 := Z2.out.frozen 0
      simp only [List.getElem?_toArray, List.getElem?_cons_zero] at r0
      go_wp2_with fail
      exact bodyPost_ret (v := .tuple #[.agg #[.slice none 0 0], .int .i64 0]) (by simp [results, Tryz.results62, go_sem, r0]) rfl ⟨rfl, HB2.out.setCell (p := ⟨b0, 0, none⟩) HB0.out _⟩
end Go.Proofs.YtamjllakfgphnaaGreatDoor
namespace Go.Proofs.YtamjllakfgphnaaGreatDoor
open Go.RowKit
attribute [local go_sem ↓] Go.wp_at_zero Go.wp_at_succ
open Go.MapKept Go.ChangeMaps
theorem map_set {I : List Bool} {k : Nat} : (I.map Value.bool).set k (.bool true) = (I.set k true).map Value.bool := by rw [List.map_set]
end Go.Proofs.YtamjllakfgphnaaGreatDoor
namespace Go.Proofs.YtamjllakfgphnaaGreatDoor
open Go.RowKit Go.MapKept Go.ChangeMaps
attribute [local go_sem ↓] Go.wp_at_zero Go.wp_at_succ
theorem make_ints (w : World) (n : Nat) (hn : n ≤ 1000000) : (Instr.makeSlice 33 (.int .i64 n) (.int .i64 n)).run Tryz.prog w = .ok (.slice (some ⟨w.heap.size, 0, none⟩) n n) (w.alloc (.cells (madeCells #[.int .i64 0] n) 3)) := by
  obtain ⟨i0, hi, hz0, hz1, hz2⟩ := info_parts infoIn
  have h := run_make (P := Tryz.prog) w 33 3 i0 _ Tryz.underlying33 hi hz0 .i64 .i64 n n (by omega) (Int.le_refl _) (by rw [hz2]; omega) (by omega)
  rw [hz1] at h
  simp only [Int.toNat_natCast, Nat.mul_one] at h
  exact h
theorem own_made_in (w : World) (n : Nat) (hn : n ≤ 1000000) : (w.alloc (.cells (madeCells #[.int .i64 0] n) 3)).ownsRow w.heap.size 3 1 (.slice (some ⟨w.heap.size, 0, none⟩) n n) n ((List.replicate n (0 : Int)).map (Value.int .i64)) := by
  refine ⟨by simp, .inr ⟨w.heap.size, n, _, rfl, Nat.le_refl _, heap_alloc_new w _, Nat.le_refl _, by unfold maxLen; omega, by rw [size_madeCells]; omega, ?_⟩⟩
  rw [toList_madeCells_one, Nat.mul_one, List.take_replicate, Nat.min_self, List.map_replicate]
def orgOut (vs : List Ver) (W : World) (v7 v8 v17 : Value) (wr : World) : Prop := ∃ (k : Nat) (L : List Int) (s : Bs), k ≤ vs.length ∧ v17 = .int .i64 k ∧ RdIn wr v7 L ∧ v8 = .string (bs s) ∧ L.length = s.length ∧ s.length ≤ 65536 ∧ Below W.heap.size W wr
def orgIn (n nb : Nat) (W : World) (v31 : Value) (wr : World) : Prop := ∃ (j : Nat) (L : List Int), j ≤ n ∧ L.length = n ∧ v31 = .int .i64 j ∧ wr.ownsRow nb 3 1 (.slice (some ⟨nb, 0, none⟩) n n) n (L.map (Value.int .i64)) ∧ Below nb W wr
set_option maxRecDepth 100000 in
set_option maxHeartbeats 4000000 in
theorem origins_is {w : World} {F : Nat → Prop} {g : Nat} {s0 : St} {l : List Ac} {n : Nm} (t : Int) (hv : VAt w F g s0 l) (hn : OwnE n) (ho : VOk l) (h6 : ∀ v ∈ verL s0 l n, v.value.length ≤ 65536) : Calls Tryz.prog 63 #[.pointer (some ⟨g, 0, none⟩), nmV n, .int .i64 t] w fun e w' => ∃ v L, e = .returned v ∧ RdIn w' v L ∧ L.length ≤ 65536 ∧ Below w.heap.size w w' := by
  have hA := (Below.refl w.heap.size w).alloc (Nat.le_refl _) (.cells #[.int .i64 n.kind, .string (bs n.owner), .int .i64 n.num, .int .i64 n.idx, .string (bs n.text)] 26)
  have HV := Lib.hid (hv.next hA)
  have HA := Lib.hid hA
  have HO := Lib.hid ho
  have HN := Lib.hid hn
  have Z := Lib.hid (Blk.new w 26 #[.int .i64 n.kind, .string (bs n.owner), .int .i64 n.num, .int .i64 n.idx, .string (bs n.text)])
  clear hA hv ho hn
  simp only [nmV, nmA]
  go_enter Tryz.func63, Tryz.ntmps63
  go_upto_region 3 with (fail)
  generalize (w.alloc (.cells #[.int .i64 n.kind, .string (bs n.owner), .int .i64 n.num, .int .i64 n.idx, .string (bs n.text)] 26)) = W at *
  obtain ⟨b0, hb0⟩ : ∃ b, w.heap.size = b := ⟨_, rfl⟩
  have HB0 := Lib.hid hb0
  rw [hb0] at Z ⊢
  clear hb0
  have z0 := Z.out.cell 0
  have z1 := Z.out.cell 1
  have z2 := Z.out.cell 2
  have z3 := Z.out.cell 3
  have z4 := Z.out.cell 4
  simp only [qB, qC, qD] at z0 z1 z2 z3 z4
  obtain ⟨vs, hvs⟩ : ∃ vs, verL s0 l n = vs := ⟨_, rfl⟩
  have HVS := Lib.hid hvs
  rw [hvs] at h6
  have H6 := Lib.hid h6
  clear hvs h6
  go_wp2_with fail
  go_at_call 42
  refine (of_is (n := n) HV.out HN.out HO.out).mono ?_
  rintro e w2 ⟨v2, rfl, hov, hb2⟩
  rw [HVS.out] at hov
  obtain ⟨A, c, rfl, hc⟩ := own_len hov
  have hvl : vs.length ≤ 9223372036854775807 := by
    obtain ⟨_, c', e', _, hm', _⟩ := OwnP.rd hov
    unfold maxLen at hm'
    omega
  have HOV := Lib.hid (OwnP.rd hov)
  have HB2 := Lib.hid (HA.out.trans (hb2.mono HA.out.size))
  clear hov hb2 z0 z1 z2 z3 z4 HV Z HA
  generalize w2 = W2 at *
  have H0 : Hid (orgOut vs W2 (.slice none 0 0) (.string ⟨#[]⟩) (.int .i64 (0 : Nat)) W2) := Lib.hid ⟨0, [], [], Nat.zero_le _, rfl, RdP.nil, rfl, rfl, by decide, Below.refl _ _⟩
  go_wp2_with fail
  go_loopw [7, 8, 17] (fun v7 v8 v17 wr => orgOut vs W2 v7 v8 v17 wr) (fun _ _ v17 _ => vs.length - (intOf v17).toNat)
  case atStart => exact H0.out
  case round =>
    clear H0
    obtain ⟨k, L, s, hkl, rfl, hrd, rfl, hls, hs6, hbw⟩ := hrel
    obtain ⟨A7, c7, rfl, hc7⟩ := RdP.form hrd
    have HRD := Lib.hid hrd
    have HLS := Lib.hid hls
    have HBW := Lib.hid hbw
    have HL6 := Lib.hid hs6
    clear hrd hls hbw hc7 hs6
    by_cases hk : k < vs.length
    · have j1 : (0 : Int) ≤ (k : Int) := by omega
      have j2 : (k : Int) < (vs.length : Int) := by omega
      have j3 : decide ((k : Int) < (vs.length : Int)) = true := decide_eq_true j2
      obtain ⟨bv, ov, hbe, hbb, hcs⟩ := RdP.at_ (s := 3) (RdP.next HOV.out HBW.out) (fun _ => rfl) hk
      subst hbe
      have x0 := hcs 0 _ rfl
      have x1 := hcs 1 _ rfl
      have x2 := hcs 2 _ rfl
      have HV6 := Lib.hid (H6.out _ (List.getElem_mem hk))
      obtain ⟨x, hx⟩ : ∃ x, vs[k].idx = x := ⟨_, rfl⟩
      obtain ⟨s2, hs2⟩ : ∃ x, vs[k].value = x := ⟨_, rfl⟩
      obtain ⟨q, hq⟩ : ∃ x, vs[k].absent = x := ⟨_, rfl⟩
      rw [hx] at x0
      rw [hs2] at x1 HV6
      rw [hq] at x2
      rw [Nat.add_zero] at x0
      rw [← Nat.add_assoc] at x1 x2
      clear hcs hx hs2 hq
      have HAL := Lib.hid ((Below.refl wr.heap.size wr).alloc (Nat.le_refl _) (.cells #[.int .i64 x, .string (bs s2), .bool q] 68))
      have ZV := Lib.hid (Blk.new wr 68 #[.int .i64 x, .string (bs s2), .bool q])
      go_upto_region 6 with (fail)
      have HRD3 := Lib.hid (RdP.next HRD.out HAL.out)
      have HSZ3 := Lib.hid (show wr.heap.size < (wr.alloc (.cells #[.int .i64 x, .string (bs s2), .bool q] 68)).heap.size by simp)
      clear x0 x1 x2 HRD
      generalize (wr.alloc (.cells #[.int .i64 x, .string (bs s2), .bool q] 68)) = W3 at *
      obtain ⟨b9, hb9⟩ : ∃ b, wr.heap.size = b := ⟨_, rfl⟩
      rw [hb9] at ZV HAL HSZ3 ⊢
      have HB9 := Lib.hid hb9
      clear hb9
      have y0 := ZV.out.cell 0
      have y1 := ZV.out.cell 1
      simp only [qB, qC, qD] at y0 y1
      have HB3 := Lib.hid (HBW.out.trans (HAL.out.mono (by have := HBW.out.size; rw [HB9.out] at this; exact this)))
      by_cases ht : t ≤ x
      · have d1 : decide (t ≤ x) = true := decide_eq_true ht
        clear ht
        go_wp2_with fail
        go_ret
        exact ⟨_, L, rfl, HRD3.out, by rw [HLS.out]; exact HL6.out, HB2.out.trans (HB3.out.mono HB2.out.size)⟩
      · have d1 : decide (t ≤ x) = false := decide_eq_false ht
        clear ht
        have hm6 : (bs s2).size ≤ 1000000 := by rw [bs_size]; have := HV6.out; omega
        have hmk := make_ints W3 (bs s2).size hm6
        have hmo := own_made_in W3 (bs s2).size hm6
        have hal := (Below.refl W3.heap.size W3).alloc (Nat.le_refl _) (.cells (madeCells #[.int .i64 0] (bs s2).size) 3)
        obtain ⟨nb, hnb⟩ : ∃ b, W3.heap.size = b := ⟨_, rfl⟩
        have HNB := Lib.hid hnb
        rw [hnb] at hmk hmo hal HSZ3
        have HMO := Lib.hid hmo
        have HMA := Lib.hid hal
        clear hmo hal hnb
        go_upto_region 8 with (fail)
        clear hmk
        generalize (W3.alloc (.cells (madeCells #[.int .i64 0] (bs s2).size) 3)) = W4 at *
        have H1 : Hid (orgIn (bs s2).size nb W3 (.int .i64 (0 : Nat)) W4) := Lib.hid ⟨0, _, Nat.zero_le _, by simp, rfl, HMO.out, HMA.out⟩
        clear y0 y1
        go_wp2_with fail
        go_loopw [31] (fun v31 wx => orgIn (bs s2).size nb W3 v31 wx) (fun v31 _ => (bs s2).size - (intOf v31).toNat)
        case atStart => exact H1.out
        case round =>
          clear H1
          obtain ⟨j, L2, hj, hL2, rfl, hown, hbx⟩ := hrel
          have HOW := Lib.hid hown
          have HBX := Lib.hid hbx
          have HL2 := Lib.hid hL2
          clear hown hbx hL2
          have y0 := (HBX.out.cell (p := ⟨b9, 0, none⟩) HSZ3.out).trans (ZV.out.cell 0)
          have y1 := (HBX.out.cell (p := ⟨b9, 1, none⟩) HSZ3.out).trans (ZV.out.cell 1)
          simp only [qB, qC, qD] at y0 y1
          by_cases hjm : j < (bs s2).size
          · have k1 : (0 : Int) ≤ (j : Int) := by omega
            have k2 : (j : Int) < ((bs s2).size : Int) := by omega
            have k3 : decide ((j : Int) < ((bs s2).size : Int)) = true := decide_eq_true k2
            have o1 : wr.cell? ⟨nb, j, none⟩ = some (.int .i64 (L2[j]'(by rw [HL2.out]; exact hjm))) := own_cell1 HOW.out (by simp [hjm, HL2.out])
            have o2 := own_frozen1 HOW.out j
            have hne : b9 ≠ nb := by have := HSZ3.out; omega
            have hne2 : nb ≠ b9 := fun e => hne e.symm
            have HO2 := Lib.hid (own_set1 HOW.out hjm (.int .i64 x))
            have HBS := Lib.hid (HBX.out.setCell (p := ⟨nb, j, none⟩) (Nat.le_refl _) (.int .i64 x))
            go_upto_region 12 with (fail)
            by_cases hjs : j < (bs s).size
            · have m2 : (j : Int) < ((bs s).size : Int) := by omega
              have m3 : decide ((j : Int) < ((bs s).size : Int)) = true := decide_eq_true m2
              obtain ⟨c1, hc1⟩ : ∃ c, (bs s)[j]'hjs = c := ⟨_, rfl⟩
              obtain ⟨c2, hc2⟩ : ∃ c, (bs s2)[j]'hjm = c := ⟨_, rfl⟩
              obtain ⟨b7, o7, hbe, hb7, z7⟩ := RdIn_piece HRD3.out (k := j) (by rw [HLS.out, ← bs_size]; exact hjs)
              subst hbe
              have hb7n : b7 < nb := by rw [← HNB.out]; exact hb7
              replace z7 := (HBX.out.cell (p := ⟨b7, o7 + j, none⟩) hb7n).trans z7
              have e7 : b7 ≠ nb := by omega
              have e8 : nb ≠ b7 := by omega
              have HLJ := Lib.hid (show j < L.length by rw [HLS.out, ← bs_size]; exact hjs)
              have HLJV := Lib.hid (show ∃ y, L[j]'HLJ.out = y from ⟨_, rfl⟩)
              go_quiet (fail)
              go_wp2_with fail
              · refine ⟨⟨j + 1, (L2.set j x).set j (L[j]'HLJ.out), by omega, by rw [List.length_set, List.length_set]; exact HL2.out, by go_num, ?_, ?_⟩, by simp [intOf]; omega⟩
                · rw [List.map_set, List.map_set]
                  exact own_set1 (own_next HO2.out (below_drewN (Below.refl _ _) _)) hjm _
                · exact (below_drewN HBS.out _).setCell (p := ⟨nb, j, none⟩) (Nat.le_refl _) _
              · refine ⟨⟨j + 1, L2.set j x, by omega, by rw [List.length_set]; exact HL2.out, by go_num, ?_, below_drewN HBS.out _⟩, by simp [intOf]; omega⟩
                rw [List.map_set]
                exact own_next HO2.out (below_drewN (Below.refl _ _) _)
            · have m3 : decide ((j : Int) < ((bs s).size : Int)) = false := decide_eq_false (by omega)
              go_quiet (fail)
              go_wp2_with fail
              go_roundw
              case rel => exact ⟨j + 1, L2.set j x, by omega, by rw [List.length_set]; exact HL2.out, by go_num, by rw [List.map_set]; exact own_next HO2.out (below_drewN (Below.refl _ _) _), below_drewN HBS.out _⟩
              case measure => simp [intOf]; omega
          · have k3 : decide ((j : Int) < ((bs s2).size : Int)) = false := decide_eq_false (by omega)
            go_wp2_with fail
            go_quiet (fail)
            go_wp2_with fail
            go_roundw
            case rel =>
              refine ⟨k + 1, L2, s2, by omega, by go_num, RdP.drewN ?_ _, rfl, by rw [HL2.out, bs_size], HV6.out, ?_⟩
              · show Rd _ _ _ L2.length (L2.flatMap inC)
                rw [fm_in, HL2.out]
                exact Rd.of_own HOW.out
              · exact below_drewN (HB3.out.trans (HBX.out.mono (by rw [← HNB.out]; exact HB3.out.size))) _
            case measure => simp [intOf]; omega
    · have j3 : decide ((k : Int) < (vs.length : Int)) = false := decide_eq_false (by omega)
      go_wp2_with fail
      go_ret
      exact ⟨_, L, rfl, HRD.out, by rw [HLS.out]; exact HL6.out, HB2.out.trans (HBW.out.mono HB2.out.size)⟩
end Go.Proofs.YtamjllakfgphnaaGreatDoor
namespace Go.Proofs.YtamjllakfgphnaaGreatDoor
open Go.RowKit
attribute [local go_sem ↓] Go.wp_at_zero Go.wp_at_succ
theorem compact_snoc {κ : Type} [DecidableEq κ] : ∀ (l : List κ) (a b : κ), compact (l ++ [a, b]) = if a = b then compact (l ++ [a]) else compact (l ++ [a]) ++ [b]
  | [], a, b => by
    by_cases h : a = b <;> simp [compact, h]
  | [x], a, b => by
    by_cases h : a = b
    · subst h
      by_cases h2 : x = a <;> simp [compact, h2]
    · by_cases h2 : x = a
      · subst h2; simp [compact, h]
      · simp [compact, h, h2]
  | x :: y :: l, a, b => by
    have ih := compact_snoc (y :: l) a b
    simp only [List.cons_append] at ih ⊢
    rw [compact, ih]
    by_cases h : a = b
    · rw [if_pos h, if_pos h]
      exact (by rw [compact])
    · rw [if_neg h, if_neg h]
      conv => rhs; rw [compact]
      by_cases h2 : x = y
      · rw [if_pos h2, if_pos h2]
      · rw [if_neg h2, if_neg h2]; rfl
theorem compact_take {κ : Type} [DecidableEq κ] {l : List κ} {q : Nat} (h : q + 1 < l.length) : compact (l.take (q + 2)) = if l[q] = l[q + 1] then compact (l.take (q + 1)) else compact (l.take (q + 1)) ++ [l[q + 1]] := by
  have e1 : l.take (q + 1) = l.take q ++ [l[q]] := by rw [List.take_succ_eq_append_getElem]
  have e2 : l.take (q + 2) = l.take q ++ [l[q], l[q + 1]] := by rw [List.take_succ_eq_append_getElem (i := q + 1) h, e1, List.append_assoc]; rfl
  rw [e2, compact_snoc, e1]
theorem compact_small {κ : Type} [DecidableEq κ] {l : List κ} (h : l.length ≤ 1) : compact l = l := by
  match l, h with
  | [], _ => rfl
  | [a], _ => rfl
theorem own_put5 {w : World} {base g c n k : Nat} {L : List Nm} {x : Nm} (h : w.ownsRow base 26 5 (.slice (some ⟨g, 0, none⟩) n c) n (L.flatMap nmC)) (hk : k < L.length) :
    (((((w.setCell ⟨g, k * 5, none⟩ (.int .i64 x.kind)).setCell ⟨g, k * 5 + 1, none⟩ (.string (bs x.owner))).setCell ⟨g, k * 5 + 2, none⟩ (.int .i64 x.num)).setCell ⟨g, k * 5 + 3, none⟩ (.int .i64 x.idx)).setCell ⟨g, k * 5 + 4, none⟩ (.string (bs x.text))).ownsRow base 26 5 (.slice (some ⟨g, 0, none⟩) n c) n ((L.set k x).flatMap nmC) ∧
    w.grownBy (((((w.setCell ⟨g, k * 5, none⟩ (.int .i64 x.kind)).setCell ⟨g, k * 5 + 1, none⟩ (.string (bs x.owner))).setCell ⟨g, k * 5 + 2, none⟩ (.int .i64 x.num)).setCell ⟨g, k * 5 + 3, none⟩ (.int .i64 x.idx)).setCell ⟨g, k * 5 + 4, none⟩ (.string (bs x.text))) (some g) := by
  obtain ⟨y, hy⟩ : ∃ y, L[k] = y := ⟨_, rfl⟩
  have e0 : L = L.take k ++ y :: L.drop (k + 1) := by rw [← hy, List.getElem_cons_drop, List.take_append_drop]
  have e1 : L.flatMap nmC = ((L.take k).flatMap nmC) ++ [.int .i64 y.kind, .string (bs y.owner), .int .i64 y.num, .int .i64 y.idx, .string (bs y.text)] ++ ((L.drop (k + 1)).flatMap nmC) := by
    conv => lhs; rw [e0]
    simp [nmC]
  have e2 : (L.set k x).flatMap nmC = ((L.take k).flatMap nmC) ++ [.int .i64 x.kind, .string (bs x.owner), .int .i64 x.num, .int .i64 x.idx, .string (bs x.text)] ++ ((L.drop (k + 1)).flatMap nmC) := by
    rw [List.set_eq_take_append_cons_drop, if_pos hk]
    simp [nmC]
  have l1 : ((L.take k).flatMap nmC).length = k * 5 := by rw [fm_len nmC_len, List.length_take, Nat.min_eq_left (Nat.le_of_lt hk)]
  have a0 := h.stored (k * 5) (.int .i64 x.kind)
  have a1 := a0.1.stored (k * 5 + 1) (.string (bs x.owner))
  have a2 := a1.1.stored (k * 5 + 2) (.int .i64 x.num)
  have a3 := a2.1.stored (k * 5 + 3) (.int .i64 x.idx)
  have a4 := a3.1.stored (k * 5 + 4) (.string (bs x.text))
  refine ⟨?_, grown_trans a0.2 (grown_trans a1.2 (grown_trans a2.2 (grown_trans a3.2 a4.2)))⟩
  have := a4.1
  rw [e1, set5 _ _ _ l1, ← e2] at this
  exact this
theorem own_short {w : World} {base g c n m s : Nat} {e : TypeId} {xs : List Value} (h : w.ownsRow base e s (.slice (some ⟨g, 0, none⟩) n c) n xs) (hm : m ≤ n) : w.ownsRow base e s (.slice (some ⟨g, 0, none⟩) m c) m (xs.take (m * s)) := by
  have hms : m * s ≤ n * s := Nat.mul_le_mul_right _ hm
  obtain ⟨hl, ⟨h0, _⟩ | ⟨g', cap, cur, hv, hg, hh, h1, h2, h3, h4⟩⟩ := h
  · cases h0
  · injection hv with hv hn hc
    injection hv with hv
    injection hv with hv
    subst hv hc
    exact ⟨by rw [List.length_take, hl, Nat.min_eq_left hms], .inr ⟨g, c, cur, rfl, hg, hh, Nat.le_trans hm h1, h2, h3, by rw [← h4, List.take_take, Nat.min_eq_left hms]⟩⟩
theorem own_setCells {base g c n s p : Nat} {e : TypeId} : ∀ (L : List Value) (o : Nat) {w : World} {xs : List Value}, w.ownsRow base e s (.slice (some ⟨g, 0, none⟩) n c) n xs → p ≤ o →
    ∃ xs', xs'.take p = xs.take p ∧ (w.setCells g o L).ownsRow base e s (.slice (some ⟨g, 0, none⟩) n c) n xs' ∧ w.grownBy (w.setCells g o L) (some g)
  | [], o, w, xs, h, _ => ⟨xs, rfl, h, ⟨rfl, rfl, rfl, Nat.le_refl _, fun _ _ _ => rfl⟩⟩
  | v :: L, o, w, xs, h, hp => by
    have h1 := h.stored o v
    obtain ⟨xs', k1, k2, k3⟩ := own_setCells (p := p) L (o + 1) h1.1 (by omega)
    refine ⟨xs', k1.trans ?_, k2, grown_trans h1.2 k3⟩
    rw [List.take_set_of_le hp]
theorem zero_cells_len (z : Array Value) (n : Nat) : (Builtin.zeroCells z n).toList.length = n * z.size := by simp [Builtin.zeroCells]
theorem zero_cells_mem {z : Array Value} {n : Nat} {v : Value} (hz : 0 < z.size) (h : v ∈ (Builtin.zeroCells z n).toList) : v ∈ z.toList := by
  simp only [Builtin.zeroCells, Array.toList_map, List.mem_map] at h
  obtain ⟨i, _, rfl⟩ := h
  have hlt := Nat.mod_lt i hz
  rw [getElem!_pos z _ hlt]
  exact Array.getElem_mem_toList hlt
theorem run_clear_own {w : World} {P : Program} (t e ty : TypeId) (z : Value) (ht : P.underlying t = some (.slice e)) (hv : ∀ w, (zeroValue e).run P w = .ok z w) {s : Nat} (hs : z.cells.size = s) (hs0 : 0 < s) (h1 : ∀ v ∈ z.cells.toList, v.oneCell' = true) {base g n c k c' : Nat} {xs : List Value}
    (h : w.ownsRow base e s (.slice (some ⟨g, 0, none⟩) n c) n xs) (hk : k < n) :
    (Builtin.clear_ #[t] ty #[.slice (some ⟨g, k * s, none⟩) (n - k) c']).run P w = .ok (.tuple #[]) (w.setCells g (k * s) (Builtin.zeroCells z.cells (n - k)).toList) := by
  have hlen : (Builtin.zeroCells z.cells (n - k)).toList.length = (n - k) * s := by rw [zero_cells_len, hs]
  have hst := run_storeCells_cells (P := P) g (k * s) (Builtin.zeroCells z.cells (n - k)).toList 0 w (fun j hj => by
      rw [hlen] at hj
      have hlt : k * s + 0 + j < n * s := by
        rw [Nat.sub_mul] at hj
        have := Nat.mul_le_mul_right s (Nat.le_of_lt hk)
        omega
      rw [h.cellAt _ hlt, List.getElem?_eq_getElem (by rw [h.1]; exact hlt)]
      rfl) (fun j hj => h.frozenAt _) (fun v hv => h1 v (zero_cells_mem (by rw [hs]; exact hs0) hv))
  simp only [Nat.add_zero] at hst
  obtain ⟨m, hm⟩ : ∃ m, n - k = m + 1 := ⟨n - k - 1, by omega⟩
  rw [hm] at hst ⊢
  simp [Builtin.clear_, run_underlying ht, hv, hst]
theorem own_five {w : World} {base g c n i o : Nat} {L : List Nm} {x : Nm} (h : w.ownsRow base 26 5 (.slice (some ⟨g, 0, none⟩) n c) n (L.flatMap nmC)) (hi : i < L.length) (hx : L[i] = x) (ho : o = i * 5) :
    w.cell? ⟨g, o, none⟩ = some (.int .i64 x.kind) ∧ w.cell? ⟨g, o + 1, none⟩ = some (.string (bs x.owner)) ∧ w.cell? ⟨g, o + 2, none⟩ = some (.int .i64 x.num) ∧ w.cell? ⟨g, o + 3, none⟩ = some (.int .i64 x.idx) ∧ w.cell? ⟨g, o + 4, none⟩ = some (.string (bs x.text)) := by
  subst ho
  have hc := own_cells nmC_len h hi hx
  exact ⟨hc 0 _ rfl, hc 1 _ rfl, hc 2 _ rfl, hc 3 _ rfl, hc 4 _ rfl⟩
theorem fm_take5 {α : Type} {f : α → List Value} {s : Nat} (hf : ∀ x, (f x).length = s) (L : List α) {k : Nat} (hk : k ≤ L.length) : (L.flatMap f).take (k * s) = (L.take k).flatMap f := by
  have e : L.flatMap f = (L.take k).flatMap f ++ (L.drop k).flatMap f := by rw [← List.flatMap_append, List.take_append_drop]
  have hl : ((L.take k).flatMap f).length = k * s := by rw [fm_len hf, List.length_take, Nat.min_eq_left hk]
  rw [e, List.take_append_of_le_length (by omega), List.take_of_length_le (by omega)]
theorem zeroNm (w : World) : (zeroValue 26).run Tryz.prog w = .ok (.agg #[.int .i64 0, .string ⟨#[]⟩, .int .i64 0, .int .i64 0, .string ⟨#[]⟩]) w := by kernel_rfl
def CmpP (base g : Nat) (l : List Nm) (w : World) (e : Ending) (w' : World) : Prop := ∃ v', e = .returned v' ∧ w'.ownsRow base 26 5 v' (compact l).length ((compact l).flatMap nmC) ∧ w.grownBy w' (some g)
def CmpIn (base g c : Nat) (l : List Nm) (q : Nat) (w : World) (i3 i5 : Value) (wr : World) : Prop :=
  ∃ (kk k2 : Nat) (L : List Nm), i3 = .int .i64 kk ∧ i5 = .int .i64 k2 ∧ 1 ≤ k2 ∧ q + 1 + k2 ≤ l.length ∧ kk ≤ q + k2 ∧ L.length = l.length ∧ L.take kk = compact (l.take (q + 1 + k2)) ∧ L.drop (q + k2) = l.drop (q + k2) ∧
    wr.ownsRow base 26 5 (.slice (some ⟨g, 0, none⟩) l.length c) l.length (L.flatMap nmC) ∧ w.grownBy wr (some g)
theorem drop_at {α : Type} {L l : List α} {a i : Nat} (h : L.drop a = l.drop a) (hl : L.length = l.length) (ha : a ≤ i) (hi : i < l.length) : L[i]'(by rw [hl]; exact hi) = l[i] := by
  have h1 : L[i]? = l[i]? := by
    have := congrArg (fun x => x[i - a]?) h
    simp only [List.getElem?_drop] at this
    rw [show a + (i - a) = i by omega] at this
    exact this
  rw [List.getElem?_eq_getElem hi, List.getElem?_eq_getElem (by rw [hl]; exact hi)] at h1
  exact Option.some.inj h1
set_option maxRecDepth 100000 in
set_option maxHeartbeats 4000000 in
theorem compact2_is {w : World} {base g c : Nat} {l : List Nm} (h : w.ownsRow base 26 5 (.slice (some ⟨g, 0, none⟩) l.length c) l.length (l.flatMap nmC)) (hl : l.length ≤ 1000) (hb : base ≤ w.heap.size) :
    Calls Tryz.prog 98 #[.slice (some ⟨g, 0, none⟩) l.length c] w (CmpP base g l w) := by
  obtain ⟨hlc, hcm⟩ : l.length ≤ c ∧ c ≤ maxLen := by
    obtain ⟨_, ⟨h0, _⟩ | ⟨g', cap, cur, hv, _, _, h1, h2, _⟩⟩ := id h
    · cases h0
    · injection hv with _ _ hc; subst hc; exact ⟨h1, h2⟩
  have H := Lib.hid h
  have HBS := Lib.hid hb
  clear h hb
  have hgd := guardNm
  by_cases h2 : l.length < 2
  · have hc2 : Hid (compact l = l) := Lib.hid (compact_small (by omega))
    go_enter Tryz.func98, Tryz.ntmps98
    go_wp2
    go_ret
    exact ⟨_, rfl, by rw [hc2.out]; exact H.out, ⟨rfl, rfl, rfl, Nat.le_refl _, fun _ _ _ => rfl⟩⟩
  · have H0 : Hid (∃ (k m : Nat), Value.int .i64 1 = .int .i64 k ∧ 1 ≤ k ∧ k ≤ l.length ∧ w = w.drewN m ∧ compact (l.take k) = l.take k) := Lib.hid ⟨1, 0, rfl, Nat.le_refl _, by omega, rfl, compact_small (by simp; omega)⟩
    go_enter Tryz.func98, Tryz.ntmps98
    go_wp2
    go_loopw [3] (fun i wr => ∃ (k m : Nat), i = .int .i64 k ∧ 1 ≤ k ∧ k ≤ l.length ∧ wr = w.drewN m ∧ compact (l.take k) = l.take k) (fun i _ => l.length - (intOf i).toNat)
    case atStart => exact H0.out
    case round =>
      clear H0
      obtain ⟨k, m, rfl, hk1, hk, hw, hct⟩ := hrel
      have HW := Lib.hid hw
      have HCT := Lib.hid hct
      have HR := Lib.hid (show wr.ownsRow base 26 5 (.slice (some ⟨g, 0, none⟩) l.length c) l.length (l.flatMap nmC) by rw [hw]; exact own_next H.out (below_drewN (Below.refl _ _) m))
      clear hw hct
      by_cases hlt : k < l.length
      · obtain ⟨q, rfl⟩ : ∃ q, k = q + 1 := ⟨k - 1, by omega⟩
        obtain ⟨x, hx⟩ : ∃ x, l[q + 1] = x := ⟨_, rfl⟩
        obtain ⟨y, hy⟩ : ∃ y, l[q]'(by omega) = y := ⟨_, rfl⟩
        obtain ⟨x0, x1, x2, x3, x4⟩ := own_five HR.out hlt hx rfl
        obtain ⟨y0, y1, y2, y3, y4⟩ := own_five HR.out (i := q) (by omega) hy rfl
        have HX := Lib.hid hx
        have HY := Lib.hid hy
        have HCS := Lib.hid (compact_take hlt)
        have i1 : (0 : Int) ≤ (q : Int) + 1 := by omega
        have i2 : (q : Int) + 1 < (l.length : Int) := by omega
        have i3 : (0 : Int) ≤ (q : Int) := by omega
        have i4 : (q : Int) < (l.length : Int) := by omega
        have ew : IntKind.i64.wrap (q : Int) = (q : Int) := IntWalk.i64_in _ (by omega)
        rw [show ((q + 1 : Nat) : Int) = (q : Int) + 1 by omega]
        clear hx hy
        by_cases hxy : x = y
        · have he := fun W => eqlNm x y true (by simp [hxy]) W
          unfold nmV nmA at he
          have HXY := Lib.hid hxy
          clear hxy
          go_wp2_with fail
          go_quiet (fail)
          clear x0 x1 x2 x3 x4 y0 y1 y2 y3 y4 ew he
          have HR2 := Lib.hid (own_next HR.out (below_drewN (Below.refl _ _) nq))
          have HG2 := Lib.hid (show w.grownBy (wr.drewN nq) (some g) by rw [HW.out, World.drewN_drewN]; exact ⟨rfl, rfl, rfl, Nat.le_refl _, fun _ _ _ => rfl⟩)
          have H1 : Hid (CmpIn base g c l q w (.int .i64 ((q : Int) + 1)) (.int .i64 1) (wr.drewN nq)) := Lib.hid ⟨q + 1, 1, l, by go_num, by go_num, Nat.le_refl _, by omega, Nat.le_refl _, rfl, by
            rw [show q + 1 + 1 = q + 2 from rfl, HCS.out, if_pos (by rw [HX.out, HY.out]; exact HXY.out.symm)]; exact HCT.out.symm, rfl, HR2.out, HG2.out⟩
          generalize World.drewN wr nq = w2 at *
          go_wp2_with fail
          go_loopw [3, 5] (fun i3 i5 wr => CmpIn base g c l q w i3 i5 wr) (fun i3 i5 _ => l.length - (intOf i5).toNat)
          case atStart => exact H1.out
          case round =>
            clear H1
            obtain ⟨kk, k2, L, rfl, rfl, hk2, hjn, hkk, hLl, hLt, hLd, hown, hgr⟩ := hrel
            have HOW := Lib.hid hown
            have HGR := Lib.hid hgr
            have HLT := Lib.hid hLt
            have HLD := Lib.hid hLd
            clear hown hgr hLt hLd
            obtain ⟨n1, hn1⟩ : ∃ n1, l.length - (q + 1) = n1 := ⟨_, rfl⟩
            obtain ⟨c1, hc1⟩ : ∃ c1, c - (q + 1) = c1 := ⟨_, rfl⟩
            rw [hn1, hc1]
            by_cases hj : q + 1 + k2 < l.length
            · obtain ⟨m2, rfl⟩ : ∃ m, k2 = m + 1 := ⟨k2 - 1, by omega⟩
              obtain ⟨a, ha⟩ : ∃ a, l[q + 1 + m2 + 1]'(by omega) = a := ⟨_, rfl⟩
              obtain ⟨b, hb⟩ : ∃ b, l[q + 1 + m2]'(by omega) = b := ⟨_, rfl⟩
              obtain ⟨z0, z1, z2, z3, z4⟩ := own_five HOW.out (i := q + 1 + m2 + 1) (o := (q + 1) * 5 + (m2 + 1) * 5) (by omega) ((drop_at HLD.out hLl (by omega) (by omega)).trans ha) (by omega)
              obtain ⟨v0, v1, v2, v3, v4⟩ := own_five HOW.out (i := q + 1 + m2) (o := (q + 1) * 5 + m2 * 5) (by omega) ((drop_at HLD.out hLl (by omega) (by omega)).trans hb) (by omega)
              have HA := Lib.hid ha
              have HB := Lib.hid hb
              have HCN := Lib.hid (compact_take (l := l) (q := q + 1 + m2) (by omega))
              have j1 : (0 : Int) ≤ (m2 : Int) + 1 := by omega
              have j2 : (m2 : Int) + 1 < (n1 : Int) := by omega
              have j3 : (0 : Int) ≤ (m2 : Int) := by omega
              have j4 : (m2 : Int) < (n1 : Int) := by omega
              have j5 : decide ((m2 : Int) + 1 < (n1 : Int)) = true := decide_eq_true j2
              have jw : IntKind.i64.wrap (m2 : Int) = (m2 : Int) := IntWalk.i64_in _ (by omega)
              have HN1 := Lib.hid hn1
              have HJ := Lib.hid hj
              have HJN := Lib.hid hjn
              have HLD2 : Hid (L.drop (q + (m2 + 1 + 1)) = l.drop (q + (m2 + 1 + 1))) := Lib.hid (by
                have := congrArg (List.drop 1) HLD.out
                rw [List.drop_drop, List.drop_drop] at this
                exact this)
              rw [show ((m2 + 1 : Nat) : Int) = (m2 : Int) + 1 by omega]
              clear ha hb hn1 hc1
              by_cases hab : a = b
              · have he := fun W => neqNm a b true (by simp [hab]) W
                unfold nmV nmA at he
                have HAB := Lib.hid hab
                clear hab
                go_wp2_with fail
                go_quiet (fail)
                clear z0 z1 z2 z3 z4 v0 v1 v2 v3 v4 jw he
                have HO3 := Lib.hid (own_next HOW.out (below_drewN (Below.refl _ _) nq))
                have HG3 := Lib.hid (grown_trans HGR.out (show wr.grownBy (wr.drewN nq) (some g) from ⟨rfl, rfl, rfl, Nat.le_refl _, fun _ _ _ => rfl⟩))
                generalize World.drewN wr nq = w3 at *
                go_wp2_with fail
                go_roundw
                case rel =>
                  have := HJ.out
                  exact ⟨kk, m2 + 1 + 1, L, rfl, by go_num, by omega, by omega, by omega, hLl, by
                    rw [HLT.out, show q + 1 + (m2 + 1 + 1) = q + 1 + m2 + 2 by omega, HCN.out, if_pos (by rw [HA.out, HB.out]; exact HAB.out.symm)]; rfl, HLD2.out, HO3.out, HG3.out⟩
                case measure => have := HJ.out; simp [intOf]; omega
              · have he := fun W => neqNm a b false (by simp [hab]) W
                unfold nmV nmA at he
                have HAB := Lib.hid hab
                clear hab
                have hkl : kk < L.length := by omega
                have HKL := Lib.hid hkl
                go_wp2_with fail
                go_quiet (fail)
                have HO3 := Lib.hid (own_next HOW.out (below_drewN (Below.refl _ _) nq))
                have HG3 := Lib.hid (grown_trans HGR.out (show wr.grownBy (wr.drewN nq) (some g) from ⟨rfl, rfl, rfl, Nat.le_refl _, fun _ _ _ => rfl⟩))
                generalize World.drewN wr nq = w3 at *
                obtain ⟨t0, t1, t2, t3, t4⟩ := own_five HO3.out hkl rfl rfl
                have f0 := own_frozen HO3.out (kk * 5)
                have f1 := own_frozen HO3.out (kk * 5 + 1)
                have f2 := own_frozen HO3.out (kk * 5 + 2)
                have f3 := own_frozen HO3.out (kk * 5 + 3)
                have f4 := own_frozen HO3.out (kk * 5 + 4)
                clear z0 z1 z2 z3 z4 v0 v1 v2 v3 v4 jw he
                obtain ⟨z0, z1, z2, z3, z4⟩ := own_five HO3.out (i := q + 1 + m2 + 1) (o := (q + 1) * 5 + (m2 + 1) * 5) (by omega) ((drop_at HLD.out hLl (by omega) (by omega)).trans HA.out) (by omega)
                have k1 : (0 : Int) ≤ (kk : Int) := by omega
                have k2' : (kk : Int) < (l.length : Int) := by omega
                skip
                go_upto_region 13 with (fail)
                obtain ⟨ho4, hg4⟩ := own_put5 (x := a) HO3.out HKL.out
                have HO4 := Lib.hid ho4
                have HG4 := Lib.hid (grown_trans HG3.out hg4)
                clear ho4 hg4 t0 t1 t2 t3 t4 f0 f1 f2 f3 f4 z0 z1 z2 z3 z4
                generalize (((((w3.setCell ⟨g, kk * 5, none⟩ (.int .i64 a.kind)).setCell ⟨g, kk * 5 + 1, none⟩ (.string (bs a.owner))).setCell ⟨g, kk * 5 + 2, none⟩ (.int .i64 a.num)).setCell ⟨g, kk * 5 + 3, none⟩ (.int .i64 a.idx)).setCell ⟨g, kk * 5 + 4, none⟩ (.string (bs a.text))) = w4 at *
                go_wp2_with fail
                go_roundw
                case rel =>
                  have hj := HJ.out
                  have hjn := HJN.out
                  have hkl := HKL.out
                  exact ⟨kk + 1, m2 + 1 + 1, L.set kk a, by go_num, by go_num, by omega, by omega, by omega, by simpa using hLl, by
                    rw [show q + 1 + (m2 + 1 + 1) = q + 1 + m2 + 2 by omega, HCN.out, if_neg (by rw [HA.out, HB.out]; exact fun e => HAB.out e.symm), HA.out, List.take_succ_eq_append_getElem (by simpa using hkl), List.take_set_of_le (Nat.le_refl _), List.getElem_set_self, HLT.out]; rfl, by
                    rw [List.drop_set_of_lt (by omega)]; exact HLD2.out, HO4.out, HG4.out⟩
                case measure => have := HJ.out; simp [intOf]; omega
            · have HTK : Hid (L.take kk = compact l) := Lib.hid (by rw [HLT.out, List.take_of_length_le (by omega)])
              have HKK : Hid (kk = (compact l).length) := Lib.hid (by rw [← HTK.out, List.length_take, Nat.min_eq_left (by omega)])
              have hkn : kk < l.length := by omega
              have HKN := Lib.hid hkn
              have j5 : decide ((k2 : Int) < (n1 : Int)) = false := decide_eq_false (by omega)
              have k1 : (0 : Int) ≤ (kk : Int) := by omega
              have k2' : (kk : Int) ≤ (l.length : Int) := by omega
              have k3 : (kk : Int) ≤ (c : Int) := by omega
              have hcl := fun ty c' => run_clear_own (P := Tryz.prog) 94 26 ty (c' := c') _ Tryz.underlying94 zeroNm (s := 5) rfl (by omega) (by simp [Value.cells, Value.oneCell']) HOW.out hkn
              go_wp2_with fail
              obtain ⟨xs', h1, h2', h3⟩ := own_setCells (p := kk * 5) (Builtin.zeroCells (Value.agg #[.int .i64 0, .string ⟨#[]⟩, .int .i64 0, .int .i64 0, .string ⟨#[]⟩]).cells (l.length - kk)).toList (kk * 5) HOW.out (Nat.le_refl _)
              have HS := Lib.hid (own_short h2' (Nat.le_of_lt hkn))
              rw [h1, fm_take5 nmC_len L (by omega), HTK.out] at HS
              have HG4 := Lib.hid (grown_trans HGR.out h3)
              go_ret
              exact ⟨_, rfl, by rw [← HKK.out]; exact HS.out, HG4.out⟩
        · have he := fun W => eqlNm x y false (by simp [hxy]) W
          unfold nmV nmA at he
          have HXY := Lib.hid hxy
          clear hxy
          go_wp2_with fail
          go_quiet (fail)
          clear x0 x1 x2 x3 x4 y0 y1 y2 y3 y4 ew he
          have HW2 := Lib.hid (show World.drewN wr nq = w.drewN (m + nq) by rw [HW.out, World.drewN_drewN])
          generalize World.drewN wr nq = w2 at *
          go_wp2
          go_roundw
          case rel => exact ⟨q + 1 + 1, m + nq, by go_num, by omega, by omega, HW2.out, by
            rw [show q + 1 + 1 = q + 2 from rfl, HCS.out, if_neg (by rw [HX.out, HY.out]; exact fun e => HXY.out e.symm), HCT.out, List.take_succ_eq_append_getElem (i := q + 1) hlt]⟩
          case measure => simp [intOf]; omega
      · obtain rfl : k = l.length := by omega
        have hcl : Hid (compact l = l) := Lib.hid (by have := HCT.out; rw [List.take_length] at this; exact this)
        go_wp2
        go_ret
        exact ⟨_, rfl, by rw [hcl.out]; exact HR.out, by rw [HW.out]; exact ⟨rfl, rfl, rfl, Nat.le_refl _, fun _ _ _ => rfl⟩⟩
set_option maxRecDepth 100000 in
set_option maxHeartbeats 2000000 in
theorem sort2_is {w : World} {v : Value} {l : List Nm} (h : RdNm w v l) (hl : l.length ≤ 12) (ho : ∀ a ∈ l, OwnE a) : Calls Tryz.prog 79 #[v] w (SortP l w) := by
  have HC := Lib.hid (cloneNm h (fm_len nmC_len l) (nm_one l) (by omega))
  have HO := Lib.hid ho
  clear h ho
  go_enter Tryz.func79, Tryz.ntmps79
  go_wp2_with fail
  refine HC.out.mono ?_
  rintro e w2 ⟨v2, rfl, hown, hb⟩
  have HB := Lib.hid hb
  have hbs := hb.size
  clear hb
  go_wp2_with fail
  refine (sortfunc_is hown rfl hl HO.out hbs).mono ?_
  rintro e w3 ⟨rfl, l', hp, hw, hown3, hg⟩
  have HL' := Lib.hid hp.length_eq
  have HS := Lib.hid (compact_sortU ordN HO.out hp hw)
  have HB3 := Lib.hid (below_own HB.out hown hg (Nat.le_refl _) hbs)
  have hbs3 : w.heap.size ≤ w3.heap.size := HB3.out.size
  rw [← HL'.out] at hown3
  have HR := Lib.hid hown3
  obtain ⟨hlen, ⟨rfl, h1⟩ | ⟨g, cap, cur, rfl, _⟩⟩ := id hown3
  · have hn : l' = [] := List.eq_nil_of_length_eq_zero h1
    have HN := Lib.hid hn
    clear hown hown3 hg hp hw
    go_wp2_with fail
    refine (compact_is (l := l') (Rd.of_own HR.out) (by rw [HN.out]; exact Nat.zero_le _) (by rw [HN.out]; exact List.nodup_nil)).mono ?_
    rintro e w4 ⟨rfl, m, rfl⟩
    go_wp2
    go_ret
    have e : sortU cmpN l = l' := by rw [← HS.out, HN.out]; rfl
    exact ⟨_, rfl, by rw [e]; exact own_next HR.out (below_drewN (Below.refl _ _) m), below_drewN HB3.out m⟩
  · have hl3 : l'.length ≤ 1000 := by rw [HL'.out]; omega
    have HC2 := Lib.hid (compact2_is (l := l') hown3 hl3 hbs3)
    clear hown hown3 hg hp hw
    go_wp2_with fail
    refine HC2.out.mono ?_
    rintro e w4 ⟨v4, rfl, hown4, hg4⟩
    rw [HS.out] at hown4
    have HR4 := Lib.hid hown4
    have HB4 := Lib.hid (below_own HB3.out HR.out hg4 (Nat.le_refl _) hbs3)
    clear hown4 hg4
    go_wp2
    go_ret
    exact ⟨_, rfl, HR4.out, HB4.out⟩
end Go.Proofs.YtamjllakfgphnaaGreatDoor
namespace Go.Proofs.YtamjllakfgphnaaGreatDoor
open Go.RowKit Go.Shelf
attribute [local go_sem] Oper.semAt_some
def NNd (w : World) (x : Option Addr) (q : Nm × Bs) : Prop := ∃ b pl pr h s y, x = some ⟨b, 0, none⟩ ∧ NdAt w b pl pr q.1 q.2 h s y
theorem NNd.next {w w' : World} (hb : Below w.heap.size w w') {x : Option Addr} {q : Nm × Bs} (h : NNd w x q) : NNd w' x q := by
  obtain ⟨b, pl, pr, h, s, y, e, hn⟩ := h
  exact ⟨b, pl, pr, h, s, y, e, Blk.next hn hb hn.lt⟩
def TrL (w : World) : Option Addr → T46 → List (Option Addr) → Prop
  | p, .nil, xs => p = none ∧ xs = []
  | p, .node l k v r, xs => ∃ b pl pr xl xr, p = some ⟨b, 0, none⟩ ∧ NdAt w b pl pr k v (Tr.ht (.node l k v r)) (Tr.sz (.node l k v r)) (byT (.node l k v r)) ∧ TrL w pl l xl ∧ TrL w pr r xr ∧ xs = xl ++ p :: xr
theorem trl_of {w : World} : ∀ {t : T46} {p : Option Addr}, TrAt w p t → ∃ xs, TrL w p t xs
  | .nil, p, h => ⟨[], h, rfl⟩
  | .node l k v r, p, ⟨b, pl, pr, e, hn, hl, hr⟩ => by
    obtain ⟨xl, h1⟩ := trl_of hl
    obtain ⟨xr, h2⟩ := trl_of hr
    exact ⟨_, b, pl, pr, xl, xr, e, hn, h1, h2, rfl⟩
theorem TrL.len {w : World} : ∀ {t : T46} {p : Option Addr} {xs : List (Option Addr)}, TrL w p t xs → xs.length = t.sz
  | .nil, p, xs, h => by rw [h.2]; rfl
  | .node l k v r, p, xs, ⟨b, pl, pr, xl, xr, e, hn, hl, hr, hx⟩ => by
    have h1 := TrL.len hl
    have h2 := TrL.len hr
    rw [hx]
    simp only [List.length_append, List.length_cons, Tr.sz]
    omega
theorem rowW_append {α β : Type} {N : World → β → α → Prop} {w : World} {l1 l2 : List α} {v1 v2 : List β} (h1 : RowW N w l1 v1) (h2 : RowW N w l2 v2) : RowW N w (l1 ++ l2) (v1 ++ v2) := by
  refine ⟨by simp [h1.1, h2.1], fun i x v e1 e2 => ?_⟩
  by_cases hi : i < l1.length
  · rw [List.getElem?_append_left hi] at e1
    rw [List.getElem?_append_left (by rw [h1.1]; exact hi)] at e2
    exact h1.2 i x v e1 e2
  · rw [List.getElem?_append_right (by omega)] at e1
    rw [List.getElem?_append_right (by rw [h1.1]; omega), h1.1] at e2
    exact h2.2 _ x v e1 e2
theorem TrL.row {w : World} : ∀ {t : T46} {p : Option Addr} {xs : List (Option Addr)}, TrL w p t xs → RowW NNd w t.flat xs
  | .nil, p, xs, h => by rw [h.2]; exact RowW.nil _ _
  | .node l k v r, p, xs, ⟨b, pl, pr, xl, xr, e, hn, hl, hr, hx⟩ => by
    rw [hx]
    have h1 := TrL.row hl
    have h2 := TrL.row hr
    have h3 : RowW NNd w [(k, v)] [p] := by
      refine ⟨rfl, fun i x v' e1 e2 => ?_⟩
      cases i with
      | zero =>
        simp at e1 e2
        subst e1 e2
        exact ⟨b, pl, pr, _, _, _, e, hn⟩
      | succ i => simp at e1
    exact rowW_append h1 (rowW_append h3 h2)
set_option maxRecDepth 100000 in
set_option maxHeartbeats 1000000 in
theorem nodes_in (F : Fence) (n : Nat) (h4 : F.fn 141) (hro : F.round = none) (p0 : Option Addr) (w : World) :
    CallsIn F n Tryz.prog 141 #[.pointer p0] w fun e w' => e = .returned (.func (.func 186) #[] #[.pointer (some ⟨w.heap.size, 0, none⟩)]) ∧ w' = w.alloc (.cells #[.pointer p0] 44) := by
  refine callsIn_of_wp Tryz.func141 rfl h4 ?_ hro
  simp only [Tryz.ntmps141, List.size_toArray, List.length_cons, List.length_nil, Nat.reduceAdd, Nat.reduceSub, Array.replicate_succ, Array.replicate_zero, List.push_toArray, List.append_toArray, List.nil_append, List.cons_append]
  gi_wp2
  go_ret
  exact ⟨rfl, rfl⟩
set_option maxRecDepth 100000 in
set_option maxHeartbeats 2000000 in
theorem each2_in {α : Type} (en : α → Option Addr) (F : Fence) (hd : F.depth = none) (h6 : F.fn 187) (hro : F.round = none) (l N : Nat) (w0 : World) (J Jx : List α → World → Prop)
    (hY : ∀ m pre x W, J pre W → pre.length < N → YieldAt F m Tryz.prog l #[.pointer (en x)] W fun e W' =>
      (e = .returned (.bool true) ∧ J (pre ++ [x]) W' ∧ Below w0.heap.size W W') ∨ (e = .returned (.bool false) ∧ Jx (pre ++ [x]) W')) (T : T46) :
    ∀ (n : Nat) (p : Option Addr) (pre ys : List α) (W : World), TrL w0 p T (ys.map en) → Below w0.heap.size w0 W → J pre W → pre.length + ys.length ≤ N →
      CallsIn F n Tryz.prog 187 #[.pointer p, .func (.yield l) #[] #[]] W fun e W' =>
        (e = .returned (.bool true) ∧ J (pre ++ ys) W' ∧ Below w0.heap.size W W') ∨ (e = .returned (.bool false) ∧ ∃ q, q <+: ys ∧ Jx (pre ++ q) W') := by
  induction T with
  | nil =>
    intro n p pre ys W ht hB hJ _
    obtain ⟨rfl, hys⟩ := ht
    obtain rfl : ys = [] := by simpa using hys
    clear hys
    refine callsIn_of_wp Tryz.func187 rfl h6 ?_ hro
    simp only [Tryz.ntmps187, List.size_toArray, List.length_cons, List.length_nil, Nat.reduceAdd, Nat.reduceSub, Array.replicate_succ, Array.replicate_zero, List.push_toArray, List.append_toArray, List.nil_append, List.cons_append]
    gi_wp2
    all_goals first
      | (exfalso; have hbad : ∃ b, some undef = some (Value.bool b) := ⟨_, by assumption⟩; obtain ⟨b, hbad⟩ := hbad; simp [undef] at hbad; done)
      | (refine ⟨fun _ h => (by cases h), ?_⟩; gi_wp2; go_ret; exact .inl ⟨rfl, by simpa using hJ, Below.refl _ _⟩)
  | node tl k v tr ihl ihr =>
    intro n p pre ys W ht hB hJ hN
    obtain ⟨b, pl, pr, xl0, xr0, rfl, hnd, hl, hr, hys⟩ := ht
    obtain ⟨xl, ym, rfl, rfl, hym⟩ := List.map_eq_append_iff.1 hys
    obtain ⟨yn, xr, rfl, hyn, rfl⟩ := List.map_eq_cons_iff.1 hym
    clear hys hym
    have hb : b < w0.heap.size := hnd.lt
    have hdd : ∀ k : Nat, (F.depth.isSome = true → 1 ≤ k) := fun k h => by rw [hd] at h; cases h
    simp only [List.length_append, List.length_cons] at hN
    have n0 : w0.cell? ⟨b, 0, none⟩ = some (.pointer pl) := hnd.cell 0
    have n1 : w0.cell? ⟨b, 1, none⟩ = some (.pointer pr) := hnd.cell 1
    have c0 := (hB.cell (p := ⟨b, 0, none⟩) hb).trans n0
    have hY' : ∀ m pre W, J pre W → pre.length < N → YieldAt F m Tryz.prog l #[.pointer (some ⟨b, 0, none⟩)] W fun e W' =>
        (e = .returned (.bool true) ∧ J (pre ++ [yn]) W' ∧ Below w0.heap.size W W') ∨ (e = .returned (.bool false) ∧ Jx (pre ++ [yn]) W') := by
      intro m pre W h1 h2
      have h3 := hY m pre yn W h1 h2
      rw [hyn] at h3
      exact h3
    have hy2 : ∀ W1, J (pre ++ xl) W1 → Below w0.heap.size W W1 → YieldAt F (n - 1) Tryz.prog l #[.pointer (some ⟨b, 0, none⟩)] W1 fun e W2 =>
        (e = .returned (.bool true) ∧ J (pre ++ xl ++ [yn]) W2 ∧ Below w0.heap.size W W2 ∧ W2.cell? ⟨b, 1, none⟩ = some (.pointer pr) ∧ Below w0.heap.size w0 W2) ∨ (e = .returned (.bool false) ∧ Jx (pre ++ xl ++ [yn]) W2) := fun W1 hJ1 hb1 =>
      YieldAt.mono (hY' (n - 1) _ W1 hJ1 (by simp; omega)) fun e W2 h => h.elim
        (fun ⟨he, hj, hb2⟩ => .inl ⟨he, hj, hb1.trans hb2, ((hB.trans (hb1.trans hb2)).cell (p := ⟨b, 1, none⟩) hb).trans n1, hB.trans (hb1.trans hb2)⟩) .inr
    have ih1 := (ihl (n - 1) pl pre xl W hl hB hJ (by omega)).mono (R' := fun e W1 =>
        (e = .returned (.bool true) ∧ YieldAt F (n - 1) Tryz.prog l #[.pointer (some ⟨b, 0, none⟩)] W1 fun e W2 =>
          (e = .returned (.bool true) ∧ J (pre ++ xl ++ [yn]) W2 ∧ Below w0.heap.size W W2 ∧ W2.cell? ⟨b, 1, none⟩ = some (.pointer pr) ∧ Below w0.heap.size w0 W2) ∨ (e = .returned (.bool false) ∧ Jx (pre ++ xl ++ [yn]) W2)) ∨
        (e = .returned (.bool false) ∧ ∃ q, q <+: xl ∧ Jx (pre ++ q) W1))
      (fun e W1 h => h.elim (fun ⟨he, hj, hb1⟩ => .inl ⟨he, hy2 W1 hj hb1⟩) .inr)
    clear hy2 ihl
    refine callsIn_of_wp Tryz.func187 rfl h6 ?_ hro
    simp only [Tryz.ntmps187, List.size_toArray, List.length_cons, List.length_nil, Nat.reduceAdd, Nat.reduceSub, Array.replicate_succ, Array.replicate_zero, List.push_toArray, List.append_toArray, List.nil_append, List.cons_append]
    gi_wp2_with (first
      | ((try refine ⟨hdd _, ?_⟩); gi_at_call 187; refine ih1.mono ?_; clear ih1; rintro e W1 (⟨rfl, fn, tmps, assign, body, hy, hR⟩ | ⟨rfl, q, hq, hx1⟩))
      | ((try refine ⟨hdd _, ?_⟩); refine hR.mono ?_; clear hR; rintro e W2 (⟨rfl, hJ2, hb2, c2', hB2⟩ | ⟨rfl, hx2⟩))
      | ((try refine ⟨hdd _, ?_⟩); gi_at_call 187; refine (ihr (n - 1) pr _ xr _ hr hB2 hJ2 (by simp; omega)).mono ?_; rintro e W3 (⟨rfl, hJ3, hb3⟩ | ⟨rfl, q, hq, hx3⟩)))
    · go_ret
      exact .inl ⟨rfl, by simpa [List.append_assoc] using hJ3, hb2.trans hb3⟩
    · go_ret
      obtain ⟨r, hr'⟩ := hq
      exact .inr ⟨rfl, xl ++ yn :: q, ⟨r, by simp [← hr']⟩, by simpa [List.append_assoc] using hx3⟩
    · go_ret
      exact .inr ⟨rfl, xl ++ [yn], ⟨xr, by simp⟩, by simpa [List.append_assoc] using hx2⟩
    · refine ⟨fun _ h => (by cases h), ?_⟩
      gi_wp2
      go_ret
      exact .inr ⟨rfl, q, hq.trans (by simp), hx1⟩
set_option maxHeartbeats 1000000 in
theorem nodes2_in {α : Type} (en : α → Option Addr) (ys0 : List α) (F : Fence) (hd : F.depth = none) (n : Nat) (h5 : F.fn 186) (h6 : F.fn 187) (hro : F.round = none) (l Bt B : Nat) (q : Option Addr) (T : T46) (xs : List (Option Addr)) (w0 : World) (J Jx : List α → World → Prop)
    (hys : ys0.map en = xs) (hY : ∀ pre x W, J pre W → pre.length < ys0.length → YieldAt F (n - 1) Tryz.prog l #[.pointer (en x)] W fun e W' =>
      (e = .returned (.bool true) ∧ J (pre ++ [x]) W' ∧ Below w0.heap.size W W') ∨ (e = .returned (.bool false) ∧ Jx (pre ++ [x]) W'))
    (W : World) (hBt : W.cell? ⟨Bt, 0, none⟩ = some (.pointer (some ⟨B, 0, none⟩))) (hB0 : B < w0.heap.size) (hq : w0.cell? ⟨B, 0, none⟩ = some (.pointer q)) (hT : TrL w0 q T xs) (hb : Below w0.heap.size w0 W) (h0 : J [] W) :
    CallsIn F n Tryz.prog 186 #[.func (.yield l) #[] #[], .pointer (some ⟨Bt, 0, none⟩)] W fun e W' => (∃ v, e = .returned v) ∧
      ((∃ ys, ys = ys0 ∧ J ys W') ∨ (∃ pre, pre <+: ys0 ∧ Jx pre W')) := by
  have hdd : ∀ k : Nat, (F.depth.isSome = true → 1 ≤ k) := fun k h => by rw [hd] at h; cases h
  have hp := each2_in en F hd h6 hro l ys0.length w0 J Jx (fun m pre x W hj hl => YieldAt.anyDepth hd m (hY pre x W hj hl)) T (n - 1) q [] ys0 W (by rw [hys]; exact hT) hb h0 (by simp)
  have hq' := (hb.cell (p := ⟨B, 0, none⟩) hB0).trans hq
  refine callsIn_of_wp Tryz.func186 rfl h5 ?_ hro
  simp only [Tryz.ntmps186, List.size_toArray, List.length_cons, List.length_nil, Nat.reduceAdd, Nat.reduceSub, Array.replicate_succ, Array.replicate_zero, List.push_toArray, List.append_toArray, List.nil_append, List.cons_append]
  gi_wp2_with ((try refine ⟨hdd _, ?_⟩); gi_at_call 187; refine hp.mono ?_; clear hp; rintro e W1 (⟨rfl, hJ1, _⟩ | ⟨rfl, q, hq, hx⟩))
  · go_end0
    exact ⟨⟨_, rfl⟩, .inl ⟨_, rfl, by simpa using hJ1⟩⟩
  · go_end0
    exact ⟨⟨_, rfl⟩, .inr ⟨q, hq, by simpa using hx⟩⟩
theorem nodes2_stops {α : Type} (en : α → Option Addr) (ys0 : List α) (F : Fence) (hd : F.depth = none) (n : Nat) (h5 : F.fn 186) (h6 : F.fn 187) (hro : F.round = none) (Bt B : Nat) (q : Option Addr) (T : T46) (xs : List (Option Addr)) (hys : ys0.map en = xs) (w0 w : World) (hBt : Bt < w.heap.size) (hc : w.cell? ⟨Bt, 0, none⟩ = some (.pointer (some ⟨B, 0, none⟩))) (hB0 : B < w0.heap.size) (hq : w0.cell? ⟨B, 0, none⟩ = some (.pointer q)) (hT : TrL w0 q T xs) (hb : Below w0.heap.size w0 w) :
    SeqStopsK F n Tryz.prog 186 #[.pointer (some ⟨Bt, 0, none⟩)] (fun x : α => #[Value.pointer (en x)]) (Below w0.heap.size) (fun ys => ys = ys0) (fun pre => pre <+: ys0) ys0.length w := fun l J Jx W hW _ _ hY h0 =>
  nodes2_in en ys0 F hd n h5 h6 hro l Bt B q T xs w0 J Jx hys hY W ((hW.cell (p := ⟨Bt, 0, none⟩) hBt).trans hc) hB0 hq hT (hb.trans (hW.mono hb.size)) h0
theorem fin_map {α : Type} (l : List α) {n : Nat} (h : l.length = n) : (List.finRange n).map (fun i : Fin n => l[i.1]'(by rw [h]; exact i.2)) = l := by
  subst h
  exact List.ext_getElem (by simp) fun i h1 h2 => by simp
theorem stepIn_append {F : Fence} {n : Nat} {P : Program} (w : World) {ops : Array Oper} {o : Oper} {a : Go.Act} {K : Go.Act → World → Prop} {Q : Exit → Go.Act → World → Prop} {E : Prop} (hgd : o.guard = none) (s x : Operand) (t : TypeId)
    (hop : o.op = Op.call { callee := Callee.builtin Builtin.append, args := #[s, x], argTypes := #[t, t] }) (v' : Value) (w' : World) (hrun : (Builtin.append_ #[t, t] o.type #[a.eval s, a.eval x]).run P w = .ok v' w') (hK : K (a.put o.dst v') w') :
    if Region.wanted o (yielded ops a.tmps) = true then Oper.wpIn F n P o a w K Q else E := by
  have hw : Region.wanted o (yielded ops a.tmps) = true := by simp [Region.wanted, hgd]
  rw [if_pos hw]
  unfold Oper.wpIn
  refine ⟨?_, ?_⟩
  · simp [Oper.about, hop, resolve, Target.leads, Sem.run_pure]
  · rw [Oper.semAt_plain F _ _ (by rw [hop]; intro c hc'; cases hc')]
    simp [execOp, hop, resolve, invoke, builtin, hrun, Result.andThen]
    exact hK
def NamP (s : St) (w : World) (e : Ending) (w' : World) : Prop := ∃ v, e = .returned v ∧ w'.ownsRow w.heap.size 26 5 v s.length ((s.map Prod.fst).flatMap nmC) ∧ Below w.heap.size w w'
set_option maxRecDepth 100000 in
set_option maxHeartbeats 4000000 in
theorem names_st {w : World} {p : Option Addr} {s : St} (h : StAt w p s) (hsm : s.length ≤ 1000) : Calls Tryz.prog 107 #[.pointer p] w (NamP s w) := by
  obtain ⟨B, q, t, rfl, b, ht, hf, hs⟩ := h
  obtain ⟨xs, hx⟩ := trl_of ht
  have hxl : xs.length = s.length := by rw [hx.len, Tr.sz_flat, hf]
  have hrow : RowW NNd w s xs := by rw [← hf]; exact hx.row
  have hq : w.cell? ⟨B, 0, none⟩ = some (.pointer q) := b.cell 0
  have hB0 := b.lt
  obtain ⟨i0, hi, hz0, hz1, hz2⟩ := info_parts infoNm
  have HX := Lib.hid hx
  have HRW := Lib.hid hrow
  have HF := Lib.hid (fin_map xs hxl)
  clear b ht hf hs hx hrow
  refine (callsIn_wide (n := 6)).1 ?_
  refine callsIn_of_wp_marks Tryz.func107 rfl trivial ?_ rfl
  simp only [Tryz.ntmps107, List.size_toArray, List.length_cons, List.length_nil, Nat.reduceAdd, Nat.reduceSub, Array.replicate_succ, Array.replicate_zero, List.push_toArray, List.append_toArray, List.nil_append, List.cons_append]
  gi_wp2_with ((try refine ⟨trivial, ?_⟩); gi_at_call 141; refine (nodes_in Fence.wide _ trivial rfl _ _).mono ?_; rintro e w' ⟨rfl, rfl⟩)
  have bO := Boxed.new w 94 (.slice none 0 0)
  have bN := Boxed.new (w.alloc (.cells #[.slice none 0 0] 94)) 44 (.pointer (some ⟨B, 0, none⟩))
  rw [World.size_alloc] at bN
  have hB0' : Below w.heap.size w ((w.alloc (.cells #[.slice none 0 0] 94)).alloc (.cells #[.pointer (some ⟨B, 0, none⟩)] 44)) := ((Below.refl _ w).alloc (Nat.le_refl _) _).alloc (by simp) _
  refine wpIn_rangeFunc_ownG rfl (by omega) (gf := 186) (lb := #[.pointer (some ⟨w.heap.size + 1, 0, none⟩)]) rfl trivial (enters_of Tryz.func186 (by kernel_rfl) rfl)
    (nodes2_stops (fun i : Fin s.length => xs[i.1]'(by rw [hxl]; exact i.2)) (List.finRange s.length) Fence.wide rfl _ trivial trivial rfl (w.heap.size + 1) B q t xs HF.out w _ (by simp) bN.cell hB0 hq HX.out hB0') belowK_t (belowK_b (by simp; omega)) (Below.refl _ _) (fun _ => rfl)
    (fun pre W => (∃ v, Boxed W w.heap.size 94 v ∧ W.ownsRow w.heap.size 26 5 v pre.length ((pre.map (fun i : Fin s.length => s[i.1].1)).flatMap nmC) ∧ True) ∧ Below w.heap.size w W)
    (fun _ _ _ => False)
    (OwnFrom.and (Own.from (holdsRow_own w.heap.size w.heap.size 94 26 5 (fun (pre : List (Fin s.length)) => pre.length) (fun (pre : List (Fin s.length)) => (pre.map (fun i : Fin s.length => s[i.1].1)).flatMap nmC) (fun _ _ => True)) _) (ownFrom_below (Nat.le_refl _) (by simp; omega)))
    (fun _ _ _ _ _ hs _ _ => hs)
    ⟨⟨_, bO.alloc _, World.ownsRow_nil _ _ _ _, trivial⟩, hB0'⟩
    (fun (x : Fin s.length) => { tmps := #[.pointer (some ⟨B, 0, none⟩), undef, .slice none 0 0, .pointer (some ⟨w.heap.size, 0, none⟩), .pointer (xs[x.1]'(by rw [hxl]; exact x.2)), .pointer (some ⟨B, 0, none⟩), .func (.func 186) #[] #[.pointer (some ⟨w.heap.size + 1, 0, none⟩)], .pointer (xs[x.1]'(by rw [hxl]; exact x.2)), undef, undef, undef, undef, undef, undef, undef, undef], defers := [] }) ?assign ?body ?done ?stop
  case assign =>
    intro l x W K hK
    gi_wp2
    exact hK
  case body =>
    rintro l pre x W ⟨⟨v, hv, hrow, _⟩, hB⟩ hlt
    have hc := hv.cell
    have hpl : pre.length < s.length := by simpa using hlt
    obtain ⟨b, pl, pr, hh, ss, yy, hxe, hnd⟩ := HRW.out.2 x.1 _ _ (List.getElem?_eq_getElem x.2) (List.getElem?_eq_getElem (by rw [hxl]; exact x.2))
    obtain ⟨n, hn⟩ : ∃ n, s[x.1].1 = n := ⟨_, rfl⟩
    have HN := Lib.hid hn
    rw [hxe]
    rw [hn] at hnd
    have hbl : b < w.heap.size := hnd.lt
    have n2 : W.cell? ⟨b, 2, none⟩ = some (.int .i64 n.kind) := (hB.cell (p := ⟨b, 2, none⟩) hbl).trans (hnd.cell 2)
    have n3 : W.cell? ⟨b, 3, none⟩ = some (.string (bs n.owner)) := (hB.cell (p := ⟨b, 3, none⟩) hbl).trans (hnd.cell 3)
    have n4 : W.cell? ⟨b, 4, none⟩ = some (.int .i64 n.num) := (hB.cell (p := ⟨b, 4, none⟩) hbl).trans (hnd.cell 4)
    have n5 : W.cell? ⟨b, 5, none⟩ = some (.int .i64 n.idx) := (hB.cell (p := ⟨b, 5, none⟩) hbl).trans (hnd.cell 5)
    have n6 : W.cell? ⟨b, 6, none⟩ = some (.string (bs n.text)) := (hB.cell (p := ⟨b, 6, none⟩) hbl).trans (hnd.cell 6)
    clear hn hnd hxe
    obtain ⟨v', w1, hrun, hown', hgrow, _⟩ := run_append_own (P := Tryz.prog) (W.alloc (.cells #[.int .i64 n.kind, .string (bs n.owner), .int .i64 n.num, .int .i64 n.idx, .string (bs n.text)] 26)).drew w.heap.size 94 94 26 i0 _ 5 56 Tryz.underlying94 hi hz0 hz1 hz2 rfl (by decide) v pre.length _ (own_next hrow ((Below.refl _ _).alloc (Nat.le_refl _) _).drew) ⟨W.heap.size, 0, none⟩ 1 1 (nmC n) rfl (by
        intro j u hj
        have h2 := (own_new W 0 26 5 (nmC n) rfl (Nat.zero_le _)).cells (g := W.heap.size) rfl j u hj
        exact h2) (by intro u hu; simp only [nmC, List.mem_cons, List.not_mem_nil, or_false] at hu; rcases hu with rfl | rfl | rfl | rfl | rfl <;> rfl) (by unfold maxLen; omega) (by omega) (by have := hB.size; simp; omega)
    obtain ⟨g', cap', rfl⟩ := ownsRow_succ hown'
    have hgr2 : (W.alloc (.cells #[.int .i64 n.kind, .string (bs n.owner), .int .i64 n.num, .int .i64 n.idx, .string (bs n.text)] 26)).grownBy w1 v.ownBlock := ⟨hgrow.os, hgrow.tape, hgrow.output, hgrow.size, hgrow.block⟩
    obtain ⟨hv1, hv2, hr2, hk2, hb2⟩ := hv.appended (by decide) hrow hB.size (by omega) hown' hgr2
    have hc1 := hv1.cell
    have hBW : w.heap.size < W.heap.size := by
      rcases Nat.lt_or_ge w.heap.size W.heap.size with h | h
      · exact h
      · exfalso; have := hc; simp [World.cell?, Array.getElem?_eq_none h] at this
    have hcA := (((Below.refl W.heap.size W).alloc (Nat.le_refl _) (.cells #[.int .i64 n.kind, .string (bs n.owner), .int .i64 n.num, .int .i64 n.idx, .string (bs n.text)] 26)).cell (p := ⟨w.heap.size, 0, none⟩) hBW).trans hc
    have hf1 := hv1.frozen
    gi_wp2
    refine wpIn_region_any (by kernel_rfl) ?_
    try (change wpAnyIn _ _ _ _ _ _ _ _ _ (World.drew _))
    refine wpAnyIn_ready (rs := [0, 1]) (by kernel_rfl) (by simp) ?_
    refine AllReadyIn.cons rfl (fun K hK => ?_) (AllReadyIn.cons rfl (fun K hK => ?_) AllReadyIn.nil)
    · go_simp
      refine hK _ _ ?_
      clear hK K
      refine wpAnyIn_ready (rs := [1]) (by kernel_rfl) (by simp) ?_
      refine AllReadyIn.cons rfl (fun K hK => ?_) AllReadyIn.nil
      · go_simp
        refine hK _ _ ?_
        clear hK K
        refine wpAnyIn_ready (rs := [2]) (by kernel_rfl) (by simp) ?_
        refine AllReadyIn.cons rfl (fun K hK => ?_) AllReadyIn.nil
        · go_simp
          refine hK _ _ ?_
          clear hK K
          refine wpAnyIn_ready (rs := [3]) (by kernel_rfl) (by simp) ?_
          refine AllReadyIn.cons rfl (fun K hK => ?_) AllReadyIn.nil
          · go_simp
            refine hK _ _ ?_
            clear hK K
            refine wpAnyIn_ready (rs := [4]) (by kernel_rfl) (by simp) ?_
            refine AllReadyIn.cons rfl (fun K hK => ?_) AllReadyIn.nil
            · go_simp
              refine hK _ _ ?_
              clear hK K
              refine wpAnyIn_ready (rs := [5]) (by kernel_rfl) (by simp) ?_
              refine AllReadyIn.cons rfl (fun K hK => ?_) AllReadyIn.nil
              · go_simp
                refine hK _ _ ?_
                clear hK K
                refine wpAnyIn_ready (rs := [6]) (by kernel_rfl) (by simp) ?_
                refine AllReadyIn.cons rfl (fun K hK => ?_) AllReadyIn.nil
                · refine stepIn_append _ rfl _ _ _ rfl (.slice (some ⟨g', 0, none⟩) (pre.length + 1) cap') w1 hrun ?_
                  refine hK _ _ ?_
                  clear hK K
                  refine wpAnyIn_ready (rs := [7]) (by kernel_rfl) (by simp) ?_
                  refine AllReadyIn.cons rfl (fun K hK => ?_) AllReadyIn.nil
                  · go_simp
                    refine hK _ _ ?_
                    clear hK K
                    refine wpAnyIn_done (by kernel_rfl) ?_ _
                    gi_wp2
                    exact ⟨hk2.from _, hb2, ⟨_, hv2, (by rw [List.length_append, List.map_append, List.flatMap_append, List.map_singleton, List.flatMap_singleton, HN.out]; exact hr2), trivial⟩, hB.trans hb2⟩
    · go_simp
      refine hK _ _ ?_
      clear hK K
      refine wpAnyIn_ready (rs := [0, 2]) (by kernel_rfl) (by simp) ?_
      refine AllReadyIn.cons rfl (fun K hK => ?_) (AllReadyIn.cons rfl (fun K hK => ?_) AllReadyIn.nil)
      · go_simp
        refine hK _ _ ?_
        clear hK K
        refine wpAnyIn_ready (rs := [2]) (by kernel_rfl) (by simp) ?_
        refine AllReadyIn.cons rfl (fun K hK => ?_) AllReadyIn.nil
        · go_simp
          refine hK _ _ ?_
          clear hK K
          refine wpAnyIn_ready (rs := [3]) (by kernel_rfl) (by simp) ?_
          refine AllReadyIn.cons rfl (fun K hK => ?_) AllReadyIn.nil
          · go_simp
            refine hK _ _ ?_
            clear hK K
            refine wpAnyIn_ready (rs := [4]) (by kernel_rfl) (by simp) ?_
            refine AllReadyIn.cons rfl (fun K hK => ?_) AllReadyIn.nil
            · go_simp
              refine hK _ _ ?_
              clear hK K
              refine wpAnyIn_ready (rs := [5]) (by kernel_rfl) (by simp) ?_
              refine AllReadyIn.cons rfl (fun K hK => ?_) AllReadyIn.nil
              · go_simp
                refine hK _ _ ?_
                clear hK K
                refine wpAnyIn_ready (rs := [6]) (by kernel_rfl) (by simp) ?_
                refine AllReadyIn.cons rfl (fun K hK => ?_) AllReadyIn.nil
                · refine stepIn_append _ rfl _ _ _ rfl (.slice (some ⟨g', 0, none⟩) (pre.length + 1) cap') w1 hrun ?_
                  refine hK _ _ ?_
                  clear hK K
                  refine wpAnyIn_ready (rs := [7]) (by kernel_rfl) (by simp) ?_
                  refine AllReadyIn.cons rfl (fun K hK => ?_) AllReadyIn.nil
                  · go_simp
                    refine hK _ _ ?_
                    clear hK K
                    refine wpAnyIn_done (by kernel_rfl) ?_ _
                    gi_wp2
                    exact ⟨hk2.from _, hb2, ⟨_, hv2, (by rw [List.length_append, List.map_append, List.flatMap_append, List.map_singleton, List.flatMap_singleton, HN.out]; exact hr2), trivial⟩, hB.trans hb2⟩
      · go_simp
        refine hK _ _ ?_
        clear hK K
        refine wpAnyIn_ready (rs := [0, 3]) (by kernel_rfl) (by simp) ?_
        refine AllReadyIn.cons rfl (fun K hK => ?_) (AllReadyIn.cons rfl (fun K hK => ?_) AllReadyIn.nil)
        · go_simp
          refine hK _ _ ?_
          clear hK K
          refine wpAnyIn_ready (rs := [3]) (by kernel_rfl) (by simp) ?_
          refine AllReadyIn.cons rfl (fun K hK => ?_) AllReadyIn.nil
          · go_simp
            refine hK _ _ ?_
            clear hK K
            refine wpAnyIn_ready (rs := [4]) (by kernel_rfl) (by simp) ?_
            refine AllReadyIn.cons rfl (fun K hK => ?_) AllReadyIn.nil
            · go_simp
              refine hK _ _ ?_
              clear hK K
              refine wpAnyIn_ready (rs := [5]) (by kernel_rfl) (by simp) ?_
              refine AllReadyIn.cons rfl (fun K hK => ?_) AllReadyIn.nil
              · go_simp
                refine hK _ _ ?_
                clear hK K
                refine wpAnyIn_ready (rs := [6]) (by kernel_rfl) (by simp) ?_
                refine AllReadyIn.cons rfl (fun K hK => ?_) AllReadyIn.nil
                · refine stepIn_append _ rfl _ _ _ rfl (.slice (some ⟨g', 0, none⟩) (pre.length + 1) cap') w1 hrun ?_
                  refine hK _ _ ?_
                  clear hK K
                  refine wpAnyIn_ready (rs := [7]) (by kernel_rfl) (by simp) ?_
                  refine AllReadyIn.cons rfl (fun K hK => ?_) AllReadyIn.nil
                  · go_simp
                    refine hK _ _ ?_
                    clear hK K
                    refine wpAnyIn_done (by kernel_rfl) ?_ _
                    gi_wp2
                    exact ⟨hk2.from _, hb2, ⟨_, hv2, (by rw [List.length_append, List.map_append, List.flatMap_append, List.map_singleton, List.flatMap_singleton, HN.out]; exact hr2), trivial⟩, hB.trans hb2⟩
        · go_simp
          refine hK _ _ ?_
          clear hK K
          refine wpAnyIn_ready (rs := [0, 4]) (by kernel_rfl) (by simp) ?_
          refine AllReadyIn.cons rfl (fun K hK => ?_) (AllReadyIn.cons rfl (fun K hK => ?_) AllReadyIn.nil)
          · go_simp
            refine hK _ _ ?_
            clear hK K
            refine wpAnyIn_ready (rs := [4]) (by kernel_rfl) (by simp) ?_
            refine AllReadyIn.cons rfl (fun K hK => ?_) AllReadyIn.nil
            · go_simp
              refine hK _ _ ?_
              clear hK K
              refine wpAnyIn_ready (rs := [5]) (by kernel_rfl) (by simp) ?_
              refine AllReadyIn.cons rfl (fun K hK => ?_) AllReadyIn.nil
              · go_simp
                refine hK _ _ ?_
                clear hK K
                refine wpAnyIn_ready (rs := [6]) (by kernel_rfl) (by simp) ?_
                refine AllReadyIn.cons rfl (fun K hK => ?_) AllReadyIn.nil
                · refine stepIn_append _ rfl _ _ _ rfl (.slice (some ⟨g', 0, none⟩) (pre.length + 1) cap') w1 hrun ?_
                  refine hK _ _ ?_
                  clear hK K
                  refine wpAnyIn_ready (rs := [7]) (by kernel_rfl) (by simp) ?_
                  refine AllReadyIn.cons rfl (fun K hK => ?_) AllReadyIn.nil
                  · go_simp
                    refine hK _ _ ?_
                    clear hK K
                    refine wpAnyIn_done (by kernel_rfl) ?_ _
                    gi_wp2
                    exact ⟨hk2.from _, hb2, ⟨_, hv2, (by rw [List.length_append, List.map_append, List.flatMap_append, List.map_singleton, List.flatMap_singleton, HN.out]; exact hr2), trivial⟩, hB.trans hb2⟩
          · go_simp
            refine hK _ _ ?_
            clear hK K
            refine wpAnyIn_ready (rs := [0, 5]) (by kernel_rfl) (by simp) ?_
            refine AllReadyIn.cons rfl (fun K hK => ?_) (AllReadyIn.cons rfl (fun K hK => ?_) AllReadyIn.nil)
            · go_simp
              refine hK _ _ ?_
              clear hK K
              refine wpAnyIn_ready (rs := [5]) (by kernel_rfl) (by simp) ?_
              refine AllReadyIn.cons rfl (fun K hK => ?_) AllReadyIn.nil
              · go_simp
                refine hK _ _ ?_
                clear hK K
                refine wpAnyIn_ready (rs := [6]) (by kernel_rfl) (by simp) ?_
                refine AllReadyIn.cons rfl (fun K hK => ?_) AllReadyIn.nil
                · refine stepIn_append _ rfl _ _ _ rfl (.slice (some ⟨g', 0, none⟩) (pre.length + 1) cap') w1 hrun ?_
                  refine hK _ _ ?_
                  clear hK K
                  refine wpAnyIn_ready (rs := [7]) (by kernel_rfl) (by simp) ?_
                  refine AllReadyIn.cons rfl (fun K hK => ?_) AllReadyIn.nil
                  · go_simp
                    refine hK _ _ ?_
                    clear hK K
                    refine wpAnyIn_done (by kernel_rfl) ?_ _
                    gi_wp2
                    exact ⟨hk2.from _, hb2, ⟨_, hv2, (by rw [List.length_append, List.map_append, List.flatMap_append, List.map_singleton, List.flatMap_singleton, HN.out]; exact hr2), trivial⟩, hB.trans hb2⟩
            · go_simp
              refine hK _ _ ?_
              clear hK K
              refine wpAnyIn_ready (rs := [0]) (by kernel_rfl) (by simp) ?_
              refine AllReadyIn.cons rfl (fun K hK => ?_) AllReadyIn.nil
              · go_simp
                refine hK _ _ ?_
                clear hK K
                refine wpAnyIn_ready (rs := [6]) (by kernel_rfl) (by simp) ?_
                refine AllReadyIn.cons rfl (fun K hK => ?_) AllReadyIn.nil
                · refine stepIn_append _ rfl _ _ _ rfl (.slice (some ⟨g', 0, none⟩) (pre.length + 1) cap') w1 hrun ?_
                  refine hK _ _ ?_
                  clear hK K
                  refine wpAnyIn_ready (rs := [7]) (by kernel_rfl) (by simp) ?_
                  refine AllReadyIn.cons rfl (fun K hK => ?_) AllReadyIn.nil
                  · go_simp
                    refine hK _ _ ?_
                    clear hK K
                    refine wpAnyIn_done (by kernel_rfl) ?_ _
                    gi_wp2
                    exact ⟨hk2.from _, hb2, ⟨_, hv2, (by rw [List.length_append, List.map_append, List.flatMap_append, List.map_singleton, List.flatMap_singleton, HN.out]; exact hr2), trivial⟩, hB.trans hb2⟩
  case done =>
    rintro D ys W hD rfl ⟨⟨v, hv, hrow, _⟩, hB⟩ hK
    have hc := hv.cell
    gi_wp2
    refine ⟨by simp, .inl ⟨_, _, rfl, run_takeDeferred hK, ?_⟩⟩
    have hb := hB.trans (belowK_b (w := w) (Nat.le_refl _) W D _ (.deferred none) (by simp at hD; omega) hK rfl rfl)
    refine ⟨_, results_tmp rfl _ _ _, v, rfl, ?_, hb⟩
    have e : (List.finRange s.length).map (fun i : Fin s.length => s[i.1].1) = s.map Prod.fst := by
      have := fin_map (s.map Prod.fst) (n := s.length) (by simp)
      simpa using this
    rw [e, List.length_finRange] at hrow
    exact ownsRow_putObj hrow _ hK rfl
  case stop =>
    rintro D c pre W _ _ h _
    exact h.elim
end Go.Proofs.YtamjllakfgphnaaGreatDoor
namespace Go.Proofs.YtamjllakfgphnaaGreatDoor
open Go.RowKit Go.MapKept Go.ChangeMaps
def kvN (p : Nm × Value) : Value × Value := (nmV p.1, p.2)
theorem kvN_inj {p q : Nm × Value} (h : kvN p = kvN q) : p = q := by
  obtain ⟨a, u⟩ := p
  obtain ⟨b, v⟩ := q
  simp only [kvN, Prod.mk.injEq] at h
  rw [nm_inj h.1, h.2]
def MapIt (w : World) (b r : Nat) (ents left : List (Nm × Value)) : Prop :=
  ∃ es c since seen c0, w.heap[b]? = some (.map es c) ∧ es.toList.map kvE = ents.map kvN ∧ Stamped es c ∧ w.heap[r]? = some (.mapIter (some b) since seen c0) ∧
    (∀ x ∈ es.toList, x.born < since) ∧ since ≤ c0 ∧ since ≤ c ∧ ((leftOf es seen).toList.map kvE).Perm (left.map kvN)
theorem MapIt.ne {w : World} {b r : Nat} {ents left : List (Nm × Value)} (h : MapIt w b r ents left) : r ≠ b := by
  obtain ⟨es, c, since, seen, c0, hb, _, _, hr, _⟩ := h
  intro e
  rw [e, hb] at hr
  cases hr
theorem MapIt.at_ {w : World} {b r : Nat} {ents left : List (Nm × Value)} (h : MapIt w b r ents left) : MapAt w b ents := by
  obtain ⟨es, c, since, seen, c0, hb, he, hs, _⟩ := h
  exact ⟨es, c, hb, he, hs⟩
theorem MapIt.lt {w : World} {b r : Nat} {ents left : List (Nm × Value)} (h : MapIt w b r ents left) : r < w.heap.size := by
  obtain ⟨es, c, since, seen, c0, hb, he, hs, hr, _⟩ := h
  exact (Array.getElem?_eq_some_iff.1 hr).1
theorem MapIt.same {w w' : World} {b r : Nat} {ents left : List (Nm × Value)} (h : MapIt w b r ents left) (e1 : w'.heap[b]? = w.heap[b]?) (e2 : w'.heap[r]? = w.heap[r]?) : MapIt w' b r ents left := by
  obtain ⟨es, c, since, seen, c0, hb, he, hs, hr, rest⟩ := h
  exact ⟨es, c, since, seen, c0, e1.trans hb, he, hs, e2.trans hr, rest⟩
theorem MapIt.next {w w' : World} {b r : Nat} {ents left : List (Nm × Value)} (h : MapIt w b r ents left) (hb : Below w.heap.size w w') : MapIt w' b r ents left :=
  h.same (hb.block b h.at_.lt) (hb.block r h.lt)
theorem MapIt.grown {w w' : World} {b r : Nat} {ents left : List (Nm × Value)} {row : Option Nat} (h : MapIt w b r ents left) (hg : w.grownBy w' row) (h1 : some b ≠ row) (h2 : some r ≠ row) : MapIt w' b r ents left :=
  h.same (hg.block b h.at_.lt h1) (hg.block r h.lt h2)
theorem MapIt.size {w : World} {b r : Nat} {ents left : List (Nm × Value)} (h : MapIt w b r ents left) : w.rangeLeft b r = left.length := by
  obtain ⟨es, c, since, seen, c0, hb, he, hs, hr, h1, h2, h3, hp⟩ := h
  simp only [World.rangeLeft, hb, hr]
  have := hp.length_eq
  simpa using this
theorem own_not_it {w : World} {base e s n : Nat} {v : Value} {xs : List Value} {b r : Nat} {ents left : List (Nm × Value)} (h : w.ownsRow base e s v n xs) (hi : MapIt w b r ents left) : some b ≠ v.ownBlock ∧ some r ≠ v.ownBlock := by
  obtain ⟨es, c, since, seen, c0, hb, he, hs, hr, _⟩ := hi
  refine ⟨fun e1 => own_not_map h hb e1.symm, fun e1 => ?_⟩
  obtain ⟨_, ⟨hv0, _⟩ | ⟨g, cap, cur, hv, _, hh, _⟩⟩ := h
  · rw [hv0] at e1; cases e1
  · rw [hv] at e1
    injection e1 with e1
    simp only at e1
    subst e1
    rw [hr] at hh
    cases hh
theorem MapIt.step {w : World} {b r : Nat} {ents left : List (Nm × Value)} (h : MapIt w b r ents left) (ty : TypeId) :
    (left = [] ∧ (Instr.next (.pointer (some ⟨r, 0, none⟩)) false ty).run Tryz.prog w = .ok (.tuple #[.bool false]) w) ∨
    ∃ p left' w', left.Perm (p :: left') ∧ p ∈ ents ∧ MapIt w' b r ents left' ∧ w.grownBy w' (some r) ∧ w'.heap.size = w.heap.size ∧ (Instr.next (.pointer (some ⟨r, 0, none⟩)) false ty).run Tryz.prog w = .ok (.tuple #[.bool true, nmV p.1, p.2]) w' ∧
      (Instr.entry (.pointer (some ⟨r, 0, none⟩))).run Tryz.prog w' = .ok (.tuple #[nmV p.1, p.2]) w' := by
  have hne := h.ne
  obtain ⟨es, c, since, seen, c0, hb, he, hs, hr, hold, hsc, hsk, hp⟩ := h
  have hst := (stamped_iff es c).1 hs
  rcases run_next_at (P := Tryz.prog) w ty r b since c0 seen es c hr hb hold hsc with ⟨h0, hrun⟩ | ⟨e, hel, w1, hal, hrun⟩
  · refine .inl ⟨?_, hrun⟩
    have := hp.length_eq
    rw [List.length_map, List.length_map, Array.length_toList, h0] at this
    exact List.length_eq_zero_iff.1 this.symm
  · obtain ⟨hem, hes⟩ := mem_left hel
    have hm : kvE e ∈ left.map kvN := hp.mem_iff.1 (List.mem_map.2 ⟨e, hel, rfl⟩)
    obtain ⟨p, hpl, hpe⟩ := List.mem_map.1 hm
    obtain ⟨s, t, hst2⟩ := List.append_of_mem hpl
    have hperm : left.Perm (p :: (s ++ t)) := by rw [hst2]; exact List.perm_middle
    have hpents : p ∈ ents := by
      have : kvE e ∈ ents.map kvN := by rw [← he]; exact List.mem_map.2 ⟨e, hem, rfl⟩
      obtain ⟨q, hq, hqe⟩ := List.mem_map.1 this
      rw [← kvN_inj (hqe.trans hpe.symm)]
      exact hq
    have hnd : ((leftOf es seen).toList.map (·.born)).Nodup := by
      unfold leftOf
      rw [Array.toList_filter]
      exact (List.filter_sublist.map _).nodup hst.2.1
    have hp2 : ((leftOf es (seen.push e.born)).toList.map kvE).Perm ((s ++ t).map kvN) := by
      rw [left_push]
      have h1 := ((perm_born hnd hel).map kvE).symm.trans (hp.trans (hperm.map kvN))
      rw [List.map_cons, List.map_cons, hpe] at h1
      exact (List.perm_cons _).1 h1
    have hr1 : w1.heap[r]? = some (.mapIter (some b) since seen c0) := by rcases hal with rfl | rfl <;> exact hr
    have hb1 : w1.heap[b]? = some (.map es c) := by rcases hal with rfl | rfl <;> exact hb
    have hset := heap_set (o' := .mapIter (some b) since (seen.push e.born) c) hr1
    have hb' : (setBlock w1 r (.mapIter (some b) since (seen.push e.born) c)).heap[b]? = some (.map es c) := (hset.2 b (fun e1 => hne e1.symm)).trans hb1
    injection hpe with hk hv
    refine .inr ⟨p, s ++ t, _, hperm, hpents, ⟨es, c, since, seen.push e.born, c, hb', he, hs, hset.1, hold, hsk, hsk, hp2⟩, ?_, ?_, ?_, ?_⟩
    · rcases hal with rfl | rfl <;> exact ⟨rfl, rfl, rfl, by simp [setBlock], fun i _ hi => hset.2 i (fun e1 => hi (by rw [e1]))⟩
    · rcases hal with rfl | rfl <;> simp [setBlock]
    · rw [hk, hv]; exact hrun
    · rw [hk, hv]; exact run_entry_at _ r b since seen es c e hset.1 hb' hem hst.2.1
section
variable (w : World) {ops : Array Oper} {rest : List Oper} {o : Oper} {a : Go.Act} {Q : Exit → Go.Act → World → Prop}
theorem wpList_range_nm (hg : o.guard = none) (m : Operand) (t : TypeId) (hop : o.op = Op.range t m) {E : TypeId} (ht : Tryz.prog.underlying t = some (.map 26 E)) (b : Nat) (ents : List (Nm × Value))
    (hm : a.eval m = .map (some b)) (h : MapAt w b ents)
    (hK : ∀ w', MapIt w' b w.heap.size ents ents → Below w.heap.size w w' → w'.heap.size = w.heap.size + 1 → wpList Tryz.prog ops Q rest (a.put o.dst (.pointer (some ⟨w.heap.size, 0, none⟩))) w') :
    wpList Tryz.prog ops Q (o :: rest) a w := by
  refine wpList_plain hg fun K' hK' => ?_
  have hlt := h.lt
  obtain ⟨es, c, hb, he, hs⟩ := h
  have hrun := run_range_map (P := Tryz.prog) w t 26 E b es c ht hb
  unfold Oper.wp
  simp [execOp, hop, hm, hrun, Result.andThen]
  refine hK' _ _ (hK _ ⟨es, c, c, #[], c, ((MapKept.heap_alloc w _).2 b hlt).trans hb, he, hs, (MapKept.heap_alloc w _).1, ((stamped_iff es c).1 hs).1, Nat.le_refl _, Nat.le_refl _, ?_⟩ ((Below.refl _ _).alloc (Nat.le_refl _) _) (by simp))
  have h1 : (leftOf es #[]).toList = es.toList := by
    unfold leftOf
    rw [Array.toList_filter]
    exact List.filter_eq_self.2 fun x _ => by simp
  rw [h1, show es.toList.map kvE = ents.map kvN from he]
theorem wpList_next_nm (hg : o.guard = none) (it : Operand) (hop : o.op = Op.next it false) (b r : Nat) (ents left : List (Nm × Value)) (hit : a.eval it = .pointer (some ⟨r, 0, none⟩)) (h : MapIt w b r ents left)
    (hDone : left = [] → wpList Tryz.prog ops Q rest (a.put o.dst (.tuple #[.bool false])) w)
    (hMore : ∀ (p : Nm × Value) (left' : List (Nm × Value)) (w' : World), left.Perm (p :: left') → p ∈ ents → MapIt w' b r ents left' → w.grownBy w' (some r) → w'.heap.size = w.heap.size → (Instr.entry (.pointer (some ⟨r, 0, none⟩))).run Tryz.prog w' = .ok (.tuple #[nmV p.1, p.2]) w' → wpList Tryz.prog ops Q rest (a.put o.dst (.tuple #[.bool true, nmV p.1, p.2])) w') :
    wpList Tryz.prog ops Q (o :: rest) a w := by
  refine wpList_plain hg fun K' hK' => ?_
  unfold Oper.wp
  rcases h.step o.type with ⟨h0, hrun⟩ | ⟨p, left', w', h1, h2, h3, h4, h5, hrun, hen⟩
  · simp [execOp, hop, hit, hrun, Result.andThen]
    exact hK' _ _ (hDone h0)
  · simp [execOp, hop, hit, hrun, Result.andThen]
    exact hK' _ _ (hMore p left' w' h1 h2 h3 h4 h5 hen)
end
end Go.Proofs.YtamjllakfgphnaaGreatDoor
namespace Go.Proofs.YtamjllakfgphnaaGreatDoor
open Go.RowKit Go.MapKept Go.ChangeMaps
attribute [local go_sem ↓] Go.wp_at_zero Go.wp_at_succ
theorem own_mono {w : World} {base base' : Nat} {e : TypeId} {s : Nat} {v : Value} {n : Nat} {xs : List Value} (h : w.ownsRow base e s v n xs) (hb : base' ≤ base) : w.ownsRow base' e s v n xs := by
  obtain ⟨hl, h0 | ⟨g, cap, cur, hv, hg, hh, hr⟩⟩ := h
  · exact ⟨hl, .inl h0⟩
  · exact ⟨hl, .inr ⟨g, cap, cur, hv, Nat.le_trans hb hg, hh, hr⟩⟩
def hasF (s0 : St) (l : List Ac) (n : Nm) : Bool := decide (1 < (verL s0 l n).length) || !(ver0 s0 n).absent
theorem filt_strict' (F : Nm → Bool) : Strict cmpN (objs.filter F) := List.Pairwise.sublist List.filter_sublist objs_strict
theorem look_names {n : Nm} (hn : IsOb n) : ∀ {s : St}, (∀ p ∈ s, IsOb p.1) → (n ∈ s.map Prod.fst ↔ (look cmpN n s).isNone = false)
  | [], _ => by simp [look]
  | p :: s, h => by
    have ih := look_names hn (s := s) fun q hq => h q (List.mem_cons_of_mem _ hq)
    rw [look_c hn (h p (List.mem_cons_self ..)), List.map_cons, List.mem_cons]
    by_cases e : n = p.1
    · rw [if_pos e]; simp [e]
    · rw [if_neg e, ← ih]; simp [e]
theorem vers_in {n : Nm} : ∀ {l : List Ac} {i : Nat}, (∀ a ∈ l, okAc a = true) → vers n i l ≠ [] → IsOb n
  | [], _, _, h => absurd rfl h
  | a :: l, i, ho, h => by
    unfold vers at h
    by_cases e : (a.writes.filter fun c => c.name == n) = []
    · rw [e, List.map_nil, List.nil_append] at h
      exact vers_in (fun b hb => ho b (List.mem_cons_of_mem _ hb)) h
    · obtain ⟨c, hc⟩ := List.exists_mem_of_ne_nil _ e
      obtain ⟨h1, h2⟩ := List.mem_filter.1 hc
      have h3 := (ord_ob (ok_ch (ho a (List.mem_cons_self ..))).2 c h1).1
      rw [beq_iff_eq] at h2
      rw [← h2]; exact h3
theorem names_final {s0 : St} {l : List Ac} (h0 : StOk s0) (ho : ∀ a ∈ l, okAc a = true) {L : List Nm} (hL : ∀ n, n ∈ L ↔ vers n 0 l ≠ []) : (∀ a ∈ s0.map Prod.fst ++ L, OwnE a) ∧ sortU cmpN (s0.map Prod.fst ++ L) = objs.filter (hasF s0 l) := by
  have hob : ∀ a ∈ s0.map Prod.fst ++ L, IsOb a := by
    intro a ha
    rcases List.mem_append.1 ha with ha | ha
    · obtain ⟨p, hp, rfl⟩ := List.mem_map.1 ha
      exact h0.2 p hp
    · exact vers_in ho ((hL a).1 ha)
  have how : ∀ a ∈ s0.map Prod.fst ++ L, OwnE a := fun a ha => IsOb.own (hob a ha)
  refine ⟨how, strict_ext ordN (fun a ha => how a ((mem_sortU ordN _ how).1 ha)) (strict_sortU ordN _ how) (filt_strict' _) fun a => ?_⟩
  rw [mem_sortU ordN _ how, List.mem_append, List.mem_filter, hL]
  have hv : (1 < (verL s0 l a).length) ↔ vers a 0 l ≠ [] := by
    unfold verL
    cases vers a 0 l <;> simp
  constructor
  · intro h
    have ha : IsOb a := hob a (List.mem_append.2 (by rw [hL]; exact h))
    refine ⟨ha, ?_⟩
    unfold hasF
    rw [Bool.or_eq_true, decide_eq_true_eq, hv]
    rcases h with h | h
    · right
      have := (look_names ha h0.2).1 h
      show (!(look cmpN a s0).isNone) = true
      rw [this]; rfl
    · exact .inl h
  · rintro ⟨ha, h⟩
    unfold hasF at h
    rw [Bool.or_eq_true, decide_eq_true_eq, hv] at h
    rcases h with h | h
    · exact .inr h
    · left
      refine (look_names ha h0.2).2 ?_
      have h : (!(look cmpN a s0).isNone) = true := h
      simpa using h
def VNmP (s0 : St) (l : List Ac) (w : World) (e : Ending) (w' : World) : Prop := ∃ v, e = .returned v ∧ w'.ownsRow w.heap.size 26 5 v (objs.filter (hasF s0 l)).length ((objs.filter (hasF s0 l)).flatMap nmC) ∧ Below w.heap.size w w'
def NamRel (s0 : St) (ents : List (Nm × Value)) (bw r : Nat) (w : World) (v : Value) (wr : World) : Prop :=
  ∃ seen left, MapIt wr bw r ents left ∧ (seen ++ left.map Prod.fst).Perm (ents.map Prod.fst) ∧ wr.ownsRow w.heap.size 26 5 v (s0.map Prod.fst ++ seen).length ((s0.map Prod.fst ++ seen).flatMap nmC) ∧ Below w.heap.size w wr
set_option maxRecDepth 100000 in
set_option maxHeartbeats 4000000 in
theorem vnames_is {w : World} {F : Nat → Prop} {g : Nat} {s0 : St} {l : List Ac} (hv : VAt w F g s0 l) (ho : VOk l) (hs : StV s0) : Calls Tryz.prog 61 #[.pointer (some ⟨g, 0, none⟩)] w (VNmP s0 l w) := by
  obtain ⟨pb, va, vk, pl, bw, br, iv⟩ := hv
  have x0 : w.cell? ⟨g, 0, none⟩ = some (.pointer pb) := iv.blk.cell 0
  have x4 : w.cell? ⟨g, 4, none⟩ = some (.map (some bw)) := iv.blk.cell 4
  have gl : g < w.heap.size := iv.blk.lt
  obtain ⟨B, rfl⟩ : ∃ B, pb = some ⟨B, 0, none⟩ := by obtain ⟨B, _, _, e, _⟩ := id iv.base; exact ⟨B, e⟩
  have HB := Lib.hid iv.base
  obtain ⟨_, ents, hmw, hpw, hew, hcw⟩ := iv.wr
  have h6 : s0.length ≤ 6 := st_six hs.1
  have hen : ents.length ≤ 6 := by
    have h1 : (ents.map Prod.fst).Nodup := by
      rw [List.Nodup, List.pairwise_map]
      exact hpw.imp fun h => h.1
    have h2 : (ents.map Prod.fst) ⊆ objs := by
      intro n hn
      obtain ⟨p, hp, rfl⟩ := List.mem_map.1 hn
      exact vers_in ho.ok (hew p hp).2
    have := nodup_len h1 h2
    simpa [objs] using this
  have HL : Hid (∀ n, n ∈ ents.map Prod.fst ↔ vers n 0 l ≠ []) := Lib.hid fun n => ⟨fun h => by
      obtain ⟨p, hp, rfl⟩ := List.mem_map.1 h
      exact (hew p hp).2, fun h => by
      obtain ⟨v, hv⟩ := Option.isSome_iff_exists.1 (hcw n h)
      exact List.mem_map.2 ⟨_, look_mem hv, rfl⟩⟩
  have HMW := Lib.hid hmw
  have HVO := Lib.hid ho
  have HSV := Lib.hid hs
  obtain ⟨i0, hi, hz0, hz1, hz2⟩ := info_parts infoNm
  clear iv hmw hpw hew hcw ho hs
  go_enter Tryz.func61, Tryz.ntmps61
  go_upto_region 4 with (first
    | (go_at_call 51; refine (none_is x0).mono ?_; rintro e w' ⟨rfl, rfl⟩)
    | (go_at_call 107; refine (names_st HB.out (by omega)).mono ?_; rintro e w2 ⟨v2, rfl, hown2, hb2⟩; have HO2 := Lib.hid hown2; have HB2 := Lib.hid hb2; replace x4 := (hb2.cell (p := ⟨g, 4, none⟩) gl).trans x4; clear hown2 hb2))
  go_wp2_with (at_range; refine wpList_range_nm _ rfl _ _ rfl Tryz.underlying133 bw ents rfl (HMW.out.next HB2.out) ?_; intro w7 hit7 hb7 hs7; have HIT7 := Lib.hid hit7; have HB7 := Lib.hid hb7; clear hit7 hb7 hs7)
  try go_frame
  have HB07 := Lib.hid (HB2.out.trans (HB7.out.mono HB2.out.size))
  have HRG := Lib.hid HB2.out.size
  obtain ⟨r, hr⟩ : ∃ r, w2.heap.size = r := ⟨_, rfl⟩
  rw [hr] at HIT7 HRG ⊢
  have H0 : Hid (NamRel s0 ents bw r w v2 w7) := Lib.hid ⟨[], ents, HIT7.out, List.Perm.refl _, by
    have := own_next HO2.out HB7.out
    rw [List.append_nil, List.length_map]
    exact this, HB07.out⟩
  clear x0 x4 hr
  go_loopw [3] (fun v wr => NamRel s0 ents bw r w v wr) (fun _ wr => wr.rangeLeft bw r)
  case atStart => exact H0.out
  case round =>
    clear H0
    obtain ⟨seen, left, hit, hpm, hown, hbw⟩ := hrel
    have hsl : seen.length + left.length = ents.length := by
      have := hpm.length_eq
      simpa using this
    have HIT := Lib.hid hit
    have HPM := Lib.hid hpm
    have HBW := Lib.hid hbw
    obtain ⟨L, hL⟩ : ∃ L, s0.map Prod.fst ++ seen = L := ⟨_, rfl⟩
    have hLl : L.length ≤ 12 := by rw [← hL]; simp; omega
    rw [hL] at hown
    have HO := Lib.hid hown
    have HLL := Lib.hid hL
    obtain ⟨A3, c3, rfl, hc3⟩ := own_len hown
    clear hit hpm hown hbw hL
    go_wp2_with (at_next; refine wpList_next_nm _ rfl _ rfl bw r ents left rfl HIT.out ?_ ?_)
    · intro hleft
      obtain ⟨hOw, hSo⟩ := names_final HSV.out.1 HVO.out.ok (L := seen) fun n => by
        rw [← HL.out, ← HPM.out.mem_iff, hleft]; simp
      rw [HLL.out] at hOw hSo
      have HOW := Lib.hid hOw
      have HSO := Lib.hid hSo
      clear hleft hOw hSo
      go_wp2_with (go_at_call 79; refine (sort2_is (show RdNm wr _ L from Rd.of_own HO.out) hLl HOW.out).mono ?_; rintro e w9 ⟨v9, rfl, hown9, hb9⟩; rw [HSO.out] at hown9; have HO9 := Lib.hid hown9; have HB9 := Lib.hid hb9; clear hown9 hb9)
      go_ret
      exact ⟨_, rfl, own_mono HO9.out HBW.out.size, HBW.out.trans (HB9.out.mono HBW.out.size)⟩
    · intro n v left' w8 hpm2 hpe hit8 hg8 hs8 hen8
      have HPM2 := Lib.hid hpm2
      have HIT8 := Lib.hid hit8
      have HS8 := Lib.hid hs8
      have ho8 := HO.out.kept hg8 (.inr (fun e1 => (own_not_it HO.out HIT.out).2 e1.symm))
      have HO8 := Lib.hid ho8
      have HB8 : Hid (Below w.heap.size w w8) := Lib.hid (HBW.out.trans ⟨hg8.os, hg8.tape, hg8.output, hg8.size, fun i hi => hg8.block i (Nat.lt_of_lt_of_le hi HBW.out.size) (fun e1 => by injection e1 with e1; have := HRG.out; omega)⟩)
      simp only [nmV, nmA] at hen8 ⊢
      have hb89 := (Below.refl w8.heap.size w8).alloc (Nat.le_refl _) (.cells #[.int .i64 n.kind, .string (bs n.owner), .int .i64 n.num, .int .i64 n.idx, .string (bs n.text)] 26)
      have HB89 := Lib.hid hb89
      clear hpm2 hpe hit8 hg8 hs8 hb89 ho8
      go_wp2_with (at_builtin; refine wpList_append_w _ rfl _ _ _ rfl w.heap.size 26 i0 _ 5 56 Tryz.underlying94 hi hz0 hz1 hz2 rfl (by omega) (.slice A3 L.length c3) L.length (L.flatMap nmC) rfl (own_next (own_next HO8.out HB89.out) ((Below.refl _ _).alloc (Nat.le_refl _) _)) (.slice (some ⟨w8.heap.size + 1, 0, none⟩) 1 1) 1 [.int .i64 n.kind, .string (bs n.owner), .int .i64 n.num, .int .i64 n.idx, .string (bs n.text)] rfl (by have h := own_new (w8.alloc (.cells #[.int .i64 n.kind, .string (bs n.owner), .int .i64 n.num, .int .i64 n.idx, .string (bs n.text)] 26)) 0 26 5 [.int .i64 n.kind, .string (bs n.owner), .int .i64 n.num, .int .i64 n.idx, .string (bs n.text)] rfl (Nat.zero_le _); rw [World.size_alloc] at h; exact Rd.of_own h) (by omega) rfl (by simp [Value.oneCell']) (by unfold maxLen; omega) (by omega) (by have := HB8.out.size; simp; omega) ?_; intro v5 w10 hown5 hg5 hat5; have HO5 := Lib.hid hown5; have HG5 := Lib.hid hg5; clear hown5 hg5 hat5)
      clear hen8
      have HIT9 := Lib.hid (HIT8.out.next (HB89.out.alloc HB89.out.size (.cells #[.int .i64 n.kind, .string (bs n.owner), .int .i64 n.num, .int .i64 n.idx, .string (bs n.text)] 26)))
      have HO9 := Lib.hid (own_next (own_next HO8.out HB89.out) ((Below.refl _ _).alloc (Nat.le_refl _) (.cells #[.int .i64 n.kind, .string (bs n.owner), .int .i64 n.num, .int .i64 n.idx, .string (bs n.text)] 26)))
      have hne := own_not_it HO9.out HIT9.out
      have HIT10 := Lib.hid (HIT9.out.grown HG5.out hne.1 hne.2)
      have hb5 : Below w.heap.size w8 w10 := below_own ((HB89.out.alloc HB89.out.size (.cells #[.int .i64 n.kind, .string (bs n.owner), .int .i64 n.num, .int .i64 n.idx, .string (bs n.text)] 26)).mono HB8.out.size) HO9.out HG5.out (Nat.le_refl _) (by have := HB8.out.size; simp; omega)
      have HB5 := Lib.hid hb5
      clear hb5 hne
      go_wp2_with fail
      go_roundw
      case rel =>
        refine ⟨seen ++ [n], left', HIT10.out, ?_, ?_, HB8.out.trans HB5.out⟩
        · refine List.Perm.trans ?_ HPM.out
          have h1 : (left.map Prod.fst).Perm (n :: left'.map Prod.fst) := HPM2.out.map Prod.fst
          rw [List.append_assoc]
          exact (List.Perm.append_left seen h1).symm
        · rw [← List.append_assoc, HLL.out, List.flatMap_append, List.length_append]
          exact HO5.out
      case measure =>
        show w10.rangeLeft bw r < wr.rangeLeft bw r
        rw [HIT10.out.size, HIT.out.size, HPM2.out.length_eq]
        simp
def mksRel (N : List Nm) (W : World) (v16 v57 : Value) (wr : World) : Prop := ∃ k : Nat, k ≤ N.length ∧ v16 = .slice none 0 0 ∧ v57 = .int .i64 k ∧ Below W.heap.size W wr
set_option maxRecDepth 100000 in
set_option maxHeartbeats 4000000 in
theorem tmarks_none {w : World} {F : Nat → Prop} {gx B gg : Nat} {s0 : St} {l l2 : List Ac} (i : Int) (hv : VAt w F gx s0 l) (hg : GAt w B gg l2) (ho : VOk l) (hs : StV s0) (h6 : ∀ n, ∀ v ∈ verL s0 l n, v.value.length ≤ 65536) (hll : l.length = l2.length) : Calls Tryz.prog 25 #[.pointer (some ⟨gx, 0, none⟩), .pointer (some ⟨gg, 0, none⟩), .slice none 0 0, .int .i64 i] w fun e w' => ∃ er, e = .returned (.tuple #[.slice none 0 0, .int .i64 er]) ∧ Below w.heap.size w w' := by
  have HL := Lib.hid (show l2.length ≤ 100 by have := ho.len; omega)
  have hck := tcheck_is hv hg (by have := ho.len; omega) (by have := HL.out; omega)
  rw [if_pos hll] at hck
  have HCK := Lib.hid hck
  have HV := Lib.hid hv
  have HG := Lib.hid hg
  have HVO := Lib.hid ho
  have HST := Lib.hid hs
  have H6 := Lib.hid h6
  clear hv hg ho hs h6 hll hck
  go_enter Tryz.func25, Tryz.ntmps25
  by_cases h1 : i < 0
  · have d1 : decide (i < 0) = true := decide_eq_true h1
    go_wp2_with (first | (go_at_call 40; refine HCK.out.mono ?_; rintro e w2 ⟨rfl, rfl⟩))
    go_ret2
    exact ⟨2, rfl, Below.refl _ _⟩
  have d1 : decide (i < 0) = false := decide_eq_false h1
  by_cases h2 : (l.length : Int) < i
  · have d2 : decide ((l.length : Int) < i) = true := decide_eq_true h2
    go_wp2_with (first | (go_at_call 40; refine HCK.out.mono ?_; rintro e w2 ⟨rfl, rfl⟩) | (go_at_call 41; refine (vlen_is HV.out).mono ?_; rintro e w2 ⟨rfl, rfl⟩))
    go_ret2
    exact ⟨2, rfl, Below.refl _ _⟩
  · have d2 : decide ((l.length : Int) < i) = false := decide_eq_false h2
    clear h1 h2
    go_wp2_with (first | (go_at_call 40; refine HCK.out.mono ?_; rintro e w2 ⟨rfl, rfl⟩) | (go_at_call 41; refine (vlen_is HV.out).mono ?_; rintro e w2 ⟨rfl, rfl⟩))
    go_at_call 60
    refine (effects_nil HG.out (by have := HL.out; omega)).mono ?_
    rintro e w2 ⟨rfl, hb⟩
    have HB2 := Lib.hid hb
    replace HV := Lib.hid (HV.out.next hb)
    clear hb HG HCK
    generalize w2 = W2 at *
    have hmm := @run_makeMap Tryz.prog
    go_upto_region 10 with (fail)
    have HA3 := Lib.hid ((Below.refl W2.heap.size W2).alloc (Nat.le_refl _) (.map #[] 0))
    have HS3 := Lib.hid (show SetAt (W2.alloc (.map #[] 0)) W2.heap.size [] from MapAtI.new W2)
    replace HV := Lib.hid (HV.out.next HA3.out)
    have HB3 := Lib.hid (HB2.out.trans (HA3.out.mono HB2.out.size))
    clear hmm HA3
    generalize (W2.alloc (.map #[] 0)) = W3 at *
    generalize W2.heap.size = mb at *
    clear HB2
    go_wp2_with fail
    refine wp_loop_rounds 1 ?_
    rw [rounds_succ]
    go_wp2_with fail
    go_at_call 61
    refine (vnames_is HV.out HVO.out HST.out).mono ?_
    rintro e w4 ⟨v4, rfl, hown, hb⟩
    obtain ⟨N, hN⟩ : ∃ N, objs.filter (hasF s0 l) = N := ⟨_, rfl⟩
    have HNO := Lib.hid (show ∀ n ∈ N, OwnE n by rw [← hN]; intro n hn; exact IsOb.own (List.mem_filter.1 hn).1)
    rw [hN] at hown
    obtain ⟨A4, c4, rfl, hc4⟩ := own_len hown
    have HR4 := Lib.hid (show RdNm w4 _ N from Rd.of_own hown)
    have hNl : N.length ≤ 9223372036854775807 := by
      obtain ⟨_, c', e', _, hm', _⟩ := HR4.out
      unfold maxLen at hm'
      omega
    have HB4 := Lib.hid (HB3.out.trans (hb.mono HB3.out.size))
    replace HV := Lib.hid (HV.out.next hb)
    replace HS3 := Lib.hid (HS3.out.next hb)
    clear hb hown hN hc4 HB3
    generalize w4 = W4 at *
    have H0 : Hid (mksRel N W4 (.slice none 0 0) (.int .i64 (0 : Nat)) W4) := Lib.hid ⟨0, Nat.zero_le _, rfl, rfl, Below.refl _ _⟩
    go_wp2_with fail
    go_loopw [16, 57] (fun v16 v57 wr => mksRel N W4 v16 v57 wr) (fun _ v57 _ => N.length - (intOf v57).toNat)
    case atStart => exact H0.out
    case round =>
      clear H0
      obtain ⟨k, hkl, rfl, rfl, hbw⟩ := hrel
      have HBW := Lib.hid hbw
      clear hbw
      by_cases hk : k < N.length
      · have j1 : (0 : Int) ≤ (k : Int) := by omega
        have j2 : (k : Int) < (N.length : Int) := by omega
        have j3 : decide ((k : Int) < (N.length : Int)) = true := decide_eq_true j2
        obtain ⟨bv, ov, hbe, hbb, x0, x1, x2, x3, x4⟩ := RdNm.piece (RdP.next HR4.out HBW.out) hk
        subst hbe
        have HON := Lib.hid (HNO.out _ (List.getElem_mem hk))
        have HAL := Lib.hid ((Below.refl wr.heap.size wr).alloc (Nat.le_refl _) (.cells #[.int .i64 N[k].kind, .string (bs N[k].owner), .int .i64 N[k].num, .int .i64 N[k].idx, .string (bs N[k].text)] 26))
        have ZN := Lib.hid (Blk.new wr 26 #[.int .i64 N[k].kind, .string (bs N[k].owner), .int .i64 N[k].num, .int .i64 N[k].idx, .string (bs N[k].text)])
        go_upto_region 19 with (fail)
        clear x0 x1 x2 x3 x4
        have HV5 := Lib.hid ((HV.out.next HBW.out).next HAL.out)
        have HS5 := Lib.hid ((HS3.out.next HBW.out).next HAL.out)
        have HB5 := Lib.hid (HBW.out.trans (HAL.out.mono HBW.out.size))
        clear HAL HBW
        generalize (wr.alloc (.cells #[.int .i64 N[k].kind, .string (bs N[k].owner), .int .i64 N[k].num, .int .i64 N[k].idx, .string (bs N[k].text)] 26)) = W5 at *
        generalize wr.heap.size = nb at *
        have y0 := ZN.out.cell 0
        have y1 := ZN.out.cell 1
        have y2 := ZN.out.cell 2
        have y3 := ZN.out.cell 3
        have y4 := ZN.out.cell 4
        simp only [qB, qC, qD] at y0 y1 y2 y3 y4
        go_wp2_with fail
        go_at_call 63
        refine (origins_is (n := N[k]) i HV5.out HON.out HVO.out (H6.out _)).mono ?_
        rintro e w6 ⟨v6, L6, rfl, hr6, hl6, hb⟩
        obtain ⟨A6, c6, rfl, hc6⟩ := RdP.form hr6
        have HR6 := Lib.hid hr6
        have HB6 := Lib.hid (HB5.out.trans (hb.mono HB5.out.size))
        have HS6 := Lib.hid (HS5.out.next hb)
        clear hr6 hb y0 y1 y2 y3 y4 HV5 HS5 HB5 ZN hc6
        generalize w6 = W6 at *
        go_wp2_with fail
        go_at_call 62
        refine (marked_none HS6.out HR6.out (by omega)).mono ?_
        rintro e w7 ⟨rfl, hb⟩
        have HB7 := Lib.hid (HB6.out.trans (hb.mono HB6.out.size))
        clear hb hl6 HR6 HS6 HB6
        generalize w7 = W7 at *
        have HB8 := Lib.hid (HB7.out.trans (((Below.refl W7.heap.size W7).alloc (Nat.le_refl _) (.cells #[.slice none 0 0] 156)).mono HB7.out.size))
        go_wp2_with fail
        go_at_call 64
        refine sempty_nil.mono ?_
        rintro e w8 ⟨rfl, hb⟩
        have HB9 := Lib.hid (HB8.out.trans (hb.mono HB8.out.size))
        clear hb
        generalize w8 = W8 at *
        go_wp2_with fail
        go_roundw
        case rel => exact ⟨k + 1, by omega, rfl, by go_num, HB9.out⟩
        case measure => simp [intOf]; omega
      · have j3 : decide ((k : Int) < (N.length : Int)) = false := decide_eq_false (by omega)
        go_wp2_with fail
        go_ret2
        exact ⟨0, rfl, HB4.out.trans (HBW.out.mono HB4.out.size)⟩
end Go.Proofs.YtamjllakfgphnaaGreatDoor
namespace Go.Proofs.YtamjllakfgphnaaGreatDoor
open Go.RowKit
attribute [local go_sem ↓] Go.wp_at_zero Go.wp_at_succ
open Go.MapKept Go.ChangeMaps
set_option maxRecDepth 100000 in
set_option maxHeartbeats 2000000 in
theorem tof_err {w : World} {vx vg : Value} (n : Nm) (a i er : Int) (hc : ∀ W, Below w.heap.size w W → Calls Tryz.prog 40 #[vx, vg] W fun e w' => e = .returned (.int .i64 er) ∧ W = w') (her : er ≠ 0) :
    Calls Tryz.prog 18 #[vx, vg, plV n a, .int .i64 i] w fun e w' => e = .returned (.tuple #[.agg #[.slice none 0 0, .slice none 0 0, .slice none 0 0], .int .i64 er]) ∧ Below w.heap.size w w' := by
  have ha := (Below.refl w.heap.size w).alloc (Nat.le_refl _) (.cells #[.int .i64 n.kind, .string (bs n.owner), .int .i64 n.num, .int .i64 n.idx, .string (bs n.text), .int .i64 a] 28)
  have ha2 := ha.alloc (by simp) (.cells #[.slice none 0 0, .slice none 0 0, .slice none 0 0] 36)
  have zp := (Blk.new w 28 #[.int .i64 n.kind, .string (bs n.owner), .int .i64 n.num, .int .i64 n.idx, .string (bs n.text), .int .i64 a]).alloc (.cells #[.slice none 0 0, .slice none 0 0, .slice none 0 0] 36)
  have zr := Blk.new (w.alloc (.cells #[.int .i64 n.kind, .string (bs n.owner), .int .i64 n.num, .int .i64 n.idx, .string (bs n.text), .int .i64 a] 28)) 36 #[.slice none 0 0, .slice none 0 0, .slice none 0 0]
  rw [World.size_alloc] at zr
  have HA := Lib.hid ha2
  have ZP := Lib.hid zp
  have ZR := Lib.hid zr
  have HC := Lib.hid hc
  have d0 : (er != 0) = true := by rw [bne_iff_ne]; exact her
  clear ha ha2 zp zr hc her
  go_enter Tryz.func18, Tryz.ntmps18
  simp only [plV]
  go_upto_region 1 with (fail)
  generalize ((w.alloc (.cells #[.int .i64 n.kind, .string (bs n.owner), .int .i64 n.num, .int .i64 n.idx, .string (bs n.text), .int .i64 a] 28)).alloc (.cells #[.slice none 0 0, .slice none 0 0, .slice none 0 0] 36)) = W at *
  obtain ⟨rb, hrb⟩ : ∃ x, w.heap.size + 1 = x := ⟨_, rfl⟩
  obtain ⟨pb, hpb⟩ : ∃ x, w.heap.size = x := ⟨_, rfl⟩
  have HRB := Lib.hid (show w.heap.size < rb by omega)
  rw [hrb] at ZR ⊢
  rw [hpb] at ZP ⊢
  clear hrb hpb
  have r0 := ZR.out.cell 0
  have r1 := ZR.out.cell 1
  have r2 := ZR.out.cell 2
  have g0 := ZR.out.frozen 0
  have g1 := ZR.out.frozen 1
  have g2 := ZR.out.frozen 2
  simp only [qB, qC, qD] at r0 r1 r2
  go_wp2_with fail
  go_at_call 40
  refine (HC.out W HA.out).mono ?_
  rintro e w2 ⟨rfl, rfl⟩
  go_wp2_with fail
  exact bodyPost_ret (v := .tuple #[.agg #[.slice none 0 0, .slice none 0 0, .slice none 0 0], .int .i64 er]) (by simp [results, Tryz.results18, go_sem, r0, r1, r2]) rfl ⟨rfl, (((HA.out.setCell (p := ⟨rb, 0, none⟩) (Nat.le_of_lt HRB.out) _).setCell (p := ⟨rb, 1, none⟩) (Nat.le_of_lt HRB.out) _).setCell (p := ⟨rb, 2, none⟩) (Nat.le_of_lt HRB.out) _)⟩
end Go.Proofs.YtamjllakfgphnaaGreatDoor
