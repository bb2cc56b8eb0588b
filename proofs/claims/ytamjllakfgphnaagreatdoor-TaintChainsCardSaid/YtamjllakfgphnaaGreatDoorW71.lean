/- Walks of layer 46: the ordinals of a lineage, one after another. -/
import Derived.Test.YtamjllakfgphnaaGreatDoorW70
import Derived.Test.YtamjllakfgphnaaGreatDoorW41
namespace Go.Proofs.YtamjllakfgphnaaGreatDoor
open Go.RowKit Go.Shelf
set_option linter.unusedSimpArgs false
set_option linter.unusedVariables false
attribute [local go_sem] Oper.semAt_some
theorem fst_e (s : ByteArray) (a c : Nat) : (fstP s a c).e = errF s a c := by
  unfold fstP
  by_cases h : errF s a c = 0
  · rw [if_pos h, h]
  · rw [if_neg h]
theorem fst_bd {s : ByteArray} {a c : Nat} (ha : a ≤ s.size) (h : (fstP s a c).e = 0) : c ≠ 8 ∧ fstE s a c ≤ s.size ∧ fstE s a c ≤ a + 7 := by
  rw [fst_e] at h
  have h1 := dgE_le s 7 a ha
  unfold fstE
  rw [if_pos h]
  refine ⟨fun e => ?_, h1.2.2, h1.2.1⟩
  unfold errF at h
  rw [if_pos e] at h
  cases h
def partsL (s : ByteArray) : Nat → Nat → Nat → List Pt
  | 0, _, _ => []
  | f + 1, a, c => fstP s a c :: (if (fstP s a c).e ≠ 0 then [] else if fstE s a c = s.size then [] else if bt46 s (fstE s a c) ≠ 46 then [⟨0, fstE s a c, 6⟩] else partsL s f (fstE s a c + 1) (c + 1))
/-- What the iterator gives. -/
def PS (s : ByteArray) : List Pt := if s.size = 0 then [] else partsL s 9 0 0
theorem PS_ne {s : ByteArray} (h : s.size ≠ 0) : PS s ≠ [] := by
  unfold PS
  rw [if_neg h]
  intro e
  simp [partsL] at e
/-- The iterator's own blocks are as they were. -/
structure KpL (W W' : World) : Prop where
  size : W.heap.size ≤ W'.heap.size
  same : ∀ (i : Nat) (cs : Array Value) (e : TypeId) (fr : Nat × Nat), W.heap[i]? = some (.cells cs e fr) → e = 213 ∨ e = 9 → W'.heap[i]? = some (.cells cs e fr)
theorem KpL.refl (W : World) : KpL W W := ⟨Nat.le_refl _, fun _ _ _ _ h _ => h⟩
theorem KpL.trans {A B C : World} (h : KpL A B) (k : KpL B C) : KpL A C := ⟨Nat.le_trans h.size k.size, fun i cs e fr h1 h2 => k.same i cs e fr (h.same i cs e fr h1 h2) h2⟩
theorem KpL.below {W W' : World} (h : Below W.heap.size W W') : KpL W W' := ⟨h.size, fun i cs e fr h1 _ => (h.block i (Array.getElem?_eq_some_iff.1 h1).1).trans h1⟩
theorem KpL.blk {W W' : World} {g t : Nat} {cs : Array Value} (h : KpL W W') (hb : Blk W g t cs) (ht : t = 213 ∨ t = 9) : Blk W' g t cs := h.same g cs t (0, 0) hb ht
theorem grown_none {w w' : World} (hb : Below w.heap.size w w') : w.grownBy w' none := ⟨hb.os, hb.tape, hb.output, hb.size, fun i hi _ => hb.block i hi⟩
def PrtRel (s : ByteArray) (Bt : Nat) (J : List Pt → World → Prop) (i3 i4 : Value) (wr : World) : Prop :=
  ∃ (a c : Nat) (pre : List Pt), i3 = .int .i64 a ∧ i4 = .int .i64 c ∧ a ≤ s.size ∧ a ≤ 8 * c ∧ c ≤ 8 ∧ pre ++ partsL s (9 - c) a c = PS s ∧ J pre wr ∧ Blk wr Bt 9 #[.string s]
set_option maxRecDepth 100000 in
set_option maxHeartbeats 4000000 in
theorem parts1_in (n l Bt : Nat) (s : ByteArray) (J Jx : List Pt → World → Prop) (W0 : World) (hab : AbidesFrom W0.heap.size J)
    (hY : ∀ pre x W, J pre W → pre.length < (PS s).length → YieldAt Fence.wide (n - 1) Tryz.prog l #[ptV x] W fun e W' => (e = .returned (.bool true) ∧ J (pre ++ [x]) W' ∧ KpL W W') ∨ (e = .returned (.bool false) ∧ Jx (pre ++ [x]) W'))
    (W : World) (hBt : Blk W Bt 9 #[.string s]) (h0 : J [] W) :
    CallsIn Fence.wide n Tryz.prog 163 #[.func (.yield l) #[] #[], .pointer (some ⟨Bt, 0, none⟩)] W fun e W' => (∃ v, e = .returned v) ∧ ((∃ ys, ys = PS s ∧ J ys W') ∨ (∃ pre, pre <+: PS s ∧ Jx pre W')) := by
  have x0 := hBt.cell 0
  simp only [List.getElem?_toArray, List.getElem?_cons_zero] at x0
  by_cases hs : s.size = 0
  · have hps : PS s = [] := by unfold PS; rw [if_pos hs]
    have hse : s = ⟨#[]⟩ := by
      have : s.data = #[] := Array.size_eq_zero_iff.1 hs
      cases s; simp_all
    subst hse
    refine callsIn_of_wp Tryz.func163 rfl trivial ?_ rfl
    simp only [Tryz.ntmps163, List.size_toArray, List.length_cons, List.length_nil, Nat.reduceAdd, Nat.reduceSub, Array.replicate_succ, Array.replicate_zero, List.push_toArray, List.append_toArray, List.nil_append, List.cons_append]
    gi_wp2
    gi_loopw [3, 4] (fun i3 i4 wr => wr = W) (fun _ _ _ => 0)
    case atStart => rfl
    case round =>
      subst hrel
      gi_wp2
      go_end0
      exact ⟨⟨_, rfl⟩, .inl ⟨_, hps.symm, h0⟩⟩
  · have hne : ¬ s.data.toList = [] := fun e => hs (by
      have : s.data = #[] := by cases h : s.data; rw [h] at e; simp at e; rw [e]
      rw [ByteArray.size, this]; rfl)
    have H0 : PrtRel s Bt J (.int .i64 (0 : Nat)) (.int .i64 (0 : Nat)) W := ⟨0, 0, [], rfl, rfl, Nat.zero_le _, by omega, by omega, by unfold PS; rw [if_neg hs]; rfl, h0, hBt⟩
    have H0 := Lib.hid H0
    have hemp : s.toList.isEmpty = false := by rw [Lib.toList_data]; simpa [List.isEmpty_iff] using hne
    clear h0 hBt hs hne
    refine callsIn_of_wp Tryz.func163 rfl trivial ?_ rfl
    simp only [Tryz.ntmps163, List.size_toArray, List.length_cons, List.length_nil, Nat.reduceAdd, Nat.reduceSub, Array.replicate_succ, Array.replicate_zero, List.push_toArray, List.append_toArray, List.nil_append, List.cons_append]
    gi_wp2
    gi_loopw [3, 4] (fun i3 i4 wr => PrtRel s Bt J i3 i4 wr) (fun _ i4 _ => 9 - (intOf i4).toNat)
    case atStart => exact H0.out
    case round =>
      clear H0 x0
      obtain ⟨a, c, pre, rfl, rfl, ha, ha8, hc, hps, hJ, hBt⟩ := hrel
      have x0 := hBt.cell 0
      simp only [List.getElem?_toArray, List.getElem?_cons_zero] at x0
      obtain ⟨p, hp⟩ : ∃ p, fstP s a c = p := ⟨_, rfl⟩
      obtain ⟨E, hE⟩ : ∃ E, fstE s a c = E := ⟨_, rfl⟩
      have HP := Lib.hid hp
      have HE := Lib.hid hE
      have h9 : 9 - c = (8 - c) + 1 := by omega
      rw [h9, partsL, hp, hE] at hps
      have hlt : pre.length < (PS s).length := by rw [← hps, List.length_append, List.length_cons]; omega
      have HBD := Lib.hid (fun h : p.e = 0 => by have := fst_bd (c := c) ha (by rw [hp]; exact h); rw [hE] at this; exact this)
      have HPS := Lib.hid hps
      clear hp hE hps h9
      by_cases q1 : p.e = 0
      · obtain ⟨hc8, hEs, hEa⟩ := HBD.out q1
        have n1 : (p.e != 0) = false := by rw [q1]; rfl
        have hE100 : E ≤ 100 := by omega
        by_cases q2 : E = s.size
        · have n2 : ((E : Int) == (s.size : Int)) = true := by rw [beq_iff_eq]; omega
          have HR1 : Hid (pre ++ [p] = PS s) := Lib.hid (by have := HPS.out; rw [if_neg (fun h => h q1), if_pos q2] at this; exact this)
          clear q1 q2
          gi_wp2_with (first
            | ((try refine ⟨trivial, ?_⟩); (try refine ⟨fun h => (by cases h), ?_⟩); gi_at_call 164; refine (callsIn_wide.2 (lfirst_is s ha (by omega) hc)).mono ?_; rintro e W1 ⟨rfl, hb1⟩; rw [HP.out, HE.out]; simp only [ptV]; have hbA := hb1.alloc hb1.size (.cells #[.int .i64 p.o, .int .i64 p.a, .int .i64 p.e] 213); have hJ2 := hab pre wr _ none hJ (grown_none hbA) (fun r e => by cases e); have hBt2 := hBt.next hbA hBt.lt; have hpb := Blk.new W1 213 #[.int .i64 p.o, .int .i64 p.a, .int .i64 p.e]; have d0 := hpb.cell 0; have d1 := hpb.cell 1; have d2 := hpb.cell 2; (simp only [List.getElem?_toArray, List.getElem?_cons_zero, List.getElem?_cons_succ] at d0 d1 d2); obtain ⟨fn, tmps, assign, body, hy, hR⟩ := hY pre p _ hJ2 hlt; (simp only [ptV] at hR hy); clear hJ2 hbA hb1)
            | ((try refine ⟨trivial, ?_⟩); (try refine ⟨fun h => (by cases h), ?_⟩); refine hR.mono ?_; clear hR; rintro e W3 (⟨rfl, hJ3, hk3⟩ | ⟨rfl, hx3⟩); (all_goals (try (have hBt3 := hk3.blk hBt2 (.inr rfl); have x3 := hBt3.cell 0; have hp3 := hk3.blk hpb (.inl rfl); have c3 := hp3.cell 2; (simp only [List.getElem?_toArray, List.getElem?_cons_zero, List.getElem?_cons_succ] at x3 c3))))))
          · refine bodyPost_ret (results_none rfl _ _ _) rfl ?_
            exact ⟨⟨_, rfl⟩, .inl ⟨_, rfl, by have := hJ3; rw [HR1.out] at this; exact this⟩⟩
          · refine bodyPost_ret (results_none rfl _ _ _) rfl ?_
            exact ⟨⟨_, rfl⟩, .inr ⟨pre ++ [p], by rw [HR1.out]; exact List.prefix_refl _, hx3⟩⟩
        · have n2 : ((E : Int) == (s.size : Int)) = false := by rw [beq_eq_false_iff_ne]; omega
          have hEl : E < s.size := by omega
          have hb := bt46_of s E hEl
          have k1 : (0 : Int) ≤ (E : Int) := by omega
          have k2 : (E : Int) < (s.size : Int) := by omega
          have k3 : IntKind.i64.wrap ((E : Int) + 1) = (E : Int) + 1 := IntWalk.i64_in _ (by omega)
          have k4 : IntKind.i64.wrap ((c : Int) + 1) = (c : Int) + 1 := IntWalk.i64_in _ (by omega)
          obtain ⟨b, hbv⟩ : ∃ b, bt46 s E = b := ⟨_, rfl⟩
          rw [hbv] at hb
          have HQ1 := Lib.hid q1
          have HQ2 := Lib.hid q2
          have HBV := Lib.hid hbv
          clear q1 hbv
          by_cases q3 : b = 46
          · have n3 : (b != 46) = false := by rw [q3]; rfl
            have HR1 : Hid (pre ++ [p] ++ partsL s (8 - c) (E + 1) (c + 1) = PS s) := Lib.hid (by have := HPS.out; rw [if_neg (fun h => h HQ1.out), if_neg HQ2.out, if_neg (fun h => h (by rw [HBV.out]; exact q3))] at this; rw [List.append_assoc]; exact this)
            clear q3
            gi_wp2_with (first
              | ((try refine ⟨trivial, ?_⟩); (try refine ⟨fun h => (by cases h), ?_⟩); gi_at_call 164; refine (callsIn_wide.2 (lfirst_is s ha (by omega) hc)).mono ?_; rintro e W1 ⟨rfl, hb1⟩; rw [HP.out, HE.out]; simp only [ptV]; have hbA := hb1.alloc hb1.size (.cells #[.int .i64 p.o, .int .i64 p.a, .int .i64 p.e] 213); have hJ2 := hab pre wr _ none hJ (grown_none hbA) (fun r e => by cases e); have hBt2 := hBt.next hbA hBt.lt; have hpb := Blk.new W1 213 #[.int .i64 p.o, .int .i64 p.a, .int .i64 p.e]; have d0 := hpb.cell 0; have d1 := hpb.cell 1; have d2 := hpb.cell 2; (simp only [List.getElem?_toArray, List.getElem?_cons_zero, List.getElem?_cons_succ] at d0 d1 d2); obtain ⟨fn, tmps, assign, body, hy, hR⟩ := hY pre p _ hJ2 hlt; (simp only [ptV] at hR hy); clear hJ2 hbA hb1)
              | ((try refine ⟨trivial, ?_⟩); (try refine ⟨fun h => (by cases h), ?_⟩); refine hR.mono ?_; clear hR; rintro e W3 (⟨rfl, hJ3, hk3⟩ | ⟨rfl, hx3⟩); (all_goals (try (have hBt3 := hk3.blk hBt2 (.inr rfl); have x3 := hBt3.cell 0; have hp3 := hk3.blk hpb (.inl rfl); have c3 := hp3.cell 2; (simp only [List.getElem?_toArray, List.getElem?_cons_zero, List.getElem?_cons_succ] at x3 c3))))))
            · go_roundw
              case rel => exact ⟨E + 1, c + 1, pre ++ [p], by go_num, by go_num, by omega, by omega, by omega, by rw [show 9 - (c + 1) = 8 - c by omega]; exact HR1.out, hJ3, hBt3⟩
              case measure => simp [intOf]; omega
            · refine bodyPost_ret (results_none rfl _ _ _) rfl ?_
              exact ⟨⟨_, rfl⟩, .inr ⟨pre ++ [p], ⟨_, HR1.out⟩, hx3⟩⟩
          · have n3 : (b != 46) = true := by rw [bne_iff_ne]; exact q3
            have HR1 : Hid (pre ++ [p] ++ [⟨0, (E : Int), 6⟩] = PS s) := Lib.hid (by have := HPS.out; rw [if_neg (fun h => h HQ1.out), if_neg HQ2.out, if_pos (by rw [HBV.out]; exact q3)] at this; rw [List.append_assoc]; exact this)
            have hlt2 : (pre ++ [p]).length < (PS s).length := by rw [← HR1.out]; simp
            clear q3
            have ONCE : True := trivial
            gi_wp2_with (first
              | ((try refine ⟨trivial, ?_⟩); (try refine ⟨fun h => (by cases h), ?_⟩); gi_at_call 164; refine (callsIn_wide.2 (lfirst_is s ha (by omega) hc)).mono ?_; rintro e W1 ⟨rfl, hb1⟩; rw [HP.out, HE.out]; simp only [ptV]; have hbA := hb1.alloc hb1.size (.cells #[.int .i64 p.o, .int .i64 p.a, .int .i64 p.e] 213); have hJ2 := hab pre wr _ none hJ (grown_none hbA) (fun r e => by cases e); have hBt2 := hBt.next hbA hBt.lt; have hpb := Blk.new W1 213 #[.int .i64 p.o, .int .i64 p.a, .int .i64 p.e]; have d0 := hpb.cell 0; have d1 := hpb.cell 1; have d2 := hpb.cell 2; (simp only [List.getElem?_toArray, List.getElem?_cons_zero, List.getElem?_cons_succ] at d0 d1 d2); obtain ⟨fn, tmps, assign, body, hy, hR⟩ := hY pre p _ hJ2 hlt; (simp only [ptV] at hR hy); clear hJ2 hbA hb1)
              | (clear ONCE; (try refine ⟨trivial, ?_⟩); (try refine ⟨fun h => (by cases h), ?_⟩); refine hR.mono ?_; clear hR; rintro e W3 (⟨rfl, hJ3, hk3⟩ | ⟨rfl, hx3⟩); (all_goals (try (have hBt3 := hk3.blk hBt2 (.inr rfl); have x3 := hBt3.cell 0; have hp3 := hk3.blk hpb (.inl rfl); have c3 := hp3.cell 2; obtain ⟨fn2, tmps2, assign2, body2, hy2, hR2⟩ := hY (pre ++ [p]) ⟨0, (E : Int), 6⟩ W3 hJ3 hlt2; (simp only [ptV] at hR2 hy2); (simp only [List.getElem?_toArray, List.getElem?_cons_zero, List.getElem?_cons_succ] at x3 c3)))))
              | ((try refine ⟨trivial, ?_⟩); (try refine ⟨fun h => (by cases h), ?_⟩); refine hR2.mono ?_; clear hR2; rintro e W4 (⟨rfl, hJ4, hk4⟩ | ⟨rfl, hx4⟩)))
            · refine bodyPost_ret (results_none rfl _ _ _) rfl ?_
              exact ⟨⟨_, rfl⟩, .inl ⟨_, rfl, by have := hJ4; rw [HR1.out] at this; exact this⟩⟩
            · refine bodyPost_ret (results_none rfl _ _ _) rfl ?_
              exact ⟨⟨_, rfl⟩, .inr ⟨_, by rw [HR1.out]; exact List.prefix_refl _, hx4⟩⟩
            · refine bodyPost_ret (results_none rfl _ _ _) rfl ?_
              exact ⟨⟨_, rfl⟩, .inr ⟨pre ++ [p], ⟨_, HR1.out⟩, hx3⟩⟩
      · have n1 : (p.e != 0) = true := by rw [bne_iff_ne]; exact q1
        have HR1 : Hid (pre ++ [p] = PS s) := Lib.hid (by have := HPS.out; rw [if_pos q1] at this; exact this)
        clear q1
        gi_wp2_with (first
          | ((try refine ⟨trivial, ?_⟩); (try refine ⟨fun h => (by cases h), ?_⟩); gi_at_call 164; refine (callsIn_wide.2 (lfirst_is s ha (by omega) hc)).mono ?_; rintro e W1 ⟨rfl, hb1⟩; rw [HP.out, HE.out]; simp only [ptV]; have hbA := hb1.alloc hb1.size (.cells #[.int .i64 p.o, .int .i64 p.a, .int .i64 p.e] 213); have hJ2 := hab pre wr _ none hJ (grown_none hbA) (fun r e => by cases e); have hBt2 := hBt.next hbA hBt.lt; have hpb := Blk.new W1 213 #[.int .i64 p.o, .int .i64 p.a, .int .i64 p.e]; have d0 := hpb.cell 0; have d1 := hpb.cell 1; have d2 := hpb.cell 2; (simp only [List.getElem?_toArray, List.getElem?_cons_zero, List.getElem?_cons_succ] at d0 d1 d2); obtain ⟨fn, tmps, assign, body, hy, hR⟩ := hY pre p _ hJ2 hlt; (simp only [ptV] at hR hy); clear hJ2 hbA hb1)
          | ((try refine ⟨trivial, ?_⟩); (try refine ⟨fun h => (by cases h), ?_⟩); refine hR.mono ?_; clear hR; rintro e W3 (⟨rfl, hJ3, hk3⟩ | ⟨rfl, hx3⟩); (all_goals (try (have hBt3 := hk3.blk hBt2 (.inr rfl); have x3 := hBt3.cell 0; have hp3 := hk3.blk hpb (.inl rfl); have c3 := hp3.cell 2; (simp only [List.getElem?_toArray, List.getElem?_cons_zero, List.getElem?_cons_succ] at x3 c3))))))
        · refine bodyPost_ret (results_none rfl _ _ _) rfl ?_
          exact ⟨⟨_, rfl⟩, .inl ⟨_, rfl, by have := hJ3; rw [HR1.out] at this; exact this⟩⟩
        · refine bodyPost_ret (results_none rfl _ _ _) rfl ?_
          exact ⟨⟨_, rfl⟩, .inr ⟨pre ++ [p], by rw [HR1.out]; exact List.prefix_refl _, hx3⟩⟩
end Go.Proofs.YtamjllakfgphnaaGreatDoor
