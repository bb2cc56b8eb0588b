/- Walks and plain facts of the earlier laws, packed: W84. -/
import Derived.Test.YtmjkcanjfjfkfaaB7
namespace Go.Proofs.Ytmjkcanjfjfkfaa
open Go.RowKit
set_option linter.unusedSimpArgs false
set_option linter.unusedVariables false
attribute [local go_sem ↓] Go.wp_at_zero Go.wp_at_succ
theorem infoKy : (Try.prog.info? 56).map (fun i => (i.zero, i.size, i.bytes)) = some (some (.agg #[.int .i64 0, .int .i64 0, .int .i64 0, .string ⟨#[]⟩]), 4, 40) := by kernel_rfl
theorem infoLk : (Try.prog.info? 43).map (fun i => (i.zero, i.size, i.bytes)) = some (some (.agg #[.int .i64 0, .int .i64 0, .int .i64 0, .string ⟨#[]⟩, .int .i64 0, .int .i64 0, .string ⟨#[]⟩]), 7, 72) := by kernel_rfl
theorem infoLs : (Try.prog.info? 32).map (fun i => (i.zero, i.size, i.bytes)) = some (some (.slice none 0 0), 1, 24) := by kernel_rfl
theorem make_links (w : World) (n : Nat) (hn : n ≤ 100) : (Instr.makeSlice 80 (.int .i64 n) (.int .i64 n)).run Try.prog w = .ok (.slice (some ⟨w.heap.size, 0, none⟩) n n) (w.alloc (.cells (madeCells #[.slice none 0 0] n) 32)) := by
  obtain ⟨i0, hi, hz0, hz1, hz2⟩ := info_parts infoLs
  have h := run_make (P := Try.prog) w 80 32 i0 _ Try.underlying80 hi hz0 .i64 .i64 n n (by omega) (Int.le_refl _) (by rw [hz2]; omega) (by omega)
  rw [hz1] at h
  simp only [Int.toNat_natCast, Nat.mul_one] at h
  exact h
theorem four_allocs (w : World) (o1 o2 o3 o4 : Obj) : ((((w.alloc o1).alloc o2).alloc o3).alloc o4).heap[w.heap.size]? = some o1 ∧ ((((w.alloc o1).alloc o2).alloc o3).alloc o4).heap[w.heap.size + 1]? = some o2 ∧ ((((w.alloc o1).alloc o2).alloc o3).alloc o4).heap[w.heap.size + 2]? = some o3 ∧ ((((w.alloc o1).alloc o2).alloc o3).alloc o4).heap[w.heap.size + 3]? = some o4 ∧ Below w.heap.size w ((((w.alloc o1).alloc o2).alloc o3).alloc o4) := by
  have n := fun (W : World) (o : Obj) => World.alloc_heap_new W o
  have b := fun (W : World) (o : Obj) (i : Nat) (h : i < W.heap.size) => Below.heap_alloc W o i h
  have e1 := n w o1
  have e2 := n (w.alloc o1) o2
  have e3 := n ((w.alloc o1).alloc o2) o3
  have e4 := n (((w.alloc o1).alloc o2).alloc o3) o4
  simp only [World.size_alloc] at e1 e2 e3 e4
  refine ⟨?_, ?_, ?_, e4, ?_⟩
  · rw [b _ _ _ (by simp only [World.size_alloc]; omega), b _ _ _ (by simp only [World.size_alloc]; omega), b _ _ _ (by simp only [World.size_alloc]; omega)]; exact e1
  · rw [b _ _ _ (by simp only [World.size_alloc]; omega), b _ _ _ (by simp only [World.size_alloc]; omega)]; exact e2
  · rw [b _ _ _ (by simp only [World.size_alloc]; omega)]; exact e3
  · exact (((((Below.refl _ w).alloc (Nat.le_refl _) _).alloc (by simp) _).alloc (by simp; omega) _).alloc (by simp; omega) _)
theorem g0_of {wx : World} {g bl bu bw : Nat} (N B : Nat) (hN : N ≤ 100) (h1 : wx.heap[g]? = some (.cells #[.slice none 0 0, .slice (some ⟨bl, 0, none⟩) N N, .slice (some ⟨bu, 0, none⟩) N N, .map (some bw)] 84)) (h2 : wx.heap[bl]? = some (.cells (madeCells #[.slice none 0 0] N) 32)) (h3 : wx.heap[bu]? = some (.cells (madeCells #[.slice none 0 0] N) 32)) (h4 : wx.heap[bw]? = some (.map #[] 0)) (hne : bl ≠ bu) (g1 : B ≤ g) (g2 : B ≤ bl) (g3 : B ≤ bu) (g4 : B ≤ bw) :
    GIn wx B g (.slice none 0 0) (.slice (some ⟨bl, 0, none⟩) N N) (.slice (some ⟨bu, 0, none⟩) N N) bw [] (List.replicate N (.slice none 0 0)) (List.replicate N (.slice none 0 0)) (List.replicate N []) (List.replicate N []) (fun _ => []) := by
  have own : ∀ b, B ≤ b → wx.heap[b]? = some (.cells (madeCells #[.slice none 0 0] N) 32) → wx.ownsRow B 32 1 (.slice (some ⟨b, 0, none⟩) N N) (List.replicate N ([] : List Lk)).length (List.replicate N (.slice none 0 0)) := fun b hb hh => by
    rw [List.length_replicate]
    refine ⟨by simp, .inr ⟨b, N, _, rfl, hb, hh, Nat.le_refl _, by unfold maxLen; omega, by rw [size_madeCells]; omega, ?_⟩⟩
    rw [toList_madeCells_one, Nat.mul_one, List.take_replicate, Nat.min_self]
  have el : ∀ (i : Nat) (x : Value) (y : List Lk), (List.replicate N (Value.slice none 0 0))[i]? = some x → (List.replicate N ([] : List Lk))[i]? = some y → wx.ownsRow B 43 7 x y.length (y.flatMap lkC) := fun i x y hx hy => by
    rw [List.getElem?_replicate] at hx hy
    split at hx
    · rename_i hi
      rw [if_pos hi] at hy
      injection hx with hx
      injection hy with hy
      subst hx hy
      exact World.ownsRow_nil _ _ _ _
    · cases hx
  refine ⟨h1, g1, World.ownsRow_nil _ _ _ _, ⟨own bl g2 h2, own bu g3 h3, fun g' e1 e2 => ?_, el, el, ?_⟩, ⟨g4, [], ⟨#[], 0, h4, rfl, Go.MapKept.stamped_empty 0⟩, List.Pairwise.nil, by simp, by simp⟩⟩
  · simp [Value.ownBlock] at e1 e2
    omega
  · rw [List.pairwise_iff_getElem]
    intro i j hi hj hij g' e1
    exfalso
    have : (List.replicate N (Value.slice none 0 0) ++ List.replicate N (Value.slice none 0 0))[i] = .slice none 0 0 := by
      rcases List.mem_append.1 (List.getElem_mem hi) with h | h <;> exact List.eq_of_mem_replicate h
    rw [this] at e1
    cases e1
def DbG0 (N : Nat) (w1 : World) (v : Value) (wx : World) : Prop := ∃ g bl bu bw, v = .pointer (some ⟨g, 0, none⟩) ∧ GIn wx w1.heap.size g (.slice none 0 0) (.slice (some ⟨bl, 0, none⟩) N N) (.slice (some ⟨bu, 0, none⟩) N N) bw [] (List.replicate N (.slice none 0 0)) (List.replicate N (.slice none 0 0)) (List.replicate N []) (List.replicate N []) (fun _ => []) ∧ Below w1.heap.size w1 wx
def LkBox (F : Int) (k : Nat) (n : Nm) (W : World) (v : Value) (wx : World) : Prop := ∃ xb, v = .pointer (some ⟨xb, 0, none⟩) ∧ W.heap.size ≤ xb ∧ Blk wx xb 43 #[.int .i64 F, .int .i64 k, .int .i64 n.kind, .string (bs n.owner), .int .i64 n.num, .int .i64 n.idx, .string (bs n.text)] ∧ Below W.heap.size W wx
theorem own_cell1 {w : World} {base e gl n m c i : Nat} {xs : List Value} {x : Value} (h : w.ownsRow base e 1 (.slice (some ⟨gl, 0, none⟩) m c) n xs) (hx : xs[i]? = some x) : w.cell? ⟨gl, i, none⟩ = some x := by
  obtain ⟨hl, ⟨h0, _⟩ | ⟨g', cap, cur, hv, hg, hh, h1, h2, h3, h4⟩⟩ := h
  · cases h0
  · injection hv with hv _ _
    injection hv with hv
    injection hv with hv _ _
    subst hv
    rw [cell_of_row w gl i cur e (0, 0) hh]
    rw [← h4, List.getElem?_take] at hx
    split at hx
    · simpa using hx
    · cases hx
theorem own_frozen1 {w : World} {base e gl n m c : Nat} {xs : List Value} (h : w.ownsRow base e 1 (.slice (some ⟨gl, 0, none⟩) m c) n xs) (i : Nat) : w.frozen? ⟨gl, i, none⟩ = false := by
  obtain ⟨cur, hc⟩ := own_cells_of h (g := gl) rfl
  exact Blk.frozen (show Blk w gl e cur from hc) i
theorem lnkA_take {d : List Ac} {a : Ac} {m : Nat} (hm : m < a.reads.length) : (lnkA d a).take (m + 1) = (lnkA d a).take m ++ [⟨wrI (wls d a.reads[m].name) d.length, d.length, a.reads[m].name⟩] := by
  unfold lnkA
  rw [← List.map_take, ← List.map_take, List.take_succ_eq_append_getElem hm, List.map_append]
  rfl
theorem get_mid {α : Type} {A B : List α} {k : Nat} (h : A.length = k) {m : α} : (A ++ m :: B)[k]? = some m := by
  subst h
  rw [List.getElem?_append_right (Nat.le_refl _), Nat.sub_self]; rfl
theorem set_mid {α : Type} {A B : List α} {k : Nat} (h : A.length = k) {m m' : α} : (A ++ m :: B).set k m' = A ++ m' :: B := by
  subst h
  rw [List.set_append_right _ _ (Nat.le_refl _), Nat.sub_self]; rfl
theorem lnkF_flat : ∀ (d r : List Ac), (∀ a ∈ r, a.reads.length ≤ 10) → (lnkF d r).flatten.length ≤ r.length * 10
  | d, [], _ => by simp [lnkF]
  | d, b :: r, h => by
    have h1 := lnkF_flat (d ++ [b]) r fun a ha => h a (by simp [ha])
    have h2 := h b (by simp)
    have h3 : (lnkA d b).length = b.reads.length := by unfold lnkA; rw [List.length_map]
    simp only [lnkF, List.flatten_cons, List.length_append, List.length_cons]
    omega
theorem lnkD_flat {l : List Ac} (h : ∀ a ∈ l, a.reads.length ≤ 10) : (lnkD l).flatten.length ≤ l.length * 10 := lnkF_flat [] l h
def Db4 (l : List Ac) (k : Nat) (a : Ac) (ks : List Ky) (w1 W : World) (g bl bu bw : Nat) (vk : Value) (vL vU : List Value) (i : Value) (wr : World) : Prop := ∃ m : Nat, m ≤ a.writes.length ∧ i = .int .i64 m ∧ GIn wr w1.heap.size g vk (.slice (some ⟨bl, 0, none⟩) l.length l.length) (.slice (some ⟨bu, 0, none⟩) l.length l.length) bw (ks ++ [a.key]) vL vU (lnkD (l.take (k + 1)) ++ List.replicate (l.length - (k + 1)) []) (UT l.length (lnkD (l.take (k + 1))).flatten) (wlsT (l.take k) (a.writes.take m)) ∧ Kept LG W wr ∧ Below w1.heap.size W wr
def Db2 (a : Ac) (W : World) (v i : Value) (wr : World) : Prop := ∃ m : Nat, m ≤ a.reads.length ∧ i = .int .i64 m ∧ OwnP 41 5 nmC wr W.heap.size v ((a.reads.take m).map Ch.name) ∧ Below W.heap.size W wr
def Db3 (l : List Ac) (k : Nat) (a : Ac) (ks : List Ky) (w1 W : World) (g bl bu bw : Nat) (vk : Value) (i : Value) (wr : World) : Prop := ∃ m : Nat, m ≤ a.reads.length ∧ i = .int .i64 m ∧ (∃ vL vU, GIn wr w1.heap.size g vk (.slice (some ⟨bl, 0, none⟩) l.length l.length) (.slice (some ⟨bu, 0, none⟩) l.length l.length) bw (ks ++ [a.key]) vL vU (lnkD (l.take k) ++ (lnkA (l.take k) a).take m :: List.replicate (l.length - k - 1) []) (UT l.length ((lnkD (l.take k)).flatten ++ (lnkA (l.take k) a).take m)) (wls (l.take k))) ∧ Kept LG W wr ∧ Below w1.heap.size w1 wr
def Db1 (l : List Ac) (w1 : World) (g bl bu bw : Nat) (i : Value) (wr : World) : Prop := ∃ k : Nat, k ≤ l.length ∧ i = .int .i64 k ∧ (∃ vk vL vU, GIn wr w1.heap.size g vk (.slice (some ⟨bl, 0, none⟩) l.length l.length) (.slice (some ⟨bu, 0, none⟩) l.length l.length) bw ((l.take k).map Ac.key) vL vU (lnkD (l.take k) ++ List.replicate (l.length - k) []) (UT l.length (lnkD (l.take k)).flatten) (wls (l.take k))) ∧ Below w1.heap.size w1 wr
set_option maxRecDepth 100000 in
set_option maxHeartbeats 16000000 in
theorem dbuild_is {w : World} {v : Value} {l : List Ac} (h : RdAc w v l) (hk : KS l) (hr : ∀ a ∈ l, AcR a) (ho : ∀ a ∈ l, okAc a = true) (hlen : l.length ≤ 100) : Calls Try.prog 10 #[v] w fun e w' => ∃ g, e = .returned (.tuple #[.pointer (some ⟨g, 0, none⟩), .int .i64 0]) ∧ GAt w' w.heap.size g l ∧ Below w.heap.size w w' := by
  obtain ⟨A, c, rfl, hc⟩ := RowRd.form h
  have HINC := Lib.hid (increasing_is h hk (fun a ha => (hr a ha).1.2.1) hlen)
  have H := Lib.hid h
  have HR := Lib.hid hr
  have HO := Lib.hid ho
  have d1 : decide ((65536 : Int) < (l.length : Int)) = false := decide_eq_false (by omega)
  have d2 : decide (65536 < l.length) = false := decide_eq_false (by omega)
  have hmk := fun W => make_links W l.length hlen
  have hmm := @run_makeMap Try.prog
  clear h hk hr ho
  go_enter Try.func10, Try.ntmps10
  go_upto_region 5 with (go_at_call 34; refine HINC.out.mono ?_; rintro e w1 ⟨rfl, hb1⟩; have HB1 := Lib.hid hb1; clear hb1)
  clear d1 d2 HINC
  go_cut [4] (fun v wx => DbG0 l.length w1 v wx)
  case first =>
    refine wp_region_noPanic ?_
    refine wp_region_held_drew (S := (fun (w' : World) => 0 ≤ w'.heap.size)) (by kernel_rfl) ?_ (fun hHeld => ?_)
    · exact Nat.zero_le _
    refine wpAnyH_take (i := 0) (v := ?_) rfl (by kernel_rfl) (by kernel_rfl) (by kernel_rfl) (fun _ _ _ h => h) (Or.inl ⟨by kernel_rfl, ?_⟩) hHeld ?_
    rotate_left
    · (intro w hSw; (try dsimp only at hSw); go_simp; try with_reducible rfl)
    try simp only [Act.put, List.setIfInBounds_toArray, List.set_cons_zero, List.set_cons_succ]
    refine wpAnyH_take (i := 1) (v := ?_) rfl (by kernel_rfl) (by kernel_rfl) (by kernel_rfl) (fun _ _ _ h => h) (Or.inl ⟨by kernel_rfl, ?_⟩) hHeld ?_
    rotate_left
    · (intro w hSw; (try dsimp only at hSw); go_simp; try with_reducible rfl)
    try simp only [Act.put, List.setIfInBounds_toArray, List.set_cons_zero, List.set_cons_succ]
    refine wpAnyH_take (i := 3) (v := ?_) rfl (by kernel_rfl) (by kernel_rfl) (by kernel_rfl) (fun _ _ _ h => h) (Or.inl ⟨by kernel_rfl, ?_⟩) hHeld ?_
    rotate_left
    · (intro w hSw; (try dsimp only at hSw); go_simp; try with_reducible rfl)
    try simp only [Act.put, List.setIfInBounds_toArray, List.set_cons_zero, List.set_cons_succ]
    refine wpAnyH_take (i := 4) (v := ?_) rfl (by kernel_rfl) (by kernel_rfl) (by kernel_rfl) (fun _ _ _ h => h) (Or.inl ⟨by kernel_rfl, ?_⟩) hHeld ?_
    rotate_left
    · (intro w hSw; (try dsimp only at hSw); go_simp; try with_reducible rfl)
    try simp only [Act.put, List.setIfInBounds_toArray, List.set_cons_zero, List.set_cons_succ]
    refine wpAnyH_ready (rs := [2, 5, 6]) (by kernel_rfl) (by simp) ?_
    refine AllReadyH.cons rfl (fun K hK => ?_) (AllReadyH.cons rfl (fun K hK => ?_) (AllReadyH.cons rfl (fun K hK => ?_) AllReadyH.nil))
    · go_simp
      refine hK.out _ _ ?_ (fun hNew => ?_)
      · exact Nat.zero_le _
      clear hK K hHeld
      have hHeld := hNew
      clear hNew
      try simp only [Act.put, List.setIfInBounds_toArray, List.set_cons_zero, List.set_cons_succ]
      refine wpAnyH_ready (rs := [5, 6]) (by kernel_rfl) (by simp) ?_
      refine AllReadyH.cons rfl (fun K hK => ?_) (AllReadyH.cons rfl (fun K hK => ?_) AllReadyH.nil)
      · go_simp
        refine hK.out _ _ ?_ (fun hNew => ?_)
        · exact Nat.zero_le _
        clear hK K hHeld
        have hHeld := hNew
        clear hNew
        try simp only [Act.put, List.setIfInBounds_toArray, List.set_cons_zero, List.set_cons_succ]
        refine wpAnyH_ready (rs := [6]) (by kernel_rfl) (by simp) ?_
        refine AllReadyH.cons rfl (fun K hK => ?_) AllReadyH.nil
        · go_simp
          refine hK.out _ _ ?_ (fun hNew => ?_)
          · exact Nat.zero_le _
          clear hK K hHeld
          have hHeld := hNew
          clear hNew
          try simp only [Act.put, List.setIfInBounds_toArray, List.set_cons_zero, List.set_cons_succ]
          refine wpAnyH_take (i := 7) (v := ?_) rfl (by kernel_rfl) (by kernel_rfl) (by kernel_rfl) (fun _ _ _ h => h) (Or.inl ⟨by kernel_rfl, ?_⟩) hHeld ?_
          rotate_left
          · (intro w hSw; (try dsimp only at hSw); go_simp; try with_reducible rfl)
          try simp only [Act.put, List.setIfInBounds_toArray, List.set_cons_zero, List.set_cons_succ]
          refine wpAnyH_ready (rs := [8]) (by kernel_rfl) (by simp) ?_
          refine AllReadyH.cons rfl (fun K hK => ?_) AllReadyH.nil
          go_simp
          refine hK.out _ _ ?_ (fun hNew => ?_)
          · exact Nat.zero_le _
          clear hK K hHeld
          have hHeld := hNew
          clear hNew
          try simp only [Act.put, List.setIfInBounds_toArray, List.set_cons_zero, List.set_cons_succ]
          refine wpAnyH_take (i := 9) (v := ?_) rfl (by kernel_rfl) (by kernel_rfl) (by kernel_rfl) (fun _ _ _ h => h) (Or.inl ⟨by kernel_rfl, ?_⟩) hHeld ?_
          rotate_left
          · (intro w hSw; (try dsimp only at hSw); go_simp; try with_reducible rfl)
          try simp only [Act.put, List.setIfInBounds_toArray, List.set_cons_zero, List.set_cons_succ]
          refine wpAnyH_done (by kernel_rfl) ?_ _
          clear hHeld
          try simp only [List.getElem_toArray, List.getElem_cons_zero, List.getElem_cons_succ, Act.put, List.setIfInBounds_toArray, List.set_cons_zero, List.set_cons_succ]
          refine NoPanic.normal ?_
          go_wp2_with fail
          go_meet
          case rel =>
            obtain ⟨f0, f1, f2, f3, fb⟩ := four_allocs w1 (.cells (madeCells #[.slice none 0 0] l.length) 32) (.cells (madeCells #[.slice none 0 0] l.length) 32) (.map #[] 0) (.cells #[.slice none 0 0, .slice (some ⟨w1.heap.size, 0, none⟩) l.length l.length, .slice (some ⟨w1.heap.size + 1, 0, none⟩) l.length l.length, .map (some (w1.heap.size + 2))] 84)
            exact ⟨w1.heap.size + 3, w1.heap.size, w1.heap.size + 1, w1.heap.size + 2, rfl, g0_of l.length w1.heap.size (by omega) f3 f0 f1 f2 (by omega) (by omega) (by omega) (by omega) (by omega), fb.drew⟩
      · go_simp
        refine hK.out _ _ ?_ (fun hNew => ?_)
        · exact Nat.zero_le _
        clear hK K hHeld
        have hHeld := hNew
        clear hNew
        try simp only [Act.put, List.setIfInBounds_toArray, List.set_cons_zero, List.set_cons_succ]
        refine wpAnyH_ready (rs := [5]) (by kernel_rfl) (by simp) ?_
        refine AllReadyH.cons rfl (fun K hK => ?_) AllReadyH.nil
        · go_simp
          refine hK.out _ _ ?_ (fun hNew => ?_)
          · exact Nat.zero_le _
          clear hK K hHeld
          have hHeld := hNew
          clear hNew
          try simp only [Act.put, List.setIfInBounds_toArray, List.set_cons_zero, List.set_cons_succ]
          refine wpAnyH_take (i := 7) (v := ?_) rfl (by kernel_rfl) (by kernel_rfl) (by kernel_rfl) (fun _ _ _ h => h) (Or.inl ⟨by kernel_rfl, ?_⟩) hHeld ?_
          rotate_left
          · (intro w hSw; (try dsimp only at hSw); go_simp; try with_reducible rfl)
          try simp only [Act.put, List.setIfInBounds_toArray, List.set_cons_zero, List.set_cons_succ]
          refine wpAnyH_ready (rs := [8]) (by kernel_rfl) (by simp) ?_
          refine AllReadyH.cons rfl (fun K hK => ?_) AllReadyH.nil
          go_simp
          refine hK.out _ _ ?_ (fun hNew => ?_)
          · exact Nat.zero_le _
          clear hK K hHeld
          have hHeld := hNew
          clear hNew
          try simp only [Act.put, List.setIfInBounds_toArray, List.set_cons_zero, List.set_cons_succ]
          refine wpAnyH_take (i := 9) (v := ?_) rfl (by kernel_rfl) (by kernel_rfl) (by kernel_rfl) (fun _ _ _ h => h) (Or.inl ⟨by kernel_rfl, ?_⟩) hHeld ?_
          rotate_left
          · (intro w hSw; (try dsimp only at hSw); go_simp; try with_reducible rfl)
          try simp only [Act.put, List.setIfInBounds_toArray, List.set_cons_zero, List.set_cons_succ]
          refine wpAnyH_done (by kernel_rfl) ?_ _
          clear hHeld
          try simp only [List.getElem_toArray, List.getElem_cons_zero, List.getElem_cons_succ, Act.put, List.setIfInBounds_toArray, List.set_cons_zero, List.set_cons_succ]
          refine NoPanic.normal ?_
          go_wp2_with fail
          go_meet
          case rel =>
            obtain ⟨f0, f1, f2, f3, fb⟩ := four_allocs w1 (.cells (madeCells #[.slice none 0 0] l.length) 32) (.map #[] 0) (.cells (madeCells #[.slice none 0 0] l.length) 32) (.cells #[.slice none 0 0, .slice (some ⟨w1.heap.size, 0, none⟩) l.length l.length, .slice (some ⟨w1.heap.size + 2, 0, none⟩) l.length l.length, .map (some (w1.heap.size + 1))] 84)
            exact ⟨w1.heap.size + 3, w1.heap.size, w1.heap.size + 2, w1.heap.size + 1, rfl, g0_of l.length w1.heap.size (by omega) f3 f0 f2 f1 (by omega) (by omega) (by omega) (by omega) (by omega), fb.drew⟩
    · go_simp
      refine hK.out _ _ ?_ (fun hNew => ?_)
      · exact Nat.zero_le _
      clear hK K hHeld
      have hHeld := hNew
      clear hNew
      try simp only [Act.put, List.setIfInBounds_toArray, List.set_cons_zero, List.set_cons_succ]
      refine wpAnyH_ready (rs := [2, 6]) (by kernel_rfl) (by simp) ?_
      refine AllReadyH.cons rfl (fun K hK => ?_) (AllReadyH.cons rfl (fun K hK => ?_) AllReadyH.nil)
      · go_simp
        refine hK.out _ _ ?_ (fun hNew => ?_)
        · exact Nat.zero_le _
        clear hK K hHeld
        have hHeld := hNew
        clear hNew
        try simp only [Act.put, List.setIfInBounds_toArray, List.set_cons_zero, List.set_cons_succ]
        refine wpAnyH_ready (rs := [6]) (by kernel_rfl) (by simp) ?_
        refine AllReadyH.cons rfl (fun K hK => ?_) AllReadyH.nil
        · go_simp
          refine hK.out _ _ ?_ (fun hNew => ?_)
          · exact Nat.zero_le _
          clear hK K hHeld
          have hHeld := hNew
          clear hNew
          try simp only [Act.put, List.setIfInBounds_toArray, List.set_cons_zero, List.set_cons_succ]
          refine wpAnyH_take (i := 7) (v := ?_) rfl (by kernel_rfl) (by kernel_rfl) (by kernel_rfl) (fun _ _ _ h => h) (Or.inl ⟨by kernel_rfl, ?_⟩) hHeld ?_
          rotate_left
          · (intro w hSw; (try dsimp only at hSw); go_simp; try with_reducible rfl)
          try simp only [Act.put, List.setIfInBounds_toArray, List.set_cons_zero, List.set_cons_succ]
          refine wpAnyH_ready (rs := [8]) (by kernel_rfl) (by simp) ?_
          refine AllReadyH.cons rfl (fun K hK => ?_) AllReadyH.nil
          go_simp
          refine hK.out _ _ ?_ (fun hNew => ?_)
          · exact Nat.zero_le _
          clear hK K hHeld
          have hHeld := hNew
          clear hNew
          try simp only [Act.put, List.setIfInBounds_toArray, List.set_cons_zero, List.set_cons_succ]
          refine wpAnyH_take (i := 9) (v := ?_) rfl (by kernel_rfl) (by kernel_rfl) (by kernel_rfl) (fun _ _ _ h => h) (Or.inl ⟨by kernel_rfl, ?_⟩) hHeld ?_
          rotate_left
          · (intro w hSw; (try dsimp only at hSw); go_simp; try with_reducible rfl)
          try simp only [Act.put, List.setIfInBounds_toArray, List.set_cons_zero, List.set_cons_succ]
          refine wpAnyH_done (by kernel_rfl) ?_ _
          clear hHeld
          try simp only [List.getElem_toArray, List.getElem_cons_zero, List.getElem_cons_succ, Act.put, List.setIfInBounds_toArray, List.set_cons_zero, List.set_cons_succ]
          refine NoPanic.normal ?_
          go_wp2_with fail
          go_meet
          case rel =>
            obtain ⟨f0, f1, f2, f3, fb⟩ := four_allocs w1 (.cells (madeCells #[.slice none 0 0] l.length) 32) (.cells (madeCells #[.slice none 0 0] l.length) 32) (.map #[] 0) (.cells #[.slice none 0 0, .slice (some ⟨w1.heap.size + 1, 0, none⟩) l.length l.length, .slice (some ⟨w1.heap.size, 0, none⟩) l.length l.length, .map (some (w1.heap.size + 2))] 84)
            exact ⟨w1.heap.size + 3, w1.heap.size + 1, w1.heap.size, w1.heap.size + 2, rfl, g0_of l.length w1.heap.size (by omega) f3 f1 f0 f2 (by omega) (by omega) (by omega) (by omega) (by omega), fb.drew⟩
      · go_simp
        refine hK.out _ _ ?_ (fun hNew => ?_)
        · exact Nat.zero_le _
        clear hK K hHeld
        have hHeld := hNew
        clear hNew
        try simp only [Act.put, List.setIfInBounds_toArray, List.set_cons_zero, List.set_cons_succ]
        refine wpAnyH_ready (rs := [2]) (by kernel_rfl) (by simp) ?_
        refine AllReadyH.cons rfl (fun K hK => ?_) AllReadyH.nil
        · go_simp
          refine hK.out _ _ ?_ (fun hNew => ?_)
          · exact Nat.zero_le _
          clear hK K hHeld
          have hHeld := hNew
          clear hNew
          try simp only [Act.put, List.setIfInBounds_toArray, List.set_cons_zero, List.set_cons_succ]
          refine wpAnyH_take (i := 7) (v := ?_) rfl (by kernel_rfl) (by kernel_rfl) (by kernel_rfl) (fun _ _ _ h => h) (Or.inl ⟨by kernel_rfl, ?_⟩) hHeld ?_
          rotate_left
          · (intro w hSw; (try dsimp only at hSw); go_simp; try with_reducible rfl)
          try simp only [Act.put, List.setIfInBounds_toArray, List.set_cons_zero, List.set_cons_succ]
          refine wpAnyH_ready (rs := [8]) (by kernel_rfl) (by simp) ?_
          refine AllReadyH.cons rfl (fun K hK => ?_) AllReadyH.nil
          go_simp
          refine hK.out _ _ ?_ (fun hNew => ?_)
          · exact Nat.zero_le _
          clear hK K hHeld
          have hHeld := hNew
          clear hNew
          try simp only [Act.put, List.setIfInBounds_toArray, List.set_cons_zero, List.set_cons_succ]
          refine wpAnyH_take (i := 9) (v := ?_) rfl (by kernel_rfl) (by kernel_rfl) (by kernel_rfl) (fun _ _ _ h => h) (Or.inl ⟨by kernel_rfl, ?_⟩) hHeld ?_
          rotate_left
          · (intro w hSw; (try dsimp only at hSw); go_simp; try with_reducible rfl)
          try simp only [Act.put, List.setIfInBounds_toArray, List.set_cons_zero, List.set_cons_succ]
          refine wpAnyH_done (by kernel_rfl) ?_ _
          clear hHeld
          try simp only [List.getElem_toArray, List.getElem_cons_zero, List.getElem_cons_succ, Act.put, List.setIfInBounds_toArray, List.set_cons_zero, List.set_cons_succ]
          refine NoPanic.normal ?_
          go_wp2_with fail
          go_meet
          case rel =>
            obtain ⟨f0, f1, f2, f3, fb⟩ := four_allocs w1 (.cells (madeCells #[.slice none 0 0] l.length) 32) (.map #[] 0) (.cells (madeCells #[.slice none 0 0] l.length) 32) (.cells #[.slice none 0 0, .slice (some ⟨w1.heap.size + 2, 0, none⟩) l.length l.length, .slice (some ⟨w1.heap.size, 0, none⟩) l.length l.length, .map (some (w1.heap.size + 1))] 84)
            exact ⟨w1.heap.size + 3, w1.heap.size + 2, w1.heap.size, w1.heap.size + 1, rfl, g0_of l.length w1.heap.size (by omega) f3 f2 f0 f1 (by omega) (by omega) (by omega) (by omega) (by omega), fb.drew⟩
    · go_simp
      refine hK.out _ _ ?_ (fun hNew => ?_)
      · exact Nat.zero_le _
      clear hK K hHeld
      have hHeld := hNew
      clear hNew
      try simp only [Act.put, List.setIfInBounds_toArray, List.set_cons_zero, List.set_cons_succ]
      refine wpAnyH_ready (rs := [2, 5]) (by kernel_rfl) (by simp) ?_
      refine AllReadyH.cons rfl (fun K hK => ?_) (AllReadyH.cons rfl (fun K hK => ?_) AllReadyH.nil)
      · go_simp
        refine hK.out _ _ ?_ (fun hNew => ?_)
        · exact Nat.zero_le _
        clear hK K hHeld
        have hHeld := hNew
        clear hNew
        try simp only [Act.put, List.setIfInBounds_toArray, List.set_cons_zero, List.set_cons_succ]
        refine wpAnyH_ready (rs := [5]) (by kernel_rfl) (by simp) ?_
        refine AllReadyH.cons rfl (fun K hK => ?_) AllReadyH.nil
        · go_simp
          refine hK.out _ _ ?_ (fun hNew => ?_)
          · exact Nat.zero_le _
          clear hK K hHeld
          have hHeld := hNew
          clear hNew
          try simp only [Act.put, List.setIfInBounds_toArray, List.set_cons_zero, List.set_cons_succ]
          refine wpAnyH_take (i := 7) (v := ?_) rfl (by kernel_rfl) (by kernel_rfl) (by kernel_rfl) (fun _ _ _ h => h) (Or.inl ⟨by kernel_rfl, ?_⟩) hHeld ?_
          rotate_left
          · (intro w hSw; (try dsimp only at hSw); go_simp; try with_reducible rfl)
          try simp only [Act.put, List.setIfInBounds_toArray, List.set_cons_zero, List.set_cons_succ]
          refine wpAnyH_ready (rs := [8]) (by kernel_rfl) (by simp) ?_
          refine AllReadyH.cons rfl (fun K hK => ?_) AllReadyH.nil
          go_simp
          refine hK.out _ _ ?_ (fun hNew => ?_)
          · exact Nat.zero_le _
          clear hK K hHeld
          have hHeld := hNew
          clear hNew
          try simp only [Act.put, List.setIfInBounds_toArray, List.set_cons_zero, List.set_cons_succ]
          refine wpAnyH_take (i := 9) (v := ?_) rfl (by kernel_rfl) (by kernel_rfl) (by kernel_rfl) (fun _ _ _ h => h) (Or.inl ⟨by kernel_rfl, ?_⟩) hHeld ?_
          rotate_left
          · (intro w hSw; (try dsimp only at hSw); go_simp; try with_reducible rfl)
          try simp only [Act.put, List.setIfInBounds_toArray, List.set_cons_zero, List.set_cons_succ]
          refine wpAnyH_done (by kernel_rfl) ?_ _
          clear hHeld
          try simp only [List.getElem_toArray, List.getElem_cons_zero, List.getElem_cons_succ, Act.put, List.setIfInBounds_toArray, List.set_cons_zero, List.set_cons_succ]
          refine NoPanic.normal ?_
          go_wp2_with fail
          go_meet
          case rel =>
            obtain ⟨f0, f1, f2, f3, fb⟩ := four_allocs w1 (.map #[] 0) (.cells (madeCells #[.slice none 0 0] l.length) 32) (.cells (madeCells #[.slice none 0 0] l.length) 32) (.cells #[.slice none 0 0, .slice (some ⟨w1.heap.size + 1, 0, none⟩) l.length l.length, .slice (some ⟨w1.heap.size + 2, 0, none⟩) l.length l.length, .map (some (w1.heap.size))] 84)
            exact ⟨w1.heap.size + 3, w1.heap.size + 1, w1.heap.size + 2, w1.heap.size, rfl, g0_of l.length w1.heap.size (by omega) f3 f1 f2 f0 (by omega) (by omega) (by omega) (by omega) (by omega), fb.drew⟩
      · go_simp
        refine hK.out _ _ ?_ (fun hNew => ?_)
        · exact Nat.zero_le _
        clear hK K hHeld
        have hHeld := hNew
        clear hNew
        try simp only [Act.put, List.setIfInBounds_toArray, List.set_cons_zero, List.set_cons_succ]
        refine wpAnyH_ready (rs := [2]) (by kernel_rfl) (by simp) ?_
        refine AllReadyH.cons rfl (fun K hK => ?_) AllReadyH.nil
        · go_simp
          refine hK.out _ _ ?_ (fun hNew => ?_)
          · exact Nat.zero_le _
          clear hK K hHeld
          have hHeld := hNew
          clear hNew
          try simp only [Act.put, List.setIfInBounds_toArray, List.set_cons_zero, List.set_cons_succ]
          refine wpAnyH_take (i := 7) (v := ?_) rfl (by kernel_rfl) (by kernel_rfl) (by kernel_rfl) (fun _ _ _ h => h) (Or.inl ⟨by kernel_rfl, ?_⟩) hHeld ?_
          rotate_left
          · (intro w hSw; (try dsimp only at hSw); go_simp; try with_reducible rfl)
          try simp only [Act.put, List.setIfInBounds_toArray, List.set_cons_zero, List.set_cons_succ]
          refine wpAnyH_ready (rs := [8]) (by kernel_rfl) (by simp) ?_
          refine AllReadyH.cons rfl (fun K hK => ?_) AllReadyH.nil
          go_simp
          refine hK.out _ _ ?_ (fun hNew => ?_)
          · exact Nat.zero_le _
          clear hK K hHeld
          have hHeld := hNew
          clear hNew
          try simp only [Act.put, List.setIfInBounds_toArray, List.set_cons_zero, List.set_cons_succ]
          refine wpAnyH_take (i := 9) (v := ?_) rfl (by kernel_rfl) (by kernel_rfl) (by kernel_rfl) (fun _ _ _ h => h) (Or.inl ⟨by kernel_rfl, ?_⟩) hHeld ?_
          rotate_left
          · (intro w hSw; (try dsimp only at hSw); go_simp; try with_reducible rfl)
          try simp only [Act.put, List.setIfInBounds_toArray, List.set_cons_zero, List.set_cons_succ]
          refine wpAnyH_done (by kernel_rfl) ?_ _
          clear hHeld
          try simp only [List.getElem_toArray, List.getElem_cons_zero, List.getElem_cons_succ, Act.put, List.setIfInBounds_toArray, List.set_cons_zero, List.set_cons_succ]
          refine NoPanic.normal ?_
          go_wp2_with fail
          go_meet
          case rel =>
            obtain ⟨f0, f1, f2, f3, fb⟩ := four_allocs w1 (.map #[] 0) (.cells (madeCells #[.slice none 0 0] l.length) 32) (.cells (madeCells #[.slice none 0 0] l.length) 32) (.cells #[.slice none 0 0, .slice (some ⟨w1.heap.size + 2, 0, none⟩) l.length l.length, .slice (some ⟨w1.heap.size + 1, 0, none⟩) l.length l.length, .map (some (w1.heap.size))] 84)
            exact ⟨w1.heap.size + 3, w1.heap.size + 2, w1.heap.size + 1, w1.heap.size, rfl, g0_of l.length w1.heap.size (by omega) f3 f2 f1 f0 (by omega) (by omega) (by omega) (by omega) (by omega), fb.drew⟩
  case rest =>
    clear hmk hmm
    obtain ⟨g, bl, bu, bw, rfl, hg0, hb0⟩ := hcut
    have HB0 := Lib.hid hb0
    have HH := Lib.hid (RdAc.next H.out HB1.out)
    have H0 : Hid (Db1 l w1 g bl bu bw (.int .i64 (0 : Nat)) wc) := Lib.hid ⟨0, Nat.zero_le _, rfl, ⟨_, _, _, by
      rw [List.take_zero]
      show GIn wc w1.heap.size g (.slice none 0 0) (.slice (some ⟨bl, 0, none⟩) l.length l.length) (.slice (some ⟨bu, 0, none⟩) l.length l.length) bw [] _ _ (List.replicate l.length []) (UT l.length []) (wls [])
      rw [UT_nil]
      exact hg0.data fun n => rfl⟩, hb0⟩
    clear hg0 hb0 H
    go_wp2_with fail
    go_loopw [32] (fun i wr => Db1 l w1 g bl bu bw i wr) (fun i _ => l.length - (intOf i).toNat)
    case atStart => exact H0.out
    case round =>
      clear H0
      obtain ⟨k, hkl, rfl, hgi, hbw⟩ := hrel
      have HBW := Lib.hid hbw
      clear hbw
      by_cases hk : k < l.length
      · have j1 : (0 : Int) ≤ (k : Int) := by omega
        have j2 : (k : Int) < (l.length : Int) := by omega
        have j3 : decide ((k : Int) < (l.length : Int)) = true := decide_eq_true j2
        obtain ⟨vk, vL, vU, hgi⟩ := hgi
        obtain ⟨ks, hks⟩ : ∃ ks, (l.take k).map Ac.key = ks := ⟨_, rfl⟩
        have hks100 : ks.length ≤ 100 := by rw [← hks, List.length_map, List.length_take]; omega
        have HKS := Lib.hid hks
        rw [hks] at hgi
        have GR := Lib.hid hgi
        clear hks hgi
        obtain ⟨b, o, u1, u2, hbe, hbr, n1, n2, y0, y1, y2, y3, y4, y5⟩ := RdAc.piece (RdAc.next HH.out HBW.out) hk
        subst hbe
        obtain ⟨a, hae⟩ : ∃ a, l[k] = a := ⟨_, rfl⟩
        rw [hae] at n1 n2 y0 y1 y2 y3
        have HAE := Lib.hid hae
        obtain ⟨A1, c1, rfl, hc1⟩ := RdP.form n1
        obtain ⟨A2, c2, rfl, hc2⟩ := RdP.form n2
        have N0 : Hid (NAc wr (.slice A1 a.reads.length c1, .slice A2 a.writes.length c2) a) := Lib.hid ⟨n1, n2⟩
        have HAR : Hid (AcR a) := Lib.hid (by rw [← hae]; exact HR.out _ (List.getElem_mem hk))
        have HAO : Hid (okAc a = true) := Lib.hid (by rw [← hae]; exact HO.out _ (List.getElem_mem hk))
        have hrl : a.reads.length ≤ 10 := HAR.out.2.2.2.1
        have hwl : a.writes.length ≤ 10 := HAR.out.2.2.2.2
        clear hae n1 n2
        go_upto_region 9 with (fail)
        have hbb := (Below.refl wr.heap.size wr).alloc (Nat.le_refl _) (.cells #[.int .i64 a.key.tick, .int .i64 a.key.cls, .int .i64 a.key.num, .string (bs a.key.lin), .slice A1 a.reads.length c1, .slice A2 a.writes.length c2] 59)
        have HBA := Lib.hid hbb
        have ZW := Lib.hid (Blk.new wr 59 #[.int .i64 a.key.tick, .int .i64 a.key.cls, .int .i64 a.key.num, .string (bs a.key.lin), .slice A1 a.reads.length c1, .slice A2 a.writes.length c2])
        have GW := Lib.hid (GR.out.next hbb)
        have N1 := Lib.hid (NAc.next hbb N0.out)
        have HBW1 := Lib.hid (HBW.out.trans (hbb.mono HBW.out.size))
        clear y0 y1 y2 y3 y4 y5 hbb N0 GR HBW hbr
        generalize wr.alloc (.cells #[.int .i64 a.key.tick, .int .i64 a.key.cls, .int .i64 a.key.num, .string (bs a.key.lin), .slice A1 a.reads.length c1, .slice A2 a.writes.length c2] 59) = W at *
        obtain ⟨cb, hcb⟩ : ∃ cb, wr.heap.size = cb := ⟨_, rfl⟩
        rw [hcb] at ZW ⊢
        clear hcb
        have x0 := GW.out.blk.cell 0
        have z0 := ZW.out.cell 0
        have z1 := ZW.out.cell 1
        have z2 := ZW.out.cell 2
        have z3 := ZW.out.cell 3
        simp only [List.getElem?_toArray, List.getElem?_cons_zero, List.getElem?_cons_succ] at x0 z0 z1 z2 z3
        have hbk := ((Below.refl W.heap.size W).alloc (Nat.le_refl _) (.cells #[.int .i64 a.key.tick, .int .i64 a.key.cls, .int .i64 a.key.num, .string (bs a.key.lin)] 56)).drew
        have GV := Lib.hid (GW.out.next hbk)
        have HKY := Lib.hid GV.out.ky
        have HBK := Lib.hid hbk
        have ZV := Lib.hid (ZW.out.next hbk ZW.out.lt)
        have hw1W : w1.heap.size ≤ W.heap.size := HBW1.out.size
        obtain ⟨i0, hi, hz0, hz1, hz2⟩ := info_parts infoKy
        refine wp_region_noPanic ?_
        refine wp_region_last (S := (fun (w' : World) => w'.cell? ⟨g, 0, none⟩ = some vk ∧ w'.cell? ⟨cb, 0, none⟩ = some (.int .i64 a.key.tick) ∧ w'.cell? ⟨cb, 1, none⟩ = some (.int .i64 a.key.cls) ∧ w'.cell? ⟨cb, 2, none⟩ = some (.int .i64 a.key.num) ∧ w'.cell? ⟨cb, 3, none⟩ = some (.string (bs a.key.lin)))) 11 11 rfl (by kernel_rfl) (by kernel_rfl) ?_ (fun hHeld => ?_)
        · exact ⟨x0, z0, z1, z2, z3⟩
        refine wpAnyH_take (i := 0) (v := ?_) rfl (by kernel_rfl) (by kernel_rfl) (by kernel_rfl) (fun _ _ _ h => h) (Or.inl ⟨by kernel_rfl, ?_⟩) hHeld ?_
        rotate_left
        · (intro w hSw; (try dsimp only at hSw); go_simp; try with_reducible rfl)
        try simp only [Act.put, List.setIfInBounds_toArray, List.set_cons_zero, List.set_cons_succ]
        refine wpAnyH_take (i := 1) (v := ?_) rfl (by kernel_rfl) (by kernel_rfl) (by kernel_rfl) (fun _ _ _ h => h) (Or.inl ⟨by kernel_rfl, ?_⟩) hHeld ?_
        rotate_left
        · (intro w hSw; (try dsimp only at hSw); go_simp; try with_reducible rfl)
        try simp only [Act.put, List.setIfInBounds_toArray, List.set_cons_zero, List.set_cons_succ]
        refine wpAnyH_take (i := 2) (v := ?_) rfl (by kernel_rfl) (by kernel_rfl) (by kernel_rfl) (fun _ _ _ h => h) (Or.inl ⟨by kernel_rfl, ?_⟩) hHeld ?_
        rotate_left
        · (intro w hSw; (try dsimp only at hSw); go_simp; try with_reducible rfl)
        try simp only [Act.put, List.setIfInBounds_toArray, List.set_cons_zero, List.set_cons_succ]
        refine wpAnyH_take (i := 3) (v := ?_) rfl (by kernel_rfl) (by kernel_rfl) (by kernel_rfl) (fun _ _ _ h => h) (Or.inl ⟨by kernel_rfl, ?_⟩) hHeld ?_
        rotate_left
        · (intro w hSw; (try dsimp only at hSw); go_simp; try with_reducible rfl)
        try simp only [Act.put, List.setIfInBounds_toArray, List.set_cons_zero, List.set_cons_succ]
        refine wpAnyH_take (i := 4) (v := ?_) rfl (by kernel_rfl) (by kernel_rfl) (by kernel_rfl) (fun _ _ _ h => h) (Or.inl ⟨by kernel_rfl, ?_⟩) hHeld ?_
        rotate_left
        · (intro w hSw; (try dsimp only at hSw); go_simp; try with_reducible rfl)
        try simp only [Act.put, List.setIfInBounds_toArray, List.set_cons_zero, List.set_cons_succ]
        refine wpAnyH_take (i := 5) (v := ?_) rfl (by kernel_rfl) (by kernel_rfl) (by kernel_rfl) (fun _ _ _ h => h) (Or.inl ⟨by kernel_rfl, ?_⟩) hHeld ?_
        rotate_left
        · (intro w hSw; (try dsimp only at hSw); go_simp; try with_reducible rfl)
        try simp only [Act.put, List.setIfInBounds_toArray, List.set_cons_zero, List.set_cons_succ]
        refine wpAnyH_take (i := 6) (v := ?_) rfl (by kernel_rfl) (by kernel_rfl) (by kernel_rfl) (fun _ _ _ h => h) (Or.inl ⟨by kernel_rfl, ?_⟩) hHeld ?_
        rotate_left
        · (intro w hSw; (try dsimp only at hSw); go_simp; try with_reducible rfl)
        try simp only [Act.put, List.setIfInBounds_toArray, List.set_cons_zero, List.set_cons_succ]
        refine wpAnyH_ready (rs := [7]) (by kernel_rfl) (by simp) ?_
        refine AllReadyH.cons rfl (fun K hK => ?_) AllReadyH.nil
        go_simp
        refine hK.out _ _ ?_ (fun hNew => ?_)
        · exact ⟨(World.cell?_alloc_lt W _ _ GW.out.blk.lt).trans x0, (World.cell?_alloc_lt W _ _ ZW.out.lt).trans z0, (World.cell?_alloc_lt W _ _ ZW.out.lt).trans z1, (World.cell?_alloc_lt W _ _ ZW.out.lt).trans z2, (World.cell?_alloc_lt W _ _ ZW.out.lt).trans z3⟩
        clear hK K hHeld
        have hHeld := hNew
        clear hNew
        try simp only [Act.put, List.setIfInBounds_toArray, List.set_cons_zero, List.set_cons_succ]
        refine wpAnyH_ready (rs := [8]) (by kernel_rfl) (by simp) ?_
        refine AllReadyH.cons rfl (fun K hK => ?_) AllReadyH.nil
        refine step_append_w _ (by rfl) _ _ _ (by rfl) w1.heap.size 56 i0 _ 4 40 Try.underlying82 hi hz0 hz1 hz2 rfl (by omega) _ (ks.length) (ks.flatMap kyC) (by rfl) HKY.out (.slice (some ⟨W.heap.size, 0, none⟩) 1 1) 1 [.int .i64 a.key.tick, .int .i64 a.key.cls, .int .i64 a.key.num, .string (bs a.key.lin)] (by rfl) (Rd.of_own (own_new W 0 56 4 [.int .i64 a.key.tick, .int .i64 a.key.cls, .int .i64 a.key.num, .string (bs a.key.lin)] rfl (Nat.zero_le _))) (by omega) (by rfl) (by simp [Value.oneCell']) (by unfold maxLen; omega) (by omega) (by simp; omega) ?_; intro v7 w7 hown7 hg7 hat7; obtain ⟨A7, c7, rfl, _⟩ := own_len hown7; have hgb := own_blk_ne HKY.out GV.out.blk (by decide); have hB7 := GV.out.blk.grown hg7 (fun e => hgb e.symm); have hcb := own_blk_ne HKY.out ZV.out (by decide); have hC7 := ZV.out.grown hg7 (fun e => hcb e.symm); have HOW7 := Lib.hid hown7; have HG7 := Lib.hid hg7; have r0 := hB7.cell 0; have rf := hB7.frozen 0; have e0 := hC7.cell 0; have e1 := hC7.cell 1; have e2 := hC7.cell 2; have e3 := hC7.cell 3; (simp only [List.getElem?_toArray, List.getElem?_cons_zero, List.getElem?_cons_succ] at r0 e0 e1 e2 e3); clear hown7 hg7 hat7 hgb hcb hB7 hC7
        refine hK.out _ _ ?_ (fun hNew => ?_)
        · exact ⟨r0, e0, e1, e2, e3⟩
        clear hK K hHeld
        have hHeld := hNew
        clear hNew
        try simp only [Act.put, List.setIfInBounds_toArray, List.set_cons_zero, List.set_cons_succ]
        refine wpAnyH_take (i := 9) (v := ?_) rfl (by kernel_rfl) (by kernel_rfl) (by kernel_rfl) (fun _ _ _ h => h) (Or.inl ⟨by kernel_rfl, ?_⟩) hHeld ?_
        rotate_left
        · (intro w hSw; (try dsimp only at hSw); go_simp; try with_reducible rfl)
        try simp only [Act.put, List.setIfInBounds_toArray, List.set_cons_zero, List.set_cons_succ]
        refine wpAnyH_take (i := 10) (v := ?_) rfl (by kernel_rfl) (by kernel_rfl) (by kernel_rfl) (fun _ _ _ h => h) (Or.inl ⟨by kernel_rfl, ?_⟩) hHeld ?_
        rotate_left
        · (intro w hSw; (try dsimp only at hSw); go_simp; try with_reducible rfl)
        try simp only [Act.put, List.setIfInBounds_toArray, List.set_cons_zero, List.set_cons_succ]
        refine wpAnyH_done (by kernel_rfl) ?_ _
        refine lastQ_step rfl (fun K hK => ?_)
        clear hHeld
        go_simp
        refine hK _ _ ?_
        clear hK K
        refine NoPanic.normal ?_
        clear x0 z0 z1 z2 z3 r0 rf e0 e1 e2 e3 i0 hi hz0 hz1 hz2 hbk
        have HK3 := Lib.hid (GIn.key_ GV.out (k := a.key) HG7.out HOW7.out)
        go_upto_region 10 with (fail)
        have N3 := Lib.hid (NAc.keep HK3.out.2.2 rfl (NAc.next HBK.out N1.out))
        have Z3 := Lib.hid (ZV.out.keep HK3.out.2.2 rfl)
        have HBW3 := Lib.hid (HBW1.out.trans ((HBK.out.mono hw1W).trans HK3.out.2.1))
        have G3 := Lib.hid HK3.out.1
        clear HK3 HOW7 HG7 HKY GV ZV HBK GW ZW N1 HBW1
        generalize w7.setCell ⟨g, 0, none⟩ (.slice A7 (ks.length + 1) c7) = W3 at *
        have z4 := Z3.out.cell 4
        simp only [List.getElem?_toArray, List.getElem?_cons_zero, List.getElem?_cons_succ] at z4
        have HNS := Lib.hid (reads_names (a := a) (by have := HAO.out; unfold okAc at this; simp only [Bool.and_eq_true] at this; exact this.1))
        have H0 : Hid (Db2 a W3 (.slice none 0 0) (.int .i64 (0 : Nat)) W3) := Lib.hid ⟨0, Nat.zero_le _, rfl, OwnP.nil, Below.refl _ _⟩
        obtain ⟨i0, hi, hz0, hz1, hz2⟩ := info_parts infoNm
        go_upto_region 12 with (fail)
        go_loopw [7, 51] (fun v i wr => Db2 a W3 v i wr) (fun _ i _ => a.reads.length - (intOf i).toNat)
        case atStart => exact H0.out
        case round =>
          clear H0 z4
          obtain ⟨m, hml, rfl, how, hbw⟩ := hrel
          have HBW := Lib.hid hbw
          clear hbw
          obtain ⟨A5, c5, rfl, hc5⟩ := own_len how
          by_cases hm : m < a.reads.length
          · have j4 : (0 : Int) ≤ (m : Int) := by omega
            have j5 : (m : Int) < (a.reads.length : Int) := by omega
            have j6 : decide ((m : Int) < (a.reads.length : Int)) = true := decide_eq_true j5
            obtain ⟨bb, oo, hbe, hbr, t0, t1, t2, t3, t4, t5, t6⟩ := RdCh.piece (show RdCh wr (.slice A1 a.reads.length c1) a.reads from RdP.next N3.out.1 HBW.out) hm
            subst hbe
            have HTK := Lib.hid (show (a.reads.take (m + 1)).map Ch.name = (a.reads.take m).map Ch.name ++ [a.reads[m].name] by rw [List.take_succ_eq_append_getElem hm, List.map_append]; rfl)
            obtain ⟨ch, hch⟩ : ∃ ch, a.reads[m] = ch := ⟨_, rfl⟩
            rw [hch] at t0 t1 t2 t3 t4 t5 t6 HTK
            obtain ⟨nl, hnl⟩ : ∃ nl, (a.reads.take m).map Ch.name = nl := ⟨_, rfl⟩
            have hnle : nl.length ≤ 10 := by rw [← hnl, List.length_map, List.length_take]; omega
            rw [hnl] at how HTK hc5 ⊢
            clear hch hnl
            go_upto_region 14 with (fail)
            have hbd := (Below.refl wr.heap.size wr).alloc (Nat.le_refl _) (.cells #[.int .i64 ch.name.kind, .string (bs ch.name.owner), .int .i64 ch.name.num, .int .i64 ch.name.idx, .string (bs ch.name.text), .string (bs ch.value), .bool ch.absent] 87)
            have zb := Blk.new wr 87 #[.int .i64 ch.name.kind, .string (bs ch.name.owner), .int .i64 ch.name.num, .int .i64 ch.name.idx, .string (bs ch.name.text), .string (bs ch.value), .bool ch.absent]
            have HBD := Lib.hid (HBW.out.trans (hbd.mono HBW.out.size))
            have HOD := Lib.hid (OwnP.next how hbd)
            have v0 := zb.cell 0
            have v1 := zb.cell 1
            have v2 := zb.cell 2
            have v3 := zb.cell 3
            have v4 := zb.cell 4
            simp only [List.getElem?_toArray, List.getElem?_cons_zero, List.getElem?_cons_succ] at v0 v1 v2 v3 v4
            clear t0 t1 t2 t3 t4 t5 t6 hbd zb how
            generalize wr.alloc (.cells #[.int .i64 ch.name.kind, .string (bs ch.name.owner), .int .i64 ch.name.num, .int .i64 ch.name.idx, .string (bs ch.name.text), .string (bs ch.value), .bool ch.absent] 87) = wd at *
            go_wp2_with (at_builtin; refine wpList_append_w _ rfl _ _ _ rfl W3.heap.size 41 i0 _ 5 56 Try.underlying85 hi hz0 hz1 hz2 rfl (by omega) (.slice A5 nl.length c5) nl.length (nl.flatMap nmC) rfl (own_next HOD.out ((Below.refl _ _).alloc (Nat.le_refl _) _)) (.slice (some ⟨wd.heap.size, 0, none⟩) 1 1) 1 [.int .i64 ch.name.kind, .string (bs ch.name.owner), .int .i64 ch.name.num, .int .i64 ch.name.idx, .string (bs ch.name.text)] rfl (Rd.of_own (own_new wd 0 41 5 [.int .i64 ch.name.kind, .string (bs ch.name.owner), .int .i64 ch.name.num, .int .i64 ch.name.idx, .string (bs ch.name.text)] rfl (Nat.zero_le _))) (by omega) rfl (by simp [Value.oneCell']) (by unfold maxLen; omega) (by omega) (by have := HBD.out.size; simp at this ⊢; omega) ?_; intro v5 w5 hown5 hg5 hat5; have HOW5 := Lib.hid hown5; have HG5 := Lib.hid hg5; clear hown5 hg5 hat5)
            go_roundw
            case rel =>
              have hbe : Below W3.heap.size W3 w5 := below_own (HBD.out.alloc HBD.out.size (.cells #[.int .i64 ch.name.kind, .string (bs ch.name.owner), .int .i64 ch.name.num, .int .i64 ch.name.idx, .string (bs ch.name.text)] 41)) (own_next HOD.out ((Below.refl _ _).alloc (Nat.le_refl _) _)) HG5.out (Nat.le_refl _) (by have := HBD.out.size; simp at this ⊢; omega)
              refine ⟨m + 1, by omega, by go_num, ?_, hbe⟩
              rw [HTK.out]
              exact OwnP.snoc HOW5.out
            case measure => simp [intOf]; omega
          · have j6 : decide ((m : Int) < (a.reads.length : Int)) = false := decide_eq_false (by omega)
            have HK0 := Lib.hid (show (a.reads.take m).map Ch.name = a.reads.map Ch.name by rw [List.take_of_length_le (by omega)])
            rw [HK0.out] at how hc5 ⊢
            obtain ⟨ns, hns⟩ : ∃ ns, a.reads.map Ch.name = ns := ⟨_, rfl⟩
            rw [hns] at how hc5 HNS ⊢
            have HNN := Lib.hid hns
            have HNL := Lib.hid (show ns.length = a.reads.length by rw [← hns, List.length_map])
            have hnl10 : ns.length ≤ 10 := by have := HNL.out; omega
            have HRN := Lib.hid (show RdNm wr (.slice A5 ns.length c5) ns from Rd.of_own how)
            have HSO := Lib.hid (sorted_is HRN.out (by omega) HNS.out.1 HNS.out.2.1)
            clear how hns HRN i0 hi hz0 hz1 hz2
            go_upto_region 17 with (go_at_call 35; refine HSO.out.mono ?_; rintro e w4 ⟨v4, rfl, hown4, hb4⟩; rw [HNS.out.2.2] at hown4; obtain ⟨A8, c8, rfl, hc8⟩ := own_len hown4; have HS4 := Lib.hid (show RdNm w4 (.slice A8 ns.length c8) ns from Rd.of_own hown4); have HB4 := Lib.hid (HBW.out.trans (hb4.mono HBW.out.size)); clear hown4 hb4)
            have N4 := Lib.hid (NAc.next HB4.out N3.out)
            have Z4 := Lib.hid (Z3.out.next HB4.out Z3.out.lt)
            have G4 := Lib.hid (G3.out.next HB4.out)
            have HBW4 := Lib.hid (HBW3.out.trans (HB4.out.mono HBW3.out.size))
            have hrk : l.length - k = (l.length - k - 1) + 1 := by omega
            have H0 : Hid (Db3 l k a ks w1 w4 g bl bu bw (.slice A7 (ks.length + 1) c7) (.int .i64 (0 : Nat)) w4) := Lib.hid ⟨0, Nat.zero_le _, rfl, ⟨vL, vU, by
              have := G4.out
              rw [hrk, List.replicate_succ] at this
              rw [List.take_zero, List.append_nil]
              exact this⟩, Kept.refl _ _, HBW4.out⟩
            clear HSO N3 Z3 G3 HB4 HBW4 HBW HBW3 hrk G4 hm hml j6
            go_loopw [64] (fun i wr => Db3 l k a ks w1 w4 g bl bu bw (.slice A7 (ks.length + 1) c7) i wr) (fun i _ => a.reads.length - (intOf i).toNat)
            case atStart => exact H0.out
            case round =>
              clear H0
              obtain ⟨m, hml, rfl, hgi, hkp, hbw⟩ := hrel
              have HKP := Lib.hid hkp
              have HBW := Lib.hid hbw
              obtain ⟨vL, vU, hgi⟩ := hgi
              have GR := Lib.hid hgi
              clear hkp hbw hgi
              by_cases hm : m < a.reads.length
              · have j4 : (0 : Int) ≤ (m : Int) := by omega
                have hmn : m < ns.length := by have := HNL.out; omega
                have j5 : (m : Int) < (ns.length : Int) := by omega
                have j6 : decide ((m : Int) < (ns.length : Int)) = true := decide_eq_true j5
                obtain ⟨bb, oo, hbe, hbr, t0, t1, t2, t3, t4⟩ := RdNm.piece (RdP.keep HS4.out HKP.out rfl) hmn
                subst hbe
                obtain ⟨n, hn⟩ : ∃ n, ns[m] = n := ⟨_, rfl⟩
                rw [hn] at t0 t1 t2 t3 t4
                have HN := Lib.hid (show a.reads[m].name = n by rw [← hn]; simp only [← HNN.out, List.getElem_map])
                clear hn
                go_upto_region 19 with (fail)
                have hbn := (Below.refl wr.heap.size wr).alloc (Nat.le_refl _) (.cells #[.int .i64 n.kind, .string (bs n.owner), .int .i64 n.num, .int .i64 n.idx, .string (bs n.text)] 41)
                have zb := Blk.new wr 41 #[.int .i64 n.kind, .string (bs n.owner), .int .i64 n.num, .int .i64 n.idx, .string (bs n.text)]
                have G5 := Lib.hid (GR.out.next hbn)
                have HKP5 := Lib.hid (HKP.out.trans (Kept.of_below LG hbn))
                have HBW5 := Lib.hid (HBW.out.trans (hbn.mono HBW.out.size))
                have v0 := zb.cell 0
                have v1 := zb.cell 1
                have v2 := zb.cell 2
                have v3 := zb.cell 3
                have v4 := zb.cell 4
                have hnb := zb.lt
                simp only [List.getElem?_toArray, List.getElem?_cons_zero, List.getElem?_cons_succ] at v0 v1 v2 v3 v4
                clear t0 t1 t2 t3 t4 hbn zb GR HKP HBW hbr
                generalize wr.alloc (.cells #[.int .i64 n.kind, .string (bs n.owner), .int .i64 n.num, .int .i64 n.idx, .string (bs n.text)] 41) = W5 at *
                generalize wr.heap.size = nb at *
                have HWR := Lib.hid (fun (W' : World) (hb : Below W5.heap.size W5 W') => writer_is n (k : Int) (G5.out.next hb) (wls_asc (fun b hb => by have := HO.out b (List.mem_of_mem_take hb); unfold okAc at this; simp only [Bool.and_eq_true] at this; exact this.2) n) (by have := wls_len (l := l.take k) (fun b hb => (HR.out b (List.mem_of_mem_take hb)).2.2.2.2) (by rw [List.length_take]; omega) n; omega))
                obtain ⟨F, hF⟩ : ∃ F, wrI (wls (l.take k) n) (k : Int) = F := ⟨_, rfl⟩
                rw [hF] at HWR
                have HFE := Lib.hid hF
                unfold nmV nmA at HWR
                clear hF
                have hw15 : w1.heap.size ≤ W5.heap.size := HBW5.out.size
                go_cut [12] (fun v wx => LkBox F k n W5 v wx)
                case first =>
                  refine wp_region_noPanic ?_
                  refine wp_region_last (S := (fun (w' : World) => w'.cell? ⟨nb, 0, none⟩ = some (.int .i64 n.kind) ∧ w'.cell? ⟨nb, 1, none⟩ = some (.string (bs n.owner)) ∧ w'.cell? ⟨nb, 2, none⟩ = some (.int .i64 n.num) ∧ w'.cell? ⟨nb, 3, none⟩ = some (.int .i64 n.idx) ∧ w'.cell? ⟨nb, 4, none⟩ = some (.string (bs n.text)))) 8 8 rfl (by kernel_rfl) (by kernel_rfl) ?_ (fun hHeld => ?_)
                  · exact ⟨v0, v1, v2, v3, v4⟩
                  refine wpAnyH_take (i := 0) (v := ?_) rfl (by kernel_rfl) (by kernel_rfl) (by kernel_rfl) (fun _ _ _ h => h) (Or.inl ⟨by kernel_rfl, ?_⟩) hHeld ?_
                  rotate_left
                  · (intro w hSw; (try dsimp only at hSw); go_simp; try with_reducible rfl)
                  try simp only [Act.put, List.setIfInBounds_toArray, List.set_cons_zero, List.set_cons_succ]
                  refine wpAnyH_take (i := 1) (v := ?_) rfl (by kernel_rfl) (by kernel_rfl) (by kernel_rfl) (fun _ _ _ h => h) (Or.inl ⟨by kernel_rfl, ?_⟩) hHeld ?_
                  rotate_left
                  · (intro w hSw; (try dsimp only at hSw); go_simp; try with_reducible rfl)
                  try simp only [Act.put, List.setIfInBounds_toArray, List.set_cons_zero, List.set_cons_succ]
                  refine wpAnyH_take (i := 2) (v := ?_) rfl (by kernel_rfl) (by kernel_rfl) (by kernel_rfl) (fun _ _ _ h => h) (Or.inl ⟨by kernel_rfl, ?_⟩) hHeld ?_
                  rotate_left
                  · (intro w hSw; (try dsimp only at hSw); go_simp; try with_reducible rfl)
                  try simp only [Act.put, List.setIfInBounds_toArray, List.set_cons_zero, List.set_cons_succ]
                  refine wpAnyH_take (i := 4) (v := ?_) rfl (by kernel_rfl) (by kernel_rfl) (by kernel_rfl) (fun _ _ _ h => h) (Or.inl ⟨by kernel_rfl, ?_⟩) hHeld ?_
                  rotate_left
                  · (intro w hSw; (try dsimp only at hSw); go_simp; try with_reducible rfl)
                  try simp only [Act.put, List.setIfInBounds_toArray, List.set_cons_zero, List.set_cons_succ]
                  refine wpAnyH_take (i := 5) (v := ?_) rfl (by kernel_rfl) (by kernel_rfl) (by kernel_rfl) (fun _ _ _ h => h) (Or.inl ⟨by kernel_rfl, ?_⟩) hHeld ?_
                  rotate_left
                  · (intro w hSw; (try dsimp only at hSw); go_simp; try with_reducible rfl)
                  try simp only [Act.put, List.setIfInBounds_toArray, List.set_cons_zero, List.set_cons_succ]
                  refine wpAnyH_ready (rs := [3, 7]) (by kernel_rfl) (by simp) ?_
                  refine AllReadyH.cons rfl (fun K hK => ?_) (AllReadyH.cons rfl (fun K hK => ?_) AllReadyH.nil)
                  · go_simp
                    refine (HWR.out _ (Below.refl W5.heap.size W5).drew).mono ?_; rintro e w6 ⟨rfl, hb6'⟩; have hb6 := (Below.refl W5.heap.size W5).drew.trans hb6'; have HB6 := Lib.hid hb6; have hnb6 := Nat.lt_of_lt_of_le hnb hb6.size; clear hb6'
                    try (go_wp2_with fail)
                    refine hK.out _ _ ?_ (fun hNew => ?_)
                    · exact ⟨(hb6.cell (p := ⟨nb, 0, none⟩) hnb).trans v0, (hb6.cell (p := ⟨nb, 1, none⟩) hnb).trans v1, (hb6.cell (p := ⟨nb, 2, none⟩) hnb).trans v2, (hb6.cell (p := ⟨nb, 3, none⟩) hnb).trans v3, (hb6.cell (p := ⟨nb, 4, none⟩) hnb).trans v4⟩
                    clear hK K hHeld
                    have hHeld := hNew
                    clear hNew
                    try simp only [Act.put, List.setIfInBounds_toArray, List.set_cons_zero, List.set_cons_succ]
                    refine wpAnyH_take (i := 6) (v := ?_) rfl (by kernel_rfl) (by kernel_rfl) (by kernel_rfl) (fun _ _ _ h => h) (Or.inl ⟨by kernel_rfl, ?_⟩) hHeld ?_
                    rotate_left
                    · (intro w hSw; (try dsimp only at hSw); go_simp; try with_reducible rfl)
                    try simp only [Act.put, List.setIfInBounds_toArray, List.set_cons_zero, List.set_cons_succ]
                    refine wpAnyH_ready (rs := [7]) (by kernel_rfl) (by simp) ?_
                    refine AllReadyH.cons rfl (fun K hK => ?_) AllReadyH.nil
                    go_simp
                    refine hK.out _ _ ?_ (fun hNew => ?_)
                    · exact ⟨(World.cell?_alloc_lt w6 _ _ hnb6).trans ((hb6.cell (p := ⟨nb, 0, none⟩) hnb).trans v0), (World.cell?_alloc_lt w6 _ _ hnb6).trans ((hb6.cell (p := ⟨nb, 1, none⟩) hnb).trans v1), (World.cell?_alloc_lt w6 _ _ hnb6).trans ((hb6.cell (p := ⟨nb, 2, none⟩) hnb).trans v2), (World.cell?_alloc_lt w6 _ _ hnb6).trans ((hb6.cell (p := ⟨nb, 3, none⟩) hnb).trans v3), (World.cell?_alloc_lt w6 _ _ hnb6).trans ((hb6.cell (p := ⟨nb, 4, none⟩) hnb).trans v4)⟩
                    clear hK K hHeld
                    have hHeld := hNew
                    clear hNew
                    try simp only [Act.put, List.setIfInBounds_toArray, List.set_cons_zero, List.set_cons_succ]
                    refine wpAnyH_done (by kernel_rfl) ?_ _
                    refine lastQ_step rfl (fun K hK => ?_)
                    clear hHeld
                    go_simp
                    refine hK _ _ ?_
                    clear hK K
                    refine NoPanic.normal ?_
                    go_wp2_with fail
                    go_meet
                    case rel => exact ⟨w6.heap.size, rfl, HB6.out.size, Blk.new _ _ _, HB6.out.alloc HB6.out.size _⟩
                  · go_simp
                    refine hK.out _ _ ?_ (fun hNew => ?_)
                    · exact ⟨(World.cell?_alloc_lt W5 _ _ hnb).trans v0, (World.cell?_alloc_lt W5 _ _ hnb).trans v1, (World.cell?_alloc_lt W5 _ _ hnb).trans v2, (World.cell?_alloc_lt W5 _ _ hnb).trans v3, (World.cell?_alloc_lt W5 _ _ hnb).trans v4⟩
                    clear hK K hHeld
                    have hHeld := hNew
                    clear hNew
                    try simp only [Act.put, List.setIfInBounds_toArray, List.set_cons_zero, List.set_cons_succ]
                    refine wpAnyH_ready (rs := [3]) (by kernel_rfl) (by simp) ?_
                    refine AllReadyH.cons rfl (fun K hK => ?_) AllReadyH.nil
                    go_simp
                    have hbx := ((Below.refl W5.heap.size W5).alloc (Nat.le_refl _) (.cells #[.int .i64 0, .int .i64 0, .int .i64 0, .string ⟨#[]⟩, .int .i64 0, .int .i64 0, .string ⟨#[]⟩] 43)).drew; have zq := Blk.new W5 43 #[.int .i64 0, .int .i64 0, .int .i64 0, .string ⟨#[]⟩, .int .i64 0, .int .i64 0, .string ⟨#[]⟩]; refine (HWR.out _ hbx).mono ?_; rintro e w6 ⟨rfl, hb6'⟩; have hb6 := hbx.trans (hb6'.mono hbx.size); have HB6 := Lib.hid hb6; have ZQ := Lib.hid (zq.drew.next hb6' zq.lt); have q0 := ZQ.out.cell 0; have p0 := ZQ.out.frozen 0; have q1 := ZQ.out.cell 1; have p1 := ZQ.out.frozen 1; have q2 := ZQ.out.cell 2; have p2 := ZQ.out.frozen 2; have q3 := ZQ.out.cell 3; have p3 := ZQ.out.frozen 3; have q4 := ZQ.out.cell 4; have p4 := ZQ.out.frozen 4; have q5 := ZQ.out.cell 5; have p5 := ZQ.out.frozen 5; have q6 := ZQ.out.cell 6; have p6 := ZQ.out.frozen 6; (simp only [List.getElem?_toArray, List.getElem?_cons_zero, List.getElem?_cons_succ] at q0 q1 q2 q3 q4 q5 q6); clear hb6' hbx zq
                    try (go_wp2_with fail)
                    refine hK.out _ _ ?_ (fun hNew => ?_)
                    · exact ⟨(hb6.cell (p := ⟨nb, 0, none⟩) hnb).trans v0, (hb6.cell (p := ⟨nb, 1, none⟩) hnb).trans v1, (hb6.cell (p := ⟨nb, 2, none⟩) hnb).trans v2, (hb6.cell (p := ⟨nb, 3, none⟩) hnb).trans v3, (hb6.cell (p := ⟨nb, 4, none⟩) hnb).trans v4⟩
                    clear hK K hHeld
                    have hHeld := hNew
                    clear hNew
                    try simp only [Act.put, List.setIfInBounds_toArray, List.set_cons_zero, List.set_cons_succ]
                    refine wpAnyH_take (i := 6) (v := ?_) rfl (by kernel_rfl) (by kernel_rfl) (by kernel_rfl) (fun _ _ _ h => h) (Or.inl ⟨by kernel_rfl, ?_⟩) hHeld ?_
                    rotate_left
                    · (intro w hSw; (try dsimp only at hSw); go_simp; try with_reducible rfl)
                    try simp only [Act.put, List.setIfInBounds_toArray, List.set_cons_zero, List.set_cons_succ]
                    refine wpAnyH_done (by kernel_rfl) ?_ _
                    refine lastQ_step rfl (fun K hK => ?_)
                    clear hHeld
                    go_simp
                    refine hK _ _ ?_
                    clear hK K
                    refine NoPanic.normal ?_
                    go_wp2_with fail
                    go_meet
                    case rel => exact ⟨W5.heap.size, rfl, Nat.le_refl _, (((((((ZQ.out.set_ 0 (.int .i64 F)).set_ 1 (.int .i64 k)).set_ 2 (.int .i64 n.kind)).set_ 3 (.string (bs n.owner))).set_ 4 (.int .i64 n.num)).set_ 5 (.int .i64 n.idx)).set_ 6 (.string (bs n.text))), (((((((HB6.out.setCell (p := ⟨W5.heap.size, 0, none⟩) (Nat.le_refl _) _).setCell (p := ⟨W5.heap.size, 1, none⟩) (Nat.le_refl _) _).setCell (p := ⟨W5.heap.size, 2, none⟩) (Nat.le_refl _) _).setCell (p := ⟨W5.heap.size, 3, none⟩) (Nat.le_refl _) _).setCell (p := ⟨W5.heap.size, 4, none⟩) (Nat.le_refl _) _).setCell (p := ⟨W5.heap.size, 5, none⟩) (Nat.le_refl _) _).setCell (p := ⟨W5.heap.size, 6, none⟩) (Nat.le_refl _) _)⟩
                case rest =>
                  obtain ⟨xb, rfl, hxb, hzx, hbc⟩ := hcut
                  clear v0 v1 v2 v3 v4 HWR hnb
                  have ZX := Lib.hid hzx
                  have G6 := Lib.hid (G5.out.next hbc)
                  have HKP6 := Lib.hid (HKP5.out.trans (Kept.of_below LG hbc))
                  have HBW6 := Lib.hid (HBW5.out.trans (hbc.mono HBW5.out.size))
                  obtain ⟨mid, hmid⟩ : ∃ mid, (lnkA (l.take k) a).take m = mid := ⟨_, rfl⟩
                  have HMID := Lib.hid hmid
                  rw [hmid] at G5 G6
                  have hmidl : mid.length ≤ 10 := by rw [← hmid, List.length_take]; unfold lnkA; rw [List.length_map]; omega
                  have HY := Lib.hid (show (lnkA (l.take k) a).take (m + 1) = mid ++ [⟨F, k, n⟩] by
                    have hd : (l.take k).length = k := by rw [List.length_take]; omega
                    rw [lnkA_take hm, hmid, HN.out, hd, HFE.out])
                  have hLD : (lnkD (l.take k)).length = k := by rw [lnkD_len, List.length_take]; omega
                  have HLD := Lib.hid hLD
                  have hLl : (lnkD (l.take k) ++ mid :: List.replicate (l.length - k - 1) []).length = l.length := by rw [List.length_append, List.length_cons, List.length_replicate, hLD]; omega
                  have hvl : k < vL.length := by rw [G6.out.lu.lenL, hLl]; exact hk
                  have HXR := Lib.hid (get_mid hLD (m := mid) (B := List.replicate (l.length - k - 1) []))
                  have HKL := Lib.hid (show k < (lnkD (l.take k) ++ mid :: List.replicate (l.length - k - 1) []).length by rw [hLl]; exact hk)
                  obtain ⟨xv, hxv⟩ : ∃ xv, vL[k]? = some xv := ⟨_, List.getElem?_eq_getElem hvl⟩
                  have HXV := Lib.hid hxv
                  have hx5 := G5.out.lu.el _ _ _ hxv HXR.out
                  obtain ⟨Ax, cx, rfl, _⟩ := own_len hx5
                  have HU5 := Lib.hid (show ∀ (i : Nat) (x : Value) (y : List Lk), vU[i]? = some x → (UT l.length ((lnkD (l.take k)).flatten ++ mid))[i]? = some y → x.ownBlock ≠ some xb from fun i x y hx hy e => by have := own_lt (G5.out.lu.eu i x y hx hy) e; omega)
                  have HXN := Lib.hid (show (Value.slice Ax mid.length cx).ownBlock ≠ some xb from fun e => by have := own_lt hx5 e; omega)
                  clear hmid hLD hLl hvl hxv hx5 hzx hbc HKP5 HBW5
                  obtain ⟨i0, hi, hz0, hz1, hz2⟩ := info_parts infoLk
                  have hw16 : w1.heap.size ≤ wc.heap.size := HBW6.out.size
                  go_upto_region 20 with (fail)
                  have hbq := ((Below.refl wc.heap.size wc).alloc (Nat.le_refl _) (.cells #[.int .i64 F, .int .i64 k, .int .i64 n.kind, .string (bs n.owner), .int .i64 n.num, .int .i64 n.idx, .string (bs n.text)] 43)).drew
                  have G7 := Lib.hid (G6.out.next hbq)
                  have ZX7 := Lib.hid (ZX.out.next hbq ZX.out.lt)
                  have HXO := Lib.hid (G7.out.lu.el _ _ _ HXV.out HXR.out)
                  have HBQ := Lib.hid hbq
                  have x1 := G6.out.blk.cell 1
                  have xk := own_cell1 G6.out.lu.ln HXV.out
                  have hbl := own_lt G6.out.lu.ln (g := bl) rfl
                  have z0 := ZX.out.cell 0
                  have z1 := ZX.out.cell 1
                  have z2 := ZX.out.cell 2
                  have z3 := ZX.out.cell 3
                  have z4 := ZX.out.cell 4
                  have z5 := ZX.out.cell 5
                  have z6 := ZX.out.cell 6
                  simp only [List.getElem?_toArray, List.getElem?_cons_zero, List.getElem?_cons_succ] at x1 z0 z1 z2 z3 z4 z5 z6
                  clear hbq
                  refine wp_region_noPanic ?_
                  refine wp_region_last (S := (fun (w' : World) => w'.cell? ⟨g, 1, none⟩ = some (.slice (some ⟨bl, 0, none⟩) l.length l.length) ∧ w'.cell? ⟨bl, k, none⟩ = some (.slice Ax mid.length cx) ∧ w'.cell? ⟨xb, 0, none⟩ = some (.int .i64 F) ∧ w'.cell? ⟨xb, 1, none⟩ = some (.int .i64 k) ∧ w'.cell? ⟨xb, 2, none⟩ = some (.int .i64 n.kind) ∧ w'.cell? ⟨xb, 3, none⟩ = some (.string (bs n.owner)) ∧ w'.cell? ⟨xb, 4, none⟩ = some (.int .i64 n.num) ∧ w'.cell? ⟨xb, 5, none⟩ = some (.int .i64 n.idx) ∧ w'.cell? ⟨xb, 6, none⟩ = some (.string (bs n.text)))) 16 16 rfl (by kernel_rfl) (by kernel_rfl) ?_ (fun hHeld => ?_)
                  · exact ⟨x1, xk, z0, z1, z2, z3, z4, z5, z6⟩
                  refine wpAnyH_take (i := 0) (v := ?_) rfl (by kernel_rfl) (by kernel_rfl) (by kernel_rfl) (fun _ _ _ h => h) (Or.inl ⟨by kernel_rfl, ?_⟩) hHeld ?_
                  rotate_left
                  · (intro w hSw; (try dsimp only at hSw); go_simp; try with_reducible rfl)
                  try simp only [Act.put, List.setIfInBounds_toArray, List.set_cons_zero, List.set_cons_succ]
                  refine wpAnyH_take (i := 1) (v := ?_) rfl (by kernel_rfl) (by kernel_rfl) (by kernel_rfl) (fun _ _ _ h => h) (Or.inl ⟨by kernel_rfl, ?_⟩) hHeld ?_
                  rotate_left
                  · (intro w hSw; (try dsimp only at hSw); go_simp; try with_reducible rfl)
                  try simp only [Act.put, List.setIfInBounds_toArray, List.set_cons_zero, List.set_cons_succ]
                  refine wpAnyH_take (i := 2) (v := ?_) rfl (by kernel_rfl) (by kernel_rfl) (by kernel_rfl) (fun _ _ _ h => h) (Or.inl ⟨by kernel_rfl, ?_⟩) hHeld ?_
                  rotate_left
                  · (intro w hSw; (try dsimp only at hSw); go_simp; try with_reducible rfl)
                  try simp only [Act.put, List.setIfInBounds_toArray, List.set_cons_zero, List.set_cons_succ]
                  refine wpAnyH_take (i := 3) (v := ?_) rfl (by kernel_rfl) (by kernel_rfl) (by kernel_rfl) (fun _ _ _ h => h) (Or.inl ⟨by kernel_rfl, ?_⟩) hHeld ?_
                  rotate_left
                  · (intro w hSw; (try dsimp only at hSw); go_simp; try with_reducible rfl)
                  try simp only [Act.put, List.setIfInBounds_toArray, List.set_cons_zero, List.set_cons_succ]
                  refine wpAnyH_take (i := 4) (v := ?_) rfl (by kernel_rfl) (by kernel_rfl) (by kernel_rfl) (fun _ _ _ h => h) (Or.inl ⟨by kernel_rfl, ?_⟩) hHeld ?_
                  rotate_left
                  · (intro w hSw; (try dsimp only at hSw); go_simp; try with_reducible rfl)
                  try simp only [Act.put, List.setIfInBounds_toArray, List.set_cons_zero, List.set_cons_succ]
                  refine wpAnyH_take (i := 5) (v := ?_) rfl (by kernel_rfl) (by kernel_rfl) (by kernel_rfl) (fun _ _ _ h => h) (Or.inl ⟨by kernel_rfl, ?_⟩) hHeld ?_
                  rotate_left
                  · (intro w hSw; (try dsimp only at hSw); go_simp; try with_reducible rfl)
                  try simp only [Act.put, List.setIfInBounds_toArray, List.set_cons_zero, List.set_cons_succ]
                  refine wpAnyH_take (i := 6) (v := ?_) rfl (by kernel_rfl) (by kernel_rfl) (by kernel_rfl) (fun _ _ _ h => h) (Or.inl ⟨by kernel_rfl, ?_⟩) hHeld ?_
                  rotate_left
                  · (intro w hSw; (try dsimp only at hSw); go_simp; try with_reducible rfl)
                  try simp only [Act.put, List.setIfInBounds_toArray, List.set_cons_zero, List.set_cons_succ]
                  refine wpAnyH_take (i := 7) (v := ?_) rfl (by kernel_rfl) (by kernel_rfl) (by kernel_rfl) (fun _ _ _ h => h) (Or.inl ⟨by kernel_rfl, ?_⟩) hHeld ?_
                  rotate_left
                  · (intro w hSw; (try dsimp only at hSw); go_simp; try with_reducible rfl)
                  try simp only [Act.put, List.setIfInBounds_toArray, List.set_cons_zero, List.set_cons_succ]
                  refine wpAnyH_take (i := 8) (v := ?_) rfl (by kernel_rfl) (by kernel_rfl) (by kernel_rfl) (fun _ _ _ h => h) (Or.inl ⟨by kernel_rfl, ?_⟩) hHeld ?_
                  rotate_left
                  · (intro w hSw; (try dsimp only at hSw); go_simp; try with_reducible rfl)
                  try simp only [Act.put, List.setIfInBounds_toArray, List.set_cons_zero, List.set_cons_succ]
                  refine wpAnyH_take (i := 9) (v := ?_) rfl (by kernel_rfl) (by kernel_rfl) (by kernel_rfl) (fun _ _ _ h => h) (Or.inl ⟨by kernel_rfl, ?_⟩) hHeld ?_
                  rotate_left
                  · (intro w hSw; (try dsimp only at hSw); go_simp; try with_reducible rfl)
                  try simp only [Act.put, List.setIfInBounds_toArray, List.set_cons_zero, List.set_cons_succ]
                  refine wpAnyH_take (i := 10) (v := ?_) rfl (by kernel_rfl) (by kernel_rfl) (by kernel_rfl) (fun _ _ _ h => h) (Or.inl ⟨by kernel_rfl, ?_⟩) hHeld ?_
                  rotate_left
                  · (intro w hSw; (try dsimp only at hSw); go_simp; try with_reducible rfl)
                  try simp only [Act.put, List.setIfInBounds_toArray, List.set_cons_zero, List.set_cons_succ]
                  refine wpAnyH_take (i := 11) (v := ?_) rfl (by kernel_rfl) (by kernel_rfl) (by kernel_rfl) (fun _ _ _ h => h) (Or.inl ⟨by kernel_rfl, ?_⟩) hHeld ?_
                  rotate_left
                  · (intro w hSw; (try dsimp only at hSw); go_simp; try with_reducible rfl)
                  try simp only [Act.put, List.setIfInBounds_toArray, List.set_cons_zero, List.set_cons_succ]
                  refine wpAnyH_take (i := 12) (v := ?_) rfl (by kernel_rfl) (by kernel_rfl) (by kernel_rfl) (fun _ _ _ h => h) (Or.inl ⟨by kernel_rfl, ?_⟩) hHeld ?_
                  rotate_left
                  · (intro w hSw; (try dsimp only at hSw); go_simp; try with_reducible rfl)
                  try simp only [Act.put, List.setIfInBounds_toArray, List.set_cons_zero, List.set_cons_succ]
                  refine wpAnyH_ready (rs := [13]) (by kernel_rfl) (by simp) ?_
                  refine AllReadyH.cons rfl (fun K hK => ?_) AllReadyH.nil
                  go_simp
                  refine hK.out _ _ ?_ (fun hNew => ?_)
                  · exact ⟨(World.cell?_alloc_lt wc _ _ G6.out.blk.lt).trans x1, (World.cell?_alloc_lt wc _ _ hbl).trans xk, (World.cell?_alloc_lt wc _ _ ZX.out.lt).trans z0, (World.cell?_alloc_lt wc _ _ ZX.out.lt).trans z1, (World.cell?_alloc_lt wc _ _ ZX.out.lt).trans z2, (World.cell?_alloc_lt wc _ _ ZX.out.lt).trans z3, (World.cell?_alloc_lt wc _ _ ZX.out.lt).trans z4, (World.cell?_alloc_lt wc _ _ ZX.out.lt).trans z5, (World.cell?_alloc_lt wc _ _ ZX.out.lt).trans z6⟩
                  clear hK K hHeld
                  have hHeld := hNew
                  clear hNew
                  try simp only [Act.put, List.setIfInBounds_toArray, List.set_cons_zero, List.set_cons_succ]
                  refine wpAnyH_ready (rs := [14]) (by kernel_rfl) (by simp) ?_
                  refine AllReadyH.cons rfl (fun K hK => ?_) AllReadyH.nil
                  refine step_append_w _ (by rfl) _ _ _ (by rfl) w1.heap.size 43 i0 _ 7 72 Try.underlying32 hi hz0 hz1 hz2 rfl (by omega) (.slice Ax mid.length cx) mid.length (mid.flatMap lkC) (by rfl) HXO.out (.slice (some ⟨wc.heap.size, 0, none⟩) 1 1) 1 [.int .i64 F, .int .i64 k, .int .i64 n.kind, .string (bs n.owner), .int .i64 n.num, .int .i64 n.idx, .string (bs n.text)] (by rfl) (Rd.of_own (own_new wc 0 43 7 [.int .i64 F, .int .i64 k, .int .i64 n.kind, .string (bs n.owner), .int .i64 n.num, .int .i64 n.idx, .string (bs n.text)] rfl (Nat.zero_le _))) (by omega) (by rfl) (by simp [Value.oneCell']) (by unfold maxLen; omega) (by omega) (by simp; omega) ?_; intro v7 w7 hown7 hg7 hat7; obtain ⟨A9, c9, rfl, _⟩ := own_len hown7; have hB7 := G7.out.blk.grown hg7 (fun e => own_blk_ne HXO.out G7.out.blk (by decide) e.symm); have hC7 := ZX7.out.grown hg7 (fun e => HXN.out e.symm); have HOW7 := Lib.hid hown7; have HG7 := Lib.hid hg7; have HAT7 := Lib.hid hat7; have HC7 := Lib.hid hC7; have hln := own_grown G7.out.lu.ln HXO.out hg7 (.inl (by decide)); have HLN := Lib.hid hln; have r1 := hB7.cell 1; have rk := own_cell1 hln HXV.out; have rf := own_frozen1 hln k; have e0 := hC7.cell 0; have e1 := hC7.cell 1; have e2 := hC7.cell 2; have e3 := hC7.cell 3; have e4 := hC7.cell 4; have e5 := hC7.cell 5; have e6 := hC7.cell 6; (simp only [List.getElem?_toArray, List.getElem?_cons_zero, List.getElem?_cons_succ] at r1 e0 e1 e2 e3 e4 e5 e6); clear hown7 hg7 hat7 hB7 hC7 hln
                  refine hK.out _ _ ?_ (fun hNew => ?_)
                  · exact ⟨r1, rk, e0, e1, e2, e3, e4, e5, e6⟩
                  clear hK K hHeld
                  have hHeld := hNew
                  clear hNew
                  try simp only [Act.put, List.setIfInBounds_toArray, List.set_cons_zero, List.set_cons_succ]
                  refine wpAnyH_take (i := 15) (v := ?_) rfl (by kernel_rfl) (by kernel_rfl) (by kernel_rfl) (fun _ _ _ h => h) (Or.inl ⟨by kernel_rfl, ?_⟩) hHeld ?_
                  rotate_left
                  · (intro w hSw; (try dsimp only at hSw); go_simp; try with_reducible rfl)
                  try simp only [Act.put, List.setIfInBounds_toArray, List.set_cons_zero, List.set_cons_succ]
                  refine wpAnyH_done (by kernel_rfl) ?_ _
                  refine lastQ_step rfl (fun K hK => ?_)
                  clear hHeld
                  go_simp
                  refine hK _ _ ?_
                  clear hK K
                  refine NoPanic.normal ?_
                  clear x1 xk r1 rk rf z0 e0 z1 e1 z2 e2 z3 e3 z4 e4 z5 e5 z6 e6 hbl
                  have HL := Lib.hid (show GIn (w7.setCell ⟨bl, k, none⟩ (.slice A9 (mid.length + 1) c9)) w1.heap.size g (.slice A7 (ks.length + 1) c7) (.slice (some ⟨bl, 0, none⟩) l.length l.length) (.slice (some ⟨bu, 0, none⟩) l.length l.length) bw (ks ++ [a.key]) (vL.set k (.slice A9 (mid.length + 1) c9)) vU (lnkD (l.take k) ++ (mid ++ [⟨F, k, n⟩]) :: List.replicate (l.length - k - 1) []) (UT l.length ((lnkD (l.take k)).flatten ++ mid)) (wls (l.take k)) ∧ Below w1.heap.size (wc.alloc (.cells #[.int .i64 F, .int .i64 k, .int .i64 n.kind, .string (bs n.owner), .int .i64 n.num, .int .i64 n.idx, .string (bs n.text)] 43)).drew (w7.setCell ⟨bl, k, none⟩ (.slice A9 (mid.length + 1) c9)) ∧ Kept LG (wc.alloc (.cells #[.int .i64 F, .int .i64 k, .int .i64 n.kind, .string (bs n.owner), .int .i64 n.num, .int .i64 n.idx, .string (bs n.text)] 43)).drew (w7.setCell ⟨bl, k, none⟩ (.slice A9 (mid.length + 1) c9)) from by
                    have eL : (lnkD (l.take k) ++ mid :: List.replicate (l.length - k - 1) [])[k]'HKL.out = mid := by
                      have := HXR.out
                      rw [List.getElem?_eq_getElem HKL.out] at this
                      injection this
                    have h := GIn.link_ (cl := l.length) (y := ⟨F, k, n⟩) G7.out (by rw [show (lnkD (l.take k) ++ mid :: List.replicate (l.length - k - 1) []).length = l.length from by rw [List.length_append, List.length_cons, List.length_replicate, HLD.out]; omega]) HKL.out HXV.out HG7.out (by rw [eL]; exact HOW7.out) HAT7.out
                    rw [eL, set_mid HLD.out] at h
                    exact h)
                  have ZX8 := Lib.hid (HC7.out.far (p := ⟨bl, k, none⟩) (fun e => own_blk_ne HLN.out HC7.out (by decide) (by rw [e]; rfl)) (.slice A9 (mid.length + 1) c9))
                  have HKP8 := Lib.hid ((HKP6.out.trans (Kept.of_below LG HBQ.out)).trans HL.out.2.2)
                  have HBW8 := Lib.hid (HBW6.out.trans ((HBQ.out.mono hw16).trans HL.out.2.1))
                  have G8 := Lib.hid HL.out.1
                  clear HL HC7 HLN HOW7 HG7 HAT7 HBQ HXO HXN HXV HXR HKL ZX7 G7 G6 G5 HKP6 HBW6 ZX
                  go_upto_region 21 with (fail)
                  generalize w7.setCell ⟨bl, k, none⟩ (.slice A9 (mid.length + 1) c9) = W8 at *
                  by_cases hF0 : 0 ≤ F
                  · obtain ⟨j, rfl⟩ := Int.eq_ofNat_of_zero_le hF0
                    have e9 : decide ((0 : Int) ≤ (j : Int)) = true := decide_eq_true hF0
                    have hjk : j < k := by
                      rcases wrI_mem (wls (l.take k) n) (k : Int) with e | e
                      · rw [HFE.out] at e; omega
                      · rw [HFE.out] at e
                        have := (wls_bd e).2
                        rw [List.length_take] at this
                        omega
                    have hjN : j < l.length := by omega
                    have j7 : (j : Int) < (l.length : Int) := by omega
                    obtain ⟨fl, hfl⟩ : ∃ fl, (lnkD (l.take k)).flatten ++ mid = fl := ⟨_, rfl⟩
                    have HFL := Lib.hid hfl
                    have hfll : fl.length ≤ 2000 := by
                      have := lnkD_flat (l := l.take k) (fun b hb => (HR.out b (List.mem_of_mem_take hb)).2.2.2.1)
                      rw [List.length_take] at this
                      rw [← hfl, List.length_append]
                      omega
                    rw [hfl] at G8 HU5
                    have hju : j < (UT l.length fl).length := by rw [UT_len]; exact hjN
                    have HJU := Lib.hid hju
                    obtain ⟨row, hrow⟩ : ∃ row, (UT l.length fl)[j]'hju = row := ⟨_, rfl⟩
                    have hrl2 : row.length ≤ 2000 := by
                      rw [← hrow, UT_get]
                      exact Nat.le_trans (List.length_filter_le _ _) hfll
                    have HROW := Lib.hid hrow
                    have HXR := Lib.hid (show (UT l.length fl)[j]? = some row by rw [List.getElem?_eq_getElem hju, hrow])
                    obtain ⟨xv, hxv⟩ : ∃ xv, vU[j]? = some xv := ⟨_, List.getElem?_eq_getElem (by rw [G8.out.lu.lenU, UT_len]; exact hjN)⟩
                    have HXV := Lib.hid hxv
                    have hx8 := G8.out.lu.eu _ _ _ hxv HXR.out
                    obtain ⟨Ax, cx, rfl, _⟩ := own_len hx8
                    have HXN := Lib.hid (HU5.out _ _ _ hxv HXR.out)
                    have hw18 : w1.heap.size ≤ W8.heap.size := HBW8.out.size
                    clear hfl hrow hxv hx8 HU5 hfll hF0
                    have z0 := ZX8.out.cell 0
                    simp only [List.getElem?_toArray, List.getElem?_cons_zero, List.getElem?_cons_succ] at z0
                    go_upto_region 22 with (fail)
                    clear z0
                    have hbq := ((Below.refl W8.heap.size W8).alloc (Nat.le_refl _) (.cells #[.int .i64 j, .int .i64 k, .int .i64 n.kind, .string (bs n.owner), .int .i64 n.num, .int .i64 n.idx, .string (bs n.text)] 43)).drew
                    have G7 := Lib.hid (G8.out.next hbq)
                    have ZX7 := Lib.hid (ZX8.out.next hbq ZX8.out.lt)
                    have HXO := Lib.hid (G7.out.lu.eu _ _ _ HXV.out HXR.out)
                    have HBQ := Lib.hid hbq
                    have x1 := G8.out.blk.cell 2
                    have xk := own_cell1 G8.out.lu.us HXV.out
                    have hbl := own_lt G8.out.lu.us (g := bu) rfl
                    have z0 := ZX8.out.cell 0
                    have z1 := ZX8.out.cell 1
                    have z2 := ZX8.out.cell 2
                    have z3 := ZX8.out.cell 3
                    have z4 := ZX8.out.cell 4
                    have z5 := ZX8.out.cell 5
                    have z6 := ZX8.out.cell 6
                    simp only [List.getElem?_toArray, List.getElem?_cons_zero, List.getElem?_cons_succ] at x1 z0 z1 z2 z3 z4 z5 z6
                    clear hbq
                    refine wp_region_noPanic ?_
                    refine wp_region_last (S := (fun (w' : World) => w'.cell? ⟨g, 2, none⟩ = some (.slice (some ⟨bu, 0, none⟩) l.length l.length) ∧ w'.cell? ⟨bu, j, none⟩ = some (.slice Ax row.length cx) ∧ w'.cell? ⟨xb, 0, none⟩ = some (.int .i64 j) ∧ w'.cell? ⟨xb, 1, none⟩ = some (.int .i64 k) ∧ w'.cell? ⟨xb, 2, none⟩ = some (.int .i64 n.kind) ∧ w'.cell? ⟨xb, 3, none⟩ = some (.string (bs n.owner)) ∧ w'.cell? ⟨xb, 4, none⟩ = some (.int .i64 n.num) ∧ w'.cell? ⟨xb, 5, none⟩ = some (.int .i64 n.idx) ∧ w'.cell? ⟨xb, 6, none⟩ = some (.string (bs n.text)))) 18 18 rfl (by kernel_rfl) (by kernel_rfl) ?_ (fun hHeld => ?_)
                    · exact ⟨x1, xk, z0, z1, z2, z3, z4, z5, z6⟩
                    refine wpAnyH_take (i := 0) (v := ?_) rfl (by kernel_rfl) (by kernel_rfl) (by kernel_rfl) (fun _ _ _ h => h) (Or.inl ⟨by kernel_rfl, ?_⟩) hHeld ?_
                    rotate_left
                    · (intro w hSw; (try dsimp only at hSw); go_simp; try with_reducible rfl)
                    try simp only [Act.put, List.setIfInBounds_toArray, List.set_cons_zero, List.set_cons_succ]
                    refine wpAnyH_take (i := 1) (v := ?_) rfl (by kernel_rfl) (by kernel_rfl) (by kernel_rfl) (fun _ _ _ h => h) (Or.inl ⟨by kernel_rfl, ?_⟩) hHeld ?_
                    rotate_left
                    · (intro w hSw; (try dsimp only at hSw); go_simp; try with_reducible rfl)
                    try simp only [Act.put, List.setIfInBounds_toArray, List.set_cons_zero, List.set_cons_succ]
                    refine wpAnyH_take (i := 2) (v := ?_) rfl (by kernel_rfl) (by kernel_rfl) (by kernel_rfl) (fun _ _ _ h => h) (Or.inl ⟨by kernel_rfl, ?_⟩) hHeld ?_
                    rotate_left
                    · (intro w hSw; (try dsimp only at hSw); go_simp; try with_reducible rfl)
                    try simp only [Act.put, List.setIfInBounds_toArray, List.set_cons_zero, List.set_cons_succ]
                    refine wpAnyH_take (i := 3) (v := ?_) rfl (by kernel_rfl) (by kernel_rfl) (by kernel_rfl) (fun _ _ _ h => h) (Or.inl ⟨by kernel_rfl, ?_⟩) hHeld ?_
                    rotate_left
                    · (intro w hSw; (try dsimp only at hSw); go_simp; try with_reducible rfl)
                    try simp only [Act.put, List.setIfInBounds_toArray, List.set_cons_zero, List.set_cons_succ]
                    refine wpAnyH_take (i := 4) (v := ?_) rfl (by kernel_rfl) (by kernel_rfl) (by kernel_rfl) (fun _ _ _ h => h) (Or.inl ⟨by kernel_rfl, ?_⟩) hHeld ?_
                    rotate_left
                    · (intro w hSw; (try dsimp only at hSw); go_simp; try with_reducible rfl)
                    try simp only [Act.put, List.setIfInBounds_toArray, List.set_cons_zero, List.set_cons_succ]
                    refine wpAnyH_take (i := 5) (v := ?_) rfl (by kernel_rfl) (by kernel_rfl) (by kernel_rfl) (fun _ _ _ h => h) (Or.inl ⟨by kernel_rfl, ?_⟩) hHeld ?_
                    rotate_left
                    · (intro w hSw; (try dsimp only at hSw); go_simp; try with_reducible rfl)
                    try simp only [Act.put, List.setIfInBounds_toArray, List.set_cons_zero, List.set_cons_succ]
                    refine wpAnyH_take (i := 6) (v := ?_) rfl (by kernel_rfl) (by kernel_rfl) (by kernel_rfl) (fun _ _ _ h => h) (Or.inl ⟨by kernel_rfl, ?_⟩) hHeld ?_
                    rotate_left
                    · (intro w hSw; (try dsimp only at hSw); go_simp; try with_reducible rfl)
                    try simp only [Act.put, List.setIfInBounds_toArray, List.set_cons_zero, List.set_cons_succ]
                    refine wpAnyH_take (i := 7) (v := ?_) rfl (by kernel_rfl) (by kernel_rfl) (by kernel_rfl) (fun _ _ _ h => h) (Or.inl ⟨by kernel_rfl, ?_⟩) hHeld ?_
                    rotate_left
                    · (intro w hSw; (try dsimp only at hSw); go_simp; try with_reducible rfl)
                    try simp only [Act.put, List.setIfInBounds_toArray, List.set_cons_zero, List.set_cons_succ]
                    refine wpAnyH_take (i := 8) (v := ?_) rfl (by kernel_rfl) (by kernel_rfl) (by kernel_rfl) (fun _ _ _ h => h) (Or.inl ⟨by kernel_rfl, ?_⟩) hHeld ?_
                    rotate_left
                    · (intro w hSw; (try dsimp only at hSw); go_simp; try with_reducible rfl)
                    try simp only [Act.put, List.setIfInBounds_toArray, List.set_cons_zero, List.set_cons_succ]
                    refine wpAnyH_take (i := 9) (v := ?_) rfl (by kernel_rfl) (by kernel_rfl) (by kernel_rfl) (fun _ _ _ h => h) (Or.inl ⟨by kernel_rfl, ?_⟩) hHeld ?_
                    rotate_left
                    · (intro w hSw; (try dsimp only at hSw); go_simp; try with_reducible rfl)
                    try simp only [Act.put, List.setIfInBounds_toArray, List.set_cons_zero, List.set_cons_succ]
                    refine wpAnyH_take (i := 10) (v := ?_) rfl (by kernel_rfl) (by kernel_rfl) (by kernel_rfl) (fun _ _ _ h => h) (Or.inl ⟨by kernel_rfl, ?_⟩) hHeld ?_
                    rotate_left
                    · (intro w hSw; (try dsimp only at hSw); go_simp; try with_reducible rfl)
                    try simp only [Act.put, List.setIfInBounds_toArray, List.set_cons_zero, List.set_cons_succ]
                    refine wpAnyH_take (i := 11) (v := ?_) rfl (by kernel_rfl) (by kernel_rfl) (by kernel_rfl) (fun _ _ _ h => h) (Or.inl ⟨by kernel_rfl, ?_⟩) hHeld ?_
                    rotate_left
                    · (intro w hSw; (try dsimp only at hSw); go_simp; try with_reducible rfl)
                    try simp only [Act.put, List.setIfInBounds_toArray, List.set_cons_zero, List.set_cons_succ]
                    refine wpAnyH_take (i := 12) (v := ?_) rfl (by kernel_rfl) (by kernel_rfl) (by kernel_rfl) (fun _ _ _ h => h) (Or.inl ⟨by kernel_rfl, ?_⟩) hHeld ?_
                    rotate_left
                    · (intro w hSw; (try dsimp only at hSw); go_simp; try with_reducible rfl)
                    try simp only [Act.put, List.setIfInBounds_toArray, List.set_cons_zero, List.set_cons_succ]
                    refine wpAnyH_take (i := 13) (v := ?_) rfl (by kernel_rfl) (by kernel_rfl) (by kernel_rfl) (fun _ _ _ h => h) (Or.inl ⟨by kernel_rfl, ?_⟩) hHeld ?_
                    rotate_left
                    · (intro w hSw; (try dsimp only at hSw); go_simp; try with_reducible rfl)
                    try simp only [Act.put, List.setIfInBounds_toArray, List.set_cons_zero, List.set_cons_succ]
                    refine wpAnyH_take (i := 14) (v := ?_) rfl (by kernel_rfl) (by kernel_rfl) (by kernel_rfl) (fun _ _ _ h => h) (Or.inl ⟨by kernel_rfl, ?_⟩) hHeld ?_
                    rotate_left
                    · (intro w hSw; (try dsimp only at hSw); go_simp; try with_reducible rfl)
                    try simp only [Act.put, List.setIfInBounds_toArray, List.set_cons_zero, List.set_cons_succ]
                    refine wpAnyH_ready (rs := [15]) (by kernel_rfl) (by simp) ?_
                    refine AllReadyH.cons rfl (fun K hK => ?_) AllReadyH.nil
                    go_simp
                    refine hK.out _ _ ?_ (fun hNew => ?_)
                    · exact ⟨(World.cell?_alloc_lt W8 _ _ G8.out.blk.lt).trans x1, (World.cell?_alloc_lt W8 _ _ hbl).trans xk, (World.cell?_alloc_lt W8 _ _ ZX8.out.lt).trans z0, (World.cell?_alloc_lt W8 _ _ ZX8.out.lt).trans z1, (World.cell?_alloc_lt W8 _ _ ZX8.out.lt).trans z2, (World.cell?_alloc_lt W8 _ _ ZX8.out.lt).trans z3, (World.cell?_alloc_lt W8 _ _ ZX8.out.lt).trans z4, (World.cell?_alloc_lt W8 _ _ ZX8.out.lt).trans z5, (World.cell?_alloc_lt W8 _ _ ZX8.out.lt).trans z6⟩
                    clear hK K hHeld
                    have hHeld := hNew
                    clear hNew
                    try simp only [Act.put, List.setIfInBounds_toArray, List.set_cons_zero, List.set_cons_succ]
                    refine wpAnyH_ready (rs := [16]) (by kernel_rfl) (by simp) ?_
                    refine AllReadyH.cons rfl (fun K hK => ?_) AllReadyH.nil
                    refine step_append_w _ (by rfl) _ _ _ (by rfl) w1.heap.size 43 i0 _ 7 72 Try.underlying32 hi hz0 hz1 hz2 rfl (by omega) (.slice Ax row.length cx) row.length (row.flatMap lkC) (by rfl) HXO.out (.slice (some ⟨W8.heap.size, 0, none⟩) 1 1) 1 [.int .i64 j, .int .i64 k, .int .i64 n.kind, .string (bs n.owner), .int .i64 n.num, .int .i64 n.idx, .string (bs n.text)] (by rfl) (Rd.of_own (own_new W8 0 43 7 [.int .i64 j, .int .i64 k, .int .i64 n.kind, .string (bs n.owner), .int .i64 n.num, .int .i64 n.idx, .string (bs n.text)] rfl (Nat.zero_le _))) (by omega) (by rfl) (by simp [Value.oneCell']) (by unfold maxLen; omega) (by omega) (by simp; omega) ?_; intro v7 w7 hown7 hg7 hat7; obtain ⟨A9, c9, rfl, _⟩ := own_len hown7; have hB7 := G7.out.blk.grown hg7 (fun e => own_blk_ne HXO.out G7.out.blk (by decide) e.symm); have hC7 := ZX7.out.grown hg7 (fun e => HXN.out e.symm); have HOW7 := Lib.hid hown7; have HG7 := Lib.hid hg7; have HAT7 := Lib.hid hat7; have HC7 := Lib.hid hC7; have hln := own_grown G7.out.lu.us HXO.out hg7 (.inl (by decide)); have HLN := Lib.hid hln; have r1 := hB7.cell 2; have rk := own_cell1 hln HXV.out; have rf := own_frozen1 hln j; have e0 := hC7.cell 0; have e1 := hC7.cell 1; have e2 := hC7.cell 2; have e3 := hC7.cell 3; have e4 := hC7.cell 4; have e5 := hC7.cell 5; have e6 := hC7.cell 6; (simp only [List.getElem?_toArray, List.getElem?_cons_zero, List.getElem?_cons_succ] at r1 e0 e1 e2 e3 e4 e5 e6); clear hown7 hg7 hat7 hB7 hC7 hln
                    refine hK.out _ _ ?_ (fun hNew => ?_)
                    · exact ⟨r1, rk, e0, e1, e2, e3, e4, e5, e6⟩
                    clear hK K hHeld
                    have hHeld := hNew
                    clear hNew
                    try simp only [Act.put, List.setIfInBounds_toArray, List.set_cons_zero, List.set_cons_succ]
                    refine wpAnyH_take (i := 17) (v := ?_) rfl (by kernel_rfl) (by kernel_rfl) (by kernel_rfl) (fun _ _ _ h => h) (Or.inl ⟨by kernel_rfl, ?_⟩) hHeld ?_
                    rotate_left
                    · (intro w hSw; (try dsimp only at hSw); go_simp; try with_reducible rfl)
                    try simp only [Act.put, List.setIfInBounds_toArray, List.set_cons_zero, List.set_cons_succ]
                    refine wpAnyH_done (by kernel_rfl) ?_ _
                    refine lastQ_step rfl (fun K hK => ?_)
                    clear hHeld
                    go_simp
                    refine hK _ _ ?_
                    clear hK K
                    refine NoPanic.normal ?_
                    clear x1 xk r1 rk rf z0 e0 z1 e1 z2 e2 z3 e3 z4 e4 z5 e5 z6 e6 hbl
                    have HL := Lib.hid (show GIn (w7.setCell ⟨bu, j, none⟩ (.slice A9 (row.length + 1) c9)) w1.heap.size g (.slice A7 (ks.length + 1) c7) (.slice (some ⟨bl, 0, none⟩) l.length l.length) (.slice (some ⟨bu, 0, none⟩) l.length l.length) bw (ks ++ [a.key]) _ (vU.set j (.slice A9 (row.length + 1) c9)) (lnkD (l.take k) ++ (mid ++ [⟨(j : Int), k, n⟩]) :: List.replicate (l.length - k - 1) []) (UT l.length (fl ++ [⟨(j : Int), k, n⟩])) (wls (l.take k)) ∧ Below w1.heap.size (W8.alloc (.cells #[.int .i64 j, .int .i64 k, .int .i64 n.kind, .string (bs n.owner), .int .i64 n.num, .int .i64 n.idx, .string (bs n.text)] 43)).drew (w7.setCell ⟨bu, j, none⟩ (.slice A9 (row.length + 1) c9)) ∧ Kept LG (W8.alloc (.cells #[.int .i64 j, .int .i64 k, .int .i64 n.kind, .string (bs n.owner), .int .i64 n.num, .int .i64 n.idx, .string (bs n.text)] 43)).drew (w7.setCell ⟨bu, j, none⟩ (.slice A9 (row.length + 1) c9)) from by
                      have h := GIn.use_ (cl := l.length) (y := ⟨(j : Int), k, n⟩) G7.out (by rw [UT_len]) HJU.out HXV.out HG7.out (by rw [HROW.out]; exact HOW7.out) HAT7.out
                      rw [← UT_add _ _ _ j HJU.out rfl] at h
                      exact h)
                    have HKP9 := Lib.hid ((HKP8.out.trans (Kept.of_below LG HBQ.out)).trans HL.out.2.2)
                    have HBW9 := Lib.hid (HBW8.out.trans ((HBQ.out.mono hw18).trans HL.out.2.1))
                    have G9 := Lib.hid HL.out.1
                    clear HL HC7 HLN HOW7 HG7 HAT7 HBQ HXO HXN HXV HXR ZX7 G7 G8 HKP8 HBW8 ZX8
                    go_wp2_with fail
                    go_roundw
                    case rel => exact ⟨m + 1, by omega, by go_num, ⟨_, _, by
                      rw [HY.out, ← List.append_assoc, HFL.out]
                      exact G9.out⟩, HKP9.out, HBW9.out⟩
                    case measure => have := HNL.out; simp [intOf]; omega
                  · have e9 : decide ((0 : Int) ≤ F) = false := decide_eq_false hF0
                    have HF0 := Lib.hid hF0
                    have z0 := ZX8.out.cell 0
                    simp only [List.getElem?_toArray, List.getElem?_cons_zero, List.getElem?_cons_succ] at z0
                    clear hF0 HU5
                    go_wp2_with fail
                    go_roundw
                    case rel => exact ⟨m + 1, by omega, by go_num, ⟨_, _, by
                      rw [HY.out, ← List.append_assoc, UT_neg _ _ _ (show (⟨F, k, n⟩ : Lk).frm < 0 by have := HF0.out; simp only; omega)]
                      exact G8.out⟩, HKP8.out, HBW8.out⟩
                    case measure => have := HNL.out; simp [intOf]; omega
              · have hmn : ¬ m < ns.length := by have := HNL.out; omega
                have HME := Lib.hid (show m = a.reads.length by omega)
                have j6 : decide ((m : Int) < (ns.length : Int)) = false := decide_eq_false (by omega)
                have j6n : decide (m < ns.length) = false := decide_eq_false hmn
                have HLT := Lib.hid (show lnkD (l.take (k + 1)) = lnkD (l.take k) ++ [lnkA (l.take k) a] by rw [lnkD_take l k hk, HAE.out])
                have G9 : Hid (GIn wr w1.heap.size g (.slice A7 (ks.length + 1) c7) (.slice (some ⟨bl, 0, none⟩) l.length l.length) (.slice (some ⟨bu, 0, none⟩) l.length l.length) bw (ks ++ [a.key]) vL vU (lnkD (l.take (k + 1)) ++ List.replicate (l.length - (k + 1)) []) (UT l.length (lnkD (l.take (k + 1))).flatten) (wlsT (l.take k) (a.writes.take 0))) := Lib.hid (by
                  have h := GR.out
                  have e1 : (lnkA (l.take k) a).take m = lnkA (l.take k) a := List.take_of_length_le (by unfold lnkA; rw [List.length_map]; have := HME.out; omega)
                  rw [e1] at h
                  rw [HLT.out, List.flatten_append, List.append_assoc, show l.length - (k + 1) = l.length - k - 1 by omega]
                  simp only [List.flatten_cons, List.flatten_nil, List.append_nil, List.singleton_append]
                  exact h.data fun n => by rw [List.take_zero, wlsT_nil])
                have Z9 := Lib.hid (Z4.out.keep HKP.out rfl)
                have N9 := Lib.hid (NAc.keep HKP.out rfl N4.out)
                clear hm GR Z4 N4 HS4
                have z5 := Z9.out.cell 5
                simp only [List.getElem?_toArray, List.getElem?_cons_zero, List.getElem?_cons_succ] at z5
                have H0 : Hid (Db4 l k a ks w1 wr g bl bu bw (.slice A7 (ks.length + 1) c7) vL vU (.int .i64 (0 : Nat)) wr) := Lib.hid ⟨0, Nat.zero_le _, rfl, G9.out, Kept.refl _ _, Below.refl _ _⟩
                go_upto_region 25 with (fail)
                clear z5 hmn j6 j6n
                obtain ⟨w9, hw9⟩ : ∃ w9 : World, w9 = wr := ⟨_, rfl⟩
                subst hw9
                go_loopw [116] (fun i wr => Db4 l k a ks w1 w9 g bl bu bw (.slice A7 (ks.length + 1) c7) vL vU i wr) (fun i _ => a.writes.length - (intOf i).toNat)
                case atStart => exact H0.out
                case round =>
                  clear H0 G9
                  obtain ⟨q, hql, rfl, hgi, hkp, hbw9⟩ := hrel
                  have HKQ := Lib.hid hkp
                  have HB9 := Lib.hid hbw9
                  have GR := Lib.hid hgi
                  clear hkp hbw9 hgi
                  by_cases hq : q < a.writes.length
                  · have jq0 : (0 : Int) ≤ (q : Int) := by omega
                    have jq1 : (q : Int) < (a.writes.length : Int) := by omega
                    have jq2 : decide ((q : Int) < (a.writes.length : Int)) = true := decide_eq_true jq1
                    obtain ⟨b, o, hbe, hbw', y0, y1, y2, y3, y4, y5, y6⟩ := RdCh.piece (show RdCh wr (.slice A2 a.writes.length c2) a.writes from (NAc.keep HKQ.out rfl N9.out).2) hq
                    subst hbe
                    have HTW := Lib.hid (show a.writes.take (q + 1) = a.writes.take q ++ [a.writes[q]] from List.take_succ_eq_append_getElem hq)
                    obtain ⟨ch, hch⟩ : ∃ ch, a.writes[q] = ch := ⟨_, rfl⟩
                    rw [hch] at y0 y1 y2 y3 y4 y5 y6 HTW
                    clear hch
                    go_upto_region 27 with (fail)
                    have hbb := (Below.refl wr.heap.size wr).alloc (Nat.le_refl _) (.cells #[.int .i64 ch.name.kind, .string (bs ch.name.owner), .int .i64 ch.name.num, .int .i64 ch.name.idx, .string (bs ch.name.text), .string (bs ch.value), .bool ch.absent] 87)
                    have VB := Lib.hid (GR.out.next hbb)
                    have ZC := Lib.hid (Blk.new wr 87 #[.int .i64 ch.name.kind, .string (bs ch.name.owner), .int .i64 ch.name.num, .int .i64 ch.name.idx, .string (bs ch.name.text), .string (bs ch.value), .bool ch.absent])
                    have HKB := Lib.hid (HKQ.out.trans (Kept.of_below LG hbb))
                    have hws := HB9.out.size
                    have hw19 : w1.heap.size ≤ w9.heap.size := HBW.out.size
                    have HBB := Lib.hid (HB9.out.trans (hbb.mono (Nat.le_trans hw19 hws)))
                    clear y0 y1 y2 y3 y4 y5 y6 hbb GR HKQ HB9 hbw'
                    generalize wr.alloc (.cells #[.int .i64 ch.name.kind, .string (bs ch.name.owner), .int .i64 ch.name.num, .int .i64 ch.name.idx, .string (bs ch.name.text), .string (bs ch.value), .bool ch.absent] 87) = wb at *
                    generalize wr.heap.size = cc at *
                    have x4 := VB.out.blk.cell 3
                    have v0 := ZC.out.cell 0
                    have v1 := ZC.out.cell 1
                    have v2 := ZC.out.cell 2
                    have v3 := ZC.out.cell 3
                    have v4 := ZC.out.cell 4
                    have v5 := ZC.out.cell 5
                    have v6 := ZC.out.cell 6
                    simp only [List.getElem?_toArray, List.getElem?_cons_zero, List.getElem?_cons_succ] at x4 v0 v1 v2 v3 v4 v5 v6
                    have hbq := ((Below.refl wb.heap.size wb).alloc (Nat.le_refl _) (.cells #[.int .i64 k] 3)).drew
                    have VQ := Lib.hid (VB.out.next hbq)
                    have ZQ := Lib.hid (ZC.out.next hbq ZC.out.lt)
                    have HBQ := Lib.hid hbq
                    obtain ⟨ents, Ad, cd, hm, hve, hown, hback⟩ := VQ.out.wr_ ch.name
                    obtain ⟨dl, hdl⟩ : ∃ dl, wlsT (l.take k) (a.writes.take q) ch.name = dl := ⟨_, rfl⟩
                    simp only [hdl] at hve hown hback
                    have HDL := Lib.hid hdl
                    have hdn : dl.length ≤ 2000 := by
                      rw [← hdl]
                      unfold wlsT
                      have h1 := wls_len (l := l.take k) (fun b hb => (HR.out b (List.mem_of_mem_take hb)).2.2.2.2) (by rw [List.length_take]; omega) ch.name
                      have h2 := filt_len (a.writes.take q) ch.name
                      have h3 := List.length_take_le q a.writes
                      simp only [List.length_append, List.length_map]
                      omega
                    have HM := Lib.hid hm
                    have HVE := Lib.hid hve
                    have HOWN := Lib.hid hown
                    have HBACK := Lib.hid hback
                    clear hm hve hown hback hdl hbq
                    obtain ⟨i0, hi, hz0, hz1, hz2⟩ := info_parts infoIn
                    refine wp_region_noPanic ?_
                    refine wp_region_last (S := (fun (w' : World) => w'.cell? ⟨g, 3, none⟩ = some (.map (some bw)) ∧ w'.cell? ⟨cc, 0, none⟩ = some (.int .i64 ch.name.kind) ∧ w'.cell? ⟨cc, 1, none⟩ = some (.string (bs ch.name.owner)) ∧ w'.cell? ⟨cc, 2, none⟩ = some (.int .i64 ch.name.num) ∧ w'.cell? ⟨cc, 3, none⟩ = some (.int .i64 ch.name.idx) ∧ w'.cell? ⟨cc, 4, none⟩ = some (.string (bs ch.name.text)) ∧ w'.cell? ⟨cc, 5, none⟩ = some (.string (bs ch.value)) ∧ w'.cell? ⟨cc, 6, none⟩ = some (.bool ch.absent))) 12 12 rfl (by kernel_rfl) (by kernel_rfl) ?_ (fun hHeld => ?_)
                    · exact ⟨x4, v0, v1, v2, v3, v4, v5, v6⟩
                    refine wpAnyH_take (i := 0) (v := ?_) rfl (by kernel_rfl) (by kernel_rfl) (by kernel_rfl) (fun _ _ _ h => h) (Or.inl ⟨by kernel_rfl, ?_⟩) hHeld ?_
                    rotate_left
                    · (intro w hSw; (try dsimp only at hSw); go_simp; try with_reducible rfl)
                    try simp only [Act.put, List.setIfInBounds_toArray, List.set_cons_zero, List.set_cons_succ]
                    refine wpAnyH_take (i := 1) (v := ?_) rfl (by kernel_rfl) (by kernel_rfl) (by kernel_rfl) (fun _ _ _ h => h) (Or.inl ⟨by kernel_rfl, ?_⟩) hHeld ?_
                    rotate_left
                    · (intro w hSw; (try dsimp only at hSw); go_simp; try with_reducible rfl)
                    try simp only [Act.put, List.setIfInBounds_toArray, List.set_cons_zero, List.set_cons_succ]
                    refine wpAnyH_take (i := 2) (v := ?_) rfl (by kernel_rfl) (by kernel_rfl) (by kernel_rfl) (fun _ _ _ h => h) (Or.inl ⟨by kernel_rfl, ?_⟩) hHeld ?_
                    rotate_left
                    · (intro w hSw; (try dsimp only at hSw); go_simp; try with_reducible rfl)
                    try simp only [Act.put, List.setIfInBounds_toArray, List.set_cons_zero, List.set_cons_succ]
                    refine wpAnyH_take (i := 3) (v := ?_) rfl (by kernel_rfl) (by kernel_rfl) (by kernel_rfl) (fun _ _ _ h => h) (Or.inl ⟨by kernel_rfl, ?_⟩) hHeld ?_
                    rotate_left
                    · (intro w hSw; (try dsimp only at hSw); go_simp; try with_reducible rfl)
                    try simp only [Act.put, List.setIfInBounds_toArray, List.set_cons_zero, List.set_cons_succ]
                    refine wpAnyH_take (i := 4) (v := ?_) rfl (by kernel_rfl) (by kernel_rfl) (by kernel_rfl) (fun _ _ _ h => h) (Or.inl ⟨by kernel_rfl, ?_⟩) hHeld ?_
                    rotate_left
                    · (intro w hSw; (try dsimp only at hSw); go_simp; try with_reducible rfl)
                    try simp only [Act.put, List.setIfInBounds_toArray, List.set_cons_zero, List.set_cons_succ]
                    refine wpAnyH_take (i := 5) (v := ?_) rfl (by kernel_rfl) (by kernel_rfl) (by kernel_rfl) (fun _ _ _ h => h) (Or.inl ⟨by kernel_rfl, ?_⟩) hHeld ?_
                    rotate_left
                    · (intro w hSw; (try dsimp only at hSw); go_simp; try with_reducible rfl)
                    try simp only [Act.put, List.setIfInBounds_toArray, List.set_cons_zero, List.set_cons_succ]
                    refine wpAnyH_take (i := 6) (v := ?_) rfl (by kernel_rfl) (by kernel_rfl) (by kernel_rfl) (fun _ _ _ h => h) (Or.inl ⟨by kernel_rfl, ?_⟩) hHeld ?_
                    rotate_left
                    · (intro w hSw; (try dsimp only at hSw); go_simp; try with_reducible rfl)
                    try simp only [Act.put, List.setIfInBounds_toArray, List.set_cons_zero, List.set_cons_succ]
                    refine wpAnyH_ready (rs := [7]) (by kernel_rfl) (by simp) ?_
                    refine AllReadyH.cons rfl (fun K hK => ?_) AllReadyH.nil
                    go_simp
                    refine hK.out _ _ ?_ (fun hNew => ?_)
                    · exact ⟨(World.cell?_alloc_lt wb _ _ VB.out.blk.lt).trans x4, (World.cell?_alloc_lt wb _ _ ZC.out.lt).trans v0, (World.cell?_alloc_lt wb _ _ ZC.out.lt).trans v1, (World.cell?_alloc_lt wb _ _ ZC.out.lt).trans v2, (World.cell?_alloc_lt wb _ _ ZC.out.lt).trans v3, (World.cell?_alloc_lt wb _ _ ZC.out.lt).trans v4, (World.cell?_alloc_lt wb _ _ ZC.out.lt).trans v5, (World.cell?_alloc_lt wb _ _ ZC.out.lt).trans v6⟩
                    clear hK K hHeld
                    have hHeld := hNew
                    clear hNew
                    try simp only [Act.put, List.setIfInBounds_toArray, List.set_cons_zero, List.set_cons_succ]
                    refine wpAnyH_ready (rs := [8]) (by kernel_rfl) (by simp) ?_
                    refine AllReadyH.cons rfl (fun K hK => ?_) AllReadyH.nil
                    refine step_entry_nm _ (by rfl) _ _ 81 (by rfl) Try.underlying81 (zeroinC _) bw ents (by rfl) HM.out ch.name (by rfl) (.slice Ad dl.length cd) HVE.out ?_; intro w6 st hg6 hm6 hst; have hG6 := blk_map VQ.out.blk HM.out hg6; have hC6 := blk_map ZQ.out HM.out hg6; have HW6 := Lib.hid (own_map HOWN.out HM.out hg6); have HN6 := Lib.hid (own_map (show (wb.alloc (.cells #[.int .i64 k] 3)).drew.ownsRow 0 3 1 (.slice (some ⟨wb.heap.size, 0, none⟩) 1 1) 1 [.int .i64 k] from own_new wb 0 3 1 [.int .i64 k] rfl (Nat.zero_le _)) HM.out hg6); have HG6 := Lib.hid hg6; have HBG := Lib.hid hG6; have HBC := Lib.hid hC6; have HM6 := Lib.hid hm6; have HST := Lib.hid hst; have g6 := hG6.cell 3; have e0 := hC6.cell 0; have e1 := hC6.cell 1; have e2 := hC6.cell 2; have e3 := hC6.cell 3; have e4 := hC6.cell 4; have e5 := hC6.cell 5; have e6 := hC6.cell 6; (simp only [List.getElem?_toArray, List.getElem?_cons_zero, List.getElem?_cons_succ] at g6 e0 e1 e2 e3 e4 e5 e6); clear hg6 hm6 hst hG6 hC6
                    refine hK.out _ _ ?_ (fun hNew => ?_)
                    · exact ⟨g6, e0, e1, e2, e3, e4, e5, e6⟩
                    clear hK K hHeld
                    have hHeld := hNew
                    clear hNew
                    try simp only [Act.put, List.setIfInBounds_toArray, List.set_cons_zero, List.set_cons_succ]
                    refine wpAnyH_take (i := 9) (v := ?_) rfl (by kernel_rfl) (by kernel_rfl) (by kernel_rfl) (fun _ _ _ h => h) (Or.inl ⟨by kernel_rfl, ?_⟩) hHeld ?_
                    rotate_left
                    · (intro w hSw; (try dsimp only at hSw); go_simp; try with_reducible rfl)
                    try simp only [Act.put, List.setIfInBounds_toArray, List.set_cons_zero, List.set_cons_succ]
                    refine wpAnyH_take (i := 11) (v := ?_) rfl (by kernel_rfl) (by kernel_rfl) (by kernel_rfl) (fun _ _ _ h => h) (Or.inl ⟨by kernel_rfl, ?_⟩) hHeld ?_
                    rotate_left
                    · (intro w hSw; (try dsimp only at hSw); go_simp; try with_reducible rfl)
                    try simp only [Act.put, List.setIfInBounds_toArray, List.set_cons_zero, List.set_cons_succ]
                    refine wpAnyH_ready (rs := [10]) (by kernel_rfl) (by simp) ?_
                    refine AllReadyH.cons rfl (fun K hK => ?_) AllReadyH.nil
                    refine step_append_w _ (by rfl) _ _ _ (by rfl) 0 3 i0 _ 1 8 Try.underlying36 hi hz0 hz1 hz2 rfl (by omega) (.slice Ad dl.length cd) dl.length (dl.flatMap inC) (by rfl) HW6.out (.slice (some ⟨wb.heap.size, 0, none⟩) 1 1) 1 [.int .i64 k] (by rfl) (Rd.of_own HN6.out) (by omega) (by rfl) (by simp [Value.oneCell']) (by unfold maxLen; omega) (by omega) (by omega) ?_; intro v7 w7 hown7 hg7 hat7; obtain ⟨A9, c9, rfl, _⟩ := own_len hown7; have hG7 := HBG.out.grown hg7 (fun e => own_blk_ne HW6.out HBG.out (by decide) e.symm); have hC7 := HBC.out.grown hg7 (fun e => own_blk_ne HW6.out HBC.out (by decide) e.symm); obtain ⟨es6, cl6, hm6⟩ := HM6.out; have hb7 : w7.heap[bw]? = w6.heap[bw]? := hg7.block bw (Array.getElem?_eq_some_iff.1 hm6).1 (fun e => own_not_map HW6.out hm6 e.symm); obtain ⟨w8', hrun8, hm8, hg8⟩ := HST.out w7 (.slice A9 (dl.length + 1) c9) hb7; have HB7 := Lib.hid hb7; have HOW7 := Lib.hid hown7; have HG7 := Lib.hid hg7; have HAT7 := Lib.hid hat7; have HM8 := Lib.hid hm8; have HG8 := Lib.hid hg8; have HMM := Lib.hid hm6; have r6 := hG7.cell 3; have tt0 := hC7.cell 0; have tt1 := hC7.cell 1; have tt2 := hC7.cell 2; have tt3 := hC7.cell 3; have tt4 := hC7.cell 4; have tt5 := hC7.cell 5; have tt6 := hC7.cell 6; (simp only [List.getElem?_toArray, List.getElem?_cons_zero, List.getElem?_cons_succ] at r6 tt0 tt1 tt2 tt3 tt4 tt5 tt6); clear hown7 hg7 hat7 hG7 hC7 hm6 hb7 hm8 hg8
                    refine hK.out _ _ ?_ (fun hNew => ?_)
                    · exact ⟨r6, tt0, tt1, tt2, tt3, tt4, tt5, tt6⟩
                    clear hK K hHeld
                    have hHeld := hNew
                    clear hNew
                    try simp only [Act.put, List.setIfInBounds_toArray, List.set_cons_zero, List.set_cons_succ]
                    refine wpAnyH_done (by kernel_rfl) ?_ _
                    refine lastQ_step rfl (fun K hK => ?_)
                    clear hHeld
                    go_simp
                    refine hK _ _ ?_
                    clear hK K
                    refine NoPanic.normal ?_
                    clear x4 g6 r6 v0 e0 tt0 v1 e1 tt1 v2 e2 tt2 v3 e3 tt3 v4 e4 tt4 v5 e5 tt5 v6 e6 tt6 hrun8
                    go_wp2_with fail
                    go_roundw
                    case rel =>
                      obtain ⟨h9, h10, h11⟩ := HBACK.out w7 w8' (.slice A9 (dl.length + 1) c9) (k : Int) (((Chg.refl _ _ _).map_ HG6.out).row_ HG7.out) ⟨es6, cl6, HB7.out.trans HMM.out⟩ HOW7.out (by rcases HAT7.out with h | h; exact .inl h; exact .inr ⟨_, h, HG6.out.size⟩) HM8.out HG8.out
                      refine ⟨q + 1, by omega, by go_num, h9.data (fun n => ?_), (HKB.out.trans (Kept.of_below LG HBQ.out)).trans h11, HBB.out.trans ((HBQ.out.mono (Nat.le_trans hw19 (by have := HBB.out.size; omega))).trans h10)⟩
                      rw [HTW.out, wlsT_snoc, HDL.out, show (l.take k).length = k by rw [List.length_take]; omega]
                    case measure => simp [intOf]; omega
                  · have jq : decide ((q : Int) < (a.writes.length : Int)) = false := decide_eq_false (by omega)
                    have HQE := Lib.hid (show a.writes.take q = a.writes by rw [List.take_of_length_le (by omega)])
                    go_wp2_with fail
                    go_roundw
                    case rel =>
                      refine ⟨k + 1, by omega, by go_num, ⟨(.slice A7 (ks.length + 1) c7), vL, vU, ?_⟩, HBW.out.trans HB9.out⟩
                      have h := GR.out
                      rw [HQE.out] at h
                      rw [show (l.take (k + 1)).map Ac.key = ks ++ [a.key] by rw [List.take_succ_eq_append_getElem hk, List.map_append, HKS.out, HAE.out]; rfl]
                      exact h.data fun n => by rw [List.take_succ_eq_append_getElem hk, HAE.out, wls_snoc]
                    case measure => simp [intOf]; omega
      · have j3 : decide ((k : Int) < (l.length : Int)) = false := decide_eq_false (by omega)
        obtain ⟨vk, vL, vU, hgi⟩ := hgi
        have hkn : k = l.length := by omega
        have HG := Lib.hid hgi
        have HKN := Lib.hid hkn
        clear hgi hkn
        go_wp2_with fail
        go_ret2
        have e1 := HG.out
        rw [HKN.out, List.take_length, Nat.sub_self, List.replicate_zero, List.append_nil] at e1
        have hb := HB1.out
        obtain ⟨p1, p2, p3, p4, p5⟩ := e1
        exact ⟨g, rfl, ⟨_, _, _, _, _, _, GIn.base ⟨p1, p2, p3, p4, p5⟩ hb.size⟩, hb.trans (HBW.out.mono hb.size)⟩
end Go.Proofs.Ytmjkcanjfjfkfaa
