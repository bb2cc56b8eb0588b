/- Walks and plain facts, packed: W84, Q4, Q5, W105, M20, W97, W98, W99, W103, W106, Q6, M21. -/
import Derived.ChangeBookTie2
import Derived.Maps.RangeWalk
import Derived.Shelf.SlicesQ.Reverse
import Derived.Test.YtamjllakfgphnaaGreatDoorZA5
namespace Go.Proofs.YtamjllakfgphnaaGreatDoor
open Go.RowKit
set_option linter.unusedSimpArgs false
set_option linter.unusedVariables false
attribute [local go_sem ↓] Go.wp_at_zero Go.wp_at_succ
theorem infoKy : (Tryz.prog.info? 74).map (fun i => (i.zero, i.size, i.bytes)) = some (some (.agg #[.int .i64 0, .int .i64 0, .int .i64 0, .string ⟨#[]⟩]), 4, 40) := by kernel_rfl
theorem infoLk : (Tryz.prog.info? 61).map (fun i => (i.zero, i.size, i.bytes)) = some (some (.agg #[.int .i64 0, .int .i64 0, .int .i64 0, .string ⟨#[]⟩, .int .i64 0, .int .i64 0, .string ⟨#[]⟩]), 7, 72) := by kernel_rfl
theorem infoLs : (Tryz.prog.info? 52).map (fun i => (i.zero, i.size, i.bytes)) = some (some (.slice none 0 0), 1, 24) := by kernel_rfl
theorem make_links (w : World) (n : Nat) (hn : n ≤ 100) : (Instr.makeSlice 115 (.int .i64 n) (.int .i64 n)).run Tryz.prog w = .ok (.slice (some ⟨w.heap.size, 0, none⟩) n n) (w.alloc (.cells (madeCells #[.slice none 0 0] n) 52)) := by
  obtain ⟨i0, hi, hz0, hz1, hz2⟩ := info_parts infoLs
  have h := run_make (P := Tryz.prog) w 115 52 i0 _ Tryz.underlying115 hi hz0 .i64 .i64 n n (by omega) (Int.le_refl _) (by rw [hz2]; omega) (by omega)
  rw [hz1] at h
  simp only [Int.toNat_natCast, Nat.mul_one] at h
  exact h
theorem four_allocs (w : World) (o1 o2 o3 o4 : Obj) : ((((w.alloc o1).alloc o2).alloc o3).alloc o4).heap[w.heap.size]? = some o1 ∧ ((((w.alloc o1).alloc o2).alloc o3).alloc o4).heap[w.heap.size + 1]? = some o2 ∧ ((((w.alloc o1).alloc o2).alloc o3).alloc o4).heap[w.heap.size + 2]? = some o3 ∧ ((((w.alloc o1).alloc o2).alloc o3).alloc o4).heap[w.heap.size + 3]? = some o4 ∧ Below w.heap.size w ((((w.alloc o1).alloc o2).alloc o3).alloc o4) := by
  have n := fun (W : World) (o : Obj) => World.alloc_heap_new W o
  have b := fun (W : World) (o : Obj) (i : Nat) (h : i < W.heap.size) => Below.heap_alloc W o i h
  have e1 := n w o1
  have e2 := n (w.alloc o1) o2
  have e3 := n ((w.alloc o1).alloc o2) o3
  have e4 := n (((w.alloc o1).alloc o2).alloc o3) o4
  simp only [World.size_alloc] at e1 e2 e3 e4
  refine ⟨?_, ?_, ?_, e4, ?_⟩
  · rw [b _ _ _ (by simp only [World.size_alloc]; omega), b _ _ _ (by simp only [World.size_alloc]; omega), b _ _ _ (by simp only [World.size_alloc]; omega)]; exact e1
  · rw [b _ _ _ (by simp only [World.size_alloc]; omega), b _ _ _ (by simp only [World.size_alloc]; omega)]; exact e2
  · rw [b _ _ _ (by simp only [World.size_alloc]; omega)]; exact e3
  · exact (((((Below.refl _ w).alloc (Nat.le_refl _) _).alloc (by simp) _).alloc (by simp; omega) _).alloc (by simp; omega) _)
theorem g0_of {wx : World} {g bl bu bw : Nat} (N B : Nat) (hN : N ≤ 100) (h1 : wx.heap[g]? = some (.cells #[.slice none 0 0, .slice (some ⟨bl, 0, none⟩) N N, .slice (some ⟨bu, 0, none⟩) N N, .map (some bw)] 118)) (h2 : wx.heap[bl]? = some (.cells (madeCells #[.slice none 0 0] N) 52)) (h3 : wx.heap[bu]? = some (.cells (madeCells #[.slice none 0 0] N) 52)) (h4 : wx.heap[bw]? = some (.map #[] 0)) (hne : bl ≠ bu) (g1 : B ≤ g) (g2 : B ≤ bl) (g3 : B ≤ bu) (g4 : B ≤ bw) :
    GIn wx B g (.slice none 0 0) (.slice (some ⟨bl, 0, none⟩) N N) (.slice (some ⟨bu, 0, none⟩) N N) bw [] (List.replicate N (.slice none 0 0)) (List.replicate N (.slice none 0 0)) (List.replicate N []) (List.replicate N []) (fun _ => []) := by
  have own : ∀ b, B ≤ b → wx.heap[b]? = some (.cells (madeCells #[.slice none 0 0] N) 52) → wx.ownsRow B 52 1 (.slice (some ⟨b, 0, none⟩) N N) (List.replicate N ([] : List Lk)).length (List.replicate N (.slice none 0 0)) := fun b hb hh => by
    rw [List.length_replicate]
    refine ⟨by simp, .inr ⟨b, N, _, rfl, hb, hh, Nat.le_refl _, by unfold maxLen; omega, by rw [size_madeCells]; omega, ?_⟩⟩
    rw [toList_madeCells_one, Nat.mul_one, List.take_replicate, Nat.min_self]
  have el : ∀ (i : Nat) (x : Value) (y : List Lk), (List.replicate N (Value.slice none 0 0))[i]? = some x → (List.replicate N ([] : List Lk))[i]? = some y → wx.ownsRow B 61 7 x y.length (y.flatMap lkC) := fun i x y hx hy => by
    rw [List.getElem?_replicate] at hx hy
    split at hx
    · rename_i hi
      rw [if_pos hi] at hy
      injection hx with hx
      injection hy with hy
      subst hx hy
      exact World.ownsRow_nil _ _ _ _
    · cases hx
  refine ⟨h1, g1, World.ownsRow_nil _ _ _ _, ⟨own bl g2 h2, own bu g3 h3, fun g' e1 e2 => ?_, el, el, ?_⟩, ⟨g4, [], ⟨#[], 0, h4, rfl, Go.MapKept.stamped_empty 0⟩, List.Pairwise.nil, by simp, by simp⟩⟩
  · simp [Value.ownBlock] at e1 e2
    omega
  · rw [List.pairwise_iff_getElem]
    intro i j hi hj hij g' e1
    exfalso
    have : (List.replicate N (Value.slice none 0 0) ++ List.replicate N (Value.slice none 0 0))[i] = .slice none 0 0 := by
      rcases List.mem_append.1 (List.getElem_mem hi) with h | h <;> exact List.eq_of_mem_replicate h
    rw [this] at e1
    cases e1
def DbG0 (N : Nat) (w1 : World) (v : Value) (wx : World) : Prop := ∃ g bl bu bw, v = .pointer (some ⟨g, 0, none⟩) ∧ GIn wx w1.heap.size g (.slice none 0 0) (.slice (some ⟨bl, 0, none⟩) N N) (.slice (some ⟨bu, 0, none⟩) N N) bw [] (List.replicate N (.slice none 0 0)) (List.replicate N (.slice none 0 0)) (List.replicate N []) (List.replicate N []) (fun _ => []) ∧ Below w1.heap.size w1 wx
def LkBox (F : Int) (k : Nat) (n : Nm) (W : World) (v : Value) (wx : World) : Prop := ∃ xb, v = .pointer (some ⟨xb, 0, none⟩) ∧ W.heap.size ≤ xb ∧ Blk wx xb 61 #[.int .i64 F, .int .i64 k, .int .i64 n.kind, .string (bs n.owner), .int .i64 n.num, .int .i64 n.idx, .string (bs n.text)] ∧ Below W.heap.size W wx
theorem own_cell1 {w : World} {base e gl n m c i : Nat} {xs : List Value} {x : Value} (h : w.ownsRow base e 1 (.slice (some ⟨gl, 0, none⟩) m c) n xs) (hx : xs[i]? = some x) : w.cell? ⟨gl, i, none⟩ = some x := by
  obtain ⟨hl, ⟨h0, _⟩ | ⟨g', cap, cur, hv, hg, hh, h1, h2, h3, h4⟩⟩ := h
  · cases h0
  · injection hv with hv _ _
    injection hv with hv
    injection hv with hv _ _
    subst hv
    rw [cell_of_row w gl i cur e (0, 0) hh]
    rw [← h4, List.getElem?_take] at hx
    split at hx
    · simpa using hx
    · cases hx
theorem own_frozen1 {w : World} {base e gl n m c : Nat} {xs : List Value} (h : w.ownsRow base e 1 (.slice (some ⟨gl, 0, none⟩) m c) n xs) (i : Nat) : w.frozen? ⟨gl, i, none⟩ = false := by
  obtain ⟨cur, hc⟩ := own_cells_of h (g := gl) rfl
  exact Blk.frozen (show Blk w gl e cur from hc) i
theorem lnkA_take {d : List Ac} {a : Ac} {m : Nat} (hm : m < a.reads.length) : (lnkA d a).take (m + 1) = (lnkA d a).take m ++ [⟨wrI (wls d a.reads[m].name) d.length, d.length, a.reads[m].name⟩] := by
  unfold lnkA
  rw [← List.map_take, ← List.map_take, List.take_succ_eq_append_getElem hm, List.map_append]
  rfl
theorem get_mid {α : Type} {A B : List α} {k : Nat} (h : A.length = k) {m : α} : (A ++ m :: B)[k]? = some m := by
  subst h
  rw [List.getElem?_append_right (Nat.le_refl _), Nat.sub_self]; rfl
theorem set_mid {α : Type} {A B : List α} {k : Nat} (h : A.length = k) {m m' : α} : (A ++ m :: B).set k m' = A ++ m' :: B := by
  subst h
  rw [List.set_append_right _ _ (Nat.le_refl _), Nat.sub_self]; rfl
theorem lnkF_flat : ∀ (d r : List Ac), (∀ a ∈ r, a.reads.length ≤ 10) → (lnkF d r).flatten.length ≤ r.length * 10
  | d, [], _ => by simp [lnkF]
  | d, b :: r, h => by
    have h1 := lnkF_flat (d ++ [b]) r fun a ha => h a (by simp [ha])
    have h2 := h b (by simp)
    have h3 : (lnkA d b).length = b.reads.length := by unfold lnkA; rw [List.length_map]
    simp only [lnkF, List.flatten_cons, List.length_append, List.length_cons]
    omega
theorem lnkD_flat {l : List Ac} (h : ∀ a ∈ l, a.reads.length ≤ 10) : (lnkD l).flatten.length ≤ l.length * 10 := lnkF_flat [] l h
def Db4 (l : List Ac) (k : Nat) (a : Ac) (ks : List Ky) (w1 W : World) (g bl bu bw : Nat) (vk : Value) (vL vU : List Value) (i : Value) (wr : World) : Prop := ∃ m : Nat, m ≤ a.writes.length ∧ i = .int .i64 m ∧ GIn wr w1.heap.size g vk (.slice (some ⟨bl, 0, none⟩) l.length l.length) (.slice (some ⟨bu, 0, none⟩) l.length l.length) bw (ks ++ [a.key]) vL vU (lnkD (l.take (k + 1)) ++ List.replicate (l.length - (k + 1)) []) (UT l.length (lnkD (l.take (k + 1))).flatten) (wlsT (l.take k) (a.writes.take m)) ∧ Kept LG W wr ∧ Below w1.heap.size W wr
def Db2 (a : Ac) (W : World) (v i : Value) (wr : World) : Prop := ∃ m : Nat, m ≤ a.reads.length ∧ i = .int .i64 m ∧ OwnP 26 5 nmC wr W.heap.size v ((a.reads.take m).map Ch.name) ∧ Below W.heap.size W wr
def Db3 (l : List Ac) (k : Nat) (a : Ac) (ks : List Ky) (w1 W : World) (g bl bu bw : Nat) (vk : Value) (i : Value) (wr : World) : Prop := ∃ m : Nat, m ≤ a.reads.length ∧ i = .int .i64 m ∧ (∃ vL vU, GIn wr w1.heap.size g vk (.slice (some ⟨bl, 0, none⟩) l.length l.length) (.slice (some ⟨bu, 0, none⟩) l.length l.length) bw (ks ++ [a.key]) vL vU (lnkD (l.take k) ++ (lnkA (l.take k) a).take m :: List.replicate (l.length - k - 1) []) (UT l.length ((lnkD (l.take k)).flatten ++ (lnkA (l.take k) a).take m)) (wls (l.take k))) ∧ Kept LG W wr ∧ Below w1.heap.size w1 wr
def Db1 (l : List Ac) (w1 : World) (g bl bu bw : Nat) (i : Value) (wr : World) : Prop := ∃ k : Nat, k ≤ l.length ∧ i = .int .i64 k ∧ (∃ vk vL vU, GIn wr w1.heap.size g vk (.slice (some ⟨bl, 0, none⟩) l.length l.length) (.slice (some ⟨bu, 0, none⟩) l.length l.length) bw ((l.take k).map Ac.key) vL vU (lnkD (l.take k) ++ List.replicate (l.length - k) []) (UT l.length (lnkD (l.take k)).flatten) (wls (l.take k))) ∧ Below w1.heap.size w1 wr
set_option maxRecDepth 100000 in
set_option maxHeartbeats 16000000 in
theorem dbuild_is {w : World} {v : Value} {l : List Ac} (h : RdAc w v l) (hk : KS l) (hr : ∀ a ∈ l, AcR a) (ho : ∀ a ∈ l, okAc a = true) (hlen : l.length ≤ 100) : Calls Tryz.prog 23 #[v] w fun e w' => ∃ g, e = .returned (.tuple #[.pointer (some ⟨g, 0, none⟩), .int .i64 0]) ∧ GAt w' w.heap.size g l ∧ Below w.heap.size w w' := by
  obtain ⟨A, c, rfl, hc⟩ := RowRd.form h
  have HINC := Lib.hid (increasing_is h hk (fun a ha => (hr a ha).1.2.1) hlen)
  have H := Lib.hid h
  have HR := Lib.hid hr
  have HO := Lib.hid ho
  have d1 : decide ((65536 : Int) < (l.length : Int)) = false := decide_eq_false (by omega)
  have d2 : decide (65536 < l.length) = false := decide_eq_false (by omega)
  have hmk := fun W => make_links W l.length hlen
  have hmm := @run_makeMap Tryz.prog
  clear h hk hr ho
  go_enter Tryz.func23, Tryz.ntmps23
  go_upto_region 5 with (go_at_call 55; refine HINC.out.mono ?_; rintro e w1 ⟨rfl, hb1⟩; have HB1 := Lib.hid hb1; clear hb1)
  clear d1 d2 HINC
  go_cut [4] (fun v wx => DbG0 l.length w1 v wx)
  case first =>
    refine wp_region_noPanic ?_
    refine wp_region_held_drew (S := (fun (w' : World) => 0 ≤ w'.heap.size)) (by kernel_rfl) ?_ (fun hHeld => ?_)
    · exact Nat.zero_le _
    refine tk (v := ?_) 0 rfl (by kernel_rfl) (fun _ _ _ h => h) ?_ hHeld ?_
    rotate_left
    · (intro w h; (try dsimp only at h); go_simp; try with_reducible rfl)
    try simp only [Act.put, pB, pC, pD]
    refine tk (v := ?_) 1 rfl (by kernel_rfl) (fun _ _ _ h => h) ?_ hHeld ?_
    rotate_left
    · (intro w h; (try dsimp only at h); go_simp; try with_reducible rfl)
    try simp only [Act.put, pB, pC, pD]
    refine tk (v := ?_) 3 rfl (by kernel_rfl) (fun _ _ _ h => h) ?_ hHeld ?_
    rotate_left
    · (intro w h; (try dsimp only at h); go_simp; try with_reducible rfl)
    try simp only [Act.put, pB, pC, pD]
    refine tk (v := ?_) 4 rfl (by kernel_rfl) (fun _ _ _ h => h) ?_ hHeld ?_
    rotate_left
    · (intro w h; (try dsimp only at h); go_simp; try with_reducible rfl)
    try simp only [Act.put, pB, pC, pD]
    refine wpAnyH_ready (rs := [2, 5, 6]) (by kernel_rfl) (by simp) ?_
    refine AllReadyH.cons rfl (fun K hK => ?_) (AllReadyH.cons rfl (fun K hK => ?_) (AllReadyH.cons rfl (fun K hK => ?_) AllReadyH.nil))
    · go_simp
      refine hK.out _ _ ?_ (fun hNew => ?_)
      · exact Nat.zero_le _
      clear hK K hHeld
      have hHeld := hNew
      clear hNew
      try simp only [Act.put, pB, pC, pD]
      refine wpAnyH_ready (rs := [5, 6]) (by kernel_rfl) (by simp) ?_
      refine AllReadyH.cons rfl (fun K hK => ?_) (AllReadyH.cons rfl (fun K hK => ?_) AllReadyH.nil)
      · go_simp
        refine hK.out _ _ ?_ (fun hNew => ?_)
        · exact Nat.zero_le _
        clear hK K hHeld
        have hHeld := hNew
        clear hNew
        try simp only [Act.put, pB, pC, pD]
        refine wpAnyH_ready (rs := [6]) (by kernel_rfl) (by simp) ?_
        refine AllReadyH.cons rfl (fun K hK => ?_) AllReadyH.nil
        · go_simp
          refine hK.out _ _ ?_ (fun hNew => ?_)
          · exact Nat.zero_le _
          clear hK K hHeld
          have hHeld := hNew
          clear hNew
          try simp only [Act.put, pB, pC, pD]
          refine tk (v := ?_) 7 rfl (by kernel_rfl) (fun _ _ _ h => h) ?_ hHeld ?_
          rotate_left
          · (intro w h; (try dsimp only at h); go_simp; try with_reducible rfl)
          try simp only [Act.put, pB, pC, pD]
          refine wpAnyH_ready (rs := [8]) (by kernel_rfl) (by simp) ?_
          refine AllReadyH.cons rfl (fun K hK => ?_) AllReadyH.nil
          go_simp
          refine hK.out _ _ ?_ (fun hNew => ?_)
          · exact Nat.zero_le _
          clear hK K hHeld
          have hHeld := hNew
          clear hNew
          try simp only [Act.put, pB, pC, pD]
          refine tk (v := ?_) 9 rfl (by kernel_rfl) (fun _ _ _ h => h) ?_ hHeld ?_
          rotate_left
          · (intro w h; (try dsimp only at h); go_simp; try with_reducible rfl)
          try simp only [Act.put, pB, pC, pD]
          refine wpAnyH_done (by kernel_rfl) ?_ _
          clear hHeld
          try simp only [List.getElem_toArray, List.getElem_cons_zero, List.getElem_cons_succ, Act.put, pB, pC, pD]
          refine NoPanic.normal ?_
          go_wp2_with fail
          go_meet
          case rel =>
            obtain ⟨f0, f1, f2, f3, fb⟩ := four_allocs w1 (.cells (madeCells #[.slice none 0 0] l.length) 52) (.cells (madeCells #[.slice none 0 0] l.length) 52) (.map #[] 0) (.cells #[.slice none 0 0, .slice (some ⟨w1.heap.size, 0, none⟩) l.length l.length, .slice (some ⟨w1.heap.size + 1, 0, none⟩) l.length l.length, .map (some (w1.heap.size + 2))] 118)
            exact ⟨w1.heap.size + 3, w1.heap.size, w1.heap.size + 1, w1.heap.size + 2, rfl, g0_of l.length w1.heap.size (by omega) f3 f0 f1 f2 (by omega) (by omega) (by omega) (by omega) (by omega), fb.drew⟩
      · go_simp
        refine hK.out _ _ ?_ (fun hNew => ?_)
        · exact Nat.zero_le _
        clear hK K hHeld
        have hHeld := hNew
        clear hNew
        try simp only [Act.put, pB, pC, pD]
        refine wpAnyH_ready (rs := [5]) (by kernel_rfl) (by simp) ?_
        refine AllReadyH.cons rfl (fun K hK => ?_) AllReadyH.nil
        · go_simp
          refine hK.out _ _ ?_ (fun hNew => ?_)
          · exact Nat.zero_le _
          clear hK K hHeld
          have hHeld := hNew
          clear hNew
          try simp only [Act.put, pB, pC, pD]
          refine tk (v := ?_) 7 rfl (by kernel_rfl) (fun _ _ _ h => h) ?_ hHeld ?_
          rotate_left
          · (intro w h; (try dsimp only at h); go_simp; try with_reducible rfl)
          try simp only [Act.put, pB, pC, pD]
          refine wpAnyH_ready (rs := [8]) (by kernel_rfl) (by simp) ?_
          refine AllReadyH.cons rfl (fun K hK => ?_) AllReadyH.nil
          go_simp
          refine hK.out _ _ ?_ (fun hNew => ?_)
          · exact Nat.zero_le _
          clear hK K hHeld
          have hHeld := hNew
          clear hNew
          try simp only [Act.put, pB, pC, pD]
          refine tk (v := ?_) 9 rfl (by kernel_rfl) (fun _ _ _ h => h) ?_ hHeld ?_
          rotate_left
          · (intro w h; (try dsimp only at h); go_simp; try with_reducible rfl)
          try simp only [Act.put, pB, pC, pD]
          refine wpAnyH_done (by kernel_rfl) ?_ _
          clear hHeld
          try simp only [List.getElem_toArray, List.getElem_cons_zero, List.getElem_cons_succ, Act.put, pB, pC, pD]
          refine NoPanic.normal ?_
          go_wp2_with fail
          go_meet
          case rel =>
            obtain ⟨f0, f1, f2, f3, fb⟩ := four_allocs w1 (.cells (madeCells #[.slice none 0 0] l.length) 52) (.map #[] 0) (.cells (madeCells #[.slice none 0 0] l.length) 52) (.cells #[.slice none 0 0, .slice (some ⟨w1.heap.size, 0, none⟩) l.length l.length, .slice (some ⟨w1.heap.size + 2, 0, none⟩) l.length l.length, .map (some (w1.heap.size + 1))] 118)
            exact ⟨w1.heap.size + 3, w1.heap.size, w1.heap.size + 2, w1.heap.size + 1, rfl, g0_of l.length w1.heap.size (by omega) f3 f0 f2 f1 (by omega) (by omega) (by omega) (by omega) (by omega), fb.drew⟩
    · go_simp
      refine hK.out _ _ ?_ (fun hNew => ?_)
      · exact Nat.zero_le _
      clear hK K hHeld
      have hHeld := hNew
      clear hNew
      try simp only [Act.put, pB, pC, pD]
      refine wpAnyH_ready (rs := [2, 6]) (by kernel_rfl) (by simp) ?_
      refine AllReadyH.cons rfl (fun K hK => ?_) (AllReadyH.cons rfl (fun K hK => ?_) AllReadyH.nil)
      · go_simp
        refine hK.out _ _ ?_ (fun hNew => ?_)
        · exact Nat.zero_le _
        clear hK K hHeld
        have hHeld := hNew
        clear hNew
        try simp only [Act.put, pB, pC, pD]
        refine wpAnyH_ready (rs := [6]) (by kernel_rfl) (by simp) ?_
        refine AllReadyH.cons rfl (fun K hK => ?_) AllReadyH.nil
        · go_simp
          refine hK.out _ _ ?_ (fun hNew => ?_)
          · exact Nat.zero_le _
          clear hK K hHeld
          have hHeld := hNew
          clear hNew
          try simp only [Act.put, pB, pC, pD]
          refine tk (v := ?_) 7 rfl (by kernel_rfl) (fun _ _ _ h => h) ?_ hHeld ?_
          rotate_left
          · (intro w h; (try dsimp only at h); go_simp; try with_reducible rfl)
          try simp only [Act.put, pB, pC, pD]
          refine wpAnyH_ready (rs := [8]) (by kernel_rfl) (by simp) ?_
          refine AllReadyH.cons rfl (fun K hK => ?_) AllReadyH.nil
          go_simp
          refine hK.out _ _ ?_ (fun hNew => ?_)
          · exact Nat.zero_le _
          clear hK K hHeld
          have hHeld := hNew
          clear hNew
          try simp only [Act.put, pB, pC, pD]
          refine tk (v := ?_) 9 rfl (by kernel_rfl) (fun _ _ _ h => h) ?_ hHeld ?_
          rotate_left
          · (intro w h; (try dsimp only at h); go_simp; try with_reducible rfl)
          try simp only [Act.put, pB, pC, pD]
          refine wpAnyH_done (by kernel_rfl) ?_ _
          clear hHeld
          try simp only [List.getElem_toArray, List.getElem_cons_zero, List.getElem_cons_succ, Act.put, pB, pC, pD]
          refine NoPanic.normal ?_
          go_wp2_with fail
          go_meet
          case rel =>
            obtain ⟨f0, f1, f2, f3, fb⟩ := four_allocs w1 (.cells (madeCells #[.slice none 0 0] l.length) 52) (.cells (madeCells #[.slice none 0 0] l.length) 52) (.map #[] 0) (.cells #[.slice none 0 0, .slice (some ⟨w1.heap.size + 1, 0, none⟩) l.length l.length, .slice (some ⟨w1.heap.size, 0, none⟩) l.length l.length, .map (some (w1.heap.size + 2))] 118)
            exact ⟨w1.heap.size + 3, w1.heap.size + 1, w1.heap.size, w1.heap.size + 2, rfl, g0_of l.length w1.heap.size (by omega) f3 f1 f0 f2 (by omega) (by omega) (by omega) (by omega) (by omega), fb.drew⟩
      · go_simp
        refine hK.out _ _ ?_ (fun hNew => ?_)
        · exact Nat.zero_le _
        clear hK K hHeld
        have hHeld := hNew
        clear hNew
        try simp only [Act.put, pB, pC, pD]
        refine wpAnyH_ready (rs := [2]) (by kernel_rfl) (by simp) ?_
        refine AllReadyH.cons rfl (fun K hK => ?_) AllReadyH.nil
        · go_simp
          refine hK.out _ _ ?_ (fun hNew => ?_)
          · exact Nat.zero_le _
          clear hK K hHeld
          have hHeld := hNew
          clear hNew
          try simp only [Act.put, pB, pC, pD]
          refine tk (v := ?_) 7 rfl (by kernel_rfl) (fun _ _ _ h => h) ?_ hHeld ?_
          rotate_left
          · (intro w h; (try dsimp only at h); go_simp; try with_reducible rfl)
          try simp only [Act.put, pB, pC, pD]
          refine wpAnyH_ready (rs := [8]) (by kernel_rfl) (by simp) ?_
          refine AllReadyH.cons rfl (fun K hK => ?_) AllReadyH.nil
          go_simp
          refine hK.out _ _ ?_ (fun hNew => ?_)
          · exact Nat.zero_le _
          clear hK K hHeld
          have hHeld := hNew
          clear hNew
          try simp only [Act.put, pB, pC, pD]
          refine tk (v := ?_) 9 rfl (by kernel_rfl) (fun _ _ _ h => h) ?_ hHeld ?_
          rotate_left
          · (intro w h; (try dsimp only at h); go_simp; try with_reducible rfl)
          try simp only [Act.put, pB, pC, pD]
          refine wpAnyH_done (by kernel_rfl) ?_ _
          clear hHeld
          try simp only [List.getElem_toArray, List.getElem_cons_zero, List.getElem_cons_succ, Act.put, pB, pC, pD]
          refine NoPanic.normal ?_
          go_wp2_with fail
          go_meet
          case rel =>
            obtain ⟨f0, f1, f2, f3, fb⟩ := four_allocs w1 (.cells (madeCells #[.slice none 0 0] l.length) 52) (.map #[] 0) (.cells (madeCells #[.slice none 0 0] l.length) 52) (.cells #[.slice none 0 0, .slice (some ⟨w1.heap.size + 2, 0, none⟩) l.length l.length, .slice (some ⟨w1.heap.size, 0, none⟩) l.length l.length, .map (some (w1.heap.size + 1))] 118)
            exact ⟨w1.heap.size + 3, w1.heap.size + 2, w1.heap.size, w1.heap.size + 1, rfl, g0_of l.length w1.heap.size (by omega) f3 f2 f0 f1 (by omega) (by omega) (by omega) (by omega) (by omega), fb.drew⟩
    · go_simp
      refine hK.out _ _ ?_ (fun hNew => ?_)
      · exact Nat.zero_le _
      clear hK K hHeld
      have hHeld := hNew
      clear hNew
      try simp only [Act.put, pB, pC, pD]
      refine wpAnyH_ready (rs := [2, 5]) (by kernel_rfl) (by simp) ?_
      refine AllReadyH.cons rfl (fun K hK => ?_) (AllReadyH.cons rfl (fun K hK => ?_) AllReadyH.nil)
      · go_simp
        refine hK.out _ _ ?_ (fun hNew => ?_)
        · exact Nat.zero_le _
        clear hK K hHeld
        have hHeld := hNew
        clear hNew
        try simp only [Act.put, pB, pC, pD]
        refine wpAnyH_ready (rs := [5]) (by kernel_rfl) (by simp) ?_
        refine AllReadyH.cons rfl (fun K hK => ?_) AllReadyH.nil
        · go_simp
          refine hK.out _ _ ?_ (fun hNew => ?_)
          · exact Nat.zero_le _
          clear hK K hHeld
          have hHeld := hNew
          clear hNew
          try simp only [Act.put, pB, pC, pD]
          refine tk (v := ?_) 7 rfl (by kernel_rfl) (fun _ _ _ h => h) ?_ hHeld ?_
          rotate_left
          · (intro w h; (try dsimp only at h); go_simp; try with_reducible rfl)
          try simp only [Act.put, pB, pC, pD]
          refine wpAnyH_ready (rs := [8]) (by kernel_rfl) (by simp) ?_
          refine AllReadyH.cons rfl (fun K hK => ?_) AllReadyH.nil
          go_simp
          refine hK.out _ _ ?_ (fun hNew => ?_)
          · exact Nat.zero_le _
          clear hK K hHeld
          have hHeld := hNew
          clear hNew
          try simp only [Act.put, pB, pC, pD]
          refine tk (v := ?_) 9 rfl (by kernel_rfl) (fun _ _ _ h => h) ?_ hHeld ?_
          rotate_left
          · (intro w h; (try dsimp only at h); go_simp; try with_reducible rfl)
          try simp only [Act.put, pB, pC, pD]
          refine wpAnyH_done (by kernel_rfl) ?_ _
          clear hHeld
          try simp only [List.getElem_toArray, List.getElem_cons_zero, List.getElem_cons_succ, Act.put, pB, pC, pD]
          refine NoPanic.normal ?_
          go_wp2_with fail
          go_meet
          case rel =>
            obtain ⟨f0, f1, f2, f3, fb⟩ := four_allocs w1 (.map #[] 0) (.cells (madeCells #[.slice none 0 0] l.length) 52) (.cells (madeCells #[.slice none 0 0] l.length) 52) (.cells #[.slice none 0 0, .slice (some ⟨w1.heap.size + 1, 0, none⟩) l.length l.length, .slice (some ⟨w1.heap.size + 2, 0, none⟩) l.length l.length, .map (some (w1.heap.size))] 118)
            exact ⟨w1.heap.size + 3, w1.heap.size + 1, w1.heap.size + 2, w1.heap.size, rfl, g0_of l.length w1.heap.size (by omega) f3 f1 f2 f0 (by omega) (by omega) (by omega) (by omega) (by omega), fb.drew⟩
      · go_simp
        refine hK.out _ _ ?_ (fun hNew => ?_)
        · exact Nat.zero_le _
        clear hK K hHeld
        have hHeld := hNew
        clear hNew
        try simp only [Act.put, pB, pC, pD]
        refine wpAnyH_ready (rs := [2]) (by kernel_rfl) (by simp) ?_
        refine AllReadyH.cons rfl (fun K hK => ?_) AllReadyH.nil
        · go_simp
          refine hK.out _ _ ?_ (fun hNew => ?_)
          · exact Nat.zero_le _
          clear hK K hHeld
          have hHeld := hNew
          clear hNew
          try simp only [Act.put, pB, pC, pD]
          refine tk (v := ?_) 7 rfl (by kernel_rfl) (fun _ _ _ h => h) ?_ hHeld ?_
          rotate_left
          · (intro w h; (try dsimp only at h); go_simp; try with_reducible rfl)
          try simp only [Act.put, pB, pC, pD]
          refine wpAnyH_ready (rs := [8]) (by kernel_rfl) (by simp) ?_
          refine AllReadyH.cons rfl (fun K hK => ?_) AllReadyH.nil
          go_simp
          refine hK.out _ _ ?_ (fun hNew => ?_)
          · exact Nat.zero_le _
          clear hK K hHeld
          have hHeld := hNew
          clear hNew
          try simp only [Act.put, pB, pC, pD]
          refine tk (v := ?_) 9 rfl (by kernel_rfl) (fun _ _ _ h => h) ?_ hHeld ?_
          rotate_left
          · (intro w h; (try dsimp only at h); go_simp; try with_reducible rfl)
          try simp only [Act.put, pB, pC, pD]
          refine wpAnyH_done (by kernel_rfl) ?_ _
          clear hHeld
          try simp only [List.getElem_toArray, List.getElem_cons_zero, List.getElem_cons_succ, Act.put, pB, pC, pD]
          refine NoPanic.normal ?_
          go_wp2_with fail
          go_meet
          case rel =>
            obtain ⟨f0, f1, f2, f3, fb⟩ := four_allocs w1 (.map #[] 0) (.cells (madeCells #[.slice none 0 0] l.length) 52) (.cells (madeCells #[.slice none 0 0] l.length) 52) (.cells #[.slice none 0 0, .slice (some ⟨w1.heap.size + 2, 0, none⟩) l.length l.length, .slice (some ⟨w1.heap.size + 1, 0, none⟩) l.length l.length, .map (some (w1.heap.size))] 118)
            exact ⟨w1.heap.size + 3, w1.heap.size + 2, w1.heap.size + 1, w1.heap.size, rfl, g0_of l.length w1.heap.size (by omega) f3 f2 f1 f0 (by omega) (by omega) (by omega) (by omega) (by omega), fb.drew⟩
  case rest =>
    clear hmk hmm
    obtain ⟨g, bl, bu, bw, rfl, hg0, hb0⟩ := hcut
    have HB0 := Lib.hid hb0
    have HH := Lib.hid (RdAc.next H.out HB1.out)
    have H0 : Hid (Db1 l w1 g bl bu bw (.int .i64 (0 : Nat)) wc) := Lib.hid ⟨0, Nat.zero_le _, rfl, ⟨_, _, _, by
      rw [List.take_zero]
      show GIn wc w1.heap.size g (.slice none 0 0) (.slice (some ⟨bl, 0, none⟩) l.length l.length) (.slice (some ⟨bu, 0, none⟩) l.length l.length) bw [] _ _ (List.replicate l.length []) (UT l.length []) (wls [])
      rw [UT_nil]
      exact hg0.data fun n => rfl⟩, hb0⟩
    clear hg0 hb0 H
    go_wp2_with fail
    go_loopw [32] (fun i wr => Db1 l w1 g bl bu bw i wr) (fun i _ => l.length - (intOf i).toNat)
    case atStart => exact H0.out
    case round =>
      clear H0
      obtain ⟨k, hkl, rfl, hgi, hbw⟩ := hrel
      have HBW := Lib.hid hbw
      clear hbw
      by_cases hk : k < l.length
      · have j1 : (0 : Int) ≤ (k : Int) := by omega
        have j2 : (k : Int) < (l.length : Int) := by omega
        have j3 : decide ((k : Int) < (l.length : Int)) = true := decide_eq_true j2
        obtain ⟨vk, vL, vU, hgi⟩ := hgi
        obtain ⟨ks, hks⟩ : ∃ ks, (l.take k).map Ac.key = ks := ⟨_, rfl⟩
        have hks100 : ks.length ≤ 100 := by rw [← hks, List.length_map, List.length_take]; omega
        have HKS := Lib.hid hks
        rw [hks] at hgi
        have GR := Lib.hid hgi
        clear hks hgi
        obtain ⟨b, o, u1, u2, hbe, hbr, n1, n2, y0, y1, y2, y3, y4, y5⟩ := RdAc.piece (RdAc.next HH.out HBW.out) hk
        subst hbe
        obtain ⟨a, hae⟩ : ∃ a, l[k] = a := ⟨_, rfl⟩
        rw [hae] at n1 n2 y0 y1 y2 y3
        have HAE := Lib.hid hae
        obtain ⟨A1, c1, rfl, hc1⟩ := RdP.form n1
        obtain ⟨A2, c2, rfl, hc2⟩ := RdP.form n2
        have N0 : Hid (NAc wr (.slice A1 a.reads.length c1, .slice A2 a.writes.length c2) a) := Lib.hid ⟨n1, n2⟩
        have HAR : Hid (AcR a) := Lib.hid (by rw [← hae]; exact HR.out _ (List.getElem_mem hk))
        have HAO : Hid (okAc a = true) := Lib.hid (by rw [← hae]; exact HO.out _ (List.getElem_mem hk))
        have hrl : a.reads.length ≤ 10 := HAR.out.2.2.2.1
        have hwl : a.writes.length ≤ 10 := HAR.out.2.2.2.2
        clear hae n1 n2
        go_upto_region 9 with (fail)
        have hbb := (Below.refl wr.heap.size wr).alloc (Nat.le_refl _) (.cells #[.int .i64 a.key.tick, .int .i64 a.key.cls, .int .i64 a.key.num, .string (bs a.key.lin), .slice A1 a.reads.length c1, .slice A2 a.writes.length c2] 77)
        have HBA := Lib.hid hbb
        have ZW := Lib.hid (Blk.new wr 77 #[.int .i64 a.key.tick, .int .i64 a.key.cls, .int .i64 a.key.num, .string (bs a.key.lin), .slice A1 a.reads.length c1, .slice A2 a.writes.length c2])
        have GW := Lib.hid (GR.out.next hbb)
        have N1 := Lib.hid (NAc.next hbb N0.out)
        have HBW1 := Lib.hid (HBW.out.trans (hbb.mono HBW.out.size))
        clear y0 y1 y2 y3 y4 y5 hbb N0 GR HBW hbr
        generalize wr.alloc (.cells #[.int .i64 a.key.tick, .int .i64 a.key.cls, .int .i64 a.key.num, .string (bs a.key.lin), .slice A1 a.reads.length c1, .slice A2 a.writes.length c2] 77) = W at *
        obtain ⟨cb, hcb⟩ : ∃ cb, wr.heap.size = cb := ⟨_, rfl⟩
        rw [hcb] at ZW ⊢
        clear hcb
        have x0 := GW.out.blk.cell 0
        have z0 := ZW.out.cell 0
        have z1 := ZW.out.cell 1
        have z2 := ZW.out.cell 2
        have z3 := ZW.out.cell 3
        simp only [qB, qC, qD] at x0 z0 z1 z2 z3
        have hbk := ((Below.refl W.heap.size W).alloc (Nat.le_refl _) (.cells #[.int .i64 a.key.tick, .int .i64 a.key.cls, .int .i64 a.key.num, .string (bs a.key.lin)] 74)).drew
        have GV := Lib.hid (GW.out.next hbk)
        have HKY := Lib.hid GV.out.ky
        have HBK := Lib.hid hbk
        have ZV := Lib.hid (ZW.out.next hbk ZW.out.lt)
        have hw1W : w1.heap.size ≤ W.heap.size := HBW1.out.size
        obtain ⟨i0, hi, hz0, hz1, hz2⟩ := info_parts infoKy
        refine wp_region_noPanic ?_
        refine wp_region_last (S := (fun (w' : World) => w'.cell? ⟨g, 0, none⟩ = some vk ∧ w'.cell? ⟨cb, 0, none⟩ = some (.int .i64 a.key.tick) ∧ w'.cell? ⟨cb, 1, none⟩ = some (.int .i64 a.key.cls) ∧ w'.cell? ⟨cb, 2, none⟩ = some (.int .i64 a.key.num) ∧ w'.cell? ⟨cb, 3, none⟩ = some (.string (bs a.key.lin)))) 11 11 rfl (by kernel_rfl) (by kernel_rfl) ?_ (fun hHeld => ?_)
        · exact ⟨x0, z0, z1, z2, z3⟩
        refine tk (v := ?_) 0 rfl (by kernel_rfl) (fun _ _ _ h => h) ?_ hHeld ?_
        rotate_left
        · (intro w h; (try dsimp only at h); go_simp; try with_reducible rfl)
        try simp only [Act.put, pB, pC, pD]
        refine tk (v := ?_) 1 rfl (by kernel_rfl) (fun _ _ _ h => h) ?_ hHeld ?_
        rotate_left
        · (intro w h; (try dsimp only at h); go_simp; try with_reducible rfl)
        try simp only [Act.put, pB, pC, pD]
        refine tk (v := ?_) 2 rfl (by kernel_rfl) (fun _ _ _ h => h) ?_ hHeld ?_
        rotate_left
        · (intro w h; (try dsimp only at h); go_simp; try with_reducible rfl)
        try simp only [Act.put, pB, pC, pD]
        refine tk (v := ?_) 3 rfl (by kernel_rfl) (fun _ _ _ h => h) ?_ hHeld ?_
        rotate_left
        · (intro w h; (try dsimp only at h); go_simp; try with_reducible rfl)
        try simp only [Act.put, pB, pC, pD]
        refine tk (v := ?_) 4 rfl (by kernel_rfl) (fun _ _ _ h => h) ?_ hHeld ?_
        rotate_left
        · (intro w h; (try dsimp only at h); go_simp; try with_reducible rfl)
        try simp only [Act.put, pB, pC, pD]
        refine tk (v := ?_) 5 rfl (by kernel_rfl) (fun _ _ _ h => h) ?_ hHeld ?_
        rotate_left
        · (intro w h; (try dsimp only at h); go_simp; try with_reducible rfl)
        try simp only [Act.put, pB, pC, pD]
        refine tk (v := ?_) 6 rfl (by kernel_rfl) (fun _ _ _ h => h) ?_ hHeld ?_
        rotate_left
        · (intro w h; (try dsimp only at h); go_simp; try with_reducible rfl)
        try simp only [Act.put, pB, pC, pD]
        refine wpAnyH_ready (rs := [7]) (by kernel_rfl) (by simp) ?_
        refine AllReadyH.cons rfl (fun K hK => ?_) AllReadyH.nil
        go_simp
        refine hK.out _ _ ?_ (fun hNew => ?_)
        · exact ⟨(World.cell?_alloc_lt W _ _ GW.out.blk.lt).trans x0, (World.cell?_alloc_lt W _ _ ZW.out.lt).trans z0, (World.cell?_alloc_lt W _ _ ZW.out.lt).trans z1, (World.cell?_alloc_lt W _ _ ZW.out.lt).trans z2, (World.cell?_alloc_lt W _ _ ZW.out.lt).trans z3⟩
        clear hK K hHeld
        have hHeld := hNew
        clear hNew
        try simp only [Act.put, pB, pC, pD]
        refine wpAnyH_ready (rs := [8]) (by kernel_rfl) (by simp) ?_
        refine AllReadyH.cons rfl (fun K hK => ?_) AllReadyH.nil
        refine step_append_w _ (by rfl) _ _ _ (by rfl) w1.heap.size 74 i0 _ 4 40 Tryz.underlying114 hi hz0 hz1 hz2 rfl (by omega) _ (ks.length) (ks.flatMap kyC) (by rfl) HKY.out (.slice (some ⟨W.heap.size, 0, none⟩) 1 1) 1 [.int .i64 a.key.tick, .int .i64 a.key.cls, .int .i64 a.key.num, .string (bs a.key.lin)] (by rfl) (Rd.of_own (own_new W 0 74 4 [.int .i64 a.key.tick, .int .i64 a.key.cls, .int .i64 a.key.num, .string (bs a.key.lin)] rfl (Nat.zero_le _))) (by omega) (by rfl) (by simp [Value.oneCell']) (by unfold maxLen; omega) (by omega) (by simp; omega) ?_; intro v7 w7 hown7 hg7 hat7; obtain ⟨A7, c7, rfl, _⟩ := own_len hown7; have hgb := own_blk_ne HKY.out GV.out.blk (by decide); have hB7 := GV.out.blk.grown hg7 (fun e => hgb e.symm); have hcb := own_blk_ne HKY.out ZV.out (by decide); have hC7 := ZV.out.grown hg7 (fun e => hcb e.symm); have HOW7 := Lib.hid hown7; have HG7 := Lib.hid hg7; have r0 := hB7.cell 0; have rf := hB7.frozen 0; have e0 := hC7.cell 0; have e1 := hC7.cell 1; have e2 := hC7.cell 2; have e3 := hC7.cell 3; (simp only [qB, qC, qD] at r0 e0 e1 e2 e3); clear hown7 hg7 hat7 hgb hcb hB7 hC7
        refine hK.out _ _ ?_ (fun hNew => ?_)
        · exact ⟨r0, e0, e1, e2, e3⟩
        clear hK K hHeld
        have hHeld := hNew
        clear hNew
        try simp only [Act.put, pB, pC, pD]
        refine tk (v := ?_) 9 rfl (by kernel_rfl) (fun _ _ _ h => h) ?_ hHeld ?_
        rotate_left
        · (intro w h; (try dsimp only at h); go_simp; try with_reducible rfl)
        try simp only [Act.put, pB, pC, pD]
        refine tk (v := ?_) 10 rfl (by kernel_rfl) (fun _ _ _ h => h) ?_ hHeld ?_
        rotate_left
        · (intro w h; (try dsimp only at h); go_simp; try with_reducible rfl)
        try simp only [Act.put, pB, pC, pD]
        refine wpAnyH_done (by kernel_rfl) ?_ _
        refine lastQ_step rfl (fun K hK => ?_)
        clear hHeld
        go_simp
        refine hK _ _ ?_
        clear hK K
        refine NoPanic.normal ?_
        clear x0 z0 z1 z2 z3 r0 rf e0 e1 e2 e3 i0 hi hz0 hz1 hz2 hbk
        have HK3 := Lib.hid (GIn.key_ GV.out (k := a.key) HG7.out HOW7.out)
        go_upto_region 10 with (fail)
        have N3 := Lib.hid (NAc.keep HK3.out.2.2 rfl (NAc.next HBK.out N1.out))
        have Z3 := Lib.hid (ZV.out.keep HK3.out.2.2 rfl)
        have HBW3 := Lib.hid (HBW1.out.trans ((HBK.out.mono hw1W).trans HK3.out.2.1))
        have G3 := Lib.hid HK3.out.1
        clear HK3 HOW7 HG7 HKY GV ZV HBK GW ZW N1 HBW1
        generalize w7.setCell ⟨g, 0, none⟩ (.slice A7 (ks.length + 1) c7) = W3 at *
        have z4 := Z3.out.cell 4
        simp only [qB, qC, qD] at z4
        have HNS := Lib.hid (reads_names (a := a) (by have := HAO.out; unfold okAc at this; simp only [Bool.and_eq_true] at this; exact this.1.2))
        have H0 : Hid (Db2 a W3 (.slice none 0 0) (.int .i64 (0 : Nat)) W3) := Lib.hid ⟨0, Nat.zero_le _, rfl, OwnP.nil, Below.refl _ _⟩
        obtain ⟨i0, hi, hz0, hz1, hz2⟩ := info_parts infoNm
        go_upto_region 12 with (fail)
        go_loopw [7, 51] (fun v i wr => Db2 a W3 v i wr) (fun _ i _ => a.reads.length - (intOf i).toNat)
        case atStart => exact H0.out
        case round =>
          clear H0 z4
          obtain ⟨m, hml, rfl, how, hbw⟩ := hrel
          have HBW := Lib.hid hbw
          clear hbw
          obtain ⟨A5, c5, rfl, hc5⟩ := own_len how
          by_cases hm : m < a.reads.length
          · have j4 : (0 : Int) ≤ (m : Int) := by omega
            have j5 : (m : Int) < (a.reads.length : Int) := by omega
            have j6 : decide ((m : Int) < (a.reads.length : Int)) = true := decide_eq_true j5
            obtain ⟨bb, oo, hbe, hbr, t0, t1, t2, t3, t4, t5, t6⟩ := RdCh.piece (show RdCh wr (.slice A1 a.reads.length c1) a.reads from RdP.next N3.out.1 HBW.out) hm
            subst hbe
            have HTK := Lib.hid (show (a.reads.take (m + 1)).map Ch.name = (a.reads.take m).map Ch.name ++ [a.reads[m].name] by rw [List.take_succ_eq_append_getElem hm, List.map_append]; rfl)
            obtain ⟨ch, hch⟩ : ∃ ch, a.reads[m] = ch := ⟨_, rfl⟩
            rw [hch] at t0 t1 t2 t3 t4 t5 t6 HTK
            obtain ⟨nl, hnl⟩ : ∃ nl, (a.reads.take m).map Ch.name = nl := ⟨_, rfl⟩
            have hnle : nl.length ≤ 10 := by rw [← hnl, List.length_map, List.length_take]; omega
            rw [hnl] at how HTK hc5 ⊢
            clear hch hnl
            go_upto_region 14 with (fail)
            have hbd := (Below.refl wr.heap.size wr).alloc (Nat.le_refl _) (.cells #[.int .i64 ch.name.kind, .string (bs ch.name.owner), .int .i64 ch.name.num, .int .i64 ch.name.idx, .string (bs ch.name.text), .string (bs ch.value), .bool ch.absent] 105)
            have zb := Blk.new wr 105 #[.int .i64 ch.name.kind, .string (bs ch.name.owner), .int .i64 ch.name.num, .int .i64 ch.name.idx, .string (bs ch.name.text), .string (bs ch.value), .bool ch.absent]
            have HBD := Lib.hid (HBW.out.trans (hbd.mono HBW.out.size))
            have HOD := Lib.hid (OwnP.next how hbd)
            have v0 := zb.cell 0
            have v1 := zb.cell 1
            have v2 := zb.cell 2
            have v3 := zb.cell 3
            have v4 := zb.cell 4
            simp only [qB, qC, qD] at v0 v1 v2 v3 v4
            clear t0 t1 t2 t3 t4 t5 t6 hbd zb how
            generalize wr.alloc (.cells #[.int .i64 ch.name.kind, .string (bs ch.name.owner), .int .i64 ch.name.num, .int .i64 ch.name.idx, .string (bs ch.name.text), .string (bs ch.value), .bool ch.absent] 105) = wd at *
            go_wp2_with (at_builtin; refine wpList_append_w _ rfl _ _ _ rfl W3.heap.size 26 i0 _ 5 56 Tryz.underlying94 hi hz0 hz1 hz2 rfl (by omega) (.slice A5 nl.length c5) nl.length (nl.flatMap nmC) rfl (own_next HOD.out ((Below.refl _ _).alloc (Nat.le_refl _) _)) (.slice (some ⟨wd.heap.size, 0, none⟩) 1 1) 1 [.int .i64 ch.name.kind, .string (bs ch.name.owner), .int .i64 ch.name.num, .int .i64 ch.name.idx, .string (bs ch.name.text)] rfl (Rd.of_own (own_new wd 0 26 5 [.int .i64 ch.name.kind, .string (bs ch.name.owner), .int .i64 ch.name.num, .int .i64 ch.name.idx, .string (bs ch.name.text)] rfl (Nat.zero_le _))) (by omega) rfl (by simp [Value.oneCell']) (by unfold maxLen; omega) (by omega) (by have := HBD.out.size; simp at this ⊢; omega) ?_; intro v5 w5 hown5 hg5 hat5; have HOW5 := Lib.hid hown5; have HG5 := Lib.hid hg5; clear hown5 hg5 hat5)
            go_roundw
            case rel =>
              have hbe : Below W3.heap.size W3 w5 := below_own (HBD.out.alloc HBD.out.size (.cells #[.int .i64 ch.name.kind, .string (bs ch.name.owner), .int .i64 ch.name.num, .int .i64 ch.name.idx, .string (bs ch.name.text)] 26)) (own_next HOD.out ((Below.refl _ _).alloc (Nat.le_refl _) _)) HG5.out (Nat.le_refl _) (by have := HBD.out.size; simp at this ⊢; omega)
              refine ⟨m + 1, by omega, by go_num, ?_, hbe⟩
              rw [HTK.out]
              exact OwnP.snoc HOW5.out
            case measure => simp [intOf]; omega
          · have j6 : decide ((m : Int) < (a.reads.length : Int)) = false := decide_eq_false (by omega)
            have HK0 := Lib.hid (show (a.reads.take m).map Ch.name = a.reads.map Ch.name by rw [List.take_of_length_le (by omega)])
            rw [HK0.out] at how hc5 ⊢
            obtain ⟨ns, hns⟩ : ∃ ns, a.reads.map Ch.name = ns := ⟨_, rfl⟩
            rw [hns] at how hc5 HNS ⊢
            have HNN := Lib.hid hns
            have HNL := Lib.hid (show ns.length = a.reads.length by rw [← hns, List.length_map])
            have hnl10 : ns.length ≤ 10 := by have := HNL.out; omega
            have HRN := Lib.hid (show RdNm wr (.slice A5 ns.length c5) ns from Rd.of_own how)
            have HSO := Lib.hid (sorted_is HRN.out (by omega) HNS.out.1 HNS.out.2.1)
            clear how hns HRN i0 hi hz0 hz1 hz2
            go_upto_region 17 with (go_at_call 56; refine HSO.out.mono ?_; rintro e w4 ⟨v4, rfl, hown4, hb4⟩; rw [HNS.out.2.2] at hown4; obtain ⟨A8, c8, rfl, hc8⟩ := own_len hown4; have HS4 := Lib.hid (show RdNm w4 (.slice A8 ns.length c8) ns from Rd.of_own hown4); have HB4 := Lib.hid (HBW.out.trans (hb4.mono HBW.out.size)); clear hown4 hb4)
            have N4 := Lib.hid (NAc.next HB4.out N3.out)
            have Z4 := Lib.hid (Z3.out.next HB4.out Z3.out.lt)
            have G4 := Lib.hid (G3.out.next HB4.out)
            have HBW4 := Lib.hid (HBW3.out.trans (HB4.out.mono HBW3.out.size))
            have hrk : l.length - k = (l.length - k - 1) + 1 := by omega
            have H0 : Hid (Db3 l k a ks w1 w4 g bl bu bw (.slice A7 (ks.length + 1) c7) (.int .i64 (0 : Nat)) w4) := Lib.hid ⟨0, Nat.zero_le _, rfl, ⟨vL, vU, by
              have := G4.out
              rw [hrk, List.replicate_succ] at this
              rw [List.take_zero, List.append_nil]
              exact this⟩, Kept.refl _ _, HBW4.out⟩
            clear HSO N3 Z3 G3 HB4 HBW4 HBW HBW3 hrk G4 hm hml j6
            go_loopw [64] (fun i wr => Db3 l k a ks w1 w4 g bl bu bw (.slice A7 (ks.length + 1) c7) i wr) (fun i _ => a.reads.length - (intOf i).toNat)
            case atStart => exact H0.out
            case round =>
              clear H0
              obtain ⟨m, hml, rfl, hgi, hkp, hbw⟩ := hrel
              have HKP := Lib.hid hkp
              have HBW := Lib.hid hbw
              obtain ⟨vL, vU, hgi⟩ := hgi
              have GR := Lib.hid hgi
              clear hkp hbw hgi
              by_cases hm : m < a.reads.length
              · have j4 : (0 : Int) ≤ (m : Int) := by omega
                have hmn : m < ns.length := by have := HNL.out; omega
                have j5 : (m : Int) < (ns.length : Int) := by omega
                have j6 : decide ((m : Int) < (ns.length : Int)) = true := decide_eq_true j5
                obtain ⟨bb, oo, hbe, hbr, t0, t1, t2, t3, t4⟩ := RdNm.piece (RdP.keep HS4.out HKP.out rfl) hmn
                subst hbe
                obtain ⟨n, hn⟩ : ∃ n, ns[m] = n := ⟨_, rfl⟩
                rw [hn] at t0 t1 t2 t3 t4
                have HN := Lib.hid (show a.reads[m].name = n by rw [← hn]; simp only [← HNN.out, List.getElem_map])
                clear hn
                go_upto_region 19 with (fail)
                have hbn := (Below.refl wr.heap.size wr).alloc (Nat.le_refl _) (.cells #[.int .i64 n.kind, .string (bs n.owner), .int .i64 n.num, .int .i64 n.idx, .string (bs n.text)] 26)
                have zb := Blk.new wr 26 #[.int .i64 n.kind, .string (bs n.owner), .int .i64 n.num, .int .i64 n.idx, .string (bs n.text)]
                have G5 := Lib.hid (GR.out.next hbn)
                have HKP5 := Lib.hid (HKP.out.trans (Kept.of_below LG hbn))
                have HBW5 := Lib.hid (HBW.out.trans (hbn.mono HBW.out.size))
                have v0 := zb.cell 0
                have v1 := zb.cell 1
                have v2 := zb.cell 2
                have v3 := zb.cell 3
                have v4 := zb.cell 4
                have hnb := zb.lt
                simp only [qB, qC, qD] at v0 v1 v2 v3 v4
                clear t0 t1 t2 t3 t4 hbn zb GR HKP HBW hbr
                generalize wr.alloc (.cells #[.int .i64 n.kind, .string (bs n.owner), .int .i64 n.num, .int .i64 n.idx, .string (bs n.text)] 26) = W5 at *
                generalize wr.heap.size = nb at *
                have HWR := Lib.hid (fun (W' : World) (hb : Below W5.heap.size W5 W') => writer_is n (k : Int) (G5.out.next hb) (wls_asc (fun b hb => by have := HO.out b (List.mem_of_mem_take hb); unfold okAc at this; simp only [Bool.and_eq_true] at this; exact this.2) n) (by have := wls_len (l := l.take k) (fun b hb => (HR.out b (List.mem_of_mem_take hb)).2.2.2.2) (by rw [List.length_take]; omega) n; omega))
                obtain ⟨F, hF⟩ : ∃ F, wrI (wls (l.take k) n) (k : Int) = F := ⟨_, rfl⟩
                rw [hF] at HWR
                have HFE := Lib.hid hF
                unfold nmV nmA at HWR
                clear hF
                have hw15 : w1.heap.size ≤ W5.heap.size := HBW5.out.size
                go_cut [12] (fun v wx => LkBox F k n W5 v wx)
                case first =>
                  refine wp_region_noPanic ?_
                  refine wp_region_last (S := (fun (w' : World) => w'.cell? ⟨nb, 0, none⟩ = some (.int .i64 n.kind) ∧ w'.cell? ⟨nb, 1, none⟩ = some (.string (bs n.owner)) ∧ w'.cell? ⟨nb, 2, none⟩ = some (.int .i64 n.num) ∧ w'.cell? ⟨nb, 3, none⟩ = some (.int .i64 n.idx) ∧ w'.cell? ⟨nb, 4, none⟩ = some (.string (bs n.text)))) 8 8 rfl (by kernel_rfl) (by kernel_rfl) ?_ (fun hHeld => ?_)
                  · exact ⟨v0, v1, v2, v3, v4⟩
                  refine tk (v := ?_) 0 rfl (by kernel_rfl) (fun _ _ _ h => h) ?_ hHeld ?_
                  rotate_left
                  · (intro w h; (try dsimp only at h); go_simp; try with_reducible rfl)
                  try simp only [Act.put, pB, pC, pD]
                  refine tk (v := ?_) 1 rfl (by kernel_rfl) (fun _ _ _ h => h) ?_ hHeld ?_
                  rotate_left
                  · (intro w h; (try dsimp only at h); go_simp; try with_reducible rfl)
                  try simp only [Act.put, pB, pC, pD]
                  refine tk (v := ?_) 2 rfl (by kernel_rfl) (fun _ _ _ h => h) ?_ hHeld ?_
                  rotate_left
                  · (intro w h; (try dsimp only at h); go_simp; try with_reducible rfl)
                  try simp only [Act.put, pB, pC, pD]
                  refine tk (v := ?_) 4 rfl (by kernel_rfl) (fun _ _ _ h => h) ?_ hHeld ?_
                  rotate_left
                  · (intro w h; (try dsimp only at h); go_simp; try with_reducible rfl)
                  try simp only [Act.put, pB, pC, pD]
                  refine tk (v := ?_) 5 rfl (by kernel_rfl) (fun _ _ _ h => h) ?_ hHeld ?_
                  rotate_left
                  · (intro w h; (try dsimp only at h); go_simp; try with_reducible rfl)
                  try simp only [Act.put, pB, pC, pD]
                  refine wpAnyH_ready (rs := [3, 7]) (by kernel_rfl) (by simp) ?_
                  refine AllReadyH.cons rfl (fun K hK => ?_) (AllReadyH.cons rfl (fun K hK => ?_) AllReadyH.nil)
                  · go_simp
                    refine (HWR.out _ (Below.refl W5.heap.size W5).drew).mono ?_; rintro e w6 ⟨rfl, hb6'⟩; have hb6 := (Below.refl W5.heap.size W5).drew.trans hb6'; have HB6 := Lib.hid hb6; have hnb6 := Nat.lt_of_lt_of_le hnb hb6.size; clear hb6'
                    try (go_wp2_with fail)
                    refine hK.out _ _ ?_ (fun hNew => ?_)
                    · exact ⟨(hb6.cell (p := ⟨nb, 0, none⟩) hnb).trans v0, (hb6.cell (p := ⟨nb, 1, none⟩) hnb).trans v1, (hb6.cell (p := ⟨nb, 2, none⟩) hnb).trans v2, (hb6.cell (p := ⟨nb, 3, none⟩) hnb).trans v3, (hb6.cell (p := ⟨nb, 4, none⟩) hnb).trans v4⟩
                    clear hK K hHeld
                    have hHeld := hNew
                    clear hNew
                    try simp only [Act.put, pB, pC, pD]
                    refine tk (v := ?_) 6 rfl (by kernel_rfl) (fun _ _ _ h => h) ?_ hHeld ?_
                    rotate_left
                    · (intro w h; (try dsimp only at h); go_simp; try with_reducible rfl)
                    try simp only [Act.put, pB, pC, pD]
                    refine wpAnyH_ready (rs := [7]) (by kernel_rfl) (by simp) ?_
                    refine AllReadyH.cons rfl (fun K hK => ?_) AllReadyH.nil
                    go_simp
                    refine hK.out _ _ ?_ (fun hNew => ?_)
                    · exact ⟨(World.cell?_alloc_lt w6 _ _ hnb6).trans ((hb6.cell (p := ⟨nb, 0, none⟩) hnb).trans v0), (World.cell?_alloc_lt w6 _ _ hnb6).trans ((hb6.cell (p := ⟨nb, 1, none⟩) hnb).trans v1), (World.cell?_alloc_lt w6 _ _ hnb6).trans ((hb6.cell (p := ⟨nb, 2, none⟩) hnb).trans v2), (World.cell?_alloc_lt w6 _ _ hnb6).trans ((hb6.cell (p := ⟨nb, 3, none⟩) hnb).trans v3), (World.cell?_alloc_lt w6 _ _ hnb6).trans ((hb6.cell (p := ⟨nb, 4, none⟩) hnb).trans v4)⟩
                    clear hK K hHeld
                    have hHeld := hNew
                    clear hNew
                    try simp only [Act.put, pB, pC, pD]
                    refine wpAnyH_done (by kernel_rfl) ?_ _
                    refine lastQ_step rfl (fun K hK => ?_)
                    clear hHeld
                    go_simp
                    refine hK _ _ ?_
                    clear hK K
                    refine NoPanic.normal ?_
                    go_wp2_with fail
                    go_meet
                    case rel => exact ⟨w6.heap.size, rfl, HB6.out.size, Blk.new _ _ _, HB6.out.alloc HB6.out.size _⟩
                  · go_simp
                    refine hK.out _ _ ?_ (fun hNew => ?_)
                    · exact ⟨(World.cell?_alloc_lt W5 _ _ hnb).trans v0, (World.cell?_alloc_lt W5 _ _ hnb).trans v1, (World.cell?_alloc_lt W5 _ _ hnb).trans v2, (World.cell?_alloc_lt W5 _ _ hnb).trans v3, (World.cell?_alloc_lt W5 _ _ hnb).trans v4⟩
                    clear hK K hHeld
                    have hHeld := hNew
                    clear hNew
                    try simp only [Act.put, pB, pC, pD]
                    refine wpAnyH_ready (rs := [3]) (by kernel_rfl) (by simp) ?_
                    refine AllReadyH.cons rfl (fun K hK => ?_) AllReadyH.nil
                    go_simp
                    have hbx := ((Below.refl W5.heap.size W5).alloc (Nat.le_refl _) (.cells #[.int .i64 0, .int .i64 0, .int .i64 0, .string ⟨#[]⟩, .int .i64 0, .int .i64 0, .string ⟨#[]⟩] 61)).drew; have zq := Blk.new W5 61 #[.int .i64 0, .int .i64 0, .int .i64 0, .string ⟨#[]⟩, .int .i64 0, .int .i64 0, .string ⟨#[]⟩]; refine (HWR.out _ hbx).mono ?_; rintro e w6 ⟨rfl, hb6'⟩; have hb6 := hbx.trans (hb6'.mono hbx.size); have HB6 := Lib.hid hb6; have ZQ := Lib.hid (zq.drew.next hb6' zq.lt); have q0 := ZQ.out.cell 0; have p0 := ZQ.out.frozen 0; have q1 := ZQ.out.cell 1; have p1 := ZQ.out.frozen 1; have q2 := ZQ.out.cell 2; have p2 := ZQ.out.frozen 2; have q3 := ZQ.out.cell 3; have p3 := ZQ.out.frozen 3; have q4 := ZQ.out.cell 4; have p4 := ZQ.out.frozen 4; have q5 := ZQ.out.cell 5; have p5 := ZQ.out.frozen 5; have q6 := ZQ.out.cell 6; have p6 := ZQ.out.frozen 6; (simp only [qB, qC, qD] at q0 q1 q2 q3 q4 q5 q6); clear hb6' hbx zq
                    try (go_wp2_with fail)
                    refine hK.out _ _ ?_ (fun hNew => ?_)
                    · exact ⟨(hb6.cell (p := ⟨nb, 0, none⟩) hnb).trans v0, (hb6.cell (p := ⟨nb, 1, none⟩) hnb).trans v1, (hb6.cell (p := ⟨nb, 2, none⟩) hnb).trans v2, (hb6.cell (p := ⟨nb, 3, none⟩) hnb).trans v3, (hb6.cell (p := ⟨nb, 4, none⟩) hnb).trans v4⟩
                    clear hK K hHeld
                    have hHeld := hNew
                    clear hNew
                    try simp only [Act.put, pB, pC, pD]
                    refine tk (v := ?_) 6 rfl (by kernel_rfl) (fun _ _ _ h => h) ?_ hHeld ?_
                    rotate_left
                    · (intro w h; (try dsimp only at h); go_simp; try with_reducible rfl)
                    try simp only [Act.put, pB, pC, pD]
                    refine wpAnyH_done (by kernel_rfl) ?_ _
                    refine lastQ_step rfl (fun K hK => ?_)
                    clear hHeld
                    go_simp
                    refine hK _ _ ?_
                    clear hK K
                    refine NoPanic.normal ?_
                    go_wp2_with fail
                    go_meet
                    case rel => exact ⟨W5.heap.size, rfl, Nat.le_refl _, (((((((ZQ.out.set_ 0 (.int .i64 F)).set_ 1 (.int .i64 k)).set_ 2 (.int .i64 n.kind)).set_ 3 (.string (bs n.owner))).set_ 4 (.int .i64 n.num)).set_ 5 (.int .i64 n.idx)).set_ 6 (.string (bs n.text))), (((((((HB6.out.setCell (p := ⟨W5.heap.size, 0, none⟩) (Nat.le_refl _) _).setCell (p := ⟨W5.heap.size, 1, none⟩) (Nat.le_refl _) _).setCell (p := ⟨W5.heap.size, 2, none⟩) (Nat.le_refl _) _).setCell (p := ⟨W5.heap.size, 3, none⟩) (Nat.le_refl _) _).setCell (p := ⟨W5.heap.size, 4, none⟩) (Nat.le_refl _) _).setCell (p := ⟨W5.heap.size, 5, none⟩) (Nat.le_refl _) _).setCell (p := ⟨W5.heap.size, 6, none⟩) (Nat.le_refl _) _)⟩
                case rest =>
                  obtain ⟨xb, rfl, hxb, hzx, hbc⟩ := hcut
                  clear v0 v1 v2 v3 v4 HWR hnb
                  have ZX := Lib.hid hzx
                  have G6 := Lib.hid (G5.out.next hbc)
                  have HKP6 := Lib.hid (HKP5.out.trans (Kept.of_below LG hbc))
                  have HBW6 := Lib.hid (HBW5.out.trans (hbc.mono HBW5.out.size))
                  obtain ⟨mid, hmid⟩ : ∃ mid, (lnkA (l.take k) a).take m = mid := ⟨_, rfl⟩
                  have HMID := Lib.hid hmid
                  rw [hmid] at G5 G6
                  have hmidl : mid.length ≤ 10 := by rw [← hmid, List.length_take]; unfold lnkA; rw [List.length_map]; omega
                  have HY := Lib.hid (show (lnkA (l.take k) a).take (m + 1) = mid ++ [⟨F, k, n⟩] by
                    have hd : (l.take k).length = k := by rw [List.length_take]; omega
                    rw [lnkA_take hm, hmid, HN.out, hd, HFE.out])
                  have hLD : (lnkD (l.take k)).length = k := by rw [lnkD_len, List.length_take]; omega
                  have HLD := Lib.hid hLD
                  have hLl : (lnkD (l.take k) ++ mid :: List.replicate (l.length - k - 1) []).length = l.length := by rw [List.length_append, List.length_cons, List.length_replicate, hLD]; omega
                  have hvl : k < vL.length := by rw [G6.out.lu.lenL, hLl]; exact hk
                  have HXR := Lib.hid (get_mid hLD (m := mid) (B := List.replicate (l.length - k - 1) []))
                  have HKL := Lib.hid (show k < (lnkD (l.take k) ++ mid :: List.replicate (l.length - k - 1) []).length by rw [hLl]; exact hk)
                  obtain ⟨xv, hxv⟩ : ∃ xv, vL[k]? = some xv := ⟨_, List.getElem?_eq_getElem hvl⟩
                  have HXV := Lib.hid hxv
                  have hx5 := G5.out.lu.el _ _ _ hxv HXR.out
                  obtain ⟨Ax, cx, rfl, _⟩ := own_len hx5
                  have HU5 := Lib.hid (show ∀ (i : Nat) (x : Value) (y : List Lk), vU[i]? = some x → (UT l.length ((lnkD (l.take k)).flatten ++ mid))[i]? = some y → x.ownBlock ≠ some xb from fun i x y hx hy e => by have := own_lt (G5.out.lu.eu i x y hx hy) e; omega)
                  have HXN := Lib.hid (show (Value.slice Ax mid.length cx).ownBlock ≠ some xb from fun e => by have := own_lt hx5 e; omega)
                  clear hmid hLD hLl hvl hxv hx5 hzx hbc HKP5 HBW5
                  obtain ⟨i0, hi, hz0, hz1, hz2⟩ := info_parts infoLk
                  have hw16 : w1.heap.size ≤ wc.heap.size := HBW6.out.size
                  go_upto_region 20 with (fail)
                  have hbq := ((Below.refl wc.heap.size wc).alloc (Nat.le_refl _) (.cells #[.int .i64 F, .int .i64 k, .int .i64 n.kind, .string (bs n.owner), .int .i64 n.num, .int .i64 n.idx, .string (bs n.text)] 61)).drew
                  have G7 := Lib.hid (G6.out.next hbq)
                  have ZX7 := Lib.hid (ZX.out.next hbq ZX.out.lt)
                  have HXO := Lib.hid (G7.out.lu.el _ _ _ HXV.out HXR.out)
                  have HBQ := Lib.hid hbq
                  have x1 := G6.out.blk.cell 1
                  have xk := own_cell1 G6.out.lu.ln HXV.out
                  have hbl := own_lt G6.out.lu.ln (g := bl) rfl
                  have z0 := ZX.out.cell 0
                  have z1 := ZX.out.cell 1
                  have z2 := ZX.out.cell 2
                  have z3 := ZX.out.cell 3
                  have z4 := ZX.out.cell 4
                  have z5 := ZX.out.cell 5
                  have z6 := ZX.out.cell 6
                  simp only [qB, qC, qD] at x1 z0 z1 z2 z3 z4 z5 z6
                  clear hbq
                  refine wp_region_noPanic ?_
                  refine wp_region_last (S := (fun (w' : World) => w'.cell? ⟨g, 1, none⟩ = some (.slice (some ⟨bl, 0, none⟩) l.length l.length) ∧ w'.cell? ⟨bl, k, none⟩ = some (.slice Ax mid.length cx) ∧ w'.cell? ⟨xb, 0, none⟩ = some (.int .i64 F) ∧ w'.cell? ⟨xb, 1, none⟩ = some (.int .i64 k) ∧ w'.cell? ⟨xb, 2, none⟩ = some (.int .i64 n.kind) ∧ w'.cell? ⟨xb, 3, none⟩ = some (.string (bs n.owner)) ∧ w'.cell? ⟨xb, 4, none⟩ = some (.int .i64 n.num) ∧ w'.cell? ⟨xb, 5, none⟩ = some (.int .i64 n.idx) ∧ w'.cell? ⟨xb, 6, none⟩ = some (.string (bs n.text)))) 16 16 rfl (by kernel_rfl) (by kernel_rfl) ?_ (fun hHeld => ?_)
                  · exact ⟨x1, xk, z0, z1, z2, z3, z4, z5, z6⟩
                  refine tk (v := ?_) 0 rfl (by kernel_rfl) (fun _ _ _ h => h) ?_ hHeld ?_
                  rotate_left
                  · (intro w h; (try dsimp only at h); go_simp; try with_reducible rfl)
                  try simp only [Act.put, pB, pC, pD]
                  refine tk (v := ?_) 1 rfl (by kernel_rfl) (fun _ _ _ h => h) ?_ hHeld ?_
                  rotate_left
                  · (intro w h; (try dsimp only at h); go_simp; try with_reducible rfl)
                  try simp only [Act.put, pB, pC, pD]
                  refine tk (v := ?_) 2 rfl (by kernel_rfl) (fun _ _ _ h => h) ?_ hHeld ?_
                  rotate_left
                  · (intro w h; (try dsimp only at h); go_simp; try with_reducible rfl)
                  try simp only [Act.put, pB, pC, pD]
                  refine tk (v := ?_) 3 rfl (by kernel_rfl) (fun _ _ _ h => h) ?_ hHeld ?_
                  rotate_left
                  · (intro w h; (try dsimp only at h); go_simp; try with_reducible rfl)
                  try simp only [Act.put, pB, pC, pD]
                  refine tk (v := ?_) 4 rfl (by kernel_rfl) (fun _ _ _ h => h) ?_ hHeld ?_
                  rotate_left
                  · (intro w h; (try dsimp only at h); go_simp; try with_reducible rfl)
                  try simp only [Act.put, pB, pC, pD]
                  refine tk (v := ?_) 5 rfl (by kernel_rfl) (fun _ _ _ h => h) ?_ hHeld ?_
                  rotate_left
                  · (intro w h; (try dsimp only at h); go_simp; try with_reducible rfl)
                  try simp only [Act.put, pB, pC, pD]
                  refine tk (v := ?_) 6 rfl (by kernel_rfl) (fun _ _ _ h => h) ?_ hHeld ?_
                  rotate_left
                  · (intro w h; (try dsimp only at h); go_simp; try with_reducible rfl)
                  try simp only [Act.put, pB, pC, pD]
                  refine tk (v := ?_) 7 rfl (by kernel_rfl) (fun _ _ _ h => h) ?_ hHeld ?_
                  rotate_left
                  · (intro w h; (try dsimp only at h); go_simp; try with_reducible rfl)
                  try simp only [Act.put, pB, pC, pD]
                  refine tk (v := ?_) 8 rfl (by kernel_rfl) (fun _ _ _ h => h) ?_ hHeld ?_
                  rotate_left
                  · (intro w h; (try dsimp only at h); go_simp; try with_reducible rfl)
                  try simp only [Act.put, pB, pC, pD]
                  refine tk (v := ?_) 9 rfl (by kernel_rfl) (fun _ _ _ h => h) ?_ hHeld ?_
                  rotate_left
                  · (intro w h; (try dsimp only at h); go_simp; try with_reducible rfl)
                  try simp only [Act.put, pB, pC, pD]
                  refine tk (v := ?_) 10 rfl (by kernel_rfl) (fun _ _ _ h => h) ?_ hHeld ?_
                  rotate_left
                  · (intro w h; (try dsimp only at h); go_simp; try with_reducible rfl)
                  try simp only [Act.put, pB, pC, pD]
                  refine tk (v := ?_) 11 rfl (by kernel_rfl) (fun _ _ _ h => h) ?_ hHeld ?_
                  rotate_left
                  · (intro w h; (try dsimp only at h); go_simp; try with_reducible rfl)
                  try simp only [Act.put, pB, pC, pD]
                  refine tk (v := ?_) 12 rfl (by kernel_rfl) (fun _ _ _ h => h) ?_ hHeld ?_
                  rotate_left
                  · (intro w h; (try dsimp only at h); go_simp; try with_reducible rfl)
                  try simp only [Act.put, pB, pC, pD]
                  refine wpAnyH_ready (rs := [13]) (by kernel_rfl) (by simp) ?_
                  refine AllReadyH.cons rfl (fun K hK => ?_) AllReadyH.nil
                  go_simp
                  refine hK.out _ _ ?_ (fun hNew => ?_)
                  · exact ⟨(World.cell?_alloc_lt wc _ _ G6.out.blk.lt).trans x1, (World.cell?_alloc_lt wc _ _ hbl).trans xk, (World.cell?_alloc_lt wc _ _ ZX.out.lt).trans z0, (World.cell?_alloc_lt wc _ _ ZX.out.lt).trans z1, (World.cell?_alloc_lt wc _ _ ZX.out.lt).trans z2, (World.cell?_alloc_lt wc _ _ ZX.out.lt).trans z3, (World.cell?_alloc_lt wc _ _ ZX.out.lt).trans z4, (World.cell?_alloc_lt wc _ _ ZX.out.lt).trans z5, (World.cell?_alloc_lt wc _ _ ZX.out.lt).trans z6⟩
                  clear hK K hHeld
                  have hHeld := hNew
                  clear hNew
                  try simp only [Act.put, pB, pC, pD]
                  refine wpAnyH_ready (rs := [14]) (by kernel_rfl) (by simp) ?_
                  refine AllReadyH.cons rfl (fun K hK => ?_) AllReadyH.nil
                  refine step_append_w _ (by rfl) _ _ _ (by rfl) w1.heap.size 61 i0 _ 7 72 Tryz.underlying52 hi hz0 hz1 hz2 rfl (by omega) (.slice Ax mid.length cx) mid.length (mid.flatMap lkC) (by rfl) HXO.out (.slice (some ⟨wc.heap.size, 0, none⟩) 1 1) 1 [.int .i64 F, .int .i64 k, .int .i64 n.kind, .string (bs n.owner), .int .i64 n.num, .int .i64 n.idx, .string (bs n.text)] (by rfl) (Rd.of_own (own_new wc 0 61 7 [.int .i64 F, .int .i64 k, .int .i64 n.kind, .string (bs n.owner), .int .i64 n.num, .int .i64 n.idx, .string (bs n.text)] rfl (Nat.zero_le _))) (by omega) (by rfl) (by simp [Value.oneCell']) (by unfold maxLen; omega) (by omega) (by simp; omega) ?_; intro v7 w7 hown7 hg7 hat7; obtain ⟨A9, c9, rfl, _⟩ := own_len hown7; have hB7 := G7.out.blk.grown hg7 (fun e => own_blk_ne HXO.out G7.out.blk (by decide) e.symm); have hC7 := ZX7.out.grown hg7 (fun e => HXN.out e.symm); have HOW7 := Lib.hid hown7; have HG7 := Lib.hid hg7; have HAT7 := Lib.hid hat7; have HC7 := Lib.hid hC7; have hln := own_grown G7.out.lu.ln HXO.out hg7 (.inl (by decide)); have HLN := Lib.hid hln; have r1 := hB7.cell 1; have rk := own_cell1 hln HXV.out; have rf := own_frozen1 hln k; have e0 := hC7.cell 0; have e1 := hC7.cell 1; have e2 := hC7.cell 2; have e3 := hC7.cell 3; have e4 := hC7.cell 4; have e5 := hC7.cell 5; have e6 := hC7.cell 6; (simp only [qB, qC, qD] at r1 e0 e1 e2 e3 e4 e5 e6); clear hown7 hg7 hat7 hB7 hC7 hln
                  refine hK.out _ _ ?_ (fun hNew => ?_)
                  · exact ⟨r1, rk, e0, e1, e2, e3, e4, e5, e6⟩
                  clear hK K hHeld
                  have hHeld := hNew
                  clear hNew
                  try simp only [Act.put, pB, pC, pD]
                  refine tk (v := ?_) 15 rfl (by kernel_rfl) (fun _ _ _ h => h) ?_ hHeld ?_
                  rotate_left
                  · (intro w h; (try dsimp only at h); go_simp; try with_reducible rfl)
                  try simp only [Act.put, pB, pC, pD]
                  refine wpAnyH_done (by kernel_rfl) ?_ _
                  refine lastQ_step rfl (fun K hK => ?_)
                  clear hHeld
                  go_simp
                  refine hK _ _ ?_
                  clear hK K
                  refine NoPanic.normal ?_
                  clear x1 xk r1 rk rf z0 e0 z1 e1 z2 e2 z3 e3 z4 e4 z5 e5 z6 e6 hbl
                  have HL := Lib.hid (show GIn (w7.setCell ⟨bl, k, none⟩ (.slice A9 (mid.length + 1) c9)) w1.heap.size g (.slice A7 (ks.length + 1) c7) (.slice (some ⟨bl, 0, none⟩) l.length l.length) (.slice (some ⟨bu, 0, none⟩) l.length l.length) bw (ks ++ [a.key]) (vL.set k (.slice A9 (mid.length + 1) c9)) vU (lnkD (l.take k) ++ (mid ++ [⟨F, k, n⟩]) :: List.replicate (l.length - k - 1) []) (UT l.length ((lnkD (l.take k)).flatten ++ mid)) (wls (l.take k)) ∧ Below w1.heap.size (wc.alloc (.cells #[.int .i64 F, .int .i64 k, .int .i64 n.kind, .string (bs n.owner), .int .i64 n.num, .int .i64 n.idx, .string (bs n.text)] 61)).drew (w7.setCell ⟨bl, k, none⟩ (.slice A9 (mid.length + 1) c9)) ∧ Kept LG (wc.alloc (.cells #[.int .i64 F, .int .i64 k, .int .i64 n.kind, .string (bs n.owner), .int .i64 n.num, .int .i64 n.idx, .string (bs n.text)] 61)).drew (w7.setCell ⟨bl, k, none⟩ (.slice A9 (mid.length + 1) c9)) from by
                    have eL : (lnkD (l.take k) ++ mid :: List.replicate (l.length - k - 1) [])[k]'HKL.out = mid := by
                      have := HXR.out
                      rw [List.getElem?_eq_getElem HKL.out] at this
                      injection this
                    have h := GIn.link_ (cl := l.length) (y := ⟨F, k, n⟩) G7.out (by rw [show (lnkD (l.take k) ++ mid :: List.replicate (l.length - k - 1) []).length = l.length from by rw [List.length_append, List.length_cons, List.length_replicate, HLD.out]; omega]) HKL.out HXV.out HG7.out (by rw [eL]; exact HOW7.out) HAT7.out
                    rw [eL, set_mid HLD.out] at h
                    exact h)
                  have ZX8 := Lib.hid (HC7.out.far (p := ⟨bl, k, none⟩) (fun e => own_blk_ne HLN.out HC7.out (by decide) (by rw [e]; rfl)) (.slice A9 (mid.length + 1) c9))
                  have HKP8 := Lib.hid ((HKP6.out.trans (Kept.of_below LG HBQ.out)).trans HL.out.2.2)
                  have HBW8 := Lib.hid (HBW6.out.trans ((HBQ.out.mono hw16).trans HL.out.2.1))
                  have G8 := Lib.hid HL.out.1
                  clear HL HC7 HLN HOW7 HG7 HAT7 HBQ HXO HXN HXV HXR HKL ZX7 G7 G6 G5 HKP6 HBW6 ZX
                  go_upto_region 21 with (fail)
                  generalize w7.setCell ⟨bl, k, none⟩ (.slice A9 (mid.length + 1) c9) = W8 at *
                  by_cases hF0 : 0 ≤ F
                  · obtain ⟨j, rfl⟩ := Int.eq_ofNat_of_zero_le hF0
                    have e9 : decide ((0 : Int) ≤ (j : Int)) = true := decide_eq_true hF0
                    have hjk : j < k := by
                      rcases wrI_mem (wls (l.take k) n) (k : Int) with e | e
                      · rw [HFE.out] at e; omega
                      · rw [HFE.out] at e
                        have := (wls_bd e).2
                        rw [List.length_take] at this
                        omega
                    have hjN : j < l.length := by omega
                    have j7 : (j : Int) < (l.length : Int) := by omega
                    obtain ⟨fl, hfl⟩ : ∃ fl, (lnkD (l.take k)).flatten ++ mid = fl := ⟨_, rfl⟩
                    have HFL := Lib.hid hfl
                    have hfll : fl.length ≤ 2000 := by
                      have := lnkD_flat (l := l.take k) (fun b hb => (HR.out b (List.mem_of_mem_take hb)).2.2.2.1)
                      rw [List.length_take] at this
                      rw [← hfl, List.length_append]
                      omega
                    rw [hfl] at G8 HU5
                    have hju : j < (UT l.length fl).length := by rw [UT_len]; exact hjN
                    have HJU := Lib.hid hju
                    obtain ⟨row, hrow⟩ : ∃ row, (UT l.length fl)[j]'hju = row := ⟨_, rfl⟩
                    have hrl2 : row.length ≤ 2000 := by
                      rw [← hrow, UT_get]
                      exact Nat.le_trans (List.length_filter_le _ _) hfll
                    have HROW := Lib.hid hrow
                    have HXR := Lib.hid (show (UT l.length fl)[j]? = some row by rw [List.getElem?_eq_getElem hju, hrow])
                    obtain ⟨xv, hxv⟩ : ∃ xv, vU[j]? = some xv := ⟨_, List.getElem?_eq_getElem (by rw [G8.out.lu.lenU, UT_len]; exact hjN)⟩
                    have HXV := Lib.hid hxv
                    have hx8 := G8.out.lu.eu _ _ _ hxv HXR.out
                    obtain ⟨Ax, cx, rfl, _⟩ := own_len hx8
                    have HXN := Lib.hid (HU5.out _ _ _ hxv HXR.out)
                    have hw18 : w1.heap.size ≤ W8.heap.size := HBW8.out.size
                    clear hfl hrow hxv hx8 HU5 hfll hF0
                    have z0 := ZX8.out.cell 0
                    simp only [qB, qC, qD] at z0
                    go_upto_region 22 with (fail)
                    clear z0
                    have hbq := ((Below.refl W8.heap.size W8).alloc (Nat.le_refl _) (.cells #[.int .i64 j, .int .i64 k, .int .i64 n.kind, .string (bs n.owner), .int .i64 n.num, .int .i64 n.idx, .string (bs n.text)] 61)).drew
                    have G7 := Lib.hid (G8.out.next hbq)
                    have ZX7 := Lib.hid (ZX8.out.next hbq ZX8.out.lt)
                    have HXO := Lib.hid (G7.out.lu.eu _ _ _ HXV.out HXR.out)
                    have HBQ := Lib.hid hbq
                    have x1 := G8.out.blk.cell 2
                    have xk := own_cell1 G8.out.lu.us HXV.out
                    have hbl := own_lt G8.out.lu.us (g := bu) rfl
                    have z0 := ZX8.out.cell 0
                    have z1 := ZX8.out.cell 1
                    have z2 := ZX8.out.cell 2
                    have z3 := ZX8.out.cell 3
                    have z4 := ZX8.out.cell 4
                    have z5 := ZX8.out.cell 5
                    have z6 := ZX8.out.cell 6
                    simp only [qB, qC, qD] at x1 z0 z1 z2 z3 z4 z5 z6
                    clear hbq
                    refine wp_region_noPanic ?_
                    refine wp_region_last (S := (fun (w' : World) => w'.cell? ⟨g, 2, none⟩ = some (.slice (some ⟨bu, 0, none⟩) l.length l.length) ∧ w'.cell? ⟨bu, j, none⟩ = some (.slice Ax row.length cx) ∧ w'.cell? ⟨xb, 0, none⟩ = some (.int .i64 j) ∧ w'.cell? ⟨xb, 1, none⟩ = some (.int .i64 k) ∧ w'.cell? ⟨xb, 2, none⟩ = some (.int .i64 n.kind) ∧ w'.cell? ⟨xb, 3, none⟩ = some (.string (bs n.owner)) ∧ w'.cell? ⟨xb, 4, none⟩ = some (.int .i64 n.num) ∧ w'.cell? ⟨xb, 5, none⟩ = some (.int .i64 n.idx) ∧ w'.cell? ⟨xb, 6, none⟩ = some (.string (bs n.text)))) 18 18 rfl (by kernel_rfl) (by kernel_rfl) ?_ (fun hHeld => ?_)
                    · exact ⟨x1, xk, z0, z1, z2, z3, z4, z5, z6⟩
                    refine tk (v := ?_) 0 rfl (by kernel_rfl) (fun _ _ _ h => h) ?_ hHeld ?_
                    rotate_left
                    · (intro w h; (try dsimp only at h); go_simp; try with_reducible rfl)
                    try simp only [Act.put, pB, pC, pD]
                    refine tk (v := ?_) 1 rfl (by kernel_rfl) (fun _ _ _ h => h) ?_ hHeld ?_
                    rotate_left
                    · (intro w h; (try dsimp only at h); go_simp; try with_reducible rfl)
                    try simp only [Act.put, pB, pC, pD]
                    refine tk (v := ?_) 2 rfl (by kernel_rfl) (fun _ _ _ h => h) ?_ hHeld ?_
                    rotate_left
                    · (intro w h; (try dsimp only at h); go_simp; try with_reducible rfl)
                    try simp only [Act.put, pB, pC, pD]
                    refine tk (v := ?_) 3 rfl (by kernel_rfl) (fun _ _ _ h => h) ?_ hHeld ?_
                    rotate_left
                    · (intro w h; (try dsimp only at h); go_simp; try with_reducible rfl)
                    try simp only [Act.put, pB, pC, pD]
                    refine tk (v := ?_) 4 rfl (by kernel_rfl) (fun _ _ _ h => h) ?_ hHeld ?_
                    rotate_left
                    · (intro w h; (try dsimp only at h); go_simp; try with_reducible rfl)
                    try simp only [Act.put, pB, pC, pD]
                    refine tk (v := ?_) 5 rfl (by kernel_rfl) (fun _ _ _ h => h) ?_ hHeld ?_
                    rotate_left
                    · (intro w h; (try dsimp only at h); go_simp; try with_reducible rfl)
                    try simp only [Act.put, pB, pC, pD]
                    refine tk (v := ?_) 6 rfl (by kernel_rfl) (fun _ _ _ h => h) ?_ hHeld ?_
                    rotate_left
                    · (intro w h; (try dsimp only at h); go_simp; try with_reducible rfl)
                    try simp only [Act.put, pB, pC, pD]
                    refine tk (v := ?_) 7 rfl (by kernel_rfl) (fun _ _ _ h => h) ?_ hHeld ?_
                    rotate_left
                    · (intro w h; (try dsimp only at h); go_simp; try with_reducible rfl)
                    try simp only [Act.put, pB, pC, pD]
                    refine tk (v := ?_) 8 rfl (by kernel_rfl) (fun _ _ _ h => h) ?_ hHeld ?_
                    rotate_left
                    · (intro w h; (try dsimp only at h); go_simp; try with_reducible rfl)
                    try simp only [Act.put, pB, pC, pD]
                    refine tk (v := ?_) 9 rfl (by kernel_rfl) (fun _ _ _ h => h) ?_ hHeld ?_
                    rotate_left
                    · (intro w h; (try dsimp only at h); go_simp; try with_reducible rfl)
                    try simp only [Act.put, pB, pC, pD]
                    refine tk (v := ?_) 10 rfl (by kernel_rfl) (fun _ _ _ h => h) ?_ hHeld ?_
                    rotate_left
                    · (intro w h; (try dsimp only at h); go_simp; try with_reducible rfl)
                    try simp only [Act.put, pB, pC, pD]
                    refine tk (v := ?_) 11 rfl (by kernel_rfl) (fun _ _ _ h => h) ?_ hHeld ?_
                    rotate_left
                    · (intro w h; (try dsimp only at h); go_simp; try with_reducible rfl)
                    try simp only [Act.put, pB, pC, pD]
                    refine tk (v := ?_) 12 rfl (by kernel_rfl) (fun _ _ _ h => h) ?_ hHeld ?_
                    rotate_left
                    · (intro w h; (try dsimp only at h); go_simp; try with_reducible rfl)
                    try simp only [Act.put, pB, pC, pD]
                    refine tk (v := ?_) 13 rfl (by kernel_rfl) (fun _ _ _ h => h) ?_ hHeld ?_
                    rotate_left
                    · (intro w h; (try dsimp only at h); go_simp; try with_reducible rfl)
                    try simp only [Act.put, pB, pC, pD]
                    refine tk (v := ?_) 14 rfl (by kernel_rfl) (fun _ _ _ h => h) ?_ hHeld ?_
                    rotate_left
                    · (intro w h; (try dsimp only at h); go_simp; try with_reducible rfl)
                    try simp only [Act.put, pB, pC, pD]
                    refine wpAnyH_ready (rs := [15]) (by kernel_rfl) (by simp) ?_
                    refine AllReadyH.cons rfl (fun K hK => ?_) AllReadyH.nil
                    go_simp
                    refine hK.out _ _ ?_ (fun hNew => ?_)
                    · exact ⟨(World.cell?_alloc_lt W8 _ _ G8.out.blk.lt).trans x1, (World.cell?_alloc_lt W8 _ _ hbl).trans xk, (World.cell?_alloc_lt W8 _ _ ZX8.out.lt).trans z0, (World.cell?_alloc_lt W8 _ _ ZX8.out.lt).trans z1, (World.cell?_alloc_lt W8 _ _ ZX8.out.lt).trans z2, (World.cell?_alloc_lt W8 _ _ ZX8.out.lt).trans z3, (World.cell?_alloc_lt W8 _ _ ZX8.out.lt).trans z4, (World.cell?_alloc_lt W8 _ _ ZX8.out.lt).trans z5, (World.cell?_alloc_lt W8 _ _ ZX8.out.lt).trans z6⟩
                    clear hK K hHeld
                    have hHeld := hNew
                    clear hNew
                    try simp only [Act.put, pB, pC, pD]
                    refine wpAnyH_ready (rs := [16]) (by kernel_rfl) (by simp) ?_
                    refine AllReadyH.cons rfl (fun K hK => ?_) AllReadyH.nil
                    refine step_append_w _ (by rfl) _ _ _ (by rfl) w1.heap.size 61 i0 _ 7 72 Tryz.underlying52 hi hz0 hz1 hz2 rfl (by omega) (.slice Ax row.length cx) row.length (row.flatMap lkC) (by rfl) HXO.out (.slice (some ⟨W8.heap.size, 0, none⟩) 1 1) 1 [.int .i64 j, .int .i64 k, .int .i64 n.kind, .string (bs n.owner), .int .i64 n.num, .int .i64 n.idx, .string (bs n.text)] (by rfl) (Rd.of_own (own_new W8 0 61 7 [.int .i64 j, .int .i64 k, .int .i64 n.kind, .string (bs n.owner), .int .i64 n.num, .int .i64 n.idx, .string (bs n.text)] rfl (Nat.zero_le _))) (by omega) (by rfl) (by simp [Value.oneCell']) (by unfold maxLen; omega) (by omega) (by simp; omega) ?_; intro v7 w7 hown7 hg7 hat7; obtain ⟨A9, c9, rfl, _⟩ := own_len hown7; have hB7 := G7.out.blk.grown hg7 (fun e => own_blk_ne HXO.out G7.out.blk (by decide) e.symm); have hC7 := ZX7.out.grown hg7 (fun e => HXN.out e.symm); have HOW7 := Lib.hid hown7; have HG7 := Lib.hid hg7; have HAT7 := Lib.hid hat7; have HC7 := Lib.hid hC7; have hln := own_grown G7.out.lu.us HXO.out hg7 (.inl (by decide)); have HLN := Lib.hid hln; have r1 := hB7.cell 2; have rk := own_cell1 hln HXV.out; have rf := own_frozen1 hln j; have e0 := hC7.cell 0; have e1 := hC7.cell 1; have e2 := hC7.cell 2; have e3 := hC7.cell 3; have e4 := hC7.cell 4; have e5 := hC7.cell 5; have e6 := hC7.cell 6; (simp only [qB, qC, qD] at r1 e0 e1 e2 e3 e4 e5 e6); clear hown7 hg7 hat7 hB7 hC7 hln
                    refine hK.out _ _ ?_ (fun hNew => ?_)
                    · exact ⟨r1, rk, e0, e1, e2, e3, e4, e5, e6⟩
                    clear hK K hHeld
                    have hHeld := hNew
                    clear hNew
                    try simp only [Act.put, pB, pC, pD]
                    refine tk (v := ?_) 17 rfl (by kernel_rfl) (fun _ _ _ h => h) ?_ hHeld ?_
                    rotate_left
                    · (intro w h; (try dsimp only at h); go_simp; try with_reducible rfl)
                    try simp only [Act.put, pB, pC, pD]
                    refine wpAnyH_done (by kernel_rfl) ?_ _
                    refine lastQ_step rfl (fun K hK => ?_)
                    clear hHeld
                    go_simp
                    refine hK _ _ ?_
                    clear hK K
                    refine NoPanic.normal ?_
                    clear x1 xk r1 rk rf z0 e0 z1 e1 z2 e2 z3 e3 z4 e4 z5 e5 z6 e6 hbl
                    have HL := Lib.hid (show GIn (w7.setCell ⟨bu, j, none⟩ (.slice A9 (row.length + 1) c9)) w1.heap.size g (.slice A7 (ks.length + 1) c7) (.slice (some ⟨bl, 0, none⟩) l.length l.length) (.slice (some ⟨bu, 0, none⟩) l.length l.length) bw (ks ++ [a.key]) _ (vU.set j (.slice A9 (row.length + 1) c9)) (lnkD (l.take k) ++ (mid ++ [⟨(j : Int), k, n⟩]) :: List.replicate (l.length - k - 1) []) (UT l.length (fl ++ [⟨(j : Int), k, n⟩])) (wls (l.take k)) ∧ Below w1.heap.size (W8.alloc (.cells #[.int .i64 j, .int .i64 k, .int .i64 n.kind, .string (bs n.owner), .int .i64 n.num, .int .i64 n.idx, .string (bs n.text)] 61)).drew (w7.setCell ⟨bu, j, none⟩ (.slice A9 (row.length + 1) c9)) ∧ Kept LG (W8.alloc (.cells #[.int .i64 j, .int .i64 k, .int .i64 n.kind, .string (bs n.owner), .int .i64 n.num, .int .i64 n.idx, .string (bs n.text)] 61)).drew (w7.setCell ⟨bu, j, none⟩ (.slice A9 (row.length + 1) c9)) from by
                      have h := GIn.use_ (cl := l.length) (y := ⟨(j : Int), k, n⟩) G7.out (by rw [UT_len]) HJU.out HXV.out HG7.out (by rw [HROW.out]; exact HOW7.out) HAT7.out
                      rw [← UT_add _ _ _ j HJU.out rfl] at h
                      exact h)
                    have HKP9 := Lib.hid ((HKP8.out.trans (Kept.of_below LG HBQ.out)).trans HL.out.2.2)
                    have HBW9 := Lib.hid (HBW8.out.trans ((HBQ.out.mono hw18).trans HL.out.2.1))
                    have G9 := Lib.hid HL.out.1
                    clear HL HC7 HLN HOW7 HG7 HAT7 HBQ HXO HXN HXV HXR ZX7 G7 G8 HKP8 HBW8 ZX8
                    go_wp2_with fail
                    go_roundw
                    case rel => exact ⟨m + 1, by omega, by go_num, ⟨_, _, by
                      rw [HY.out, ← List.append_assoc, HFL.out]
                      exact G9.out⟩, HKP9.out, HBW9.out⟩
                    case measure => have := HNL.out; simp [intOf]; omega
                  · have e9 : decide ((0 : Int) ≤ F) = false := decide_eq_false hF0
                    have HF0 := Lib.hid hF0
                    have z0 := ZX8.out.cell 0
                    simp only [qB, qC, qD] at z0
                    clear hF0 HU5
                    go_wp2_with fail
                    go_roundw
                    case rel => exact ⟨m + 1, by omega, by go_num, ⟨_, _, by
                      rw [HY.out, ← List.append_assoc, UT_neg _ _ _ (show (⟨F, k, n⟩ : Lk).frm < 0 by have := HF0.out; simp only; omega)]
                      exact G8.out⟩, HKP8.out, HBW8.out⟩
                    case measure => have := HNL.out; simp [intOf]; omega
              · have hmn : ¬ m < ns.length := by have := HNL.out; omega
                have HME := Lib.hid (show m = a.reads.length by omega)
                have j6 : decide ((m : Int) < (ns.length : Int)) = false := decide_eq_false (by omega)
                have j6n : decide (m < ns.length) = false := decide_eq_false hmn
                have HLT := Lib.hid (show lnkD (l.take (k + 1)) = lnkD (l.take k) ++ [lnkA (l.take k) a] by rw [lnkD_take l k hk, HAE.out])
                have G9 : Hid (GIn wr w1.heap.size g (.slice A7 (ks.length + 1) c7) (.slice (some ⟨bl, 0, none⟩) l.length l.length) (.slice (some ⟨bu, 0, none⟩) l.length l.length) bw (ks ++ [a.key]) vL vU (lnkD (l.take (k + 1)) ++ List.replicate (l.length - (k + 1)) []) (UT l.length (lnkD (l.take (k + 1))).flatten) (wlsT (l.take k) (a.writes.take 0))) := Lib.hid (by
                  have h := GR.out
                  have e1 : (lnkA (l.take k) a).take m = lnkA (l.take k) a := List.take_of_length_le (by unfold lnkA; rw [List.length_map]; have := HME.out; omega)
                  rw [e1] at h
                  rw [HLT.out, List.flatten_append, List.append_assoc, show l.length - (k + 1) = l.length - k - 1 by omega]
                  simp only [List.flatten_cons, List.flatten_nil, List.append_nil, List.singleton_append]
                  exact h.data fun n => by rw [List.take_zero, wlsT_nil])
                have Z9 := Lib.hid (Z4.out.keep HKP.out rfl)
                have N9 := Lib.hid (NAc.keep HKP.out rfl N4.out)
                clear hm GR Z4 N4 HS4
                have z5 := Z9.out.cell 5
                simp only [qB, qC, qD] at z5
                have H0 : Hid (Db4 l k a ks w1 wr g bl bu bw (.slice A7 (ks.length + 1) c7) vL vU (.int .i64 (0 : Nat)) wr) := Lib.hid ⟨0, Nat.zero_le _, rfl, G9.out, Kept.refl _ _, Below.refl _ _⟩
                go_upto_region 25 with (fail)
                clear z5 hmn j6 j6n
                obtain ⟨w9, hw9⟩ : ∃ w9 : World, w9 = wr := ⟨_, rfl⟩
                subst hw9
                go_loopw [116] (fun i wr => Db4 l k a ks w1 w9 g bl bu bw (.slice A7 (ks.length + 1) c7) vL vU i wr) (fun i _ => a.writes.length - (intOf i).toNat)
                case atStart => exact H0.out
                case round =>
                  clear H0 G9
                  obtain ⟨q, hql, rfl, hgi, hkp, hbw9⟩ := hrel
                  have HKQ := Lib.hid hkp
                  have HB9 := Lib.hid hbw9
                  have GR := Lib.hid hgi
                  clear hkp hbw9 hgi
                  by_cases hq : q < a.writes.length
                  · have jq0 : (0 : Int) ≤ (q : Int) := by omega
                    have jq1 : (q : Int) < (a.writes.length : Int) := by omega
                    have jq2 : decide ((q : Int) < (a.writes.length : Int)) = true := decide_eq_true jq1
                    obtain ⟨b, o, hbe, hbw', y0, y1, y2, y3, y4, y5, y6⟩ := RdCh.piece (show RdCh wr (.slice A2 a.writes.length c2) a.writes from (NAc.keep HKQ.out rfl N9.out).2) hq
                    subst hbe
                    have HTW := Lib.hid (show a.writes.take (q + 1) = a.writes.take q ++ [a.writes[q]] from List.take_succ_eq_append_getElem hq)
                    obtain ⟨ch, hch⟩ : ∃ ch, a.writes[q] = ch := ⟨_, rfl⟩
                    rw [hch] at y0 y1 y2 y3 y4 y5 y6 HTW
                    clear hch
                    go_upto_region 27 with (fail)
                    have hbb := (Below.refl wr.heap.size wr).alloc (Nat.le_refl _) (.cells #[.int .i64 ch.name.kind, .string (bs ch.name.owner), .int .i64 ch.name.num, .int .i64 ch.name.idx, .string (bs ch.name.text), .string (bs ch.value), .bool ch.absent] 105)
                    have VB := Lib.hid (GR.out.next hbb)
                    have ZC := Lib.hid (Blk.new wr 105 #[.int .i64 ch.name.kind, .string (bs ch.name.owner), .int .i64 ch.name.num, .int .i64 ch.name.idx, .string (bs ch.name.text), .string (bs ch.value), .bool ch.absent])
                    have HKB := Lib.hid (HKQ.out.trans (Kept.of_below LG hbb))
                    have hws := HB9.out.size
                    have hw19 : w1.heap.size ≤ w9.heap.size := HBW.out.size
                    have HBB := Lib.hid (HB9.out.trans (hbb.mono (Nat.le_trans hw19 hws)))
                    clear y0 y1 y2 y3 y4 y5 y6 hbb GR HKQ HB9 hbw'
                    generalize wr.alloc (.cells #[.int .i64 ch.name.kind, .string (bs ch.name.owner), .int .i64 ch.name.num, .int .i64 ch.name.idx, .string (bs ch.name.text), .string (bs ch.value), .bool ch.absent] 105) = wb at *
                    generalize wr.heap.size = cc at *
                    have x4 := VB.out.blk.cell 3
                    have v0 := ZC.out.cell 0
                    have v1 := ZC.out.cell 1
                    have v2 := ZC.out.cell 2
                    have v3 := ZC.out.cell 3
                    have v4 := ZC.out.cell 4
                    have v5 := ZC.out.cell 5
                    have v6 := ZC.out.cell 6
                    simp only [qB, qC, qD] at x4 v0 v1 v2 v3 v4 v5 v6
                    have hbq := ((Below.refl wb.heap.size wb).alloc (Nat.le_refl _) (.cells #[.int .i64 k] 3)).drew
                    have VQ := Lib.hid (VB.out.next hbq)
                    have ZQ := Lib.hid (ZC.out.next hbq ZC.out.lt)
                    have HBQ := Lib.hid hbq
                    obtain ⟨ents, Ad, cd, hm, hve, hown, hback⟩ := VQ.out.wr_ ch.name
                    obtain ⟨dl, hdl⟩ : ∃ dl, wlsT (l.take k) (a.writes.take q) ch.name = dl := ⟨_, rfl⟩
                    simp only [hdl] at hve hown hback
                    have HDL := Lib.hid hdl
                    have hdn : dl.length ≤ 2000 := by
                      rw [← hdl]
                      unfold wlsT
                      have h1 := wls_len (l := l.take k) (fun b hb => (HR.out b (List.mem_of_mem_take hb)).2.2.2.2) (by rw [List.length_take]; omega) ch.name
                      have h2 := filt_len (a.writes.take q) ch.name
                      have h3 := List.length_take_le q a.writes
                      simp only [List.length_append, List.length_map]
                      omega
                    have HM := Lib.hid hm
                    have HVE := Lib.hid hve
                    have HOWN := Lib.hid hown
                    have HBACK := Lib.hid hback
                    clear hm hve hown hback hdl hbq
                    obtain ⟨i0, hi, hz0, hz1, hz2⟩ := info_parts infoIn
                    refine wp_region_noPanic ?_
                    refine wp_region_last (S := (fun (w' : World) => w'.cell? ⟨g, 3, none⟩ = some (.map (some bw)) ∧ w'.cell? ⟨cc, 0, none⟩ = some (.int .i64 ch.name.kind) ∧ w'.cell? ⟨cc, 1, none⟩ = some (.string (bs ch.name.owner)) ∧ w'.cell? ⟨cc, 2, none⟩ = some (.int .i64 ch.name.num) ∧ w'.cell? ⟨cc, 3, none⟩ = some (.int .i64 ch.name.idx) ∧ w'.cell? ⟨cc, 4, none⟩ = some (.string (bs ch.name.text)) ∧ w'.cell? ⟨cc, 5, none⟩ = some (.string (bs ch.value)) ∧ w'.cell? ⟨cc, 6, none⟩ = some (.bool ch.absent))) 12 12 rfl (by kernel_rfl) (by kernel_rfl) ?_ (fun hHeld => ?_)
                    · exact ⟨x4, v0, v1, v2, v3, v4, v5, v6⟩
                    refine tk (v := ?_) 0 rfl (by kernel_rfl) (fun _ _ _ h => h) ?_ hHeld ?_
                    rotate_left
                    · (intro w h; (try dsimp only at h); go_simp; try with_reducible rfl)
                    try simp only [Act.put, pB, pC, pD]
                    refine tk (v := ?_) 1 rfl (by kernel_rfl) (fun _ _ _ h => h) ?_ hHeld ?_
                    rotate_left
                    · (intro w h; (try dsimp only at h); go_simp; try with_reducible rfl)
                    try simp only [Act.put, pB, pC, pD]
                    refine tk (v := ?_) 2 rfl (by kernel_rfl) (fun _ _ _ h => h) ?_ hHeld ?_
                    rotate_left
                    · (intro w h; (try dsimp only at h); go_simp; try with_reducible rfl)
                    try simp only [Act.put, pB, pC, pD]
                    refine tk (v := ?_) 3 rfl (by kernel_rfl) (fun _ _ _ h => h) ?_ hHeld ?_
                    rotate_left
                    · (intro w h; (try dsimp only at h); go_simp; try with_reducible rfl)
                    try simp only [Act.put, pB, pC, pD]
                    refine tk (v := ?_) 4 rfl (by kernel_rfl) (fun _ _ _ h => h) ?_ hHeld ?_
                    rotate_left
                    · (intro w h; (try dsimp only at h); go_simp; try with_reducible rfl)
                    try simp only [Act.put, pB, pC, pD]
                    refine tk (v := ?_) 5 rfl (by kernel_rfl) (fun _ _ _ h => h) ?_ hHeld ?_
                    rotate_left
                    · (intro w h; (try dsimp only at h); go_simp; try with_reducible rfl)
                    try simp only [Act.put, pB, pC, pD]
                    refine tk (v := ?_) 6 rfl (by kernel_rfl) (fun _ _ _ h => h) ?_ hHeld ?_
                    rotate_left
                    · (intro w h; (try dsimp only at h); go_simp; try with_reducible rfl)
                    try simp only [Act.put, pB, pC, pD]
                    refine wpAnyH_ready (rs := [7]) (by kernel_rfl) (by simp) ?_
                    refine AllReadyH.cons rfl (fun K hK => ?_) AllReadyH.nil
                    go_simp
                    refine hK.out _ _ ?_ (fun hNew => ?_)
                    · exact ⟨(World.cell?_alloc_lt wb _ _ VB.out.blk.lt).trans x4, (World.cell?_alloc_lt wb _ _ ZC.out.lt).trans v0, (World.cell?_alloc_lt wb _ _ ZC.out.lt).trans v1, (World.cell?_alloc_lt wb _ _ ZC.out.lt).trans v2, (World.cell?_alloc_lt wb _ _ ZC.out.lt).trans v3, (World.cell?_alloc_lt wb _ _ ZC.out.lt).trans v4, (World.cell?_alloc_lt wb _ _ ZC.out.lt).trans v5, (World.cell?_alloc_lt wb _ _ ZC.out.lt).trans v6⟩
                    clear hK K hHeld
                    have hHeld := hNew
                    clear hNew
                    try simp only [Act.put, pB, pC, pD]
                    refine wpAnyH_ready (rs := [8]) (by kernel_rfl) (by simp) ?_
                    refine AllReadyH.cons rfl (fun K hK => ?_) AllReadyH.nil
                    refine step_entry_nm _ (by rfl) _ _ 116 (by rfl) Tryz.underlying116 (zeroinC _) bw ents (by rfl) HM.out ch.name (by rfl) (.slice Ad dl.length cd) HVE.out ?_; intro w6 st hg6 hm6 hst; have hG6 := blk_map VQ.out.blk HM.out hg6; have hC6 := blk_map ZQ.out HM.out hg6; have HW6 := Lib.hid (own_map HOWN.out HM.out hg6); have HN6 := Lib.hid (own_map (show (wb.alloc (.cells #[.int .i64 k] 3)).drew.ownsRow 0 3 1 (.slice (some ⟨wb.heap.size, 0, none⟩) 1 1) 1 [.int .i64 k] from own_new wb 0 3 1 [.int .i64 k] rfl (Nat.zero_le _)) HM.out hg6); have HG6 := Lib.hid hg6; have HBG := Lib.hid hG6; have HBC := Lib.hid hC6; have HM6 := Lib.hid hm6; have HST := Lib.hid hst; have g6 := hG6.cell 3; have e0 := hC6.cell 0; have e1 := hC6.cell 1; have e2 := hC6.cell 2; have e3 := hC6.cell 3; have e4 := hC6.cell 4; have e5 := hC6.cell 5; have e6 := hC6.cell 6; (simp only [qB, qC, qD] at g6 e0 e1 e2 e3 e4 e5 e6); clear hg6 hm6 hst hG6 hC6
                    refine hK.out _ _ ?_ (fun hNew => ?_)
                    · exact ⟨g6, e0, e1, e2, e3, e4, e5, e6⟩
                    clear hK K hHeld
                    have hHeld := hNew
                    clear hNew
                    try simp only [Act.put, pB, pC, pD]
                    refine tk (v := ?_) 9 rfl (by kernel_rfl) (fun _ _ _ h => h) ?_ hHeld ?_
                    rotate_left
                    · (intro w h; (try dsimp only at h); go_simp; try with_reducible rfl)
                    try simp only [Act.put, pB, pC, pD]
                    refine tk (v := ?_) 11 rfl (by kernel_rfl) (fun _ _ _ h => h) ?_ hHeld ?_
                    rotate_left
                    · (intro w h; (try dsimp only at h); go_simp; try with_reducible rfl)
                    try simp only [Act.put, pB, pC, pD]
                    refine wpAnyH_ready (rs := [10]) (by kernel_rfl) (by simp) ?_
                    refine AllReadyH.cons rfl (fun K hK => ?_) AllReadyH.nil
                    refine step_append_w _ (by rfl) _ _ _ (by rfl) 0 3 i0 _ 1 8 Tryz.underlying33 hi hz0 hz1 hz2 rfl (by omega) (.slice Ad dl.length cd) dl.length (dl.flatMap inC) (by rfl) HW6.out (.slice (some ⟨wb.heap.size, 0, none⟩) 1 1) 1 [.int .i64 k] (by rfl) (Rd.of_own HN6.out) (by omega) (by rfl) (by simp [Value.oneCell']) (by unfold maxLen; omega) (by omega) (by omega) ?_; intro v7 w7 hown7 hg7 hat7; obtain ⟨A9, c9, rfl, _⟩ := own_len hown7; have hG7 := HBG.out.grown hg7 (fun e => own_blk_ne HW6.out HBG.out (by decide) e.symm); have hC7 := HBC.out.grown hg7 (fun e => own_blk_ne HW6.out HBC.out (by decide) e.symm); obtain ⟨es6, cl6, hm6⟩ := HM6.out; have hb7 : w7.heap[bw]? = w6.heap[bw]? := hg7.block bw (Array.getElem?_eq_some_iff.1 hm6).1 (fun e => own_not_map HW6.out hm6 e.symm); obtain ⟨w8', hrun8, hm8, hg8⟩ := HST.out w7 (.slice A9 (dl.length + 1) c9) hb7; have HB7 := Lib.hid hb7; have HOW7 := Lib.hid hown7; have HG7 := Lib.hid hg7; have HAT7 := Lib.hid hat7; have HM8 := Lib.hid hm8; have HG8 := Lib.hid hg8; have HMM := Lib.hid hm6; have r6 := hG7.cell 3; have tt0 := hC7.cell 0; have tt1 := hC7.cell 1; have tt2 := hC7.cell 2; have tt3 := hC7.cell 3; have tt4 := hC7.cell 4; have tt5 := hC7.cell 5; have tt6 := hC7.cell 6; (simp only [qB, qC, qD] at r6 tt0 tt1 tt2 tt3 tt4 tt5 tt6); clear hown7 hg7 hat7 hG7 hC7 hm6 hb7 hm8 hg8
                    refine hK.out _ _ ?_ (fun hNew => ?_)
                    · exact ⟨r6, tt0, tt1, tt2, tt3, tt4, tt5, tt6⟩
                    clear hK K hHeld
                    have hHeld := hNew
                    clear hNew
                    try simp only [Act.put, pB, pC, pD]
                    refine wpAnyH_done (by kernel_rfl) ?_ _
                    refine lastQ_step rfl (fun K hK => ?_)
                    clear hHeld
                    go_simp
                    refine hK _ _ ?_
                    clear hK K
                    refine NoPanic.normal ?_
                    clear x4 g6 r6 v0 e0 tt0 v1 e1 tt1 v2 e2 tt2 v3 e3 tt3 v4 e4 tt4 v5 e5 tt5 v6 e6 tt6 hrun8
                    go_wp2_with fail
                    go_roundw
                    case rel =>
                      obtain ⟨h9, h10, h11⟩ := HBACK.out w7 w8' (.slice A9 (dl.length + 1) c9) (k : Int) (((Chg.refl _ _ _).map_ HG6.out).row_ HG7.out) ⟨es6, cl6, HB7.out.trans HMM.out⟩ HOW7.out (by rcases HAT7.out with h | h; exact .inl h; exact .inr ⟨_, h, HG6.out.size⟩) HM8.out HG8.out
                      refine ⟨q + 1, by omega, by go_num, h9.data (fun n => ?_), (HKB.out.trans (Kept.of_below LG HBQ.out)).trans h11, HBB.out.trans ((HBQ.out.mono (Nat.le_trans hw19 (by have := HBB.out.size; omega))).trans h10)⟩
                      rw [HTW.out, wlsT_snoc, HDL.out, show (l.take k).length = k by rw [List.length_take]; omega]
                    case measure => simp [intOf]; omega
                  · have jq : decide ((q : Int) < (a.writes.length : Int)) = false := decide_eq_false (by omega)
                    have HQE := Lib.hid (show a.writes.take q = a.writes by rw [List.take_of_length_le (by omega)])
                    go_wp2_with fail
                    go_roundw
                    case rel =>
                      refine ⟨k + 1, by omega, by go_num, ⟨(.slice A7 (ks.length + 1) c7), vL, vU, ?_⟩, HBW.out.trans HB9.out⟩
                      have h := GR.out
                      rw [HQE.out] at h
                      rw [show (l.take (k + 1)).map Ac.key = ks ++ [a.key] by rw [List.take_succ_eq_append_getElem hk, List.map_append, HKS.out, HAE.out]; rfl]
                      exact h.data fun n => by rw [List.take_succ_eq_append_getElem hk, HAE.out, wls_snoc]
                    case measure => simp [intOf]; omega
      · have j3 : decide ((k : Int) < (l.length : Int)) = false := decide_eq_false (by omega)
        obtain ⟨vk, vL, vU, hgi⟩ := hgi
        have hkn : k = l.length := by omega
        have HG := Lib.hid hgi
        have HKN := Lib.hid hkn
        clear hgi hkn
        go_wp2_with fail
        go_ret2
        have e1 := HG.out
        rw [HKN.out, List.take_length, Nat.sub_self, List.replicate_zero, List.append_nil] at e1
        have hb := HB1.out
        obtain ⟨p1, p2, p3, p4, p5⟩ := e1
        exact ⟨g, rfl, ⟨_, _, _, _, _, _, GIn.base ⟨p1, p2, p3, p4, p5⟩ hb.size⟩, hb.trans (HBW.out.mono hb.size)⟩
end Go.Proofs.YtamjllakfgphnaaGreatDoor
namespace Go.Proofs.YtamjllakfgphnaaGreatDoor
open Go.RowKit Go.MapKept Go.ChangeMaps
set_option linter.unusedSimpArgs false
set_option linter.unusedVariables false
theorem putM_new {κ ν : Type} [DecidableEq κ] (n : κ) (x : ν) : ∀ l : List (κ × ν), (lookM n l).isSome = false → putM n x l = l ++ [(n, x)]
  | [], _ => rfl
  | (a, v) :: l, h => by
    simp only [lookM] at h
    simp only [putM]
    split
    · rename_i e; rw [if_pos e] at h; cases h
    · rename_i e; rw [if_neg e] at h
      rw [putM_new n x l h]; rfl
end Go.Proofs.YtamjllakfgphnaaGreatDoor
namespace Go.Proofs.YtamjllakfgphnaaGreatDoor
set_option linter.unusedSimpArgs false
set_option linter.unusedVariables false
inductive Rch (S : Int → Int → Prop) (o : Int) : Int → Prop
  | base : Rch S o o
  | next {i j : Int} (h : Rch S o i) (s : S i j) : Rch S o j
theorem rch_iff {S : Int → Int → Prop} {o : Int} {D : List Int} (h0 : o ∈ D) (h1 : ∀ i ∈ D, Rch S o i) (h2 : ∀ i ∈ D, ∀ j, S i j → j ∈ D) (j : Int) : j ∈ D ↔ Rch S o j := by
  refine ⟨h1 j, fun h => ?_⟩
  induction h with
  | base => exact h0
  | next _ s ih => exact h2 _ ih _ s
theorem asc_ext : ∀ {a b : List Int}, a.Pairwise (· < ·) → b.Pairwise (· < ·) → (∀ x, x ∈ a ↔ x ∈ b) → a = b
  | [], [], _, _, _ => rfl
  | [], y :: b, _, _, h => by have := (h y).2 (by simp); cases this
  | x :: a, [], _, _, h => by have := (h x).1 (by simp); cases this
  | x :: a, y :: b, ha, hb, h => by
    rw [List.pairwise_cons] at ha hb
    have hxy : x = y := by
      rcases List.mem_cons.1 ((h x).1 (by simp)) with e | hx
      · exact e
      · rcases List.mem_cons.1 ((h y).2 (by simp)) with e | hy
        · exact e.symm
        · have := hb.1 x hx; have := ha.1 y hy; omega
    subst hxy
    rw [asc_ext ha.2 hb.2 fun z => ?_]
    have hz := h z
    simp only [List.mem_cons] at hz
    constructor
    · intro hm
      rcases hz.1 (.inr hm) with e | e
      · subst e; have := ha.1 _ hm; omega
      · exact e
    · intro hm
      rcases hz.2 (.inr hm) with e | e
      · subst e; have := hb.1 _ hm; omega
      · exact e
def prK (ks : List Ky) (i : Int) : Option Bs := match ks[i.toNat]? with
  | some k => if k.cls = 0 then none else some k.lin
  | none => none
def trn (ks : List Ky) (m : Bs) : List Int := ((List.range ks.length).filter fun (i : Nat) => prK ks (i : Int) == some m).map fun (i : Nat) => (i : Int)
theorem trn_mem {ks : List Ky} {m : Bs} {j : Int} : j ∈ trn ks m ↔ 0 ≤ j ∧ j < (ks.length : Int) ∧ prK ks j = some m := by
  unfold trn
  simp only [List.mem_map, List.mem_filter, List.mem_range, beq_iff_eq]
  constructor
  · rintro ⟨i, ⟨h1, h2⟩, rfl⟩
    exact ⟨by omega, by omega, h2⟩
  · rintro ⟨h1, h2, h3⟩
    refine ⟨j.toNat, ⟨by omega, ?_⟩, by omega⟩
    rw [show ((j.toNat : Nat) : Int) = j by omega]
    exact h3
theorem trn_len (ks : List Ky) (m : Bs) : (trn ks m).length ≤ ks.length := by
  unfold trn
  rw [List.length_map]
  exact Nat.le_trans (List.length_filter_le _ _) (by simp)
theorem trn_snoc (ks : List Ky) (k : Ky) (m : Bs) : trn (ks ++ [k]) m = if k.cls = 0 ∨ k.lin ≠ m then trn ks m else trn ks m ++ [(ks.length : Int)] := by
  unfold trn
  rw [List.length_append, List.length_singleton, List.range_succ, List.filter_append, List.map_append]
  have h1 : (List.range ks.length).filter (fun (i : Nat) => prK (ks ++ [k]) (i : Int) == some m) = (List.range ks.length).filter fun (i : Nat) => prK ks (i : Int) == some m := by
    refine List.filter_congr fun i hi => ?_
    rw [List.mem_range] at hi
    unfold prK
    rw [Int.toNat_natCast, List.getElem?_append_left hi]
  rw [h1]
  have h2 : prK (ks ++ [k]) (ks.length : Int) = if k.cls = 0 then none else some k.lin := by
    unfold prK
    rw [Int.toNat_natCast, List.getElem?_append_right (Nat.le_refl _)]
    simp
  by_cases h3 : k.cls = 0
  · rw [if_pos (.inl h3), List.filter_cons_of_neg (by rw [h2, if_pos h3]; simp)]
    simp
  · by_cases h4 : k.lin = m
    · rw [if_neg (by simp [h3, h4]), List.filter_cons_of_pos (by rw [h2, if_neg h3, h4]; simp)]
      simp
    · rw [if_pos (.inr h4), List.filter_cons_of_neg (by rw [h2, if_neg h3]; simpa using h4)]
      simp
def stp (L : List (List Lk)) (ks : List Ky) (i j : Int) : Prop :=
  (∃ x ∈ L.getD i.toNat [], 0 ≤ x.frm ∧ x.frm = j) ∨ (∃ m, prK ks i = some m ∧ j ∈ trn ks m)
def clIn : List Int → List Int × List Int → List Int × List Int
  | [], s => s
  | j :: r, s => clIn r (if j ∈ s.1 then s else (s.1 ++ [j], s.2 ++ [j]))
theorem clIn_new : ∀ (nx D Q : List Int), D.Nodup → ∃ new, clIn nx (D, Q) = (D ++ new, Q ++ new) ∧ (D ++ new).Nodup ∧ (∀ j ∈ new, j ∈ nx) ∧ ∀ j ∈ nx, j ∈ D ++ new
  | [], D, Q, h => ⟨[], by simp [clIn], by simpa using h, by simp, by simp⟩
  | j :: r, D, Q, h => by
    simp only [clIn]
    by_cases hj : j ∈ D
    · rw [if_pos hj]
      obtain ⟨new, h1, h2, h3, h4⟩ := clIn_new r D Q h
      exact ⟨new, h1, h2, fun x hx => List.mem_cons_of_mem _ (h3 x hx), fun x hx => by
        rcases List.mem_cons.1 hx with rfl | hx
        · exact List.mem_append_left _ hj
        · exact h4 x hx⟩
    · rw [if_neg hj]
      have hn : (D ++ [j]).Nodup := by
        rw [List.nodup_append]
        exact ⟨h, by simp, fun a ha b hb => by simp only [List.mem_singleton] at hb; subst hb; exact fun e => hj (e ▸ ha)⟩
      obtain ⟨new, h1, h2, h3, h4⟩ := clIn_new r (D ++ [j]) (Q ++ [j]) hn
      refine ⟨j :: new, by simpa using h1, by simpa using h2, fun x hx => ?_, fun x hx => ?_⟩
      · rcases List.mem_cons.1 hx with rfl | hx
        · simp
        · exact List.mem_cons_of_mem _ (h3 x hx)
      · rcases List.mem_cons.1 hx with rfl | hx
        · simp
        · have := h4 x hx
          simpa using this
structure CI (L : List (List Lk)) (ks : List Ky) (o : Int) (D Q : List Int) (T : Bs → List Int) : Prop where
  nd : D.Nodup
  rch : ∀ i ∈ D, Rch (stp L ks) o i
  rng : ∀ i ∈ D, 0 ≤ i ∧ i < (ks.length : Int)
  org : o ∈ D
  q : ∀ i ∈ Q, i ∈ D
  t : ∀ m, T m = trn ks m ∨ (T m = [] ∧ ∀ j ∈ trn ks m, j ∈ D)
  cl : ∀ i ∈ D, i ∈ Q ∨ ∀ j, stp L ks i j → j ∈ D
theorem nd_le {N : Nat} {D : List Int} (hd : D.Nodup) (hr : ∀ i ∈ D, 0 ≤ i ∧ i < (N : Int)) : D.length ≤ N := by
  have h1 : (D.map Int.toNat).Nodup := by
    rw [List.Nodup, List.pairwise_map]
    refine List.Pairwise.imp_of_mem ?_ hd
    intro a b ha hb hab e
    have := hr a ha
    have := hr b hb
    omega
  have := nodup_lt_length N _ h1 (fun x hx => by
    obtain ⟨y, hy, rfl⟩ := List.mem_map.1 hx
    have := hr y hy
    omega)
  simpa using this
theorem CI.le {L : List (List Lk)} {ks : List Ky} {o : Int} {D Q : List Int} {T : Bs → List Int} (h : CI L ks o D Q T) : D.length ≤ ks.length := nd_le h.nd h.rng
theorem CI.start {L : List (List Lk)} {ks : List Ky} {o : Int} (h0 : 0 ≤ o) (h1 : o < (ks.length : Int)) : CI L ks o [o] [o] (trn ks) :=
  ⟨by simp, fun i hi => by simp only [List.mem_singleton] at hi; subst hi; exact .base, fun i hi => by simp only [List.mem_singleton] at hi; subst hi; exact ⟨h0, h1⟩, by simp, by simp, fun m => .inl rfl, fun i hi => .inl hi⟩
def nxt (L : List (List Lk)) (ks : List Ky) (T : Bs → List Int) (i : Int) : List Int := (srcsF (L.getD i.toNat [])) ++ (match prK ks i with | some m => T m | none => [])
where srcsF (row : List Lk) : List Int := (row.filter fun x => decide (0 ≤ x.frm)).map Lk.frm
def trnX (ks : List Ky) (T : Bs → List Int) (i : Int) : Bs → List Int := fun x => if prK ks i = some x then [] else T x
theorem nxt_stp {L : List (List Lk)} {ks : List Ky} {o : Int} {D Q : List Int} {T : Bs → List Int} (h : CI L ks o D Q T) {i j : Int} (hj : j ∈ nxt L ks T i) : stp L ks i j := by
  unfold nxt nxt.srcsF at hj
  rcases List.mem_append.1 hj with hj | hj
  · obtain ⟨x, hx, rfl⟩ := List.mem_map.1 hj
    obtain ⟨hx, h0⟩ := List.mem_filter.1 hx
    exact .inl ⟨x, hx, of_decide_eq_true h0, rfl⟩
  · cases hp : prK ks i with
    | none => rw [hp] at hj; cases hj
    | some m =>
      rw [hp] at hj
      simp only at hj
      refine .inr ⟨m, hp, ?_⟩
      rcases h.t m with e | ⟨e, _⟩
      · rw [← e]; exact hj
      · rw [e] at hj; cases hj
theorem CI.step {L : List (List Lk)} {ks : List Ky} {o : Int} {D Q : List Int} {T : Bs → List Int} {i : Int} (h : CI L ks o D (i :: Q) T) (hL : ∀ x ∈ L.getD i.toNat [], x.frm < (ks.length : Int)) {S : List Int × List Int} (hS : clIn (nxt L ks T i) (D, i :: Q) = S) :
    CI L ks o S.1 S.2.tail (trnX ks T i) ∧ ks.length - S.1.length + S.2.tail.length = ks.length - D.length + Q.length := by
  obtain ⟨new, h1, h2, h3, h4⟩ := clIn_new (nxt L ks T i) D (i :: Q) h.nd
  rw [h1] at hS
  subst hS
  have hi : i ∈ D := h.q i (by simp)
  have hstp : ∀ j ∈ new, stp L ks i j := fun j hj => nxt_stp h (h3 j hj)
  have hrng : ∀ j ∈ D ++ new, 0 ≤ j ∧ j < (ks.length : Int) := fun j hj => by
    rcases List.mem_append.1 hj with hj | hj
    · exact h.rng j hj
    · rcases hstp j hj with ⟨x, hx, h0, rfl⟩ | ⟨m, _, hm⟩
      · exact ⟨h0, hL x hx⟩
      · have := trn_mem.1 hm
        exact ⟨this.1, this.2.1⟩
  have hle := nd_le h2 hrng
  rw [List.length_append] at hle
  refine ⟨⟨h2, ?_, hrng, List.mem_append_left _ h.org, ?_, ?_, ?_⟩, ?_⟩
  · intro j hj
    rcases List.mem_append.1 hj with hj | hj
    · exact h.rch j hj
    · exact .next (h.rch i hi) (hstp j hj)
  · intro j hj
    simp only [List.cons_append, List.tail_cons] at hj
    rcases List.mem_append.1 hj with hj | hj
    · exact List.mem_append_left _ (h.q j (by simp [hj]))
    · exact List.mem_append_right _ hj
  · intro m
    unfold trnX
    by_cases hm : prK ks i = some m
    · rw [if_pos hm]
      refine .inr ⟨rfl, fun j hj => ?_⟩
      rcases h.t m with e | ⟨_, e⟩
      · refine h4 j ?_
        unfold nxt
        rw [hm]
        simp only
        rw [e]
        exact List.mem_append_right _ hj
      · exact List.mem_append_left _ (e j hj)
    · rw [if_neg hm]
      rcases h.t m with e | ⟨e, e2⟩
      · exact .inl e
      · exact .inr ⟨e, fun j hj => List.mem_append_left _ (e2 j hj)⟩
  · intro j hj
    simp only [List.cons_append, List.tail_cons]
    rcases List.mem_append.1 hj with hj | hj
    · by_cases hji : j = i
      · subst hji
        right
        intro y hy
        rcases hy with ⟨x, hx, h0, rfl⟩ | ⟨m, hm, hy⟩
        · refine h4 _ (List.mem_append_left _ ?_)
          unfold nxt.srcsF
          exact List.mem_map.2 ⟨x, List.mem_filter.2 ⟨hx, decide_eq_true h0⟩, rfl⟩
        · rcases h.t m with e | ⟨_, e⟩
          · refine h4 y ?_
            unfold nxt
            rw [hm]
            simp only
            rw [e]
            exact List.mem_append_right _ hy
          · exact List.mem_append_left _ (e y hy)
      · rcases h.cl j hj with hq | hc
        · rcases List.mem_cons.1 hq with e | hq
          · exact absurd e hji
          · exact .inl (List.mem_append_left _ hq)
        · exact .inr fun y hy => List.mem_append_left _ (hc y hy)
    · exact .inl (List.mem_append_right _ hj)
  · simp only [List.cons_append, List.tail_cons, List.length_append]
    omega
theorem CI.fin {L : List (List Lk)} {ks : List Ky} {o : Int} {D : List Int} {T : Bs → List Int} (h : CI L ks o D [] T) (j : Int) : j ∈ D ↔ Rch (stp L ks) o j :=
  rch_iff h.org h.rch (fun i hi => by
    rcases h.cl i hi with hq | hc
    · cases hq
    · exact hc) j
structure Clo (L : List (List Lk)) (ks : List Ky) (o : Int) (S : List Int) : Prop where
  asc : S.Pairwise (· < ·)
  mem : ∀ j, j ∈ S ↔ Rch (stp L ks) o j
  rng : ∀ i ∈ S, 0 ≤ i ∧ i < (ks.length : Int)
def srtI (l : List Int) : List Int := l.mergeSort fun x y => decide (x ≤ y)
theorem srtI_mem {l : List Int} {x : Int} : x ∈ srtI l ↔ x ∈ l := (List.mergeSort_perm l _).mem_iff
theorem srtI_len (l : List Int) : (srtI l).length = l.length := (List.mergeSort_perm l _).length_eq
theorem srtI_le (l : List Int) : (srtI l).Pairwise (fun a b => a ≤ b) := by
  have := List.pairwise_mergeSort (le := fun x y : Int => decide (x ≤ y)) (fun a b c h1 h2 => by simp only [decide_eq_true_eq] at *; omega) (fun a b => by simp only [Bool.or_eq_true, decide_eq_true_eq]; omega) l
  exact this.imp fun h => of_decide_eq_true h
theorem srtI_asc {l : List Int} (h : l.Nodup) : (srtI l).Pairwise (· < ·) := by
  have h1 := srtI_le l
  have h2 : (srtI l).Nodup := (List.mergeSort_perm l _).nodup_iff.2 h
  refine List.Pairwise.imp ?_ (h1.and h2)
  intro a b hab
  have := hab.1
  have := hab.2
  omega
theorem srtI_perm {a b : List Int} (ha : a.Nodup) (h : a.Perm b) : srtI a = srtI b :=
  asc_ext (srtI_asc ha) (srtI_asc (h.nodup_iff.1 ha)) fun x => by rw [srtI_mem, srtI_mem, h.mem_iff]
theorem CI.clo {L : List (List Lk)} {ks : List Ky} {o : Int} {D : List Int} {T : Bs → List Int} (h : CI L ks o D [] T) : Clo L ks o (srtI D) :=
  ⟨srtI_asc h.nd, fun j => by rw [srtI_mem]; exact h.fin j, fun i hi => h.rng i (srtI_mem.1 hi)⟩
def inpK (ks : List Ky) (S : List Int) : List Int := S.filterMap fun i => match ks[i.toNat]? with
  | some k => if k.cls = 0 then some k.num else none
  | none => none
def linK (ks : List Ky) (S : List Int) : List Bs := S.filterMap (prK ks)
end Go.Proofs.YtamjllakfgphnaaGreatDoor
namespace Go.Proofs.YtamjllakfgphnaaGreatDoor
open Go.RowKit Go.Sort Go.Shelf
set_option linter.unusedSimpArgs false
set_option linter.unusedVariables false
attribute [local go_sem ↓] Go.wp_at_zero Go.wp_at_succ
theorem fm_in (l : List Int) : l.flatMap inC = l.map (Value.int .i64) := by
  induction l with
  | nil => rfl
  | cons a l ih => rw [List.flatMap_cons, ih]; rfl
theorem isort_is {w : World} {B : Nat} {v : Value} {l : List Int} (h : w.ownsRow B 3 1 v l.length (l.flatMap inC)) (hm : l.length ≤ 1000000) (hB : B ≤ w.heap.size) :
    Calls Tryz.prog 68 #[v] w fun e w' => e = .returned (.tuple #[]) ∧ w'.ownsRow B 3 1 v (srtI l).length ((srtI l).flatMap inC) ∧ w.grownBy w' v.ownBlock ∧ Go.RowKit.Below B w w' := by
  rw [fm_in] at h
  rw [fm_in, srtI_len]
  by_cases h0 : l.length = 0
  · obtain ⟨A, c, rfl, hc⟩ := own_len h
    have hnil : l = [] := List.eq_nil_of_length_eq_zero h0
    subst hnil
    refine (AnyG.slices_Sort_int_none laidSortI A c w).mono ?_
    rintro e w' ⟨rfl, rfl⟩
    rw [show srtI [] = [] by simp [srtI]]
    exact ⟨rfl, h, World.grownBy.refl _ _, Below.refl _ _⟩
  · obtain ⟨hlen, ⟨_, h1⟩ | ⟨g, c, cur, hv, hg, hh, h1, h2, h3, h4⟩⟩ := h
    · exact absurd h1 h0
    subst hv
    have hcs : ∀ j (hj : j < l.length), cur[j]? = some (.int .i64 l[j]) := fun j hj => by
      have h6 := congrArg (fun x => x[j]?) h4
      (try simp only at h6)
      rw [List.getElem?_take_of_lt (by omega), List.getElem?_map, List.getElem?_eq_getElem hj] at h6
      rw [← Array.getElem?_toList, h6]
      rfl
    have hH : Holds (Value.int .i64) w g 0 l.toArray := by
      intro j hj
      have hjl : j < l.length := by simpa using hj
      refine ⟨?_, (show Blk w g _ _ from hh).frozen _⟩
      rw [Nat.zero_add, cell_of_row _ g j _ _ _ hh, hcs j hjl]
      simp [hjl]
    refine (AnyG.slices_Sort_int laidSortI g 0 c l w hH (Array.getElem?_eq_some_iff.1 hh).1 (by omega)).mono ?_
    rintro e w' ⟨rfl, n, os, rfl⟩
    have hcur : l.length ≤ cur.size := by
      have := congrArg List.length h4
      simp at this
      omega
    have hsz : (srtI l).toArray.size = l.length := by simp [srtI_len]
    show _ ∧ (sortWorld (Value.int .i64) w g 0 n (srtI l).toArray os).ownsRow _ _ _ _ _ _ ∧ w.grownBy (sortWorld (Value.int .i64) w g 0 n (srtI l).toArray os) _ ∧ Go.RowKit.Below B w (sortWorld (Value.int .i64) w g 0 n (srtI l).toArray os)
    refine ⟨rfl, ⟨by simp [srtI_len], .inr ⟨g, c, _, rfl, hg, heap_put (Value.int .i64) (off := 0) (srtI l).toArray os hh, h1, h2, ?_, ?_⟩⟩, grownBy_put _ _ _, ?_⟩
    · simpa [putCells] using h3
    · apply List.ext_getElem?
      intro j
      by_cases hj : j < l.length
      · rw [List.getElem?_take_of_lt (by omega), Array.getElem?_toList]
        unfold putCells
        rw [Array.getElem?_mapIdx, Array.getElem?_eq_getElem (by omega)]
        simp only [Option.map_some]
        rw [if_pos ⟨by omega, by omega⟩, List.getElem?_map, List.getElem?_eq_getElem (by rw [srtI_len]; omega)]
        simp [srtI_len, hj]
      · rw [List.getElem?_eq_none (by rw [List.length_take]; omega), List.getElem?_eq_none (by simp [srtI_len]; omega)]
    · exact (Below.refl B w).grown (grownBy_put _ _ _) hB (fun k hk => by injection hk with hk; omega)
set_option maxRecDepth 100000 in
set_option maxHeartbeats 2000000 in
theorem lsort_is {w : World} {v : Value} {l : List Bs} (h : RdSt w v l) (hl5 : ∀ s ∈ l, s ∈ lin5) (hm : l.length ≤ 100000) : Calls Tryz.prog 50 #[v] w fun e w' => ∃ v', e = .returned v' ∧ RdSt w' v' (lsrt l) ∧ Go.RowKit.Below w.heap.size w w' := by
  obtain ⟨A, c, rfl, hc, hcm, hcells⟩ := h
  by_cases h0 : l.length = 0
  · have hnil : l = [] := List.eq_nil_of_length_eq_zero h0
    subst hnil
    have hls : lsrt [] = [] := List.eq_nil_of_length_eq_zero (by
      have := srtL_le []
      unfold lsrt
      rw [dif_pos (by simp)]
      simpa using this)
    rw [hls]
    have hclo : Calls Tryz.prog 88 #[.slice A 0 c] w fun e w' => ∃ A' c', e = .returned (.slice A' 0 c') ∧ c' ≤ maxLen ∧ Go.RowKit.Below w.heap.size w w' := by
      cases A with
      | none =>
        refine (AnyG.slices_Clone_string_nil laidClone 0 c w).mono ?_
        rintro e w' ⟨rfl, rfl⟩
        exact ⟨none, 0, rfl, by unfold maxLen; omega, Below.refl _ _⟩
      | some a =>
        refine (AnyG.slices_Clone_string_zero laidClone a c w).mono ?_
        rintro e w' ⟨v', rfl, hown, _, hb⟩
        obtain ⟨A', c', he, _, hm', _⟩ := Rd.of_own hown
        subst he
        exact ⟨A', c', rfl, hm', hb⟩
    have L0 : SlLaysF0.n6 Tryz.prog _ := { laidSortF with }
    have hsf := fun (A' : Option Addr) (c' : Nat) (w' : World) => AnyF.slices_SortFunc_none L0 A' c' (.func (.func 90) #[] #[]) w'
    clear hcells hls hm h0 hl5
    go_enter Tryz.func50, Tryz.ntmps50
    go_wp2_with (first
      | (go_at_call 88; refine hclo.mono ?_; rintro e w1 ⟨A', c', rfl, hm1, hb1⟩)
      | (go_at_call 89; refine (hsf _ _ _).mono ?_; rintro e w2 ⟨rfl, rfl⟩)
      | (go_at_call 92; refine (AnyG.slices_Compact_string_empty laidCompact _ _ _).mono ?_; rintro e w2 ⟨rfl, rfl⟩))
    go_ret
    exact ⟨_, rfl, ⟨_, _, rfl, Nat.zero_le _, hm1, .inl ⟨rfl, rfl⟩⟩, hb1⟩
  · rcases hcells with ⟨h1, _⟩ | ⟨b, o, cs, fr, rfl, hb, hx⟩
    · exact absurd h1 h0
    rw [fm_st] at hx
    obtain ⟨lN, hlN⟩ : ∃ lN : List LN, lN = l.pmap Subtype.mk hl5 := ⟨_, rfl⟩
    have hval : lN.map Subtype.val = l := by rw [hlN, List.map_pmap]; simp
    have hlen : lN.length = l.length := by rw [← hval, List.length_map]
    have hres : lsrt l = srtL lN := by unfold lsrt; rw [dif_pos hl5, hlN]
    have hclo := AnyG.slices_Clone_string laidClone b o l.length c (l.map bs) w (by simp) (by omega) (fun j hj => by
      simp only [List.length_map] at hj
      rw [cell_of_row _ b (o + j) _ _ _ hb, hx j _ (by rw [List.getElem?_map, List.getElem?_eq_getElem hj]; rfl)]
      simp [List.getD, hj])
    have hmap : ((l.map bs).take l.length).map Value.string = lN.map encLN := by
      rw [List.take_of_length_le (by simp), ← hval, List.map_map, List.map_map]
      rfl
    rw [hmap, ← hlen] at hclo
    have HC := Lib.hid hclo
    have HR := Lib.hid hres
    rw [← hlen] at h0 hm hc ⊢
    clear hclo hres hmap hx hb hcm hval hlN hlen
    go_enter Tryz.func50, Tryz.ntmps50
    go_wp2_with fail
    go_at_call 88
    refine HC.out.mono ?_
    rintro e w1 ⟨v1, rfl, hown1, _, hb1⟩
    obtain ⟨A1, c1, rfl, hc1⟩ := own_len hown1
    obtain ⟨g, rfl⟩ : ∃ g, A1 = some ⟨g, 0, none⟩ := by
      obtain ⟨_, ⟨_, h1⟩ | ⟨g, _, _, hv, _⟩⟩ := id hown1
      · exact absurd h1 h0
      · injection hv with hv _ _
        exact ⟨g, hv⟩
    have HO1 := Lib.hid hown1
    have HB1 := Lib.hid hb1
    clear hown1 hb1 HC
    go_wp2_with fail
    go_at_call 89
    refine (stsort_is lN HO1.out (by omega) (by omega)).mono ?_
    rintro e w2 ⟨rfl, hown2, hg2⟩
    have HO2 := Lib.hid hown2
    have hgl : w.heap.size ≤ g := own_ge HO1.out rfl
    have HB2 := Lib.hid (HB1.out.grown hg2 HB1.out.size (fun k hk => by injection hk with hk; omega))
    clear hown2 hg2
    go_wp2_with fail
    go_at_call 92
    obtain ⟨zs, hzs⟩ : ∃ zs, (srtA lN).toList.map Subtype.val = zs := ⟨_, rfl⟩
    have hzl : zs.length = lN.length := by rw [← hzs, List.length_map, Array.length_toList, srtA_size]
    obtain ⟨hl2, ⟨_, h1⟩ | ⟨g', c', cur, hv, hg, hh, h1, h2, h3, h4⟩⟩ := id HO2.out
    · exact absurd h1 h0
    injection hv with hA _ hcc
    injection hA with hA
    injection hA with hA _ _
    subst hA hcc
    have hcells : ∀ j (hj : j < zs.length), cur[j]? = some (.string (bs zs[j])) := fun j hj => by
      have h6 := congrArg (fun x => x[j]?) h4
      (try simp only at h6)
      subst hzs
      rw [List.getElem?_take_of_lt (by omega), List.getElem?_map] at h6
      rw [← Array.getElem?_toList, h6]
      simp only [List.length_map] at hj
      rw [List.getElem?_eq_getElem hj]
      simp [encLN]
    have hcur : lN.length ≤ cur.size := by
      have := congrArg List.length h4
      simp [srtA_size] at this
      omega
    have hH : Holds encStr w2 g 0 zs.toArray := by
      intro j hj
      have hjl : j < zs.length := by simpa using hj
      refine ⟨?_, (show Blk w2 g _ _ from hh).frozen _⟩
      rw [Nat.zero_add, cell_of_row _ g j _ _ _ hh, hcells j hjl]
      simp [hjl, bs]
    have hcp := AnyG.slices_Compact_string laidCompact g 0 c1 zs w2 hH (by omega) (by omega)
    rw [hzl] at hcp
    refine hcp.mono ?_
    rintro e w3 ⟨rfl, q, rfl⟩
    have hle := compact_le zs
    rw [put_world]
    obtain ⟨d, hd⟩ : ∃ d, (Lib.compact zs ++ List.replicate (lN.length - (Lib.compact zs).length) []).toArray = d := ⟨_, rfl⟩
    have hdl : d.size = lN.length := by rw [← hd]; simp; omega
    have hg3 : w2.grownBy (sortWorld encStr w2 g 0 q d #[]) (some g) := grownBy_put encStr d #[]
    have hho := holds_put (n := q) (off := 0) encStr d #[] hh (by omega)
    have hhe := heap_put (n := q) (off := 0) encStr d #[] hh
    rw [hd]
    have hfin : RdSt (sortWorld encStr w2 g 0 q d #[]) (.slice (some ⟨g, 0, none⟩) (Lib.compact zs).length c1) (Lib.compact zs) := rd_holds (Lib.compact zs) hhe (by omega) h2 fun j hj => by
      have := (hho j (by omega)).1
      rw [Nat.zero_add] at this
      rw [this, ← hd]
      simp [hj, bs]
      rw [List.getElem?_append_left hj, List.getElem?_eq_getElem hj]
      rfl
    have hres : lsrt l = Lib.compact zs := by rw [HR.out, ← hzs]; rfl
    have HF := Lib.hid hfin
    have HRS := Lib.hid hres
    have HB3 := Lib.hid (HB2.out.grown hg3 HB2.out.size (fun k hk => by injection hk with hk; omega))
    clear hfin hres hg3 hho hhe hcp hH hcells hcur hh h4 h3 h2 h1 hl2 HO2 HO1 HB1 HB2
    generalize sortWorld encStr w2 g 0 q d #[] = W3 at *
    generalize (Lib.compact zs).length = nz at *
    go_wp2_with fail
    go_ret
    exact ⟨_, rfl, by rw [HRS.out]; exact HF.out, HB3.out⟩
end Go.Proofs.YtamjllakfgphnaaGreatDoor
namespace Go.Proofs.YtamjllakfgphnaaGreatDoor
open Go.RowKit Go.MapKept Go.ChangeMaps
set_option linter.unusedSimpArgs false
set_option linter.unusedVariables false
def kvE (e : MapEntry) : Value × Value := (e.key, e.val)
def kvNI (p : Int × Value) : Value × Value := (ikV p.1, p.2)
theorem kvN_injI {p q : Int × Value} (h : kvNI p = kvNI q) : p = q := by
  obtain ⟨a, u⟩ := p
  obtain ⟨b, v⟩ := q
  simp only [kvNI, Prod.mk.injEq] at h
  rw [nm_injI h.1, h.2]
def MapItI (w : World) (b r : Nat) (ents left : List (Int × Value)) : Prop :=
  ∃ es c since seen c0, w.heap[b]? = some (.map es c) ∧ es.toList.map kvE = ents.map kvNI ∧ Stamped es c ∧ w.heap[r]? = some (.mapIter (some b) since seen c0) ∧
    (∀ x ∈ es.toList, x.born < since) ∧ since ≤ c0 ∧ since ≤ c ∧ ((leftOf es seen).toList.map kvE).Perm (left.map kvNI)
theorem MapItI.ne {w : World} {b r : Nat} {ents left : List (Int × Value)} (h : MapItI w b r ents left) : r ≠ b := by
  obtain ⟨es, c, since, seen, c0, hb, _, _, hr, _⟩ := h
  intro e
  rw [e, hb] at hr
  cases hr
theorem MapItI.at_ {w : World} {b r : Nat} {ents left : List (Int × Value)} (h : MapItI w b r ents left) : MapAtI w b ents := by
  obtain ⟨es, c, since, seen, c0, hb, he, hs, _⟩ := h
  exact ⟨es, c, hb, he, hs⟩
theorem MapItI.lt {w : World} {b r : Nat} {ents left : List (Int × Value)} (h : MapItI w b r ents left) : r < w.heap.size := by
  obtain ⟨es, c, since, seen, c0, hb, he, hs, hr, _⟩ := h
  exact (Array.getElem?_eq_some_iff.1 hr).1
theorem MapItI.same {w w' : World} {b r : Nat} {ents left : List (Int × Value)} (h : MapItI w b r ents left) (e1 : w'.heap[b]? = w.heap[b]?) (e2 : w'.heap[r]? = w.heap[r]?) : MapItI w' b r ents left := by
  obtain ⟨es, c, since, seen, c0, hb, he, hs, hr, rest⟩ := h
  exact ⟨es, c, since, seen, c0, e1.trans hb, he, hs, e2.trans hr, rest⟩
theorem MapItI.next {w w' : World} {b r : Nat} {ents left : List (Int × Value)} (h : MapItI w b r ents left) (hb : Below w.heap.size w w') : MapItI w' b r ents left :=
  h.same (hb.block b h.at_.lt) (hb.block r h.lt)
theorem MapItI.grown {w w' : World} {b r : Nat} {ents left : List (Int × Value)} {row : Option Nat} (h : MapItI w b r ents left) (hg : w.grownBy w' row) (h1 : some b ≠ row) (h2 : some r ≠ row) : MapItI w' b r ents left :=
  h.same (hg.block b h.at_.lt h1) (hg.block r h.lt h2)
theorem MapItI.size {w : World} {b r : Nat} {ents left : List (Int × Value)} (h : MapItI w b r ents left) : w.rangeLeft b r = left.length := by
  obtain ⟨es, c, since, seen, c0, hb, he, hs, hr, h1, h2, h3, hp⟩ := h
  simp only [World.rangeLeft, hb, hr]
  have := hp.length_eq
  simpa using this
theorem own_not_itI {w : World} {base e s n : Nat} {v : Value} {xs : List Value} {b r : Nat} {ents left : List (Int × Value)} (h : w.ownsRow base e s v n xs) (hi : MapItI w b r ents left) : some b ≠ v.ownBlock ∧ some r ≠ v.ownBlock := by
  obtain ⟨es, c, since, seen, c0, hb, he, hs, hr, _⟩ := hi
  refine ⟨fun e1 => own_not_map h hb e1.symm, fun e1 => ?_⟩
  obtain ⟨_, ⟨hv0, _⟩ | ⟨g, cap, cur, hv, _, hh, _⟩⟩ := h
  · rw [hv0] at e1; cases e1
  · rw [hv] at e1
    injection e1 with e1
    simp only at e1
    subst e1
    rw [hr] at hh
    cases hh
theorem perm_born : ∀ {L : List MapEntry} {e : MapEntry}, (L.map (·.born)).Nodup → e ∈ L → L.Perm (e :: L.filter fun x => !(x.born == e.born))
  | [], _, _, h => by cases h
  | a :: L, e, hn, h => by
    rw [List.map_cons, List.nodup_cons] at hn
    rcases List.mem_cons.1 h with rfl | h
    · have h1 : (e :: L).filter (fun x => !(x.born == e.born)) = L := by
        rw [List.filter_cons_of_neg (by simp)]
        refine List.filter_eq_self.2 fun x hx => ?_
        have : x.born ≠ e.born := fun e1 => hn.1 (by rw [← e1]; exact List.mem_map.2 ⟨x, hx, rfl⟩)
        simpa using this
      rw [h1]
    · have hne : a.born ≠ e.born := fun e1 => hn.1 (by rw [e1]; exact List.mem_map.2 ⟨e, h, rfl⟩)
      rw [List.filter_cons_of_pos (by simpa using hne)]
      exact ((perm_born hn.2 h).cons a).trans (List.Perm.swap e a _)
theorem left_push {es : Array MapEntry} {seen : Array Nat} {e : MapEntry} : (leftOf es (seen.push e.born)).toList = (leftOf es seen).toList.filter fun x => !(x.born == e.born) := by
  unfold leftOf
  rw [Array.toList_filter, Array.toList_filter, List.filter_filter]
  refine List.filter_congr fun x _ => ?_
  rw [contains_push]
  cases seen.contains x.born <;> cases (x.born == e.born) <;> rfl
theorem MapItI.step {w : World} {b r : Nat} {ents left : List (Int × Value)} (h : MapItI w b r ents left) (ty : TypeId) :
    (left = [] ∧ (Instr.next (.pointer (some ⟨r, 0, none⟩)) false ty).run Tryz.prog w = .ok (.tuple #[.bool false]) w) ∨
    ∃ p left' w', left.Perm (p :: left') ∧ p ∈ ents ∧ MapItI w' b r ents left' ∧ w.grownBy w' (some r) ∧ w'.heap.size = w.heap.size ∧ (Instr.next (.pointer (some ⟨r, 0, none⟩)) false ty).run Tryz.prog w = .ok (.tuple #[.bool true, ikV p.1, p.2]) w' ∧
      (Instr.entry (.pointer (some ⟨r, 0, none⟩))).run Tryz.prog w' = .ok (.tuple #[ikV p.1, p.2]) w' := by
  have hne := h.ne
  obtain ⟨es, c, since, seen, c0, hb, he, hs, hr, hold, hsc, hsk, hp⟩ := h
  have hst := (stamped_iff es c).1 hs
  rcases run_next_at (P := Tryz.prog) w ty r b since c0 seen es c hr hb hold hsc with ⟨h0, hrun⟩ | ⟨e, hel, w1, hal, hrun⟩
  · refine .inl ⟨?_, hrun⟩
    have := hp.length_eq
    rw [List.length_map, List.length_map, Array.length_toList, h0] at this
    exact List.length_eq_zero_iff.1 this.symm
  · obtain ⟨hem, hes⟩ := mem_left hel
    have hm : kvE e ∈ left.map kvNI := hp.mem_iff.1 (List.mem_map.2 ⟨e, hel, rfl⟩)
    obtain ⟨p, hpl, hpe⟩ := List.mem_map.1 hm
    obtain ⟨s, t, hst2⟩ := List.append_of_mem hpl
    have hperm : left.Perm (p :: (s ++ t)) := by rw [hst2]; exact List.perm_middle
    have hpents : p ∈ ents := by
      have : kvE e ∈ ents.map kvNI := by rw [← he]; exact List.mem_map.2 ⟨e, hem, rfl⟩
      obtain ⟨q, hq, hqe⟩ := List.mem_map.1 this
      rw [← kvN_injI (hqe.trans hpe.symm)]
      exact hq
    have hnd : ((leftOf es seen).toList.map (·.born)).Nodup := by
      unfold leftOf
      rw [Array.toList_filter]
      exact (List.filter_sublist.map _).nodup hst.2.1
    have hp2 : ((leftOf es (seen.push e.born)).toList.map kvE).Perm ((s ++ t).map kvNI) := by
      rw [left_push]
      have h1 := ((perm_born hnd hel).map kvE).symm.trans (hp.trans (hperm.map kvNI))
      rw [List.map_cons, List.map_cons, hpe] at h1
      exact (List.perm_cons _).1 h1
    have hr1 : w1.heap[r]? = some (.mapIter (some b) since seen c0) := by rcases hal with rfl | rfl <;> exact hr
    have hb1 : w1.heap[b]? = some (.map es c) := by rcases hal with rfl | rfl <;> exact hb
    have hset := heap_set (o' := .mapIter (some b) since (seen.push e.born) c) hr1
    have hb' : (setBlock w1 r (.mapIter (some b) since (seen.push e.born) c)).heap[b]? = some (.map es c) := (hset.2 b (fun e1 => hne e1.symm)).trans hb1
    injection hpe with hk hv
    refine .inr ⟨p, s ++ t, _, hperm, hpents, ⟨es, c, since, seen.push e.born, c, hb', he, hs, hset.1, hold, hsk, hsk, hp2⟩, ?_, ?_, ?_, ?_⟩
    · rcases hal with rfl | rfl <;> exact ⟨rfl, rfl, rfl, by simp [setBlock], fun i _ hi => hset.2 i (fun e1 => hi (by rw [e1]))⟩
    · rcases hal with rfl | rfl <;> simp [setBlock]
    · rw [hk, hv]; exact hrun
    · rw [hk, hv]; exact run_entry_at _ r b since seen es c e hset.1 hb' hem hst.2.1
section
variable (w : World) {ops : Array Oper} {rest : List Oper} {o : Oper} {a : Go.Act} {Q : Exit → Go.Act → World → Prop}
theorem wpList_range_nmI (hg : o.guard = none) (m : Operand) (t : TypeId) (hop : o.op = Op.range t m) {E : TypeId} (ht : Tryz.prog.underlying t = some (.map 3 E)) (b : Nat) (ents : List (Int × Value))
    (hm : a.eval m = .map (some b)) (h : MapAtI w b ents)
    (hK : ∀ w', MapItI w' b w.heap.size ents ents → Below w.heap.size w w' → w'.heap.size = w.heap.size + 1 → wpList Tryz.prog ops Q rest (a.put o.dst (.pointer (some ⟨w.heap.size, 0, none⟩))) w') :
    wpList Tryz.prog ops Q (o :: rest) a w := by
  refine wpList_plain hg fun K' hK' => ?_
  have hlt := h.lt
  obtain ⟨es, c, hb, he, hs⟩ := h
  have hrun := run_range_map (P := Tryz.prog) w t 3 E b es c ht hb
  unfold Oper.wp
  simp [execOp, hop, hm, hrun, Result.andThen]
  refine hK' _ _ (hK _ ⟨es, c, c, #[], c, ((MapKept.heap_alloc w _).2 b hlt).trans hb, he, hs, (MapKept.heap_alloc w _).1, ((stamped_iff es c).1 hs).1, Nat.le_refl _, Nat.le_refl _, ?_⟩ ((Below.refl _ _).alloc (Nat.le_refl _) _) (by simp))
  have h1 : (leftOf es #[]).toList = es.toList := by
    unfold leftOf
    rw [Array.toList_filter]
    exact List.filter_eq_self.2 fun x _ => by simp
  rw [h1, show es.toList.map kvE = ents.map kvNI from he]
theorem wpList_next_nmI (hg : o.guard = none) (it : Operand) (hop : o.op = Op.next it false) (b r : Nat) (ents left : List (Int × Value)) (hit : a.eval it = .pointer (some ⟨r, 0, none⟩)) (h : MapItI w b r ents left)
    (hDone : left = [] → wpList Tryz.prog ops Q rest (a.put o.dst (.tuple #[.bool false])) w)
    (hMore : ∀ (p : Int × Value) (left' : List (Int × Value)) (w' : World), left.Perm (p :: left') → p ∈ ents → MapItI w' b r ents left' → w.grownBy w' (some r) → w'.heap.size = w.heap.size → (Instr.entry (.pointer (some ⟨r, 0, none⟩))).run Tryz.prog w' = .ok (.tuple #[ikV p.1, p.2]) w' → wpList Tryz.prog ops Q rest (a.put o.dst (.tuple #[.bool true, ikV p.1, p.2])) w') :
    wpList Tryz.prog ops Q (o :: rest) a w := by
  refine wpList_plain hg fun K' hK' => ?_
  unfold Oper.wp
  rcases h.step o.type with ⟨h0, hrun⟩ | ⟨p, left', w', h1, h2, h3, h4, h5, hrun, hen⟩
  · simp [execOp, hop, hit, hrun, Result.andThen]
    exact hK' _ _ (hDone h0)
  · simp [execOp, hop, hit, hrun, Result.andThen]
    exact hK' _ _ (hMore p left' w' h1 h2 h3 h4 h5 hen)
end
section
variable {α : Type} {f : α → List Value} {s : Nat} {e : TypeId}
def MapRowsS (e : TypeId) (s : Nat) (f : α → List Value) (w : World) (F : Nat → Prop) (b : Nat) (D : Bs → List α) : Prop :=
  F b ∧ ∃ ents : List (Bs × Value), MapAtS w b ents ∧ (ents.Pairwise fun p q => p.1 ≠ q.1 ∧ p.2.ownBlock ≠ q.2.ownBlock) ∧
    (∀ p ∈ ents, OwnF F e s w p.2 (D p.1).length ((D p.1).flatMap f) ∧ D p.1 ≠ []) ∧ ∀ n, D n ≠ [] → (lookM n ents).isSome = true
theorem MapRowsS.new (w : World) (F : Nat → Prop) (hb : F w.heap.size) : MapRowsS e s f (w.alloc (.map #[] 0)) F w.heap.size (fun _ => []) :=
  ⟨hb, [], MapAtS.new w, List.Pairwise.nil, by simp, by simp⟩
theorem MapRowsS.keep {w w' : World} {F G : Nat → Prop} {b : Nat} {D : Bs → List α} (h : MapRowsS e s f w F b D) (hm : ∀ es c, F b → w.heap[b]? = some (.map es c) → w'.heap[b]? = w.heap[b]?)
    (hs : ∀ g cs, F g → w.heap[g]? = some (.cells cs e (0, 0)) → w'.heap[g]? = w.heap[g]?) (hG : ∀ i, i < w.heap.size → F i → G i) : MapRowsS e s f w' G b D := by
  obtain ⟨h1, ents, h3, h4, h5, h6⟩ := h
  have hmb : w'.heap[b]? = w.heap[b]? := by
    obtain ⟨es, c, hb, _⟩ := h3
    exact hm es c h1 hb
  exact ⟨hG _ h3.lt h1, ents, h3.same hmb, h4, fun p hp => ⟨(h5 p hp).1.keep hs hG, (h5 p hp).2⟩, h6⟩
theorem MapRowsS.next {w w' : World} {F : Nat → Prop} {b : Nat} {D : Bs → List α} (h : MapRowsS e s f w F b D) (hb : Below w.heap.size w w') : MapRowsS e s f w' F b D :=
  h.keep (fun es c _ hh => hb.block _ (Array.getElem?_eq_some_iff.1 hh).1) (fun g cs _ hh => hb.block _ (Array.getElem?_eq_some_iff.1 hh).1) fun _ _ h => h
theorem MapRowsS.data {w : World} {F : Nat → Prop} {b : Nat} {D D' : Bs → List α} (h : MapRowsS e s f w F b D) (hd : ∀ n, D n = D' n) : MapRowsS e s f w F b D' := by
  have : D = D' := funext hd
  rw [← this]; exact h
theorem pair_apartS {l : List (Bs × Value)} (hl : l.Pairwise fun p q => p.1 ≠ q.1 ∧ p.2.ownBlock ≠ q.2.ownBlock) {p q : Bs × Value} (hp : p ∈ l) (hq : q ∈ l) (hpq : p.1 ≠ q.1) : p.2.ownBlock ≠ q.2.ownBlock := by
  induction l with
  | nil => cases hp
  | cons a l ih =>
    obtain ⟨ha, hl⟩ := List.pairwise_cons.1 hl
    rcases List.mem_cons.1 hp with h1 | hp <;> rcases List.mem_cons.1 hq with h2 | hq
    · exact absurd (by rw [h1, h2]) hpq
    · rw [h1]; exact (ha q hq).2
    · rw [h2]; exact fun e => (ha p hp).2 e.symm
    · exact ih hl hp hq
theorem MapRowsS.find {w : World} {F : Nat → Prop} {b : Nat} {D : Bs → List α} (h : MapRowsS e s f w F b D) (n : Bs) :
    ∃ ents, MapAtS w b ents ∧ OwnF F e s w ((lookM n ents).getD (.slice none 0 0)) (D n).length ((D n).flatMap f) := by
  obtain ⟨h1, ents, h3, h4, h5, h6⟩ := h
  refine ⟨ents, h3, ?_⟩
  cases hl : lookM n ents with
  | some v => exact (h5 _ (look_mem hl)).1
  | none =>
    have : D n = [] := Classical.byContradiction fun hd => by
      have := h6 n hd
      rw [hl] at this
      cases this
    rw [this]
    exact ⟨World.ownsRow_nil _ _ _ _, fun g hg => by cases hg⟩
theorem MapRowsS.at_ {w : World} {F : Nat → Prop} {b : Nat} {D : Bs → List α} (h : MapRowsS e s f w F b D) (n : Bs) :
    ∃ ents v, MapAtS w b ents ∧ v = (lookM n ents).getD (.slice none 0 0) ∧ OwnF F e s w v (D n).length ((D n).flatMap f) ∧
      ∀ (w1 w2 : World) (v' : Value) (x : α) (G : Nat → Prop), (∀ i, i < w.heap.size → i ≠ b → some i ≠ v.ownBlock → w1.heap[i]? = w.heap[i]?) → (∃ es c, w1.heap[b]? = some (.map es c)) → w1.ownsRow 0 e s v' ((D n).length + 1) ((D n).flatMap f ++ f x) → (v'.ownBlock = v.ownBlock ∨ ∃ g, v'.ownBlock = some g ∧ w.heap.size ≤ g) → MapAtS w2 b (putM n v' ents) → w1.grownBy w2 (some b) →
        (∀ i, F i → G i) → (∀ i, w.heap.size ≤ i → i < w1.heap.size → G i) → MapRowsS e s f w2 G b (fun m => if m = n then D n ++ [x] else D m) := by
  have hfind := h.find n
  obtain ⟨h1, ents, h3, h4, h5, h6⟩ := h
  have hpn : ents.Pairwise fun p q => p.1 ≠ q.1 := h4.imp fun h => h.1
  have hown0 : OwnF F e s w ((lookM n ents).getD (.slice none 0 0)) (D n).length ((D n).flatMap f) := by
    cases hl : lookM n ents with
    | some v => exact (h5 _ (look_mem hl)).1
    | none =>
      have : D n = [] := Classical.byContradiction fun hd => by
        have := h6 n hd
        rw [hl] at this
        cases this
      rw [this]
      exact ⟨World.ownsRow_nil _ _ _ _, fun g hg => by cases hg⟩
  refine ⟨ents, _, h3, rfl, hown0, ?_⟩
  intro w1 w2 v' x G hg hbm hown hloc hmap hg2 hFG hnew
  have hbl : b < w.heap.size := h3.lt
  obtain ⟨gv, hgv, hgl⟩ := own_some hown (by omega)
  obtain ⟨es0, c0, hb0, _⟩ := id h3
  obtain ⟨es1, c1, hb1⟩ := hbm
  have hold : ∀ p ∈ ents, p.1 ≠ n → ∃ g, p.2.ownBlock = some g ∧ g < w.heap.size ∧ some g ≠ ((lookM n ents).getD (.slice none 0 0)).ownBlock := by
    intro p hp hne
    obtain ⟨k1, k2⟩ := h5 p hp
    obtain ⟨g, hgp, hgl⟩ := own_some k1.1 (by simpa using k2)
    refine ⟨g, hgp, hgl, fun e1 => ?_⟩
    cases hl : lookM n ents with
    | none => rw [hl] at e1; cases e1
    | some u =>
      rw [hl] at e1
      exact pair_apartS h4 hp (look_mem hl) hne (hgp.trans e1)
  have hne' : ∀ p ∈ ents, p.1 ≠ n → p.2.ownBlock ≠ v'.ownBlock := by
    intro p hp hne e1
    obtain ⟨g, k1, k2, k3⟩ := hold p hp hne
    rcases hloc with h | ⟨g2, h, hge⟩
    · exact k3 (by rw [← k1, e1, h])
    · rw [k1, h] at e1
      injection e1 with e1
      omega
  have hkeep : ∀ {v : Value} {n2 : Nat} {xs : List Value}, w1.ownsRow 0 e s v n2 xs → w2.ownsRow 0 e s v n2 xs := fun ho => ho.kept hg2 (.inr (own_not_map ho hb1))
  have hGv : ∀ g, v'.ownBlock = some g → G g := by
    intro g hgg
    rcases hloc with h | ⟨g2, h, hge⟩
    · exact hFG _ (hown0.2 g (by rw [← h]; exact hgg))
    · rw [h] at hgg
      injection hgg with hgg
      subst hgg
      rw [hgv] at h
      injection h with h
      exact hnew _ hge (by omega)
  refine ⟨hFG _ h1, _, hmap, put_pair (R := fun u v => u.ownBlock ≠ v.ownBlock) h4 (fun p hp hne => ⟨hne' p hp hne, fun e => hne' p hp hne e.symm⟩), fun p hp => ?_, fun m hm => ?_⟩
  · rcases mem_put hpn hp with rfl | ⟨hp, hne⟩
    · simp only [if_pos]
      refine ⟨⟨hkeep ?_, hGv⟩, by simp⟩
      rw [List.length_append, List.flatMap_append]
      simpa using hown
    · simp only [if_neg hne]
      obtain ⟨k1, k2⟩ := h5 p hp
      obtain ⟨g, j1, j2, j3⟩ := hold p hp hne
      refine ⟨⟨hkeep (own_same k1.1 fun g' hg' => ?_), fun g hgg => hFG _ (k1.2 g hgg)⟩, k2⟩
      rw [j1] at hg'
      injection hg' with hg'
      subst hg'
      exact hg _ j2 (fun e => own_not_map k1.1 hb0 (by rw [j1, e])) j3
  · rw [look_put]
    by_cases hmn : n = m
    · rw [if_pos hmn]; rfl
    · rw [if_neg hmn]
      simp only [if_neg (fun e : m = n => hmn e.symm)] at hm
      exact h6 m hm
end
def delM {κ ν : Type} [DecidableEq κ] (n : κ) : List (κ × ν) → List (κ × ν)
  | [] => []
  | p :: l => if p.1 = n then l else p :: delM n l
theorem delM_none {κ ν : Type} [DecidableEq κ] {n : κ} : ∀ {l : List (κ × ν)} {i : Nat}, posM n l i = none → delM n l = l
  | [], _, _ => rfl
  | (a, v) :: l, i, h => by
    simp only [posM] at h
    simp only [delM]
    split at h
    · cases h
    · rename_i e
      rw [if_neg e, delM_none h]
theorem delM_some {κ ν : Type} [DecidableEq κ] {n : κ} : ∀ {l : List (κ × ν)} {i j : Nat} {u : ν}, posM n l i = some (j, u) → ∃ k, j = i + k ∧ k < l.length ∧ delM n l = l.eraseIdx k
  | [], _, _, _, h => by simp [posM] at h
  | (a, v) :: l, i, j, u, h => by
    simp only [posM] at h
    simp only [delM]
    split at h
    · rename_i e
      injection h with h
      injection h with h _
      rw [if_pos e]
      exact ⟨0, by omega, by simp, rfl⟩
    · rename_i e
      obtain ⟨k, hk, hl, hd⟩ := delM_some h
      rw [if_neg e, hd]
      exact ⟨k + 1, by omega, by simp; omega, rfl⟩
theorem delM_mem {κ ν : Type} [DecidableEq κ] {n : κ} : ∀ {l : List (κ × ν)} {p : κ × ν}, p ∈ delM n l → p ∈ l
  | [], _, h => h
  | (a, v) :: l, p, h => by
    simp only [delM] at h
    split at h
    · exact List.mem_cons_of_mem _ h
    · rcases List.mem_cons.1 h with rfl | h
      · exact List.mem_cons_self ..
      · exact List.mem_cons_of_mem _ (delM_mem h)
theorem delM_ne {κ ν : Type} [DecidableEq κ] {n : κ} : ∀ {l : List (κ × ν)} {p : κ × ν}, (l.Pairwise fun p q => p.1 ≠ q.1) → p ∈ delM n l → p.1 ≠ n
  | [], _, _, h => by cases h
  | (a, v) :: l, p, hp, h => by
    obtain ⟨h1, h2⟩ := List.pairwise_cons.1 hp
    simp only [delM] at h
    split at h
    · rename_i e
      exact fun e2 => h1 p h (e.trans e2.symm)
    · rename_i e
      rcases List.mem_cons.1 h with rfl | h
      · exact e
      · exact delM_ne h2 h
theorem delM_look {κ ν : Type} [DecidableEq κ] {n m : κ} (hm : m ≠ n) : ∀ {l : List (κ × ν)}, lookM m (delM n l) = lookM m l
  | [] => rfl
  | (a, v) :: l => by
    simp only [delM]
    split
    · rename_i e
      simp only [lookM]
      rw [if_neg (fun e2 => hm (e2.symm.trans e))]
    · simp only [lookM]
      rw [delM_look hm]
theorem delM_sub {κ ν : Type} [DecidableEq κ] {n : κ} : ∀ {l : List (κ × ν)}, (delM n l).Sublist l
  | [] => List.Sublist.slnil
  | (a, v) :: l => by
    simp only [delM]
    split
    · exact List.sublist_cons_self _ _
    · exact (delM_sub (l := l)).cons_cons _
theorem erase_map {α β : Type} (f : α → β) : ∀ (l : List α) (k : Nat), (l.eraseIdx k).map f = (l.map f).eraseIdx k
  | [], _ => rfl
  | a :: l, 0 => rfl
  | a :: l, k + 1 => by simp [erase_map f l k]
theorem erase_toList {α : Type} (a : Array α) (k : Nat) (h : k < a.size) : (a.eraseIdxIfInBounds k).toList = a.toList.eraseIdx k := by
  unfold Array.eraseIdxIfInBounds
  rw [dif_pos h, Array.toList_eraseIdx]
theorem map_delS {w : World} {b : Nat} {ents : List (Bs × Value)} (h : MapAtS w b ents) (n : Bs) {t E ty : TypeId} (ht : Tryz.prog.underlying t = some (.map 22 E)) :
    ∃ w', (Builtin.delete_ #[t, 22] ty #[.map (some b), skV n]).run Tryz.prog w = .ok (.tuple #[]) w' ∧ MapAtS w' b (delM n ents) ∧ w.grownBy w' (some b) := by
  obtain ⟨es, c, hb, he, hs⟩ := h
  have key : ∀ o : Obj, (w.grownBy (setBlock w b o) (some b)) := fun o => ⟨rfl, rfl, rfl, by simp [setBlock], fun i _ hi => heap_setBlock_other hb _ (fun e1 => hi (by rw [e1]))⟩
  cases hp : posM n ents 0 with
  | none =>
    refine ⟨setBlock w b (.map es c), ?_, ⟨es, c, heap_setBlock_same hb _, by rw [delM_none hp]; exact he, hs⟩, key _⟩
    simp [Builtin.delete_, run_underlying ht, MapKept.run_getObj_map hb, chk_nmS, key_nmS n w he, hp, MapKept.run_setObj_map _ hb, Result.andThen, setBlock]
  | some q =>
    obtain ⟨j, u⟩ := q
    obtain ⟨k, hj, hk, hd⟩ := delM_some hp
    rw [Nat.zero_add] at hj
    subst hj
    have hlen : es.size = ents.length := by have := congrArg List.length he; simpa using this
    refine ⟨setBlock w b (.map (es.eraseIdxIfInBounds j) c), ?_, ⟨_, c, heap_setBlock_same hb _, ?_, stamped_erase hs j⟩, key _⟩
    · simp [Builtin.delete_, run_underlying ht, MapKept.run_getObj_map hb, chk_nmS, key_nmS n w he, hp, MapKept.run_setObj_map _ hb, Result.andThen, setBlock]
    · rw [hd, erase_toList _ _ (by omega), erase_map, he, erase_map]
theorem MapRowsS.del {α : Type} {f : α → List Value} {s : Nat} {e : TypeId} {w w2 : World} {F : Nat → Prop} {b : Nat} {D : Bs → List α} {ents : List (Bs × Value)} (h : F b ∧ MapAtS w b ents ∧ (ents.Pairwise fun p q => p.1 ≠ q.1 ∧ p.2.ownBlock ≠ q.2.ownBlock) ∧
    (∀ p ∈ ents, OwnF F e s w p.2 (D p.1).length ((D p.1).flatMap f) ∧ D p.1 ≠ []) ∧ ∀ n, D n ≠ [] → (lookM n ents).isSome = true) (n : Bs) (h2 : MapAtS w2 b (delM n ents)) (hg : w.grownBy w2 (some b)) :
    MapRowsS e s f w2 F b (fun m => if m = n then [] else D m) := by
  obtain ⟨h1, h3, h4, h5, h6⟩ := h
  have hpn : ents.Pairwise fun p q => p.1 ≠ q.1 := h4.imp fun h => h.1
  obtain ⟨es, c, hb, _⟩ := h3
  refine ⟨h1, _, h2, h4.sublist delM_sub, fun p hp => ?_, fun m hm => ?_⟩
  · have hpe := delM_ne hpn hp
    obtain ⟨k1, k2⟩ := h5 p (delM_mem hp)
    simp only [if_neg hpe]
    exact ⟨⟨k1.1.kept hg (.inr (own_not_map k1.1 hb)), k1.2⟩, k2⟩
  · by_cases hmn : m = n
    · simp [hmn] at hm
    · simp only [if_neg hmn] at hm
      rw [delM_look hmn]
      exact h6 m hm
end Go.Proofs.YtamjllakfgphnaaGreatDoor
namespace Go.Proofs.YtamjllakfgphnaaGreatDoor
open Go.RowKit Go.Sort Go.Shelf
set_option linter.unusedSimpArgs false
set_option linter.unusedVariables false
instance : Inhabited Lk := ⟨⟨0, 0, ⟨0, [], 0, 0, []⟩⟩⟩
end Go.Proofs.YtamjllakfgphnaaGreatDoor
namespace Go.Proofs
open Go.Shelf Go.Lib
end Go.Proofs
namespace Go.Proofs.YtamjllakfgphnaaGreatDoor
open Go.RowKit Go.Sort Go.Shelf
end Go.Proofs.YtamjllakfgphnaaGreatDoor
namespace Go.Proofs.YtamjllakfgphnaaGreatDoor
open Go.RowKit
set_option linter.unusedSimpArgs false
set_option linter.unusedVariables false
attribute [local go_sem ↓] Go.wp_at_zero Go.wp_at_succ
def inR (N : Nat) (x : Int) : Bool := decide (0 ≤ x) && decide (x < (N : Int))
def chk2 (N : Nat) (xs : List Int) : Int := if xs.all (inR N) = true then 0 else 2
def gchkRel (xs : List Int) (N : Nat) (w : World) (i : Value) (wr : World) : Prop := ∃ k : Nat, k ≤ xs.length ∧ i = .int .i64 k ∧ (∀ j (h1 : j < xs.length), j < k → inR N xs[j] = true) ∧ Below w.heap.size w wr
theorem GAt.keys {w : World} {B g : Nat} {l : List Ac} (h : GAt w B g l) : ∃ A c, w.cell? ⟨g, 0, none⟩ = some (.slice A l.length c) := by
  obtain ⟨vk, vl, vu, bw, vL, vU, h⟩ := h
  obtain ⟨A, c, rfl, _⟩ := own_len h.ky
  refine ⟨A, c, ?_⟩
  rw [h.blk.cell 0, List.length_map]
  rfl
theorem GAt.lt {w : World} {B g : Nat} {l : List Ac} (h : GAt w B g l) : g < w.heap.size := by
  obtain ⟨vk, vl, vu, bw, vL, vU, h⟩ := h
  exact h.blk.lt
set_option maxRecDepth 100000 in
set_option maxHeartbeats 1000000 in
theorem gcheck_is {w : World} {B g : Nat} {l : List Ac} {v : Value} {xs : List Int} (hg : GAt w B g l) (hx : RdIn w v xs) (hl : l.length ≤ 1000000) (hxl : xs.length ≤ 1000000) : Calls Tryz.prog 43 #[.pointer (some ⟨g, 0, none⟩), v] w fun e w' => e = .returned (.int .i64 (chk2 l.length xs)) ∧ Below w.heap.size w w' := by
  obtain ⟨A1, c1, rfl, hc1⟩ := RdP.form hx
  have H1 := Lib.hid hx
  have HG := Lib.hid hg
  clear hx hg
  have H0 : Hid (gchkRel xs l.length w (.int .i64 (0 : Nat)) w) := Lib.hid ⟨0, Nat.zero_le _, rfl, fun j _ h => by omega, Below.refl _ _⟩
  go_enter Tryz.func43, Tryz.ntmps43
  go_wp2_with fail
  go_loopw [11] (fun i wr => gchkRel xs l.length w i wr) (fun i _ => xs.length - (intOf i).toNat)
  case atStart => exact H0.out
  case round =>
    clear H0
    obtain ⟨k, hkl, rfl, hz, hbw⟩ := hrel
    have HZ := Lib.hid hz
    have HBW := Lib.hid hbw
    clear hz hbw
    by_cases hk : k < xs.length
    · have j1 : (0 : Int) ≤ (k : Int) := by omega
      have j2 : (k : Int) < (xs.length : Int) := by omega
      have j3 : decide ((k : Int) < (xs.length : Int)) = true := decide_eq_true j2
      obtain ⟨b1, o1, hbe, hb1, x0⟩ := RdIn_piece (RdP.next H1.out HBW.out) hk
      subst hbe
      obtain ⟨x, hx⟩ : ∃ x, xs[k] = x := ⟨_, rfl⟩
      rw [hx] at x0
      have HX := Lib.hid hx
      clear hx
      obtain ⟨A, c, y0⟩ := GAt.keys (HG.out.next HBW.out)
      by_cases h0 : 0 ≤ x
      · have d0 : decide (x < 0) = false := decide_eq_false (by omega)
        by_cases h1 : x < (l.length : Int)
        · have d1 : decide ((l.length : Int) ≤ x) = false := decide_eq_false (by omega)
          have HIN := Lib.hid (show inR l.length x = true by unfold inR; rw [decide_eq_true h0, decide_eq_true h1]; rfl)
          clear h0 h1
          go_wp2_with fail
          go_roundw
          case rel => exact ⟨k + 1, by omega, by go_num, fun j h1 h3 => by
            rcases Nat.lt_or_ge j k with h | h
            · exact HZ.out j h1 h
            · obtain rfl : j = k := by omega
              rw [HX.out]; exact HIN.out, HBW.out⟩
          case measure => simp [intOf]; omega
        · have d1 : decide ((l.length : Int) ≤ x) = true := decide_eq_true (by omega)
          have HC := Lib.hid (show chk2 l.length xs = 2 by
            unfold chk2
            rw [if_neg]
            intro h
            have := List.all_eq_true.1 h xs[k] (List.getElem_mem hk)
            rw [HX.out] at this
            unfold inR at this
            simp at this
            omega)
          clear h0 h1
          go_wp2_with fail
          go_ret
          exact ⟨by rw [HC.out]; rfl, HBW.out⟩
      · have d0 : decide (x < 0) = true := decide_eq_true (by omega)
        have HC := Lib.hid (show chk2 l.length xs = 2 by
            unfold chk2
            rw [if_neg]
            intro h
            have := List.all_eq_true.1 h xs[k] (List.getElem_mem hk)
            rw [HX.out] at this
            unfold inR at this
            simp at this
            omega)
        clear h0
        go_wp2_with fail
        go_ret
        exact ⟨by rw [HC.out]; rfl, HBW.out⟩
    · have j3 : decide ((k : Int) < (xs.length : Int)) = false := decide_eq_false (by omega)
      have HC := Lib.hid (show chk2 l.length xs = 0 by
        unfold chk2
        rw [if_pos]
        rw [List.all_eq_true]
        intro y hy
        obtain ⟨j, hj, rfl⟩ := List.getElem_of_mem hy
        exact HZ.out j hj (by omega))
      go_wp2_with fail
      go_ret
      exact ⟨by rw [HC.out]; rfl, HBW.out⟩
theorem glen_is {w : World} {B g : Nat} {l : List Ac} (hg : GAt w B g l) : Calls Tryz.prog 81 #[.pointer (some ⟨g, 0, none⟩)] w fun e w' => e = .returned (.int .i64 l.length) ∧ w = w' := by
  obtain ⟨A, c, y0⟩ := GAt.keys hg
  clear hg
  go_enter Tryz.func81, Tryz.ntmps81
  go_wp2_with fail
  go_ret
  exact ⟨rfl, rfl⟩
theorem tcheck_is {w : World} {F : Nat → Prop} {gx B g : Nat} {s0 : St} {l l2 : List Ac} (hv : VAt w F gx s0 l) (hg : GAt w B g l2) (hl : l.length ≤ 1000000) (hl2 : l2.length ≤ 1000000) : Calls Tryz.prog 40 #[.pointer (some ⟨gx, 0, none⟩), .pointer (some ⟨g, 0, none⟩)] w fun e w' => e = .returned (.int .i64 (if l.length = l2.length then 0 else 10)) ∧ w = w' := by
  have HV := Lib.hid hv
  have HG := Lib.hid hg
  clear hv hg
  obtain ⟨q, hq⟩ : ∃ q, ((l.length : Int) != (l2.length : Int)) = q := ⟨_, rfl⟩
  have HR := Lib.hid (show (if l.length = l2.length then (0 : Int) else 10) = if q = true then 10 else 0 by
    rw [← hq]
    by_cases h : l.length = l2.length
    · simp [h]
    · have : ¬ (l.length : Int) = (l2.length : Int) := by omega
      simp [h, this])
  obtain ⟨ec, hec⟩ : ∃ ec : Int, (if l.length = l2.length then (0 : Int) else 10) = ec := ⟨_, rfl⟩
  rw [hec] at HR ⊢
  clear hec
  go_enter Tryz.func40, Tryz.ntmps40
  go_wp2_with fail
  go_at_call 41
  refine (vlen_is HV.out).mono ?_
  rintro e w' ⟨rfl, rfl⟩
  go_wp2_with fail
  go_at_call 81
  refine (glen_is HG.out).mono ?_
  rintro e w' ⟨rfl, rfl⟩
  cases q with
  | true =>
    go_wp2_with fail
    go_ret
    exact ⟨by rw [HR.out]; rfl, rfl⟩
  | false =>
    go_wp2_with fail
    go_ret
    exact ⟨by rw [HR.out]; rfl, rfl⟩
end Go.Proofs.YtamjllakfgphnaaGreatDoor
namespace Go.Proofs.YtamjllakfgphnaaGreatDoor
open Go.RowKit
set_option linter.unusedSimpArgs false
set_option linter.unusedVariables false
attribute [local go_sem ↓] Go.wp_at_zero Go.wp_at_succ
open Go.MapKept Go.ChangeMaps
theorem GAt.lrow {w : World} {B g : Nat} {l : List Ac} (h : GAt w B g l) {k : Nat} (hk : k < l.length) : ∃ bl c A c2, bl < w.heap.size ∧ w.cell? ⟨g, 1, none⟩ = some (.slice (some ⟨bl, 0, none⟩) l.length c) ∧ w.cell? ⟨bl, k, none⟩ = some (.slice A ((lnkD l)[k]'(by rw [lnkD_len]; exact hk)).length c2) ∧ RdLk w (.slice A ((lnkD l)[k]'(by rw [lnkD_len]; exact hk)).length c2) ((lnkD l)[k]'(by rw [lnkD_len]; exact hk)) := by
  obtain ⟨vk, vl, vu, bw, vL, vU, h⟩ := h
  have hkl : k < vL.length := by rw [h.lu.lenL, lnkD_len]; exact hk
  obtain ⟨hlen, ⟨_, h0⟩ | ⟨bl, c, cur, rfl, hg, hh, h1, h2, h3, h4⟩⟩ := id h.lu.ln
  · rw [lnkD_len] at h0; omega
  have hx := own_cell1 h.lu.ln (List.getElem?_eq_getElem hkl)
  have he := h.lu.el k _ _ (List.getElem?_eq_getElem hkl) (List.getElem?_eq_getElem (by rw [lnkD_len]; exact hk))
  obtain ⟨A, c2, hv, _⟩ := own_len he
  rw [hv] at hx he
  refine ⟨bl, c, A, c2, (Array.getElem?_eq_some_iff.1 hh).1, ?_, hx, Rd.of_own he⟩
  rw [h.blk.cell 1]
  simp [lnkD_len]
theorem lnkF_row_len : ∀ (d r : List Ac), (∀ a ∈ r, a.reads.length ≤ 10) → ∀ x ∈ lnkF d r, x.length ≤ 10
  | d, [], _, x, hx => by cases hx
  | d, a :: r, h, x, hx => by
    simp only [lnkF, List.mem_cons] at hx
    rcases hx with rfl | hx
    · unfold lnkA; rw [List.length_map]; exact h a (by simp)
    · exact lnkF_row_len (d ++ [a]) r (fun b hb => h b (by simp [hb])) x hx
def srcs (row : List Lk) : List Lk := row.filter fun x => decide (0 ≤ x.frm)
def souRel (row : List Lk) (w : World) (v i : Value) (wr : World) : Prop := ∃ m : Nat, m ≤ row.length ∧ i = .int .i64 m ∧ wr.ownsRow w.heap.size 61 7 v (srcs (row.take m)).length ((srcs (row.take m)).flatMap lkC) ∧ Below w.heap.size w wr
theorem rd_new1 (w : World) (x : Int) : RdIn (w.alloc (.cells #[.int .i64 x] 3)) (.slice (some ⟨w.heap.size, 0, none⟩) 1 1) [x] :=
  ⟨_, 1, rfl, Nat.le_refl _, by unfold maxLen; omega, .inr ⟨_, 0, _, _, rfl, heap_alloc_new w _, fun j u hj => by rw [Nat.zero_add, ← Array.getElem?_toList]; exact hj⟩⟩
set_option maxRecDepth 100000 in
set_option maxHeartbeats 4000000 in
theorem sources_is {w : World} {B g : Nat} {l : List Ac} {k : Nat} (hg : GAt w B g l) (hk : k < l.length) (hl : l.length ≤ 100) (hr : ∀ a ∈ l, a.reads.length ≤ 10) : Calls Tryz.prog 84 #[.pointer (some ⟨g, 0, none⟩), .int .i64 k] w fun e w' => ∃ v, e = .returned (.tuple #[v, .int .i64 0]) ∧ RdLk w' v (srcs ((lnkD l)[k]'(by rw [lnkD_len]; exact hk))) ∧ Below w.heap.size w w' := by
  have ha := (Below.refl w.heap.size w).alloc (Nat.le_refl _) (.cells #[.int .i64 k] 3)
  have HA := Lib.hid ha
  have HC := Lib.hid (gcheck_is (hg.next ha) (rd_new1 w k) (by omega) (by simp))
  have HE := Lib.hid (show chk2 l.length [(k : Int)] = 0 by unfold chk2; rw [if_pos]; simp [inR]; omega)
  obtain ⟨row, hrow⟩ : ∃ row, (lnkD l)[k]'(by rw [lnkD_len]; exact hk) = row := ⟨_, rfl⟩
  have hrl : row.length ≤ 10 := by rw [← hrow]; exact lnkF_row_len [] l hr _ (List.getElem_mem _)
  obtain ⟨bl, c, A, c2, g0, g1, g2, g3⟩ := hg.lrow hk
  rw [hrow] at g2 g3 ⊢
  have HX := Lib.hid g3
  have HGL := Lib.hid hg.lt
  have G1 := Lib.hid g1
  have G2 := Lib.hid g2
  have j0 : (0 : Int) ≤ (k : Int) := by omega
  have j1 : (k : Int) < (l.length : Int) := by omega
  clear hg ha hrow g1 g2 g3
  go_enter Tryz.func84, Tryz.ntmps84
  go_wp2_with fail
  go_at_call 43
  refine HC.out.mono ?_
  rintro e w1 ⟨rfl, hb1⟩
  rw [HE.out]
  have HB1 := Lib.hid (HA.out.trans (hb1.mono HA.out.size))
  have g1 := (HB1.out.cell (p := ⟨g, 1, none⟩) HGL.out).trans G1.out
  have g2 := (HB1.out.cell (p := ⟨bl, k, none⟩) g0).trans G2.out
  have H0 : Hid (souRel row w (.slice none 0 0) (.int .i64 (0 : Nat)) w1) := Lib.hid ⟨0, Nat.zero_le _, rfl, World.ownsRow_nil _ _ _ _, HB1.out⟩
  clear hb1 HC HA
  go_wp2_with fail
  clear g1 g2 g0
  go_loopw [7, 25] (fun v i wr => souRel row w v i wr) (fun _ i _ => row.length - (intOf i).toNat)
  case atStart => exact H0.out
  case round =>
    clear H0
    obtain ⟨m, hml, rfl, hown, hbw⟩ := hrel
    obtain ⟨A5, c5, rfl, hc5⟩ := own_len hown
    have HOW := Lib.hid hown
    have HBW := Lib.hid hbw
    clear hown hbw
    by_cases hm : m < row.length
    · have j4 : (0 : Int) ≤ (m : Int) := by omega
      have j5 : (m : Int) < (row.length : Int) := by omega
      have j6 : decide ((m : Int) < (row.length : Int)) = true := decide_eq_true j5
      obtain ⟨xb, xo, hbe, hxb, y0, y1, y2, y3, y4, y5, y6⟩ := RdLk.piece (RdP.next HX.out HBW.out) hm
      subst hbe
      have HTK := Lib.hid (show row.take (m + 1) = row.take m ++ [row[m]] from List.take_succ_eq_append_getElem hm)
      obtain ⟨x, hx⟩ : ∃ x, row[m] = x := ⟨_, rfl⟩
      rw [hx] at y0 y1 y2 y3 y4 y5 y6 HTK
      clear hx
      obtain ⟨ls, hls⟩ : ∃ ls, srcs (row.take m) = ls := ⟨_, rfl⟩
      have hlsl : ls.length ≤ 10 := by rw [← hls]; exact Nat.le_trans (List.length_filter_le _ _) (by rw [List.length_take]; omega)
      have HLS := Lib.hid hls
      rw [hls] at HOW hc5 ⊢
      clear hls
      go_upto_region 8 with (fail)
      have HNE := Lib.hid (show (Value.slice A5 ls.length c5).ownBlock ≠ some wr.heap.size from fun e => by
        obtain ⟨cur, hc⟩ := own_cells_of HOW.out e
        have h1 := (Array.getElem?_eq_some_iff.1 hc).1
        omega)
      have hba := (Below.refl wr.heap.size wr).alloc (Nat.le_refl _) (.cells #[.int .i64 x.frm, .int .i64 x.to_, .int .i64 x.name.kind, .string (bs x.name.owner), .int .i64 x.name.num, .int .i64 x.name.idx, .string (bs x.name.text)] 61)
      have HOW6 := Lib.hid (own_next HOW.out hba)
      have HB6 := Lib.hid (HBW.out.trans (hba.mono HBW.out.size))
      have ZX := Lib.hid (Blk.new wr 61 #[.int .i64 x.frm, .int .i64 x.to_, .int .i64 x.name.kind, .string (bs x.name.owner), .int .i64 x.name.num, .int .i64 x.name.idx, .string (bs x.name.text)])
      clear y0 y1 y2 y3 y4 y5 y6 hba hxb
      generalize wr.alloc (.cells #[.int .i64 x.frm, .int .i64 x.to_, .int .i64 x.name.kind, .string (bs x.name.owner), .int .i64 x.name.num, .int .i64 x.name.idx, .string (bs x.name.text)] 61) = W6 at *
      obtain ⟨cb, hcb⟩ : ∃ cb, wr.heap.size = cb := ⟨_, rfl⟩
      rw [hcb] at ZX HNE ⊢
      clear hcb
      have x0 := ZX.out.cell 0
      have x1 := ZX.out.cell 1
      have x2 := ZX.out.cell 2
      have x3 := ZX.out.cell 3
      have x4 := ZX.out.cell 4
      have x5 := ZX.out.cell 5
      have x6 := ZX.out.cell 6
      simp only [qB, qC, qD] at x0 x1 x2 x3 x4 x5 x6
      by_cases hp : 0 ≤ x.frm
      · have d0 : decide (0 ≤ x.frm) = true := decide_eq_true hp
        have HSN := Lib.hid (show srcs (row.take (m + 1)) = ls ++ [x] by
          rw [HTK.out, ← HLS.out]
          unfold srcs
          rw [List.filter_append]
          simp [hp])
        have hbk := (Below.refl W6.heap.size W6).alloc (Nat.le_refl _) (.cells #[.int .i64 x.frm, .int .i64 x.to_, .int .i64 x.name.kind, .string (bs x.name.owner), .int .i64 x.name.num, .int .i64 x.name.idx, .string (bs x.name.text)] 61)
        have HOW7 := Lib.hid (own_next HOW6.out hbk)
        have ZX7 := Lib.hid (ZX.out.next hbk ZX.out.lt)
        have HB7 := Lib.hid (HB6.out.trans (hbk.mono HB6.out.size))
        obtain ⟨i0, hi, hz0, hz1, hz2⟩ := info_parts infoLk
        clear hbk hp
        go_wp2_with (at_builtin; refine wpList_append_own _ rfl _ _ 52 rfl w.heap.size 61 i0 _ 7 72 Tryz.underlying52 hi hz0 hz1 hz2 rfl (by decide) _ _ _ rfl HOW7.out ⟨W6.heap.size, 0, none⟩ 1 1 [.int .i64 x.frm, .int .i64 x.to_, .int .i64 x.name.kind, .string (bs x.name.owner), .int .i64 x.name.num, .int .i64 x.name.idx, .string (bs x.name.text)] rfl rfl ?c1 ?c2 ?c3 ?c4 ?c5 ?_)
        case c1 => exact fun j u h => newN W6 #[.int .i64 x.frm, .int .i64 x.to_, .int .i64 x.name.kind, .string (bs x.name.owner), .int .i64 x.name.num, .int .i64 x.name.idx, .string (bs x.name.text)] 61 j u h
        case c2 => intro u hu; simp only [List.mem_cons, List.not_mem_nil, or_false] at hu; rcases hu with rfl | rfl | rfl | rfl | rfl | rfl | rfl <;> rfl
        case c3 => unfold maxLen; omega
        case c4 => omega
        case c5 => exact HB7.out.size
        intro v8 w8 hown8 hg8 _
        have HOW8 := Lib.hid (show w8.ownsRow w.heap.size 61 7 v8 (srcs (row.take (m + 1))).length ((srcs (row.take (m + 1))).flatMap lkC) by
          rw [HSN.out, List.length_append, List.flatMap_append]
          simpa [lkC] using hown8)
        have HB8 := Lib.hid (HB7.out.grown hg8 HB7.out.size (fun k hk => own_ge HOW7.out hk))
        clear hown8 hg8 x0 x1 x2 x3 x4 x5 x6 i0 hi hz0 hz1 hz2
        go_wp2_with fail
        go_roundw
        case rel => exact ⟨m + 1, by omega, by go_num, HOW8.out, HB8.out⟩
        case measure => simp [intOf]; omega
      · have d0 : decide (0 ≤ x.frm) = false := decide_eq_false hp
        have HSN := Lib.hid (show srcs (row.take (m + 1)) = ls by
          rw [HTK.out, ← HLS.out]
          unfold srcs
          rw [List.filter_append]
          have hp2 := of_decide_eq_false d0
          simp [hp2])
        clear hp
        go_wp2_with fail
        go_roundw
        case rel => exact ⟨m + 1, by omega, by go_num, by rw [HSN.out]; exact HOW6.out, HB6.out⟩
        case measure => simp [intOf]; omega
    · have j6 : decide ((m : Int) < (row.length : Int)) = false := decide_eq_false (by omega)
      have HSN := Lib.hid (show srcs (row.take m) = srcs row by rw [List.take_of_length_le (by omega)])
      go_wp2_with fail
      go_ret2
      exact ⟨_, rfl, by rw [← HSN.out]; exact Rd.of_own HOW.out, HBW.out⟩
theorem zeroBool (w : World) : (zeroValue 4).run Tryz.prog w = .ok (.bool false) w := by kernel_rfl
def SetAt (w : World) (b : Nat) (D : List Int) : Prop := MapAtI w b (D.map fun n => (n, Value.bool true))
theorem SetAt.next {w w' : World} {b : Nat} {D : List Int} (h : SetAt w b D) (hb : Below w.heap.size w w') : SetAt w' b D := MapAtI.next h hb
theorem look_set (n : Int) : ∀ D : List Int, (lookM n (D.map fun n => (n, Value.bool true))).getD (.bool false) = .bool (decide (n ∈ D))
  | [] => by simp [lookM]
  | a :: D => by
    simp only [List.map_cons, lookM]
    by_cases h : a = n
    · rw [if_pos h]; simp [h]
    · rw [if_neg h, look_set n D]
      have : ¬ n = a := fun e => h e.symm
      simp [this]
theorem has_is {w : World} {b : Nat} {D : List Int} (h : SetAt w b D) (n : Int) : Calls Tryz.prog 85 #[.map (some b), .int .i64 n] w fun e w' => e = .returned (.bool (decide (n ∈ D))) ∧ w = w' := by
  obtain ⟨q, hq⟩ : ∃ q, decide (n ∈ D) = q := ⟨_, rfl⟩
  have hlk := map_lookI h n Tryz.underlying153 (zeroBool w)
  rw [look_set, hq] at hlk
  rw [hq]
  clear hq h
  go_enter Tryz.func85, Tryz.ntmps85
  go_wp2_with fail
  go_ret
  exact ⟨rfl, rfl⟩
end Go.Proofs.YtamjllakfgphnaaGreatDoor
namespace Go.Proofs.YtamjllakfgphnaaGreatDoor
open Go.RowKit Go.MapKept Go.ChangeMaps
set_option linter.unusedSimpArgs false
set_option linter.unusedVariables false
attribute [local go_sem ↓] Go.wp_at_zero Go.wp_at_succ
def srtRel (D : List Int) (b r : Nat) (w : World) (v : Value) (wr : World) : Prop :=
  ∃ (seen : List Int) (left : List (Int × Value)), MapItI wr b r (D.map fun n => (n, Value.bool true)) left ∧ (seen ++ left.map Prod.fst).Perm D ∧ wr.ownsRow w.heap.size 3 1 v seen.length (seen.flatMap inC) ∧ Below w.heap.size w wr
set_option maxRecDepth 100000 in
set_option maxHeartbeats 4000000 in
theorem sorted_set_is {w : World} {b : Nat} {D : List Int} (h : SetAt w b D) (hnd : D.Nodup) (hl : D.length ≤ 1000) : Calls Tryz.prog 86 #[.map (some b)] w fun e w' => ∃ v, e = .returned v ∧ RdIn w' v (srtI D) ∧ Below w.heap.size w w' := by
  have H := Lib.hid h
  have HND := Lib.hid hnd
  obtain ⟨i0, hi, hz0, hz1, hz2⟩ := info_parts infoIn
  obtain ⟨ents, hents⟩ : ∃ ents, (D.map fun n => (n, Value.bool true)) = ents := ⟨_, rfl⟩
  have HEN := Lib.hid hents
  have HE2 := Lib.hid (show ents.map Prod.fst = D by rw [← hents, List.map_map]; exact List.map_id' D)
  have HM := Lib.hid (show MapAtI w b ents by rw [← hents]; exact h)
  clear h hnd hents
  go_enter Tryz.func86, Tryz.ntmps86
  go_wp2_with (at_range; refine wpList_range_nmI _ rfl _ _ rfl Tryz.underlying153 b ents rfl HM.out ?_; intro w7 hit7 hb7 hs7; have HIT7 := Lib.hid hit7; have HB7 := Lib.hid hb7; clear hit7 hb7 hs7)
  try go_frame
  obtain ⟨r, hr⟩ : ∃ r, w.heap.size = r := ⟨_, rfl⟩
  have HR := Lib.hid hr
  rw [hr] at HIT7 ⊢
  have H0 : Hid (srtRel D b r w (.slice none 0 0) w7) := Lib.hid ⟨[], ents, by rw [HEN.out]; exact HIT7.out, by rw [List.nil_append, HE2.out], World.ownsRow_nil _ _ _ _, HB7.out⟩
  clear hr
  go_loopw [3] (fun v wr => srtRel D b r w v wr) (fun _ wr => wr.rangeLeft b r)
  case atStart => exact H0.out
  case round =>
    clear H0
    obtain ⟨seen, left, hit, hpm, hown, hbw⟩ := hrel
    rw [HEN.out] at hit
    have hsl : seen.length + left.length = D.length := by
      have := hpm.length_eq
      simpa using this
    have HIT := Lib.hid hit
    have HPM := Lib.hid hpm
    have HBW := Lib.hid hbw
    have HO := Lib.hid hown
    obtain ⟨A3, c3, rfl, hc3⟩ := own_len hown
    clear hit hpm hown hbw
    go_wp2_with (at_next; refine wpList_next_nmI _ rfl _ rfl b r ents left rfl HIT.out ?_ ?_)
    · intro hleft
      have HS := Lib.hid (show srtI seen = srtI D from (srtI_perm HND.out (by have := HPM.out; rw [hleft] at this; simpa using this.symm)).symm)
      clear hleft
      go_wp2_with fail
      go_at_call 68
      refine (isort_is HO.out (by omega) HBW.out.size).mono ?_
      rintro e w9 ⟨rfl, hown9, _, hb9⟩
      have HO9 := Lib.hid hown9
      have HB9 := Lib.hid hb9
      rw [srtI_len] at HO9
      clear hown9 hb9
      go_wp2_with fail
      go_ret
      exact ⟨_, rfl, by rw [← HS.out]; exact (Rd.of_own (by rw [srtI_len]; exact HO9.out)), HBW.out.trans HB9.out⟩
    · intro n v left' w8 hpm2 hpe hit8 hg8 hs8 hen8
      have HPM2 := Lib.hid hpm2
      have HIT8 := Lib.hid hit8
      have HS8 := Lib.hid hs8
      have ho8 := HO.out.kept hg8 (.inr (fun e1 => (own_not_itI HO.out HIT.out).2 e1.symm))
      have HB8 : Hid (Below w.heap.size w w8) := Lib.hid (HBW.out.trans ⟨hg8.os, hg8.tape, hg8.output, hg8.size, fun i hi => hg8.block i (Nat.lt_of_lt_of_le hi HBW.out.size) (fun e1 => by injection e1 with e1; have := HR.out; omega)⟩)
      simp only [ikV] at hen8 ⊢
      have hba := (Below.refl w8.heap.size w8).alloc (Nat.le_refl _) (.cells #[.int .i64 n] 3)
      have HOW7 := Lib.hid (own_next ho8 hba)
      have HIT9 := Lib.hid (HIT8.out.next hba)
      have HB9 := Lib.hid (HB8.out.trans (hba.mono HB8.out.size))
      clear hpm2 hpe hit8 hg8 hs8 ho8 hba
      go_wp2_with (at_builtin; refine wpList_append_own _ rfl _ _ 33 rfl w.heap.size 3 i0 _ 1 8 Tryz.underlying33 hi hz0 hz1 hz2 rfl (by decide) _ _ _ rfl HOW7.out ⟨w8.heap.size, 0, none⟩ 1 1 [.int .i64 n] rfl rfl ?c1 ?c2 ?c3 ?c4 ?c5 ?_)
      case c1 => exact fun j u h => newN w8 #[.int .i64 n] 3 j u h
      case c2 => intro u hu; simp only [List.mem_cons, List.not_mem_nil, or_false] at hu; rcases hu with rfl; rfl
      case c3 => unfold maxLen; omega
      case c4 => omega
      case c5 => exact HB9.out.size
      intro v10 w10 hown10 hg10 _
      clear hen8
      have hne := own_not_itI HOW7.out HIT9.out
      have HIT10 := Lib.hid (HIT9.out.grown hg10 hne.1 hne.2)
      have HB10 := Lib.hid (HB9.out.grown hg10 HB9.out.size (fun k hk => own_ge HOW7.out hk))
      have HO10 := Lib.hid hown10
      clear hown10 hg10 hne
      go_wp2_with fail
      go_roundw
      case rel =>
        refine ⟨seen ++ [n], left', by rw [HEN.out]; exact HIT10.out, ?_, ?_, HB10.out⟩
        · refine List.Perm.trans ?_ HPM.out
          have h1 : (left.map Prod.fst).Perm (n :: left'.map Prod.fst) := HPM2.out.map Prod.fst
          rw [List.append_assoc]
          exact (List.Perm.append_left seen h1).symm
        · rw [List.flatMap_append, List.length_append]
          exact HO10.out
      case measure =>
        show w10.rangeLeft b r < wr.rangeLeft b r
        rw [HIT10.out.size, HIT.out.size, HPM2.out.length_eq]
        simp
end Go.Proofs.YtamjllakfgphnaaGreatDoor
namespace Go.Proofs.YtamjllakfgphnaaGreatDoor
set_option linter.unusedSimpArgs false
set_option linter.unusedVariables false
theorem lnkF_get : ∀ (d r : List Ac) (i : Nat) (h : i < r.length), (lnkF d r)[i]? = some (lnkA (d ++ r.take i) r[i])
  | d, a :: r, 0, _ => by simp [lnkF]
  | d, a :: r, i + 1, h => by
    have := lnkF_get (d ++ [a]) r i (by simpa using h)
    simp only [lnkF, List.getElem?_cons_succ, List.take_succ_cons, List.getElem_cons_succ]
    rw [this]
    simp
theorem lnkD_get {l : List Ac} {i : Nat} (h : i < l.length) : (lnkD l)[i]? = some (lnkA (l.take i) l[i]) := by
  have := lnkF_get [] l i h
  rwa [List.nil_append] at this
theorem lnkD_lt {l : List Ac} {i : Int} {x : Lk} (h0 : 0 ≤ i) (h : x ∈ (lnkD l).getD i.toNat []) : x.frm < i := by
  rw [List.getD_eq_getElem?_getD] at h
  by_cases hi : i.toNat < l.length
  · rw [lnkD_get hi] at h
    have := (lnkA_frm h).2
    rw [List.length_take] at this
    omega
  · rw [List.getElem?_eq_none (by rw [lnkD_len]; omega)] at h
    cases h
end Go.Proofs.YtamjllakfgphnaaGreatDoor
namespace Go.Proofs.YtamjllakfgphnaaGreatDoor
open Go.RowKit Go.MapKept Go.ChangeMaps
set_option linter.unusedSimpArgs false
set_option linter.unusedVariables false
theorem rd_outer {e : TypeId} {w w' : World} {v : Value} {n : Nat} {xs : List Value} {tb : Nat} (h : Rd e w v n xs) (ho : Outer (fun i => i = tb) w w') (hm : ∃ es c, w.heap[tb]? = some (.map es c)) : Rd e w' v n xs := by
  obtain ⟨A, c, hv, hc, hcm, h0 | ⟨b, o, cs, fr, hA, hb, hx⟩⟩ := h
  · exact ⟨A, c, hv, hc, hcm, .inl h0⟩
  · refine ⟨A, c, hv, hc, hcm, .inr ⟨b, o, cs, fr, hA, ?_, hx⟩⟩
    have hlt := (Array.getElem?_eq_some_iff.1 hb).1
    rw [ho.block b hlt fun e1 => ?_]
    · exact hb
    · obtain ⟨es, c2, h2⟩ := hm
      rw [← e1, hb] at h2
      cases h2
theorem MapRowsS.keepB {α : Type} {f : α → List Value} {s : Nat} {e : TypeId} {w w' : World} {F : Nat → Prop} {b B : Nat} {D : Bs → List α} (h : MapRowsS e s f w F b D) (hF : ∀ i, F i → i < B) (hb : Below B w w') : MapRowsS e s f w' F b D :=
  h.keep (fun es c h1 _ => hb.block _ (hF _ h1)) (fun g cs h1 _ => hb.block _ (hF _ h1)) fun _ _ h => h
theorem MapRowsS.map {α : Type} {f : α → List Value} {s : Nat} {e : TypeId} {w : World} {F : Nat → Prop} {b : Nat} {D : Bs → List α} (h : MapRowsS e s f w F b D) : ∃ es c, w.heap[b]? = some (.map es c) := by
  obtain ⟨_, ents, ⟨es, c, hb, _⟩, _⟩ := h
  exact ⟨es, c, hb⟩
theorem look_setS (n : Int) : ∀ D : List Int, (lookM n (D.map fun n => (n, Value.bool true))).isSome = decide (n ∈ D)
  | [] => by simp [lookM]
  | a :: D => by
    simp only [List.map_cons, lookM]
    by_cases h : a = n
    · rw [if_pos h]; simp [h]
    · rw [if_neg h, look_setS n D]
      have : ¬ n = a := fun e => h e.symm
      simp [this]
theorem SetAt.put {w : World} {b : Nat} {D : List Int} (h : SetAt w b D) {n : Int} (hn : n ∉ D) : ∃ w', (Instr.mapUpdate 153 (.map (some b)) (.int .i64 n) (.bool true)).run Tryz.prog w = .ok () w' ∧ SetAt w' b (D ++ [n]) ∧ w.grownBy w' (some b) := by
  obtain ⟨w', h1, h2, h3⟩ := map_putI h n (.bool true) Tryz.underlying153
  refine ⟨w', h1, ?_, h3⟩
  rw [putM_new _ _ _ (by rw [look_setS]; simpa using hn)] at h2
  unfold SetAt
  rw [List.map_append]
  exact h2
theorem SetAt.lt {w : World} {b : Nat} {D : List Int} (h : SetAt w b D) : b < w.heap.size := MapAtI.lt h
theorem SetAt.same {w w' : World} {b : Nat} {D : List Int} (h : SetAt w b D) (e : w'.heap[b]? = w.heap[b]?) : SetAt w' b D := MapAtI.same h e
theorem SetAt.noInt {w : World} {b : Nat} {D : List Int} (h : SetAt w b D) {t : TypeId} : ∀ cs fr, w.heap[b]? ≠ some (.cells cs t fr) := by
  obtain ⟨es, c, hb, _⟩ := h
  intro cs fr e
  rw [hb] at e
  cases e
theorem SetAt.start {w' : World} {b : Nat} {o : Int} (h : MapAtI w' b (putM o (.bool true) [])) : SetAt w' b [o] := h
theorem wpList_delS (w : World) {ops : Array Oper} {rest : List Oper} {o : Oper} {a : Go.Act} {Q : Exit → Go.Act → World → Prop} (hg : o.guard = none) (m x : Operand) {t E : TypeId} (hop : o.op = Op.call { callee := Callee.builtin Builtin.delete, args := #[m, x], argTypes := #[t, 22] })
    {b : Nat} {n : Bs} {ents : List (Bs × Value)} (hm : a.eval m = .map (some b)) (hx : a.eval x = skV n) (h : MapAtS w b ents) (ht : Tryz.prog.underlying t = some (.map 22 E))
    (hK : ∀ w', MapAtS w' b (delM n ents) → w.grownBy w' (some b) → wpList Tryz.prog ops Q rest (a.put o.dst (.tuple #[])) w') :
    wpList Tryz.prog ops Q (o :: rest) a w := by
  refine wpList_plain hg fun K' hK' => ?_
  obtain ⟨w', hrun, h1, h2⟩ := map_delS h n (ty := o.type) ht
  unfold Oper.wp
  simp [execOp, hop, resolve, invoke, builtin, hm, hx, hrun, Result.andThen]
  exact hK' _ _ (hK w' h1 h2)
theorem QOwn.push2 {w : World} {B : Nat} {v : Value} {Q : List Int} (h : QOwn w B v Q) (x : Int) (hB : B ≤ w.heap.size) (hl : Q.length ≤ 1000000) (ty : TypeId) :
    ∃ v' w', (Builtin.append_ #[33, 33] ty #[v, .slice (some ⟨w.heap.size, 0, none⟩) 1 1]).run Tryz.prog (w.alloc (.cells #[.int .i64 x] 3)) = .ok v' w' ∧ QOwn w' B v' (Q ++ [x]) ∧ (∀ b, b < w.heap.size → v.ownBlock ≠ some b → w'.heap[b]? = w.heap[b]?) ∧ (v'.ownBlock = v.ownBlock ∨ ∃ g, v'.ownBlock = some g ∧ w.heap.size ≤ g) ∧ Below B w w' ∧ w.heap.size ≤ w'.heap.size := by
  obtain ⟨g, o, c, cur, rfl, h2, h3, h4, h5, h6, h7⟩ := h
  obtain ⟨i0, hi, hz0, hz1, hz2⟩ := info_parts infoIn
  have hal := (Below.refl w.heap.size w).alloc (Nat.le_refl _) (.cells #[.int .i64 x] 3)
  have hz := Blk.new w 3 #[.int .i64 x]
  have h3' := h3.next hal h3.lt
  have hnews : ∀ (j : Nat) (u : Value), [Value.int .i64 x][j]? = some u → (w.alloc (.cells #[.int .i64 x] 3)).cell? ((⟨w.heap.size, 0, none⟩ : Addr).add j) = some u := fun j u hj => by
    rw [add_off, Nat.zero_add, hz.cell j]
    simpa using hj
  by_cases hr : Q.length + 1 ≤ c
  · have hgl := h3'.lt
    have hcell : ∀ j, j < [Value.int .i64 x].length → ((w.alloc (.cells #[.int .i64 x] 3)).cell? ⟨g, o + Q.length * i0.size + j, none⟩).isSome = true := fun j hj => by
      rw [hz1, h3'.cell]
      simp only [List.length_singleton] at hj
      rw [Array.getElem?_eq_getElem (by omega)]
      rfl
    have hfro : ∀ j, j < [Value.int .i64 x].length → (w.alloc (.cells #[.int .i64 x] 3)).frozen? ⟨g, o + Q.length * i0.size + j, none⟩ = false := fun j hj => h3'.frozen _
    have hrun := run_append_room_cells (P := Tryz.prog) (w := w.alloc (.cells #[.int .i64 x] 3)) 33 ty 3 i0 Tryz.underlying33 hi g o Q.length c ⟨w.heap.size, 0, none⟩ 1 1 [.int .i64 x] (by rw [hz1]; rfl) hnews (by simp [Value.oneCell']) hr hcell hfro
    rw [hz1, Nat.mul_one] at hrun
    refine ⟨_, _, hrun, ?_⟩
    have hset : (w.alloc (.cells #[.int .i64 x] 3)).setCells g (o + Q.length) [.int .i64 x] = (w.alloc (.cells #[.int .i64 x] 3)).setCell ⟨g, o + Q.length, none⟩ (.int .i64 x) := rfl
    rw [hset]
    have hs := h3'.set_ (o + Q.length) (.int .i64 x)
    refine ⟨⟨g, o, c, _, by simp, h2, hs, by simpa using hr, by simpa using h5, h6, fun j hj => ?_⟩, fun b hb hne => ?_, .inl rfl, ((hal.mono hB).setCell (p := ⟨g, o + Q.length, none⟩) h2 _), ?_⟩
    · simp only [List.length_append, List.length_singleton] at hj
      rw [Array.getElem?_setIfInBounds]
      by_cases hjq : j < Q.length
      · rw [if_neg (by omega), h7 j hjq, List.getElem_append_left hjq]
      · obtain rfl : j = Q.length := by omega
        rw [if_pos rfl, if_pos (by omega), List.getElem_append_right (Nat.le_refl _)]
        simp
    · have hbg : b ≠ g := fun e => hne (by rw [e]; rfl)
      exact (Below.heap_setCell _ ⟨g, o + Q.length, none⟩ _ b hbg).trans (hal.block b hb)
    · rw [World.size_setCell]
      exact hal.size
  · have hQ : Q.length = c := by omega
    have holds : ∀ (j : Nat) (u : Value), (Q.map (fun y => Value.int .i64 y))[j]? = some u → (w.alloc (.cells #[.int .i64 x] 3)).cell? ⟨g, o + j, none⟩ = some u := fun j u hj => by
      rw [h3'.cell]
      rw [List.getElem?_map] at hj
      obtain ⟨y, hy, rfl⟩ := Option.map_eq_some_iff.1 hj
      obtain ⟨hjl, rfl⟩ := List.getElem?_eq_some_iff.1 hy
      exact h7 j hjl
    obtain ⟨v', w', hrun, hown, hg⟩ := run_append_arg_grows (P := Tryz.prog) (w := w.alloc (.cells #[.int .i64 x] 3)) 33 ty 3 i0 (.int .i64 0) 1 8 Tryz.underlying33 hi hz0 hz1 hz2 rfl (by decide) ⟨g, o, none⟩ Q.length c (Q.map (fun y => Value.int .i64 y)) (by simp) (fun j u hj => by rw [add_off]; exact holds j u hj) ⟨w.heap.size, 0, none⟩ 1 1 [.int .i64 x] rfl hnews (by omega) (by simp only [maxLen]; omega) (by omega)
    have hbelow := hal.grown hg (Nat.le_of_lt (Blk.lt hz)) (fun k hk => by cases hk)
    rcases hown with ⟨hlen, ⟨_, h0⟩ | ⟨g', c', cur', rfl, hge, hb', hle, hmx, hcs, htk⟩⟩
    · omega
    have hsz0 : w.heap.size ≤ g' := Nat.le_trans (Nat.le_of_lt (Blk.lt hz)) hge
    refine ⟨_, w', hrun, ?_, fun b hb hne => hbelow.block b hb, .inr ⟨g', rfl, hsz0⟩, hbelow.mono hB, hbelow.size⟩
    refine ⟨g', 0, c', cur', by simp, Nat.le_trans hB hsz0, hb', by simpa using hle, by omega, hmx, fun j hj => ?_⟩
    rw [Nat.zero_add]
    have h8 := congrArg (fun l => l[j]?) htk
    simp only [List.length_append, List.length_singleton] at hj
    rw [List.getElem?_take_of_lt (by omega)] at h8
    rw [← Array.getElem?_toList, h8, ← List.map_singleton (f := fun y => Value.int .i64 y), ← List.map_append, List.getElem?_map, List.getElem?_eq_getElem (by simpa using hj)]
    rfl
theorem wpList_push2 (w : World) {ops : Array Oper} {rest : List Oper} {o : Oper} {a : Go.Act} {Q : Exit → Go.Act → World → Prop} (hg : o.guard = none) (s x : Operand) (hop : o.op = Op.call { callee := Callee.builtin Builtin.append, args := #[s, x], argTypes := #[33, 33] })
    {B : Nat} {v : Value} {q : List Int} (hs : a.eval s = v) (h : QOwn w B v q) (n : Int) (hx : a.eval x = .slice (some ⟨w.heap.size, 0, none⟩) 1 1) (hB : B ≤ w.heap.size) (hl : q.length ≤ 1000000)
    (hK : ∀ v' w', QOwn w' B v' (q ++ [n]) → (∀ b, b < w.heap.size → v.ownBlock ≠ some b → w'.heap[b]? = w.heap[b]?) → (v'.ownBlock = v.ownBlock ∨ ∃ g, v'.ownBlock = some g ∧ w.heap.size ≤ g) → Below B w w' → w.heap.size ≤ w'.heap.size → wpList Tryz.prog ops Q rest (a.put o.dst v') w') :
    wpList Tryz.prog ops Q (o :: rest) a (w.alloc (.cells #[.int .i64 n] 3)) := by
  refine wpList_plain hg fun K' hK' => ?_
  obtain ⟨v', w', hrun, h1, h2, h3, h4, h5⟩ := h.push2 n hB hl o.type
  unfold Oper.wp
  simp [execOp, hop, resolve, invoke, builtin, hs, hx, hrun, Result.andThen]
  exact hK' _ _ (hK v' w' h1 h2 h3 h4 h5)
theorem QOwn.lt {w : World} {B : Nat} {v : Value} {Q : List Int} (h : QOwn w B v Q) : ∀ g, v.ownBlock = some g → g < w.heap.size := by
  obtain ⟨g, o, c, cur, rfl, h2, h3, h4⟩ := h
  intro g' e
  injection e with e
  subst e
  exact h3.lt
theorem QOwn.ge {w : World} {B : Nat} {v : Value} {Q : List Int} (h : QOwn w B v Q) : ∀ g, v.ownBlock = some g → B ≤ g := by
  obtain ⟨g, o, c, cur, rfl, h2, h3, h4⟩ := h
  intro g' e
  injection e with e
  subst e
  exact h2
theorem QOwn.sameB {w w' : World} {B : Nat} {v : Value} {Q : List Int} (h : QOwn w B v Q) (hb : ∀ g, v.ownBlock = some g → w'.heap[g]? = w.heap[g]?) : QOwn w' B v Q := by
  obtain ⟨g, o, c, cur, rfl, h2, h3, h4⟩ := h
  exact ⟨g, o, c, cur, rfl, h2, (hb g rfl).trans h3, h4⟩
theorem QOwn.noMap {w : World} {B : Nat} {v : Value} {Q : List Int} (h : QOwn w B v Q) {b : Nat} {es : Array MapEntry} {c : Nat} (hb : w.heap[b]? = some (.map es c)) : v.ownBlock ≠ some b := by
  obtain ⟨g, o, c, cur, rfl, h2, h3, h4⟩ := h
  intro e
  injection e with e
  simp only at e
  subst e
  unfold Blk at h3
  rw [hb] at h3
  cases h3
end Go.Proofs.YtamjllakfgphnaaGreatDoor
