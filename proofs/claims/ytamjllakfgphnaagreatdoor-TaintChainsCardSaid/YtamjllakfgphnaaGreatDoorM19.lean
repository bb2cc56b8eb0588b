/- Words for memory: a queue of numbers; maps from numbers to numbers, sets of numbers. -/
import Derived.ArgAppend
import Derived.Test.YtamjllakfgphnaaGreatDoorM18
namespace Go.Proofs.YtamjllakfgphnaaGreatDoor
open Go.RowKit Go.MapKept Go.ChangeMaps
set_option linter.unusedSimpArgs false
set_option linter.unusedVariables false
theorem lookM_map {κ ν μ : Type} [DecidableEq κ] (f : ν → μ) (n : κ) : ∀ l : List (κ × ν), lookM n (l.map fun p => (p.1, f p.2)) = (lookM n l).map f
  | [] => rfl
  | (a, v) :: l => by
    simp only [List.map_cons, lookM]
    split
    · rfl
    · exact lookM_map f n l
theorem putM_map {κ ν μ : Type} [DecidableEq κ] (f : ν → μ) (n : κ) (x : ν) : ∀ l : List (κ × ν), putM n (f x) (l.map fun p => (p.1, f p.2)) = (putM n x l).map fun p => (p.1, f p.2)
  | [] => rfl
  | (a, v) :: l => by
    simp only [List.map_cons, putM]
    split
    · rfl
    · rw [putM_map f n x l]; rfl
/-- A map from numbers to numbers. -/
def DMap (w : World) (b : Nat) (D : List (Int × Int)) : Prop := MapAtI w b (D.map fun p => (p.1, Value.int .i64 p.2))
theorem DMap.next {w w' : World} {b : Nat} {D : List (Int × Int)} (h : DMap w b D) (hb : Below w.heap.size w w') : DMap w' b D := MapAtI.next h hb
theorem DMap.same {w w' : World} {b : Nat} {D : List (Int × Int)} (h : DMap w b D) (e : w'.heap[b]? = w.heap[b]?) : DMap w' b D := MapAtI.same h e
theorem DMap.new (w : World) : DMap (w.alloc (.map #[] 0)) w.heap.size [] := MapAtI.new w
theorem getD_map (D : List (Int × Int)) (n : Int) : ((lookM n (D.map fun p => (p.1, Value.int .i64 p.2))).getD (.int .i64 0)) = .int .i64 ((lookM n D).getD 0) := by
  rw [lookM_map]
  cases lookM n D <;> rfl
theorem isSome_map (D : List (Int × Int)) (n : Int) : (lookM n (D.map fun p => (p.1, Value.int .i64 p.2))).isSome = (lookM n D).isSome := by
  rw [lookM_map]
  cases lookM n D <;> rfl
theorem put_map (D : List (Int × Int)) (n x : Int) {w : World} {b : Nat} (h : MapAtI w b (putM n (.int .i64 x) (D.map fun p => (p.1, Value.int .i64 p.2)))) : DMap w b (putM n x D) := by
  rw [putM_map (fun y : Int => Value.int .i64 y)] at h
  exact h
/-- A queue: a part of a row of numbers of the call's own. -/
def QOwn (w : World) (B : Nat) (v : Value) (Q : List Int) : Prop :=
  ∃ (g o c : Nat) (cur : Array Value), v = .slice (some ⟨g, o, none⟩) Q.length c ∧ B ≤ g ∧ Blk w g 3 cur ∧ Q.length ≤ c ∧ o + c ≤ cur.size ∧ c ≤ maxLen ∧ ∀ (j : Nat) (hj : j < Q.length), cur[o + j]? = some (.int .i64 Q[j])
theorem QOwn.next {w w' : World} {B : Nat} {v : Value} {Q : List Int} (h : QOwn w B v Q) (hb : Below w.heap.size w w') : QOwn w' B v Q := by
  obtain ⟨g, o, c, cur, h1, h2, h3, h4⟩ := h
  exact ⟨g, o, c, cur, h1, h2, h3.next hb h3.lt, h4⟩
theorem QOwn.grown {w w' : World} {B : Nat} {v : Value} {Q : List Int} {row : Option Nat} (h : QOwn w B v Q) (hg : w.grownBy w' row) (hne : ∀ r cs, row = some r → w.heap[r]? ≠ some (.cells cs 3 (0, 0))) : QOwn w' B v Q := by
  obtain ⟨g, o, c, cur, h1, h2, h3, h4⟩ := h
  exact ⟨g, o, c, cur, h1, h2, h3.grown hg (fun e => hne g cur e.symm h3), h4⟩
theorem QOwn.form {w : World} {B : Nat} {v : Value} {Q : List Int} (h : QOwn w B v Q) : ∃ A c, v = .slice A Q.length c ∧ Q.length ≤ c := by
  obtain ⟨g, o, c, cur, h1, h2, h3, h4, _⟩ := h
  exact ⟨_, c, h1, h4⟩
theorem QOwn.at0 {w : World} {B : Nat} {v : Value} {x : Int} {Q : List Int} (h : QOwn w B v (x :: Q)) : ∃ g o c, v = .slice (some ⟨g, o, none⟩) (Q.length + 1) c ∧ Q.length + 1 ≤ c ∧ w.cell? ⟨g, o, none⟩ = some (.int .i64 x) := by
  obtain ⟨g, o, c, cur, h1, h2, h3, h4, h5, h6, h7⟩ := h
  refine ⟨g, o, c, h1, h4, ?_⟩
  have := h7 0 (by simp)
  rw [h3.cell o]
  simpa using this
/-- Without its first element. -/
theorem QOwn.tail {w : World} {B : Nat} {A : Option Addr} {n c : Nat} {x : Int} {Q : List Int} (h : QOwn w B (.slice A n c) (x :: Q)) : QOwn w B (.slice (if c = 1 then A else A.map (·.add 1)) (n - 1) (c - 1)) Q := by
  obtain ⟨g, o, c', cur, h1, h2, h3, h4, h5, h6, h7⟩ := h
  injection h1 with e1 e2 e3
  subst e1 e2 e3
  simp only [List.length_cons] at h4 h7 ⊢
  by_cases hc : c = 1
  · rw [if_pos hc]
    refine ⟨g, o, c - 1, cur, by rw [Nat.add_sub_cancel], h2, h3, by omega, by omega, by omega, fun j hj => ?_⟩
    omega
  · rw [if_neg hc]
    refine ⟨g, o + 1, c - 1, cur, by rw [Nat.add_sub_cancel]; rfl, h2, h3, by omega, by omega, by omega, fun j hj => ?_⟩
    have := h7 (j + 1) (by omega)
    rw [show o + 1 + j = o + (j + 1) by omega]
    simpa using this
/-- One number more: the number lies in a new block. -/
theorem QOwn.push {w : World} {B : Nat} {v : Value} {Q : List Int} (h : QOwn w B v Q) (x : Int) (hB : B ≤ w.heap.size) (hl : Q.length ≤ 1000000) (ty : TypeId) :
    ∃ v' w', (Builtin.append_ #[33, 33] ty #[v, .slice (some ⟨w.heap.size, 0, none⟩) 1 1]).run Tryz.prog (w.alloc (.cells #[.int .i64 x] 3)) = .ok v' w' ∧ QOwn w' B v' (Q ++ [x]) ∧ (∀ b, b < w.heap.size → (∀ cs, w.heap[b]? ≠ some (.cells cs 3 (0, 0))) → w'.heap[b]? = w.heap[b]?) ∧ Below B w w' ∧ w.heap.size ≤ w'.heap.size := by
  obtain ⟨g, o, c, cur, rfl, h2, h3, h4, h5, h6, h7⟩ := h
  obtain ⟨i0, hi, hz0, hz1, hz2⟩ := info_parts infoIn
  have hal := (Below.refl w.heap.size w).alloc (Nat.le_refl _) (.cells #[.int .i64 x] 3)
  have hz := Blk.new w 3 #[.int .i64 x]
  have h3' := h3.next hal h3.lt
  have hnews : ∀ (j : Nat) (u : Value), [Value.int .i64 x][j]? = some u → (w.alloc (.cells #[.int .i64 x] 3)).cell? ((⟨w.heap.size, 0, none⟩ : Addr).add j) = some u := fun j u hj => by
    rw [add_off, Nat.zero_add, hz.cell j]
    simpa using hj
  by_cases hr : Q.length + 1 ≤ c
  · have hgl := h3'.lt
    have hcell : ∀ j, j < [Value.int .i64 x].length → ((w.alloc (.cells #[.int .i64 x] 3)).cell? ⟨g, o + Q.length * i0.size + j, none⟩).isSome = true := fun j hj => by
      rw [hz1, h3'.cell]
      simp only [List.length_singleton] at hj
      rw [Array.getElem?_eq_getElem (by omega)]
      rfl
    have hfro : ∀ j, j < [Value.int .i64 x].length → (w.alloc (.cells #[.int .i64 x] 3)).frozen? ⟨g, o + Q.length * i0.size + j, none⟩ = false := fun j hj => h3'.frozen _
    have hrun := run_append_room_cells (P := Tryz.prog) (w := w.alloc (.cells #[.int .i64 x] 3)) 33 ty 3 i0 Tryz.underlying33 hi g o Q.length c ⟨w.heap.size, 0, none⟩ 1 1 [.int .i64 x] (by rw [hz1]; rfl) hnews (by simp [Value.oneCell']) hr hcell hfro
    rw [hz1, Nat.mul_one] at hrun
    refine ⟨_, _, hrun, ?_⟩
    have hset : (w.alloc (.cells #[.int .i64 x] 3)).setCells g (o + Q.length) [.int .i64 x] = (w.alloc (.cells #[.int .i64 x] 3)).setCell ⟨g, o + Q.length, none⟩ (.int .i64 x) := rfl
    rw [hset]
    have hs := h3'.set_ (o + Q.length) (.int .i64 x)
    refine ⟨⟨g, o, c, _, by simp, h2, hs, by simpa using hr, by simpa using h5, h6, fun j hj => ?_⟩, fun b hb hne => ?_, ((hal.mono hB).setCell (p := ⟨g, o + Q.length, none⟩) h2 _), ?_⟩
    · simp only [List.length_append, List.length_singleton] at hj
      rw [Array.getElem?_setIfInBounds]
      by_cases hjq : j < Q.length
      · rw [if_neg (by omega), h7 j hjq, List.getElem_append_left hjq]
      · obtain rfl : j = Q.length := by omega
        rw [if_pos rfl, if_pos (by omega), List.getElem_append_right (Nat.le_refl _)]
        simp
    · have hbg : b ≠ g := fun e => hne cur (by rw [e]; exact h3)
      exact (Below.heap_setCell _ ⟨g, o + Q.length, none⟩ _ b hbg).trans (hal.block b hb)
    · rw [World.size_setCell]
      exact hal.size
  · have hQ : Q.length = c := by omega
    have holds : ∀ (j : Nat) (u : Value), (Q.map (fun y => Value.int .i64 y))[j]? = some u → (w.alloc (.cells #[.int .i64 x] 3)).cell? ⟨g, o + j, none⟩ = some u := fun j u hj => by
      rw [h3'.cell]
      rw [List.getElem?_map] at hj
      obtain ⟨y, hy, rfl⟩ := Option.map_eq_some_iff.1 hj
      obtain ⟨hjl, rfl⟩ := List.getElem?_eq_some_iff.1 hy
      exact h7 j hjl
    obtain ⟨v', w', hrun, hown, hg⟩ := run_append_arg_grows (P := Tryz.prog) (w := w.alloc (.cells #[.int .i64 x] 3)) 33 ty 3 i0 (.int .i64 0) 1 8 Tryz.underlying33 hi hz0 hz1 hz2 rfl (by decide) ⟨g, o, none⟩ Q.length c (Q.map (fun y => Value.int .i64 y)) (by simp) (fun j u hj => by rw [add_off]; exact holds j u hj) ⟨w.heap.size, 0, none⟩ 1 1 [.int .i64 x] rfl hnews (by omega) (by simp only [maxLen]; omega) (by omega)
    have hbelow := hal.grown hg (Nat.le_of_lt (Blk.lt hz)) (fun k hk => by cases hk)
    refine ⟨v', w', hrun, ?_, fun b hb hne => hbelow.block b hb, hbelow.mono hB, hbelow.size⟩
    rcases hown with ⟨hlen, ⟨_, h0⟩ | ⟨g', c', cur', rfl, hge, hb', hle, hmx, hcs, htk⟩⟩
    · omega
    have hsz0 : w.heap.size ≤ g' := Nat.le_trans (Nat.le_of_lt (Blk.lt hz)) hge
    refine ⟨g', 0, c', cur', by simp, Nat.le_trans hB hsz0, hb', by simpa using hle, by omega, hmx, fun j hj => ?_⟩
    rw [Nat.zero_add]
    have h8 := congrArg (fun l => l[j]?) htk
    simp only [List.length_append, List.length_singleton] at hj
    rw [List.getElem?_take_of_lt (by omega)] at h8
    rw [← Array.getElem?_toList, h8, ← List.map_singleton (f := fun y => Value.int .i64 y), ← List.map_append, List.getElem?_map, List.getElem?_eq_getElem (by simpa using hj)]
    rfl
end Go.Proofs.YtamjllakfgphnaaGreatDoor
