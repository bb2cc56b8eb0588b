/- Walks and plain facts of the earlier laws, packed: M18, M19, Q4, W97, W94, W98. -/
import Derived.ArgAppend
import Derived.ChangeBookTie2
import Derived.Shelf.SlicesQ.Reverse
import Derived.Ground.SlgnProg
import Derived.Shelf.SlGeneric
import Derived.Sort.BigQuietIn
import Derived.Test.YtmjkcanjfjfkfaaB8
namespace Go.Proofs.Ytmjkcanjfjfkfaa
open Go.RowKit Go.MapKept Go.ChangeMaps
set_option linter.unusedSimpArgs false
set_option linter.unusedVariables false
abbrev ikV (n : Int) : Value := .int .i64 n
theorem nm_injI {a b : Int} (h : ikV a = ikV b) : a = b := by
  injection h
theorem chk_nmI (em : Bool) (n : Int) (w : World) : (Instr.checkKey em 10000 3 (ikV n)).run Try.prog w = .ok () w := by
  kernel_rfl
theorem now_nmI (n a : Int) : Instr.sameNow (.int .i64) (ikV n) (ikV a) = some (decide (a = n)) := by
  simp only [Instr.sameNow, ikV, if_true]
  rw [Option.some.injEq, Bool.eq_iff_iff, beq_iff_eq, decide_eq_true_iff]
  exact eq_comm
theorem find_nmI (n : Int) : ∀ (es : List MapEntry) (ents : List (Int × Value)) (i : Nat), es.map (fun e => (e.key, e.val)) = ents.map (fun p => (ikV p.1, p.2)) → Instr.findNow (.int .i64) (ikV n) es i = some (posM n ents i)
  | [], [], i, _ => by simp [Instr.findNow, posM]
  | [], p :: l, i, h => by simp at h
  | e :: es, [], i, h => by simp at h
  | e :: es, (a, v) :: l, i, h => by
    simp only [List.map_cons, List.cons.injEq, Prod.mk.injEq] at h
    obtain ⟨⟨h1, h2⟩, h3⟩ := h
    unfold Instr.findNow posM
    rw [h1, now_nmI]
    by_cases ha : a = n
    · simp [ha, h2]
    · rw [decide_eq_false ha, if_neg ha]
      exact find_nmI n es l (i + 1) h3
theorem key_nmI (n : Int) (w : World) {es : List MapEntry} {ents : List (Int × Value)} (h : es.map (fun e => (e.key, e.val)) = ents.map (fun p => (ikV p.1, p.2))) : (Instr.findKey 3 (ikV n) es).run Try.prog w = .ok (posM n ents 0) w :=
  run_findKey Try.underlying3 (find_nmI n es ents 0 h)
theorem same_nmI (a : Int) : Instr.sameBits 10000 (ikV a) (ikV a) = true := by
  simp [Instr.sameBits]
def MapAtI (w : World) (b : Nat) (ents : List (Int × Value)) : Prop := ∃ es clock, w.heap[b]? = some (.map es clock) ∧ es.toList.map (fun e => (e.key, e.val)) = ents.map (fun p => (ikV p.1, p.2)) ∧ Stamped es clock
theorem MapAtI.lt {w : World} {b : Nat} {ents : List (Int × Value)} (h : MapAtI w b ents) : b < w.heap.size := by
  obtain ⟨es, c, hb, _⟩ := h
  exact (Array.getElem?_eq_some_iff.1 hb).1
theorem MapAtI.same {w w' : World} {b : Nat} {ents : List (Int × Value)} (h : MapAtI w b ents) (e : w'.heap[b]? = w.heap[b]?) : MapAtI w' b ents := by
  obtain ⟨es, c, hb, h2⟩ := h
  exact ⟨es, c, e.trans hb, h2⟩
theorem MapAtI.next {w w' : World} {b : Nat} {ents : List (Int × Value)} (h : MapAtI w b ents) (hb : Below w.heap.size w w') : MapAtI w' b ents := h.same (hb.block b h.lt)
theorem MapAtI.new (w : World) : MapAtI (w.alloc (.map #[] 0)) w.heap.size [] := ⟨#[], 0, (MapKept.heap_alloc w _).1, rfl, stamped_empty 0⟩
theorem map_lookI {w : World} {b : Nat} {ents : List (Int × Value)} (h : MapAtI w b ents) (n : Int) {t E : TypeId} (ht : Try.prog.underlying t = some (.map 3 E)) {z : Value} (hz : (zeroValue E).run Try.prog w = .ok z w) :
    (Instr.lookup t (.map (some b)) (ikV n) false).run Try.prog w = .ok ((lookM n ents).getD z) w := by
  obtain ⟨es, c, hb, he, hs⟩ := h
  rw [← posM_look n ents 0]
  cases hp : posM n ents 0 with
  | none => simp [Instr.lookup, run_underlying ht, MapKept.run_getObj_map hb, chk_nmI, key_nmI n w he, hp, hz, Result.andThen]
  | some q => simp [Instr.lookup, run_underlying ht, MapKept.run_getObj_map hb, chk_nmI, key_nmI n w he, hp, hz, Result.andThen]
theorem map_putI {w : World} {b : Nat} {ents : List (Int × Value)} (h : MapAtI w b ents) (n : Int) (v : Value) {t E : TypeId} (ht : Try.prog.underlying t = some (.map 3 E)) :
    ∃ w', (Instr.mapUpdate t (.map (some b)) (ikV n) v).run Try.prog w = .ok () w' ∧ MapAtI w' b (putM n v ents) ∧ w.grownBy w' (some b) := by
  obtain ⟨es, c, hb, he, hs⟩ := h
  have hlen : es.size = ents.length := by have := congrArg List.length he; simpa using this
  have key : ∀ o : Obj, (w.grownBy (setBlock w b o) (some b)) := fun o => ⟨rfl, rfl, rfl, by simp [setBlock], fun i _ hi => heap_setBlock_other hb _ (fun e1 => hi (by rw [e1]))⟩
  cases hp : posM n ents 0 with
  | none =>
    obtain ⟨h1, h2⟩ := posM_none v hp
    refine ⟨setBlock w b (.map (es.push { key := ikV n, val := v, born := c }) (c + 1)), ?_, ⟨_, _, heap_setBlock_same hb _, ?_, ?_⟩, key _⟩
    · simp [Instr.mapUpdate, run_underlying ht, MapKept.run_getObj_map hb, chk_nmI, key_nmI n w he, hp, MapKept.run_setObj_map _ hb, Result.andThen, setBlock]
    · rw [h2]
      simp [he]
    · refine stamped_push hs fun x hx e => ?_
      have hm : (x.key, x.val) ∈ es.toList.map fun e => (e.key, e.val) := List.mem_map.2 ⟨x, hx, rfl⟩
      rw [he] at hm
      obtain ⟨p, hp1, hp2⟩ := List.mem_map.1 hm
      injection hp2 with hp2 _
      exact h1 p hp1 (nm_injI (hp2.trans e))
  | some q =>
    obtain ⟨j, u⟩ := q
    obtain ⟨k, hj, h1, h2⟩ := posM_some v hp
    rw [Nat.zero_add] at hj
    subst hj
    have hk : j < es.size := by
      rw [hlen]
      exact (List.getElem?_eq_some_iff.1 h1).1
    have hg : es[j]? = some es[j] := Array.getElem?_eq_getElem hk
    have hkey : es[j].key = ikV n := by
      have e1 : (es.toList.map fun e => (e.key, e.val))[j]? = some (es[j].key, es[j].val) := by simp [hg]
      rw [he, List.getElem?_map, h1] at e1
      simp only [Option.map_some, Option.some.injEq, Prod.mk.injEq] at e1
      exact e1.1.symm
    refine ⟨setBlock w b (.map (es.modify j fun e => { e with key := ikV n, val := v }) c), ?_, ⟨_, _, heap_setBlock_same hb _, ?_, ?_⟩, key _⟩
    · have hst : (Instr.keyThatStays (ikV n) (ikV n)).run Try.prog w = .ok (ikV n) w := by simp [Instr.keyThatStays, same_nmI]
      simp [Instr.mapUpdate, run_underlying ht, MapKept.run_getObj_map hb, chk_nmI, key_nmI n w he, hp, hg, hkey, hst, MapKept.run_setObj_map _ hb, Result.andThen, setBlock]
    · rw [h2]
      apply List.ext_getElem?
      intro i
      have e1 : (es.toList.map fun e => (e.key, e.val))[i]? = (ents.map fun p => (ikV p.1, p.2))[i]? := by rw [he]
      simp only [List.getElem?_map, Array.getElem?_toList, Array.getElem?_modify, List.getElem?_set] at e1 ⊢
      by_cases hij : j = i
      · subst hij
        rw [hg]
        simp [← hlen, hk]
      · simp only [if_neg hij]
        exact e1
    · exact stamped_modify hs _ _ (fun _ _ => rfl) fun e _ hej => by
        rw [hg] at hej
        cases hej
        exact hkey.symm
theorem map_okI {w : World} {b : Nat} {ents : List (Int × Value)} (h : MapAtI w b ents) (n : Int) {t E : TypeId} (ht : Try.prog.underlying t = some (.map 3 E)) {z : Value} (hz : (zeroValue E).run Try.prog w = .ok z w) :
    (Instr.lookup t (.map (some b)) (ikV n) true).run Try.prog w = .ok (.tuple #[(lookM n ents).getD z, .bool (lookM n ents).isSome]) w := by
  obtain ⟨es, c, hb, he, hs⟩ := h
  rw [← posM_look n ents 0]
  cases hp : posM n ents 0 with
  | none => simp [Instr.lookup, run_underlying ht, MapKept.run_getObj_map hb, chk_nmI, key_nmI n w he, hp, hz, Result.andThen]
  | some q => simp [Instr.lookup, run_underlying ht, MapKept.run_getObj_map hb, chk_nmI, key_nmI n w he, hp, hz, Result.andThen]
theorem wpList_look_nmI (w : World) {ops : Array Oper} {rest : List Oper} {o : Oper} {a : Go.Act} {Q : Exit → Go.Act → World → Prop} (hg : o.guard = none) (m x : Operand) (t : TypeId) (hop : o.op = Op.lookup t m x false) {E : TypeId}
    (ht : Try.prog.underlying t = some (.map 3 E)) {z : Value} (hz : (zeroValue E).run Try.prog w = .ok z w) (b : Nat) (ents : List (Int × Value)) (hm : a.eval m = .map (some b)) (h : MapAtI w b ents) (n : Int) (hx : a.eval x = ikV n)
    (hK : wpList Try.prog ops Q rest (a.put o.dst ((lookM n ents).getD z)) w) : wpList Try.prog ops Q (o :: rest) a w := by
  refine wpList_plain hg fun K' hK' => ?_
  have hrun := map_lookI h n ht hz
  unfold Oper.wp
  simp [execOp, hop, hm, hx, hrun, Result.andThen]
  exact hK' _ _ hK
theorem wpList_ok_nmI (w : World) {ops : Array Oper} {rest : List Oper} {o : Oper} {a : Go.Act} {Q : Exit → Go.Act → World → Prop} (hg : o.guard = none) (m x : Operand) (t : TypeId) (hop : o.op = Op.lookup t m x true) {E : TypeId}
    (ht : Try.prog.underlying t = some (.map 3 E)) {z : Value} (hz : (zeroValue E).run Try.prog w = .ok z w) (b : Nat) (ents : List (Int × Value)) (hm : a.eval m = .map (some b)) (h : MapAtI w b ents) (n : Int) (hx : a.eval x = ikV n)
    (hK : wpList Try.prog ops Q rest (a.put o.dst (.tuple #[(lookM n ents).getD z, .bool (lookM n ents).isSome])) w) : wpList Try.prog ops Q (o :: rest) a w := by
  refine wpList_plain hg fun K' hK' => ?_
  have hrun := map_okI h n ht hz
  unfold Oper.wp
  simp [execOp, hop, hm, hx, hrun, Result.andThen]
  exact hK' _ _ hK
theorem wpList_put_nmI (w : World) {ops : Array Oper} {rest : List Oper} {o : Oper} {a : Go.Act} {Q : Exit → Go.Act → World → Prop} (hg : o.guard = none) (m x v : Operand) (t : TypeId) (hop : o.op = Op.mapUpdate t m x v) {E : TypeId}
    (ht : Try.prog.underlying t = some (.map 3 E)) (b : Nat) (ents : List (Int × Value)) (hm : a.eval m = .map (some b)) (h : MapAtI w b ents) (n : Int) (hx : a.eval x = ikV n) (u : Value) (hv : a.eval v = u)
    (hK : ∀ w', MapAtI w' b (putM n u ents) → w.grownBy w' (some b) → wpList Try.prog ops Q rest (a.put o.dst undef) w') : wpList Try.prog ops Q (o :: rest) a w := by
  refine wpList_plain hg fun K' hK' => ?_
  obtain ⟨w', hrun, h1, h2⟩ := map_putI h n u ht
  unfold Oper.wp
  simp [execOp, hop, hm, hx, hv, hrun, Result.andThen]
  exact hK' _ _ (hK w' h1 h2)
abbrev skV (n : Bs) : Value := .string (bs n)
theorem chk_nmS (em : Bool) (n : Bs) (w : World) : (Instr.checkKey em 10000 39 (skV n)).run Try.prog w = .ok () w := by
  kernel_rfl
theorem now_nmS (n a : Bs) : Instr.sameNow .string (skV n) (skV a) = some (decide (a = n)) := by
  simp only [Instr.sameNow, skV]
  rw [Option.some.injEq, Bool.eq_iff_iff, bytes_beq, decide_eq_true_iff]
  exact ⟨fun e => (bs_inj e).symm, fun e => by rw [e]⟩
theorem find_nmS (n : Bs) : ∀ (es : List MapEntry) (ents : List (Bs × Value)) (i : Nat), es.map (fun e => (e.key, e.val)) = ents.map (fun p => (skV p.1, p.2)) → Instr.findNow .string (skV n) es i = some (posM n ents i)
  | [], [], i, _ => by simp [Instr.findNow, posM]
  | [], p :: l, i, h => by simp at h
  | e :: es, [], i, h => by simp at h
  | e :: es, (a, v) :: l, i, h => by
    simp only [List.map_cons, List.cons.injEq, Prod.mk.injEq] at h
    obtain ⟨⟨h1, h2⟩, h3⟩ := h
    unfold Instr.findNow posM
    rw [h1, now_nmS]
    by_cases ha : a = n
    · simp [ha, h2]
    · rw [decide_eq_false ha, if_neg ha]
      exact find_nmS n es l (i + 1) h3
theorem key_nmS (n : Bs) (w : World) {es : List MapEntry} {ents : List (Bs × Value)} (h : es.map (fun e => (e.key, e.val)) = ents.map (fun p => (skV p.1, p.2))) : (Instr.findKey 39 (skV n) es).run Try.prog w = .ok (posM n ents 0) w :=
  run_findKey Try.underlying39 (find_nmS n es ents 0 h)
def MapAtS (w : World) (b : Nat) (ents : List (Bs × Value)) : Prop := ∃ es clock, w.heap[b]? = some (.map es clock) ∧ es.toList.map (fun e => (e.key, e.val)) = ents.map (fun p => (skV p.1, p.2)) ∧ Stamped es clock
theorem MapAtS.lt {w : World} {b : Nat} {ents : List (Bs × Value)} (h : MapAtS w b ents) : b < w.heap.size := by
  obtain ⟨es, c, hb, _⟩ := h
  exact (Array.getElem?_eq_some_iff.1 hb).1
theorem MapAtS.same {w w' : World} {b : Nat} {ents : List (Bs × Value)} (h : MapAtS w b ents) (e : w'.heap[b]? = w.heap[b]?) : MapAtS w' b ents := by
  obtain ⟨es, c, hb, h2⟩ := h
  exact ⟨es, c, e.trans hb, h2⟩
theorem MapAtS.next {w w' : World} {b : Nat} {ents : List (Bs × Value)} (h : MapAtS w b ents) (hb : Below w.heap.size w w') : MapAtS w' b ents := h.same (hb.block b h.lt)
theorem MapAtS.new (w : World) : MapAtS (w.alloc (.map #[] 0)) w.heap.size [] := ⟨#[], 0, (MapKept.heap_alloc w _).1, rfl, stamped_empty 0⟩
end Go.Proofs.Ytmjkcanjfjfkfaa
namespace Go.Proofs.Ytmjkcanjfjfkfaa
open Go.RowKit Go.MapKept Go.ChangeMaps
set_option linter.unusedSimpArgs false
set_option linter.unusedVariables false
theorem lookM_map {κ ν μ : Type} [DecidableEq κ] (f : ν → μ) (n : κ) : ∀ l : List (κ × ν), lookM n (l.map fun p => (p.1, f p.2)) = (lookM n l).map f
  | [] => rfl
  | (a, v) :: l => by
    simp only [List.map_cons, lookM]
    split
    · rfl
    · exact lookM_map f n l
theorem putM_map {κ ν μ : Type} [DecidableEq κ] (f : ν → μ) (n : κ) (x : ν) : ∀ l : List (κ × ν), putM n (f x) (l.map fun p => (p.1, f p.2)) = (putM n x l).map fun p => (p.1, f p.2)
  | [] => rfl
  | (a, v) :: l => by
    simp only [List.map_cons, putM]
    split
    · rfl
    · rw [putM_map f n x l]; rfl
def DMap (w : World) (b : Nat) (D : List (Int × Int)) : Prop := MapAtI w b (D.map fun p => (p.1, Value.int .i64 p.2))
theorem DMap.next {w w' : World} {b : Nat} {D : List (Int × Int)} (h : DMap w b D) (hb : Below w.heap.size w w') : DMap w' b D := MapAtI.next h hb
theorem DMap.same {w w' : World} {b : Nat} {D : List (Int × Int)} (h : DMap w b D) (e : w'.heap[b]? = w.heap[b]?) : DMap w' b D := MapAtI.same h e
theorem DMap.new (w : World) : DMap (w.alloc (.map #[] 0)) w.heap.size [] := MapAtI.new w
theorem getD_map (D : List (Int × Int)) (n : Int) : ((lookM n (D.map fun p => (p.1, Value.int .i64 p.2))).getD (.int .i64 0)) = .int .i64 ((lookM n D).getD 0) := by
  rw [lookM_map]
  cases lookM n D <;> rfl
theorem isSome_map (D : List (Int × Int)) (n : Int) : (lookM n (D.map fun p => (p.1, Value.int .i64 p.2))).isSome = (lookM n D).isSome := by
  rw [lookM_map]
  cases lookM n D <;> rfl
theorem put_map (D : List (Int × Int)) (n x : Int) {w : World} {b : Nat} (h : MapAtI w b (putM n (.int .i64 x) (D.map fun p => (p.1, Value.int .i64 p.2)))) : DMap w b (putM n x D) := by
  rw [putM_map (fun y : Int => Value.int .i64 y)] at h
  exact h
def QOwn (w : World) (B : Nat) (v : Value) (Q : List Int) : Prop :=
  ∃ (g o c : Nat) (cur : Array Value), v = .slice (some ⟨g, o, none⟩) Q.length c ∧ B ≤ g ∧ Blk w g 3 cur ∧ Q.length ≤ c ∧ o + c ≤ cur.size ∧ c ≤ maxLen ∧ ∀ (j : Nat) (hj : j < Q.length), cur[o + j]? = some (.int .i64 Q[j])
theorem QOwn.next {w w' : World} {B : Nat} {v : Value} {Q : List Int} (h : QOwn w B v Q) (hb : Below w.heap.size w w') : QOwn w' B v Q := by
  obtain ⟨g, o, c, cur, h1, h2, h3, h4⟩ := h
  exact ⟨g, o, c, cur, h1, h2, h3.next hb h3.lt, h4⟩
theorem QOwn.grown {w w' : World} {B : Nat} {v : Value} {Q : List Int} {row : Option Nat} (h : QOwn w B v Q) (hg : w.grownBy w' row) (hne : ∀ r cs, row = some r → w.heap[r]? ≠ some (.cells cs 3 (0, 0))) : QOwn w' B v Q := by
  obtain ⟨g, o, c, cur, h1, h2, h3, h4⟩ := h
  exact ⟨g, o, c, cur, h1, h2, h3.grown hg (fun e => hne g cur e.symm h3), h4⟩
theorem QOwn.form {w : World} {B : Nat} {v : Value} {Q : List Int} (h : QOwn w B v Q) : ∃ A c, v = .slice A Q.length c ∧ Q.length ≤ c := by
  obtain ⟨g, o, c, cur, h1, h2, h3, h4, _⟩ := h
  exact ⟨_, c, h1, h4⟩
theorem QOwn.at0 {w : World} {B : Nat} {v : Value} {x : Int} {Q : List Int} (h : QOwn w B v (x :: Q)) : ∃ g o c, v = .slice (some ⟨g, o, none⟩) (Q.length + 1) c ∧ Q.length + 1 ≤ c ∧ w.cell? ⟨g, o, none⟩ = some (.int .i64 x) := by
  obtain ⟨g, o, c, cur, h1, h2, h3, h4, h5, h6, h7⟩ := h
  refine ⟨g, o, c, h1, h4, ?_⟩
  have := h7 0 (by simp)
  rw [h3.cell o]
  simpa using this
theorem QOwn.tail {w : World} {B : Nat} {A : Option Addr} {n c : Nat} {x : Int} {Q : List Int} (h : QOwn w B (.slice A n c) (x :: Q)) : QOwn w B (.slice (if c = 1 then A else A.map (·.add 1)) (n - 1) (c - 1)) Q := by
  obtain ⟨g, o, c', cur, h1, h2, h3, h4, h5, h6, h7⟩ := h
  injection h1 with e1 e2 e3
  subst e1 e2 e3
  simp only [List.length_cons] at h4 h7 ⊢
  by_cases hc : c = 1
  · rw [if_pos hc]
    refine ⟨g, o, c - 1, cur, by rw [Nat.add_sub_cancel], h2, h3, by omega, by omega, by omega, fun j hj => ?_⟩
    omega
  · rw [if_neg hc]
    refine ⟨g, o + 1, c - 1, cur, by rw [Nat.add_sub_cancel]; rfl, h2, h3, by omega, by omega, by omega, fun j hj => ?_⟩
    have := h7 (j + 1) (by omega)
    rw [show o + 1 + j = o + (j + 1) by omega]
    simpa using this
theorem QOwn.push {w : World} {B : Nat} {v : Value} {Q : List Int} (h : QOwn w B v Q) (x : Int) (hB : B ≤ w.heap.size) (hl : Q.length ≤ 1000000) (ty : TypeId) :
    ∃ v' w', (Builtin.append_ #[36, 36] ty #[v, .slice (some ⟨w.heap.size, 0, none⟩) 1 1]).run Try.prog (w.alloc (.cells #[.int .i64 x] 3)) = .ok v' w' ∧ QOwn w' B v' (Q ++ [x]) ∧ (∀ b, b < w.heap.size → (∀ cs, w.heap[b]? ≠ some (.cells cs 3 (0, 0))) → w'.heap[b]? = w.heap[b]?) ∧ Below B w w' ∧ w.heap.size ≤ w'.heap.size := by
  obtain ⟨g, o, c, cur, rfl, h2, h3, h4, h5, h6, h7⟩ := h
  obtain ⟨i0, hi, hz0, hz1, hz2⟩ := info_parts infoIn
  have hal := (Below.refl w.heap.size w).alloc (Nat.le_refl _) (.cells #[.int .i64 x] 3)
  have hz := Blk.new w 3 #[.int .i64 x]
  have h3' := h3.next hal h3.lt
  have hnews : ∀ (j : Nat) (u : Value), [Value.int .i64 x][j]? = some u → (w.alloc (.cells #[.int .i64 x] 3)).cell? ((⟨w.heap.size, 0, none⟩ : Addr).add j) = some u := fun j u hj => by
    rw [add_off, Nat.zero_add, hz.cell j]
    simpa using hj
  by_cases hr : Q.length + 1 ≤ c
  · have hgl := h3'.lt
    have hcell : ∀ j, j < [Value.int .i64 x].length → ((w.alloc (.cells #[.int .i64 x] 3)).cell? ⟨g, o + Q.length * i0.size + j, none⟩).isSome = true := fun j hj => by
      rw [hz1, h3'.cell]
      simp only [List.length_singleton] at hj
      rw [Array.getElem?_eq_getElem (by omega)]
      rfl
    have hfro : ∀ j, j < [Value.int .i64 x].length → (w.alloc (.cells #[.int .i64 x] 3)).frozen? ⟨g, o + Q.length * i0.size + j, none⟩ = false := fun j hj => h3'.frozen _
    have hrun := run_append_room_cells (P := Try.prog) (w := w.alloc (.cells #[.int .i64 x] 3)) 36 ty 3 i0 Try.underlying36 hi g o Q.length c ⟨w.heap.size, 0, none⟩ 1 1 [.int .i64 x] (by rw [hz1]; rfl) hnews (by simp [Value.oneCell']) hr hcell hfro
    rw [hz1, Nat.mul_one] at hrun
    refine ⟨_, _, hrun, ?_⟩
    have hset : (w.alloc (.cells #[.int .i64 x] 3)).setCells g (o + Q.length) [.int .i64 x] = (w.alloc (.cells #[.int .i64 x] 3)).setCell ⟨g, o + Q.length, none⟩ (.int .i64 x) := rfl
    rw [hset]
    have hs := h3'.set_ (o + Q.length) (.int .i64 x)
    refine ⟨⟨g, o, c, _, by simp, h2, hs, by simpa using hr, by simpa using h5, h6, fun j hj => ?_⟩, fun b hb hne => ?_, ((hal.mono hB).setCell (p := ⟨g, o + Q.length, none⟩) h2 _), ?_⟩
    · simp only [List.length_append, List.length_singleton] at hj
      rw [Array.getElem?_setIfInBounds]
      by_cases hjq : j < Q.length
      · rw [if_neg (by omega), h7 j hjq, List.getElem_append_left hjq]
      · obtain rfl : j = Q.length := by omega
        rw [if_pos rfl, if_pos (by omega), List.getElem_append_right (Nat.le_refl _)]
        simp
    · have hbg : b ≠ g := fun e => hne cur (by rw [e]; exact h3)
      exact (Below.heap_setCell _ ⟨g, o + Q.length, none⟩ _ b hbg).trans (hal.block b hb)
    · rw [World.size_setCell]
      exact hal.size
  · have hQ : Q.length = c := by omega
    have holds : ∀ (j : Nat) (u : Value), (Q.map (fun y => Value.int .i64 y))[j]? = some u → (w.alloc (.cells #[.int .i64 x] 3)).cell? ⟨g, o + j, none⟩ = some u := fun j u hj => by
      rw [h3'.cell]
      rw [List.getElem?_map] at hj
      obtain ⟨y, hy, rfl⟩ := Option.map_eq_some_iff.1 hj
      obtain ⟨hjl, rfl⟩ := List.getElem?_eq_some_iff.1 hy
      exact h7 j hjl
    obtain ⟨v', w', hrun, hown, hg⟩ := run_append_arg_grows (P := Try.prog) (w := w.alloc (.cells #[.int .i64 x] 3)) 36 ty 3 i0 (.int .i64 0) 1 8 Try.underlying36 hi hz0 hz1 hz2 rfl (by decide) ⟨g, o, none⟩ Q.length c (Q.map (fun y => Value.int .i64 y)) (by simp) (fun j u hj => by rw [add_off]; exact holds j u hj) ⟨w.heap.size, 0, none⟩ 1 1 [.int .i64 x] rfl hnews (by omega) (by simp only [maxLen]; omega) (by omega)
    have hbelow := hal.grown hg (Nat.le_of_lt (Blk.lt hz)) (fun k hk => by cases hk)
    refine ⟨v', w', hrun, ?_, fun b hb hne => hbelow.block b hb, hbelow.mono hB, hbelow.size⟩
    rcases hown with ⟨hlen, ⟨_, h0⟩ | ⟨g', c', cur', rfl, hge, hb', hle, hmx, hcs, htk⟩⟩
    · omega
    have hsz0 : w.heap.size ≤ g' := Nat.le_trans (Nat.le_of_lt (Blk.lt hz)) hge
    refine ⟨g', 0, c', cur', by simp, Nat.le_trans hB hsz0, hb', by simpa using hle, by omega, hmx, fun j hj => ?_⟩
    rw [Nat.zero_add]
    have h8 := congrArg (fun l => l[j]?) htk
    simp only [List.length_append, List.length_singleton] at hj
    rw [List.getElem?_take_of_lt (by omega)] at h8
    rw [← Array.getElem?_toList, h8, ← List.map_singleton (f := fun y => Value.int .i64 y), ← List.map_append, List.getElem?_map, List.getElem?_eq_getElem (by simpa using hj)]
    rfl
end Go.Proofs.Ytmjkcanjfjfkfaa
namespace Go.Proofs.Ytmjkcanjfjfkfaa
open Go.RowKit Go.MapKept Go.ChangeMaps
set_option linter.unusedSimpArgs false
set_option linter.unusedVariables false
abbrev DM := List (Int × Int)
theorem putM_new {κ ν : Type} [DecidableEq κ] (n : κ) (x : ν) : ∀ l : List (κ × ν), (lookM n l).isSome = false → putM n x l = l ++ [(n, x)]
  | [], _ => rfl
  | (a, v) :: l, h => by
    simp only [lookM] at h
    simp only [putM]
    split
    · rename_i e; rw [if_pos e] at h; cases h
    · rename_i e; rw [if_neg e] at h
      rw [putM_new n x l h]; rfl
theorem lookM_none {κ ν : Type} [DecidableEq κ] {n : κ} : ∀ {l : List (κ × ν)}, (lookM n l).isSome = false → ∀ p ∈ l, p.1 ≠ n
  | [], _, p, hp => by cases hp
  | (a, v) :: l, h, p, hp => by
    simp only [lookM] at h
    split at h
    · cases h
    · rename_i e
      rcases List.mem_cons.1 hp with rfl | hp
      · exact e
      · exact lookM_none h p hp
theorem lookM_app {κ ν : Type} [DecidableEq κ] (n : κ) (q : List (κ × ν)) : ∀ l : List (κ × ν), (lookM n l).isSome = true → lookM n (l ++ q) = lookM n l
  | [], h => by cases h
  | (a, v) :: l, h => by
    simp only [lookM] at h
    simp only [List.cons_append, lookM]
    split
    · rfl
    · rename_i e; rw [if_neg e] at h; exact lookM_app n q l h
structure BOk (N : Nat) (D : DM) : Prop where
  nd : (D.map Prod.fst).Nodup
  rng : ∀ p ∈ D, 0 ≤ p.1 ∧ p.1 < (N : Int) ∧ 0 ≤ p.2 ∧ p.2 < (D.length : Int)
  pos : 0 < D.length
theorem BOk.le {N : Nat} {D : DM} (h : BOk N D) : D.length ≤ N := by
  have h1 : ((D.map Prod.fst).map Int.toNat).Nodup := by
    rw [List.Nodup, List.pairwise_map]
    refine List.Pairwise.imp_of_mem ?_ h.nd
    intro a b ha hb hab e
    obtain ⟨p, hp, rfl⟩ := List.mem_map.1 ha
    obtain ⟨q, hq, rfl⟩ := List.mem_map.1 hb
    have := h.rng p hp
    have := h.rng q hq
    omega
  have := nodup_lt_length N _ h1 (fun x hx => by
    obtain ⟨y, hy, rfl⟩ := List.mem_map.1 hx
    obtain ⟨p, hp, rfl⟩ := List.mem_map.1 hy
    have := h.rng p hp
    omega)
  simpa using this
theorem BOk.dist {N : Nat} {D : DM} (h : BOk N D) (i : Int) : 0 ≤ (lookM i D).getD 0 ∧ (lookM i D).getD 0 < (D.length : Int) := by
  cases hl : lookM i D with
  | none => have := h.pos; simp; omega
  | some x =>
    have := h.rng _ (look_mem hl)
    simp
    omega
theorem BOk.node {N : Nat} {D : DM} (h : BOk N D) {i : Int} (hi : (lookM i D).isSome = true) : 0 ≤ i ∧ i < (N : Int) := by
  obtain ⟨x, hx⟩ := Option.isSome_iff_exists.1 hi
  have := h.rng _ (look_mem hx)
  exact ⟨this.1, this.2.1⟩
theorem BOk.add {N : Nat} {D : DM} (h : BOk N D) {n d : Int} (hn : (lookM n D).isSome = false) (h0 : 0 ≤ n) (h1 : n < (N : Int)) (d0 : 0 ≤ d) (d1 : d < (D.length : Int) + 1) : BOk N (D ++ [(n, d)]) := by
  refine ⟨?_, fun p hp => ?_, by simp⟩
  · rw [List.map_append, List.nodup_append]
    refine ⟨h.nd, by simp, fun a ha b hb => ?_⟩
    obtain ⟨p, hp, rfl⟩ := List.mem_map.1 ha
    simp only [List.map_cons, List.map_nil, List.mem_singleton] at hb
    subst hb
    exact lookM_none hn p hp
  · simp only [List.length_append, List.length_singleton]
    rcases List.mem_append.1 hp with hp | hp
    · have := h.rng p hp; omega
    · simp only [List.mem_singleton] at hp; subst hp; simp only; omega
def bfsIn (i : Int) : List Lk → DM × List Int → DM × List Int
  | [], s => s
  | x :: l, s => bfsIn i l (if (lookM x.to_ s.1).isSome = true then s else (s.1 ++ [(x.to_, (lookM i s.1).getD 0 + 1)], s.2 ++ [x.to_]))
def bfs (U : List (List Lk)) : Nat → DM → List Int → DM
  | 0, D, _ => D
  | _ + 1, D, [] => D
  | k + 1, D, i :: Q => bfs U k (bfsIn i (U.getD i.toNat []) (D, i :: Q)).1 (bfsIn i (U.getD i.toNat []) (D, i :: Q)).2.tail
theorem bfs_nil (U : List (List Lk)) (D : DM) : ∀ k, bfs U k D [] = D
  | 0 => rfl
  | _ + 1 => rfl
def lessB (x : Lk) : Option Lk → Bool
  | none => true
  | some y => decide (x.frm < y.frm)
def better (D : DM) (i : Int) (x : Lk) (b : Option Lk) : Bool := (lookM x.frm D).isSome && ((lookM x.frm D).getD 0 == (lookM i D).getD 0 - 1) && lessB x b
def stepF (D : DM) (i : Int) : List Lk → Option Lk → Option Lk
  | [], b => b
  | x :: l, b => stepF D i l (if better D i x b = true then some x else b)
def stepS (L : List (List Lk)) (D : DM) (i : Int) : Option Lk := stepF D i (L.getD i.toNat []) none
theorem stepF_of {D : DM} {i : Int} : ∀ {l : List Lk} {b : Option Lk} {x : Lk}, (∀ y, b = some y → (lookM y.frm D).isSome = true ∧ (lookM y.frm D).getD 0 = (lookM i D).getD 0 - 1) → stepF D i l b = some x → (lookM x.frm D).isSome = true ∧ (lookM x.frm D).getD 0 = (lookM i D).getD 0 - 1
  | [], b, x, hb, h => hb x h
  | y :: l, b, x, hb, h => by
    simp only [stepF] at h
    refine stepF_of (l := l) ?_ h
    intro z hz
    split at hz
    · rename_i e
      injection hz with hz
      subst hz
      simp only [better, Bool.and_eq_true, beq_iff_eq] at e
      exact ⟨e.1.1, e.1.2⟩
    · exact hb z hz
theorem stepS_of {L : List (List Lk)} {D : DM} {i : Int} {x : Lk} (h : stepS L D i = some x) : (lookM x.frm D).isSome = true ∧ (lookM x.frm D).getD 0 = (lookM i D).getD 0 - 1 :=
  stepF_of (fun y hy => by cases hy) h
def backS (L : List (List Lk)) (D : DM) (frm : Int) : Nat → Int → List Lk → Option (List Lk)
  | 0, _, _ => none
  | k + 1, i, l => if i = frm then some l else match stepS L D i with
    | none => none
    | some x => backS L D frm k x.frm (l ++ [x])
def bfsD (l : List Ac) (frm : Int) : DM := bfs (UT l.length (lnkD l).flatten) l.length [(frm, 0)] [frm]
def chainS (l : List Ac) (frm to_ : Int) : Option (List Lk) :=
  if 0 ≤ frm ∧ frm < (l.length : Int) ∧ 0 ≤ to_ ∧ to_ < (l.length : Int) then
    (if (lookM to_ (bfsD l frm)).isSome = true then (backS (lnkD l) (bfsD l frm) frm (((lookM to_ (bfsD l frm)).getD 0).toNat + 1) to_ []).map List.reverse else none)
  else none
theorem lnkF_to : ∀ (d r : List Ac), ∀ x ∈ (lnkF d r).flatten, (d.length : Int) ≤ x.to_ ∧ x.to_ < (d.length : Int) + r.length
  | d, [], x, h => by simp [lnkF] at h
  | d, a :: r, x, h => by
    simp only [lnkF, List.flatten_cons, List.mem_append] at h
    simp only [List.length_cons]
    rcases h with h | h
    · obtain ⟨c, _, rfl⟩ := List.mem_map.1 h
      simp only
      omega
    · have := lnkF_to (d ++ [a]) r x h
      simp only [List.length_append, List.length_singleton] at this
      omega
theorem lnkD_to {l : List Ac} {x : Lk} (h : x ∈ (lnkD l).flatten) : 0 ≤ x.to_ ∧ x.to_ < (l.length : Int) := by
  have := lnkF_to [] l x h
  simpa using this
theorem UT_row_to {l : List Ac} {k : Nat} (hk : k < (UT l.length (lnkD l).flatten).length) : ∀ x ∈ (UT l.length (lnkD l).flatten)[k], 0 ≤ x.to_ ∧ x.to_ < (l.length : Int) := fun x hx => by
  rw [UT_get] at hx
  exact lnkD_to (List.mem_filter.1 hx).1
theorem UT_row_len {l : List Ac} (hr : ∀ a ∈ l, a.reads.length ≤ 10) {k : Nat} (hk : k < (UT l.length (lnkD l).flatten).length) : (UT l.length (lnkD l).flatten)[k].length ≤ l.length * 10 := by
  rw [UT_get]
  exact Nat.le_trans (List.length_filter_le _ _) (lnkF_flat [] l hr)
end Go.Proofs.Ytmjkcanjfjfkfaa
namespace Go.Proofs.Ytmjkcanjfjfkfaa
open Go.RowKit Go.Sort Go.Shelf
set_option linter.unusedSimpArgs false
set_option linter.unusedVariables false
instance : Inhabited Lk := ⟨⟨0, 0, ⟨0, [], 0, 0, []⟩⟩⟩
end Go.Proofs.Ytmjkcanjfjfkfaa
namespace Go.Proofs
open Go.Shelf Go.Lib
shelf_lay_g SlLaysE0.n35 Slgn 35 at Try 39 as Ytmjkcanjfjfkfaa.revLaid
end Go.Proofs
namespace Go.Proofs.Ytmjkcanjfjfkfaa
open Go.RowKit Go.Sort Go.Shelf
theorem holds_links {w : World} {B g c : Nat} {l : List Lk} (h : w.ownsRow B 43 7 (.slice (some ⟨g, 0, none⟩) l.length c) l.length (l.flatMap lkC)) : HoldsK lkC 7 w g 0 l.toArray := by
  intro t ht
  rw [size_flatK] at ht
  have hk : t / 7 < l.length := by simp only [List.size_toArray] at ht; omega
  have hj : t % 7 < 7 := Nat.mod_lt _ (by decide)
  have h1 := own_cells lkC_len h hk rfl (t % 7) ((lkC l[t / 7])[t % 7]'(by rw [lkC_len]; exact hj)) (List.getElem?_eq_getElem _)
  have h2 : t / 7 * 7 + t % 7 = t := by omega
  rw [h2] at h1
  refine ⟨?_, by rw [Nat.zero_add]; exact own_frozen h t⟩
  rw [Nat.zero_add, h1, get_flatK _ _ _ _ ht]
  simp only [id]
  have e1 : l.toArray[t / 7]! = l[t / 7] := by simp [hk]
  rw [e1, getElem!_pos (lkC l[t / 7]) (t % 7) (by rw [lkC_len]; exact hj)]
theorem heap_rev {w : World} {g n : Nat} {cur : Array Value} {e : TypeId} {fr : Nat × Nat} (d : Array Lk) (hb : w.heap[g]? = some (.cells cur e fr)) :
    (putRowK lkC 7 (Sort.ahead w n) g 0 d).heap[g]? = some (.cells (putCells id 0 (flatK lkC 7 d) cur) e fr) := by
  simp [putRowK, putRow, mapBlock, Sort.ahead, Array.getElem?_modify, hb, onCells]
theorem grownBy_rev {w : World} {g n : Nat} (d : Array Lk) : w.grownBy (putRowK lkC 7 (Sort.ahead w n) g 0 d) (some g) := by
  refine ⟨rfl, rfl, rfl, by simp [putRowK], fun k hk hne => ?_⟩
  have : g ≠ k := fun e => hne (by rw [e])
  simp [putRowK, putRow, mapBlock, Sort.ahead, Array.getElem?_modify, this]
theorem revlk_is {w : World} {B : Nat} {v : Value} {l : List Lk} (h : w.ownsRow B 43 7 v l.length (l.flatMap lkC)) (hl : l.length ≤ 1000000) (hB : B ≤ w.heap.size) : Calls Try.prog 39 #[v] w fun e w' => e = .returned (.tuple #[]) ∧ RdLk w' v l.reverse ∧ Below B w w' := by
  obtain ⟨A, c, rfl, hc⟩ := own_len h
  by_cases h0 : l.length = 0
  · have hnil : l = [] := List.eq_nil_of_length_eq_zero h0
    subst hnil
    refine (AnyQ.slices_Reverse_empty revLaid A c w).mono ?_
    rintro e w' ⟨rfl, rfl⟩
    exact ⟨rfl, Rd.of_own h, Below.refl _ _⟩
  · obtain ⟨hlen, ⟨_, h1⟩ | ⟨g, cap, cur, hv, hg, hh, h1, h2, h3, h4⟩⟩ := id h
    · exact absurd h1 h0
    injection hv with hA _ hcc
    subst hA hcc
    have hh2 := holds_links h
    have hsz : l.toArray.size = l.length := by simp
    have := AnyQ.slices_Reverse revLaid 7 Try.isAgg43 Try.sizeOf43 lkC lkC_len (fun x v hv => by simp only [lkC, List.mem_cons, List.not_mem_nil, or_false] at hv; rcases hv with rfl | rfl | rfl | rfl | rfl | rfl | rfl <;> rfl) g 0 c l.toArray w hh2 (by rw [hsz]; omega)
    rw [hsz] at this
    refine this.mono ?_
    rintro e w' ⟨rfl, n, rfl⟩
    have hrv : l.toArray.reverse = l.reverse.toArray := by simp
    rw [hrv]
    have hH := holdsK_putRowK (enc := lkC) (k := 7) (Sort.ahead w n) g 0 l.toArray l.reverse.toArray (holdsK_ahead lkC 7 w n g 0 _ hh2) (by simp)
    refine ⟨rfl, ⟨some ⟨g, 0, none⟩, c, by simp, by simpa using hc, h2, .inr ⟨g, 0, _, _, rfl, heap_rev _ hh, fun j u hj => ?_⟩⟩, (Below.refl B w).grown (grownBy_rev _) hB (fun k hk => by injection hk with hk; omega)⟩
    have hjl : j < l.length * 7 := by
      have := (List.getElem?_eq_some_iff.1 hj).1
      rw [fm_len lkC_len] at this
      simpa using this
    have h6 := (hH j (by rw [size_flatK]; simpa using hjl)).1
    rw [get_flatK _ _ _ _ (by simpa using hjl), cell_of_row _ g (0 + j) _ _ _ (heap_rev _ hh)] at h6
    rw [h6, ← hj]
    have hk : j / 7 < l.reverse.length := by rw [List.length_reverse]; omega
    have hjm : j % 7 < 7 := Nat.mod_lt _ (by decide)
    have h7 := fm_get lkC_len l.reverse (j / 7) hk (j % 7) hjm
    rw [show j / 7 * 7 + j % 7 = j by omega] at h7
    rw [h7]
    simp only [id]
    have e1 : l.reverse.toArray[j / 7]! = l.reverse[j / 7] := by simp [List.length_reverse] at hk ⊢; simp [hk]
    rw [e1, List.getElem?_eq_getElem (by rw [lkC_len]; exact hjm), getElem!_pos (lkC l.reverse[j / 7]) (j % 7) (by rw [lkC_len]; exact hjm)]
end Go.Proofs.Ytmjkcanjfjfkfaa
namespace Go.Proofs.Ytmjkcanjfjfkfaa
open Go.RowKit
set_option linter.unusedSimpArgs false
set_option linter.unusedVariables false
attribute [local go_sem ↓] Go.wp_at_zero Go.wp_at_succ
theorem RdIn_piece {w : World} {A : Option Addr} {n c : Nat} {l : List Int} (h : RdIn w (.slice A n c) l) {k : Nat} (hk : k < l.length) : ∃ b o, A = some ⟨b, o, none⟩ ∧ b < w.heap.size ∧ w.cell? ⟨b, o + k, none⟩ = some (.int .i64 l[k]) := by
  obtain ⟨b, o, e, hb, hc⟩ := RdP.at_ (s := 1) h inC_len hk
  have := hc 0 _ rfl
  rw [Nat.mul_one, Nat.add_zero] at this
  exact ⟨b, o, e, hb, this⟩
def eqintRel (a b : List Int) (w : World) (i : Value) (wr : World) : Prop := ∃ k : Nat, k ≤ a.length ∧ i = .int .i64 k ∧ (∀ j (h1 : j < a.length) (h2 : j < b.length), j < k → a[j] = b[j]) ∧ Below w.heap.size w wr
set_option maxRecDepth 100000 in
set_option maxHeartbeats 1000000 in
theorem eqint_is {w : World} {v1 v2 : Value} {a b : List Int} (h1 : RdIn w v1 a) (h2 : RdIn w v2 b) (l1 : a.length ≤ 1000000) (l2 : b.length ≤ 1000000) : Calls Try.prog 31 #[v1, v2] w fun e w' => e = .returned (.bool (decide (a = b))) ∧ Below w.heap.size w w' := by
  obtain ⟨A1, c1, rfl, hc1⟩ := RdP.form h1
  obtain ⟨A2, c2, rfl, hc2⟩ := RdP.form h2
  have H1 := Lib.hid h1
  have H2 := Lib.hid h2
  clear h1 h2
  by_cases hl : a.length = b.length
  · have k1 : ((a.length : Int) == (b.length : Int)) = true := by rw [hl]; simp
    have HLL := Lib.hid hl
    rw [← hl] at hc2
    have H0 : Hid (eqintRel a b w (.int .i64 (0 : Nat)) w) := Lib.hid ⟨0, Nat.zero_le _, rfl, fun j _ _ h => by omega, Below.refl _ _⟩
    go_enter Try.func31, Try.ntmps31
    rw [← HLL.out]
    clear hl
    go_wp2_with fail
    go_loopw [13] (fun i wr => eqintRel a b w i wr) (fun i _ => a.length - (intOf i).toNat)
    case atStart => exact H0.out
    case round =>
      clear H0
      obtain ⟨k, hkl, rfl, hz, hbw⟩ := hrel
      have HZ := Lib.hid hz
      have HBW := Lib.hid hbw
      clear hz hbw
      by_cases hk : k < a.length
      · have j1 : (0 : Int) ≤ (k : Int) := by omega
        have j2 : (k : Int) < (a.length : Int) := by omega
        have j3 : decide ((k : Int) < (a.length : Int)) = true := decide_eq_true j2
        have hkb : k < b.length := by rw [← HLL.out]; exact hk
        obtain ⟨b1, o1, hbe, hb1, x0⟩ := RdIn_piece (RdP.next H1.out HBW.out) hk
        subst hbe
        obtain ⟨b2, o2, hbe, hb2, y0⟩ := RdIn_piece (RdP.next H2.out HBW.out) hkb
        subst hbe
        obtain ⟨x, hx⟩ : ∃ x, a[k] = x := ⟨_, rfl⟩
        obtain ⟨y, hy⟩ : ∃ y, b[k] = y := ⟨_, rfl⟩
        rw [hx] at x0
        rw [hy] at y0
        have HX := Lib.hid hx
        have HY := Lib.hid hy
        clear hx hy
        obtain ⟨bq, hbq⟩ : ∃ bq, decide (x = y) = bq := ⟨_, rfl⟩
        have HQ := Lib.hid hbq
        have e5 : (x != y) = !bq := by rw [← hbq]; by_cases h : x = y <;> simp [h]
        clear hbq
        cases bq with
        | true =>
          go_upto_region 6 with (fail)
          go_quiet (fail)
          go_wp2_with fail
          go_roundw
          case rel => exact ⟨k + 1, by omega, by go_num, fun j h1 h2 h3 => by
            rcases Nat.lt_or_ge j k with h | h
            · exact HZ.out j h1 h2 h
            · obtain rfl : j = k := by omega
              rw [HX.out, HY.out]; exact of_decide_eq_true HQ.out, HBW.out.trans (below_drewN (Below.refl _ _) nq)⟩
          case measure => simp [intOf]; omega
        | false =>
          have hne : decide (a = b) = false := decide_eq_false (fun e => by
            subst e
            exact (of_decide_eq_false HQ.out) (HX.out.symm.trans HY.out))
          have HNE := Lib.hid hne
          clear hne
          go_upto_region 6 with (fail)
          go_quiet (fail)
          go_wp2_with fail
          go_ret
          exact ⟨by rw [HNE.out]; rfl, HBW.out.trans (below_drewN (Below.refl _ _) nq)⟩
      · have j3 : decide ((k : Int) < (a.length : Int)) = false := decide_eq_false (by omega)
        have HEQ := Lib.hid (show decide (a = b) = true from decide_eq_true (List.ext_getElem HLL.out (fun j h1 h2 => HZ.out j h1 h2 (by omega))))
        go_wp2_with fail
        go_ret
        exact ⟨by rw [HEQ.out]; rfl, HBW.out⟩
  · have k1 : ((a.length : Int) != (b.length : Int)) = true := by rw [bne_iff_ne]; omega
    have HNE := Lib.hid (show decide (a = b) = false from decide_eq_false (fun e => hl (by rw [e])))
    clear hl
    go_enter Try.func31, Try.ntmps31
    go_wp2_with fail
    go_ret
    exact ⟨by rw [HNE.out]; rfl, Below.refl _ _⟩
end Go.Proofs.Ytmjkcanjfjfkfaa
namespace Go.Proofs.Ytmjkcanjfjfkfaa
open Go.RowKit
set_option linter.unusedSimpArgs false
set_option linter.unusedVariables false
attribute [local go_sem ↓] Go.wp_at_zero Go.wp_at_succ
def inR (N : Nat) (x : Int) : Bool := decide (0 ≤ x) && decide (x < (N : Int))
def chk2 (N : Nat) (xs : List Int) : Int := if xs.all (inR N) = true then 0 else 2
def gchkRel (xs : List Int) (N : Nat) (w : World) (i : Value) (wr : World) : Prop := ∃ k : Nat, k ≤ xs.length ∧ i = .int .i64 k ∧ (∀ j (h1 : j < xs.length), j < k → inR N xs[j] = true) ∧ Below w.heap.size w wr
theorem GAt.keys {w : World} {B g : Nat} {l : List Ac} (h : GAt w B g l) : ∃ A c, w.cell? ⟨g, 0, none⟩ = some (.slice A l.length c) := by
  obtain ⟨vk, vl, vu, bw, vL, vU, h⟩ := h
  obtain ⟨A, c, rfl, _⟩ := own_len h.ky
  refine ⟨A, c, ?_⟩
  rw [h.blk.cell 0, List.length_map]
  rfl
theorem GAt.lt {w : World} {B g : Nat} {l : List Ac} (h : GAt w B g l) : g < w.heap.size := by
  obtain ⟨vk, vl, vu, bw, vL, vU, h⟩ := h
  exact h.blk.lt
set_option maxRecDepth 100000 in
set_option maxHeartbeats 1000000 in
theorem gcheck_is {w : World} {B g : Nat} {l : List Ac} {v : Value} {xs : List Int} (hg : GAt w B g l) (hx : RdIn w v xs) (hl : l.length ≤ 1000000) (hxl : xs.length ≤ 1000000) : Calls Try.prog 37 #[.pointer (some ⟨g, 0, none⟩), v] w fun e w' => e = .returned (.int .i64 (chk2 l.length xs)) ∧ Below w.heap.size w w' := by
  obtain ⟨A1, c1, rfl, hc1⟩ := RdP.form hx
  have H1 := Lib.hid hx
  have HG := Lib.hid hg
  clear hx hg
  have H0 : Hid (gchkRel xs l.length w (.int .i64 (0 : Nat)) w) := Lib.hid ⟨0, Nat.zero_le _, rfl, fun j _ h => by omega, Below.refl _ _⟩
  go_enter Try.func37, Try.ntmps37
  go_wp2_with fail
  go_loopw [11] (fun i wr => gchkRel xs l.length w i wr) (fun i _ => xs.length - (intOf i).toNat)
  case atStart => exact H0.out
  case round =>
    clear H0
    obtain ⟨k, hkl, rfl, hz, hbw⟩ := hrel
    have HZ := Lib.hid hz
    have HBW := Lib.hid hbw
    clear hz hbw
    by_cases hk : k < xs.length
    · have j1 : (0 : Int) ≤ (k : Int) := by omega
      have j2 : (k : Int) < (xs.length : Int) := by omega
      have j3 : decide ((k : Int) < (xs.length : Int)) = true := decide_eq_true j2
      obtain ⟨b1, o1, hbe, hb1, x0⟩ := RdIn_piece (RdP.next H1.out HBW.out) hk
      subst hbe
      obtain ⟨x, hx⟩ : ∃ x, xs[k] = x := ⟨_, rfl⟩
      rw [hx] at x0
      have HX := Lib.hid hx
      clear hx
      obtain ⟨A, c, y0⟩ := GAt.keys (HG.out.next HBW.out)
      by_cases h0 : 0 ≤ x
      · have d0 : decide (x < 0) = false := decide_eq_false (by omega)
        by_cases h1 : x < (l.length : Int)
        · have d1 : decide ((l.length : Int) ≤ x) = false := decide_eq_false (by omega)
          have HIN := Lib.hid (show inR l.length x = true by unfold inR; rw [decide_eq_true h0, decide_eq_true h1]; rfl)
          clear h0 h1
          go_wp2_with fail
          go_roundw
          case rel => exact ⟨k + 1, by omega, by go_num, fun j h1 h3 => by
            rcases Nat.lt_or_ge j k with h | h
            · exact HZ.out j h1 h
            · obtain rfl : j = k := by omega
              rw [HX.out]; exact HIN.out, HBW.out⟩
          case measure => simp [intOf]; omega
        · have d1 : decide ((l.length : Int) ≤ x) = true := decide_eq_true (by omega)
          have HC := Lib.hid (show chk2 l.length xs = 2 by
            unfold chk2
            rw [if_neg]
            intro h
            have := List.all_eq_true.1 h xs[k] (List.getElem_mem hk)
            rw [HX.out] at this
            unfold inR at this
            simp at this
            omega)
          clear h0 h1
          go_wp2_with fail
          go_ret
          exact ⟨by rw [HC.out]; rfl, HBW.out⟩
      · have d0 : decide (x < 0) = true := decide_eq_true (by omega)
        have HC := Lib.hid (show chk2 l.length xs = 2 by
            unfold chk2
            rw [if_neg]
            intro h
            have := List.all_eq_true.1 h xs[k] (List.getElem_mem hk)
            rw [HX.out] at this
            unfold inR at this
            simp at this
            omega)
        clear h0
        go_wp2_with fail
        go_ret
        exact ⟨by rw [HC.out]; rfl, HBW.out⟩
    · have j3 : decide ((k : Int) < (xs.length : Int)) = false := decide_eq_false (by omega)
      have HC := Lib.hid (show chk2 l.length xs = 0 by
        unfold chk2
        rw [if_pos]
        rw [List.all_eq_true]
        intro y hy
        obtain ⟨j, hj, rfl⟩ := List.getElem_of_mem hy
        exact HZ.out j hj (by omega))
      go_wp2_with fail
      go_ret
      exact ⟨by rw [HC.out]; rfl, HBW.out⟩
theorem glen_is {w : World} {B g : Nat} {l : List Ac} (hg : GAt w B g l) : Calls Try.prog 25 #[.pointer (some ⟨g, 0, none⟩)] w fun e w' => e = .returned (.int .i64 l.length) ∧ w = w' := by
  obtain ⟨A, c, y0⟩ := GAt.keys hg
  clear hg
  go_enter Try.func25, Try.ntmps25
  go_wp2_with fail
  go_ret
  exact ⟨rfl, rfl⟩
end Go.Proofs.Ytmjkcanjfjfkfaa
