/- Words for memory: maps whose keys are numbers, names of processes. -/
import Derived.Test.YtamjllakfgphnaaGreatDoorGV
import Derived.Test.YtamjllakfgphnaaGreatDoorW83
namespace Go.Proofs.YtamjllakfgphnaaGreatDoor
open Go.RowKit Go.MapKept Go.ChangeMaps
set_option linter.unusedSimpArgs false
set_option linter.unusedVariables false
abbrev ikV (n : Int) : Value := .int .i64 n
theorem nm_injI {a b : Int} (h : ikV a = ikV b) : a = b := by
  injection h
theorem chk_nmI (em : Bool) (n : Int) (w : World) : (Instr.checkKey em 10000 3 (ikV n)).run Tryz.prog w = .ok () w := by
  kernel_rfl
theorem now_nmI (n a : Int) : Instr.sameNow (.int .i64) (ikV n) (ikV a) = some (decide (a = n)) := by
  simp only [Instr.sameNow, ikV, if_true]
  rw [Option.some.injEq, Bool.eq_iff_iff, beq_iff_eq, decide_eq_true_iff]
  exact eq_comm
theorem find_nmI (n : Int) : ∀ (es : List MapEntry) (ents : List (Int × Value)) (i : Nat), es.map (fun e => (e.key, e.val)) = ents.map (fun p => (ikV p.1, p.2)) → Instr.findNow (.int .i64) (ikV n) es i = some (posM n ents i)
  | [], [], i, _ => by simp [Instr.findNow, posM]
  | [], p :: l, i, h => by simp at h
  | e :: es, [], i, h => by simp at h
  | e :: es, (a, v) :: l, i, h => by
    simp only [List.map_cons, List.cons.injEq, Prod.mk.injEq] at h
    obtain ⟨⟨h1, h2⟩, h3⟩ := h
    unfold Instr.findNow posM
    rw [h1, now_nmI]
    by_cases ha : a = n
    · simp [ha, h2]
    · rw [decide_eq_false ha, if_neg ha]
      exact find_nmI n es l (i + 1) h3
theorem key_nmI (n : Int) (w : World) {es : List MapEntry} {ents : List (Int × Value)} (h : es.map (fun e => (e.key, e.val)) = ents.map (fun p => (ikV p.1, p.2))) : (Instr.findKey 3 (ikV n) es).run Tryz.prog w = .ok (posM n ents 0) w :=
  run_findKey Tryz.underlying3 (find_nmI n es ents 0 h)
theorem same_nmI (a : Int) : Instr.sameBits 10000 (ikV a) (ikV a) = true := by
  simp [Instr.sameBits]
/-- A map from names in memory: its entries in their order. -/
def MapAtI (w : World) (b : Nat) (ents : List (Int × Value)) : Prop := ∃ es clock, w.heap[b]? = some (.map es clock) ∧ es.toList.map (fun e => (e.key, e.val)) = ents.map (fun p => (ikV p.1, p.2)) ∧ Stamped es clock
theorem MapAtI.lt {w : World} {b : Nat} {ents : List (Int × Value)} (h : MapAtI w b ents) : b < w.heap.size := by
  obtain ⟨es, c, hb, _⟩ := h
  exact (Array.getElem?_eq_some_iff.1 hb).1
theorem MapAtI.same {w w' : World} {b : Nat} {ents : List (Int × Value)} (h : MapAtI w b ents) (e : w'.heap[b]? = w.heap[b]?) : MapAtI w' b ents := by
  obtain ⟨es, c, hb, h2⟩ := h
  exact ⟨es, c, e.trans hb, h2⟩
theorem MapAtI.next {w w' : World} {b : Nat} {ents : List (Int × Value)} (h : MapAtI w b ents) (hb : Below w.heap.size w w') : MapAtI w' b ents := h.same (hb.block b h.lt)
theorem MapAtI.new (w : World) : MapAtI (w.alloc (.map #[] 0)) w.heap.size [] := ⟨#[], 0, (MapKept.heap_alloc w _).1, rfl, stamped_empty 0⟩
theorem map_lookI {w : World} {b : Nat} {ents : List (Int × Value)} (h : MapAtI w b ents) (n : Int) {t E : TypeId} (ht : Tryz.prog.underlying t = some (.map 3 E)) {z : Value} (hz : (zeroValue E).run Tryz.prog w = .ok z w) :
    (Instr.lookup t (.map (some b)) (ikV n) false).run Tryz.prog w = .ok ((lookM n ents).getD z) w := by
  obtain ⟨es, c, hb, he, hs⟩ := h
  rw [← posM_look n ents 0]
  cases hp : posM n ents 0 with
  | none => simp [Instr.lookup, run_underlying ht, MapKept.run_getObj_map hb, chk_nmI, key_nmI n w he, hp, hz, Result.andThen]
  | some q => simp [Instr.lookup, run_underlying ht, MapKept.run_getObj_map hb, chk_nmI, key_nmI n w he, hp, hz, Result.andThen]
theorem map_putI {w : World} {b : Nat} {ents : List (Int × Value)} (h : MapAtI w b ents) (n : Int) (v : Value) {t E : TypeId} (ht : Tryz.prog.underlying t = some (.map 3 E)) :
    ∃ w', (Instr.mapUpdate t (.map (some b)) (ikV n) v).run Tryz.prog w = .ok () w' ∧ MapAtI w' b (putM n v ents) ∧ w.grownBy w' (some b) := by
  obtain ⟨es, c, hb, he, hs⟩ := h
  have hlen : es.size = ents.length := by have := congrArg List.length he; simpa using this
  have key : ∀ o : Obj, (w.grownBy (setBlock w b o) (some b)) := fun o => ⟨rfl, rfl, rfl, by simp [setBlock], fun i _ hi => heap_setBlock_other hb _ (fun e1 => hi (by rw [e1]))⟩
  cases hp : posM n ents 0 with
  | none =>
    obtain ⟨h1, h2⟩ := posM_none v hp
    refine ⟨setBlock w b (.map (es.push { key := ikV n, val := v, born := c }) (c + 1)), ?_, ⟨_, _, heap_setBlock_same hb _, ?_, ?_⟩, key _⟩
    · simp [Instr.mapUpdate, run_underlying ht, MapKept.run_getObj_map hb, chk_nmI, key_nmI n w he, hp, MapKept.run_setObj_map _ hb, Result.andThen, setBlock]
    · rw [h2]
      simp [he]
    · refine stamped_push hs fun x hx e => ?_
      have hm : (x.key, x.val) ∈ es.toList.map fun e => (e.key, e.val) := List.mem_map.2 ⟨x, hx, rfl⟩
      rw [he] at hm
      obtain ⟨p, hp1, hp2⟩ := List.mem_map.1 hm
      injection hp2 with hp2 _
      exact h1 p hp1 (nm_injI (hp2.trans e))
  | some q =>
    obtain ⟨j, u⟩ := q
    obtain ⟨k, hj, h1, h2⟩ := posM_some v hp
    rw [Nat.zero_add] at hj
    subst hj
    have hk : j < es.size := by
      rw [hlen]
      exact (List.getElem?_eq_some_iff.1 h1).1
    have hg : es[j]? = some es[j] := Array.getElem?_eq_getElem hk
    have hkey : es[j].key = ikV n := by
      have e1 : (es.toList.map fun e => (e.key, e.val))[j]? = some (es[j].key, es[j].val) := by simp [hg]
      rw [he, List.getElem?_map, h1] at e1
      simp only [Option.map_some, Option.some.injEq, Prod.mk.injEq] at e1
      exact e1.1.symm
    refine ⟨setBlock w b (.map (es.modify j fun e => { e with key := ikV n, val := v }) c), ?_, ⟨_, _, heap_setBlock_same hb _, ?_, ?_⟩, key _⟩
    · have hst : (Instr.keyThatStays (ikV n) (ikV n)).run Tryz.prog w = .ok (ikV n) w := by simp [Instr.keyThatStays, same_nmI]
      simp [Instr.mapUpdate, run_underlying ht, MapKept.run_getObj_map hb, chk_nmI, key_nmI n w he, hp, hg, hkey, hst, MapKept.run_setObj_map _ hb, Result.andThen, setBlock]
    · rw [h2]
      apply List.ext_getElem?
      intro i
      have e1 : (es.toList.map fun e => (e.key, e.val))[i]? = (ents.map fun p => (ikV p.1, p.2))[i]? := by rw [he]
      simp only [List.getElem?_map, Array.getElem?_toList, Array.getElem?_modify, List.getElem?_set] at e1 ⊢
      by_cases hij : j = i
      · subst hij
        rw [hg]
        simp [← hlen, hk]
      · simp only [if_neg hij]
        exact e1
    · exact stamped_modify hs _ _ (fun _ _ => rfl) fun e _ hej => by
        rw [hg] at hej
        cases hej
        exact hkey.symm
theorem map_okI {w : World} {b : Nat} {ents : List (Int × Value)} (h : MapAtI w b ents) (n : Int) {t E : TypeId} (ht : Tryz.prog.underlying t = some (.map 3 E)) {z : Value} (hz : (zeroValue E).run Tryz.prog w = .ok z w) :
    (Instr.lookup t (.map (some b)) (ikV n) true).run Tryz.prog w = .ok (.tuple #[(lookM n ents).getD z, .bool (lookM n ents).isSome]) w := by
  obtain ⟨es, c, hb, he, hs⟩ := h
  rw [← posM_look n ents 0]
  cases hp : posM n ents 0 with
  | none => simp [Instr.lookup, run_underlying ht, MapKept.run_getObj_map hb, chk_nmI, key_nmI n w he, hp, hz, Result.andThen]
  | some q => simp [Instr.lookup, run_underlying ht, MapKept.run_getObj_map hb, chk_nmI, key_nmI n w he, hp, hz, Result.andThen]
theorem wpList_look_nmI (w : World) {ops : Array Oper} {rest : List Oper} {o : Oper} {a : Go.Act} {Q : Exit → Go.Act → World → Prop} (hg : o.guard = none) (m x : Operand) (t : TypeId) (hop : o.op = Op.lookup t m x false) {E : TypeId}
    (ht : Tryz.prog.underlying t = some (.map 3 E)) {z : Value} (hz : (zeroValue E).run Tryz.prog w = .ok z w) (b : Nat) (ents : List (Int × Value)) (hm : a.eval m = .map (some b)) (h : MapAtI w b ents) (n : Int) (hx : a.eval x = ikV n)
    (hK : wpList Tryz.prog ops Q rest (a.put o.dst ((lookM n ents).getD z)) w) : wpList Tryz.prog ops Q (o :: rest) a w := by
  refine wpList_plain hg fun K' hK' => ?_
  have hrun := map_lookI h n ht hz
  unfold Oper.wp
  simp [execOp, hop, hm, hx, hrun, Result.andThen]
  exact hK' _ _ hK
theorem wpList_ok_nmI (w : World) {ops : Array Oper} {rest : List Oper} {o : Oper} {a : Go.Act} {Q : Exit → Go.Act → World → Prop} (hg : o.guard = none) (m x : Operand) (t : TypeId) (hop : o.op = Op.lookup t m x true) {E : TypeId}
    (ht : Tryz.prog.underlying t = some (.map 3 E)) {z : Value} (hz : (zeroValue E).run Tryz.prog w = .ok z w) (b : Nat) (ents : List (Int × Value)) (hm : a.eval m = .map (some b)) (h : MapAtI w b ents) (n : Int) (hx : a.eval x = ikV n)
    (hK : wpList Tryz.prog ops Q rest (a.put o.dst (.tuple #[(lookM n ents).getD z, .bool (lookM n ents).isSome])) w) : wpList Tryz.prog ops Q (o :: rest) a w := by
  refine wpList_plain hg fun K' hK' => ?_
  have hrun := map_okI h n ht hz
  unfold Oper.wp
  simp [execOp, hop, hm, hx, hrun, Result.andThen]
  exact hK' _ _ hK
theorem wpList_put_nmI (w : World) {ops : Array Oper} {rest : List Oper} {o : Oper} {a : Go.Act} {Q : Exit → Go.Act → World → Prop} (hg : o.guard = none) (m x v : Operand) (t : TypeId) (hop : o.op = Op.mapUpdate t m x v) {E : TypeId}
    (ht : Tryz.prog.underlying t = some (.map 3 E)) (b : Nat) (ents : List (Int × Value)) (hm : a.eval m = .map (some b)) (h : MapAtI w b ents) (n : Int) (hx : a.eval x = ikV n) (u : Value) (hv : a.eval v = u)
    (hK : ∀ w', MapAtI w' b (putM n u ents) → w.grownBy w' (some b) → wpList Tryz.prog ops Q rest (a.put o.dst undef) w') : wpList Tryz.prog ops Q (o :: rest) a w := by
  refine wpList_plain hg fun K' hK' => ?_
  obtain ⟨w', hrun, h1, h2⟩ := map_putI h n u ht
  unfold Oper.wp
  simp [execOp, hop, hm, hx, hv, hrun, Result.andThen]
  exact hK' _ _ (hK w' h1 h2)
theorem wpList_ins_nmI (w : World) {ops : Array Oper} {rest : List Oper} {o : Oper} {a : Go.Act} {Q : Exit → Go.Act → World → Prop} (hg : o.guard = none) (m x v : Operand) (t : TypeId) (hop : o.op = Op.insert t m x v) {E : TypeId}
    (ht : Tryz.prog.underlying t = some (.map 3 E)) (b : Nat) (ents : List (Int × Value)) (hm : a.eval m = .map (some b)) (h : MapAtI w b ents) (n : Int) (hx : a.eval x = ikV n) (u : Value) (hv : a.eval v = u)
    (hK : ∀ w', MapAtI w' b (putM n u ents) → w.grownBy w' (some b) → wpList Tryz.prog ops Q rest (a.put o.dst undef) w') : wpList Tryz.prog ops Q (o :: rest) a w := by
  refine wpList_plain hg fun K' hK' => ?_
  obtain ⟨w', hrun, h1, h2⟩ := map_putI h n u ht
  unfold Oper.wp
  simp [execOp, hop, hm, hx, hv, hrun, Result.andThen]
  exact hK' _ _ (hK w' h1 h2)
abbrev skV (n : Bs) : Value := .string (bs n)
theorem nm_injS {a b : Bs} (h : skV a = skV b) : a = b := by
  injection h with h; exact bs_inj h
theorem chk_nmS (em : Bool) (n : Bs) (w : World) : (Instr.checkKey em 10000 22 (skV n)).run Tryz.prog w = .ok () w := by
  kernel_rfl
theorem now_nmS (n a : Bs) : Instr.sameNow .string (skV n) (skV a) = some (decide (a = n)) := by
  simp only [Instr.sameNow, skV]
  rw [Option.some.injEq, Bool.eq_iff_iff, bytes_beq, decide_eq_true_iff]
  exact ⟨fun e => (bs_inj e).symm, fun e => by rw [e]⟩
theorem find_nmS (n : Bs) : ∀ (es : List MapEntry) (ents : List (Bs × Value)) (i : Nat), es.map (fun e => (e.key, e.val)) = ents.map (fun p => (skV p.1, p.2)) → Instr.findNow .string (skV n) es i = some (posM n ents i)
  | [], [], i, _ => by simp [Instr.findNow, posM]
  | [], p :: l, i, h => by simp at h
  | e :: es, [], i, h => by simp at h
  | e :: es, (a, v) :: l, i, h => by
    simp only [List.map_cons, List.cons.injEq, Prod.mk.injEq] at h
    obtain ⟨⟨h1, h2⟩, h3⟩ := h
    unfold Instr.findNow posM
    rw [h1, now_nmS]
    by_cases ha : a = n
    · simp [ha, h2]
    · rw [decide_eq_false ha, if_neg ha]
      exact find_nmS n es l (i + 1) h3
theorem key_nmS (n : Bs) (w : World) {es : List MapEntry} {ents : List (Bs × Value)} (h : es.map (fun e => (e.key, e.val)) = ents.map (fun p => (skV p.1, p.2))) : (Instr.findKey 22 (skV n) es).run Tryz.prog w = .ok (posM n ents 0) w :=
  run_findKey Tryz.underlying22 (find_nmS n es ents 0 h)
theorem same_nmS (a : Bs) : Instr.sameBits 10000 (skV a) (skV a) = true := by
  have hb : ∀ b : ByteArray, (b == b) = true := fun b => (bytes_beq b b).2 rfl
  simp [Instr.sameBits, hb]
/-- A map from names in memory: its entries in their order. -/
def MapAtS (w : World) (b : Nat) (ents : List (Bs × Value)) : Prop := ∃ es clock, w.heap[b]? = some (.map es clock) ∧ es.toList.map (fun e => (e.key, e.val)) = ents.map (fun p => (skV p.1, p.2)) ∧ Stamped es clock
theorem MapAtS.lt {w : World} {b : Nat} {ents : List (Bs × Value)} (h : MapAtS w b ents) : b < w.heap.size := by
  obtain ⟨es, c, hb, _⟩ := h
  exact (Array.getElem?_eq_some_iff.1 hb).1
theorem MapAtS.same {w w' : World} {b : Nat} {ents : List (Bs × Value)} (h : MapAtS w b ents) (e : w'.heap[b]? = w.heap[b]?) : MapAtS w' b ents := by
  obtain ⟨es, c, hb, h2⟩ := h
  exact ⟨es, c, e.trans hb, h2⟩
theorem MapAtS.next {w w' : World} {b : Nat} {ents : List (Bs × Value)} (h : MapAtS w b ents) (hb : Below w.heap.size w w') : MapAtS w' b ents := h.same (hb.block b h.lt)
theorem MapAtS.new (w : World) : MapAtS (w.alloc (.map #[] 0)) w.heap.size [] := ⟨#[], 0, (MapKept.heap_alloc w _).1, rfl, stamped_empty 0⟩
theorem map_lookS {w : World} {b : Nat} {ents : List (Bs × Value)} (h : MapAtS w b ents) (n : Bs) {t E : TypeId} (ht : Tryz.prog.underlying t = some (.map 22 E)) {z : Value} (hz : (zeroValue E).run Tryz.prog w = .ok z w) :
    (Instr.lookup t (.map (some b)) (skV n) false).run Tryz.prog w = .ok ((lookM n ents).getD z) w := by
  obtain ⟨es, c, hb, he, hs⟩ := h
  rw [← posM_look n ents 0]
  cases hp : posM n ents 0 with
  | none => simp [Instr.lookup, run_underlying ht, MapKept.run_getObj_map hb, chk_nmS, key_nmS n w he, hp, hz, Result.andThen]
  | some q => simp [Instr.lookup, run_underlying ht, MapKept.run_getObj_map hb, chk_nmS, key_nmS n w he, hp, hz, Result.andThen]
theorem map_putS {w : World} {b : Nat} {ents : List (Bs × Value)} (h : MapAtS w b ents) (n : Bs) (v : Value) {t E : TypeId} (ht : Tryz.prog.underlying t = some (.map 22 E)) :
    ∃ w', (Instr.mapUpdate t (.map (some b)) (skV n) v).run Tryz.prog w = .ok () w' ∧ MapAtS w' b (putM n v ents) ∧ w.grownBy w' (some b) := by
  obtain ⟨es, c, hb, he, hs⟩ := h
  have hlen : es.size = ents.length := by have := congrArg List.length he; simpa using this
  have key : ∀ o : Obj, (w.grownBy (setBlock w b o) (some b)) := fun o => ⟨rfl, rfl, rfl, by simp [setBlock], fun i _ hi => heap_setBlock_other hb _ (fun e1 => hi (by rw [e1]))⟩
  cases hp : posM n ents 0 with
  | none =>
    obtain ⟨h1, h2⟩ := posM_none v hp
    refine ⟨setBlock w b (.map (es.push { key := skV n, val := v, born := c }) (c + 1)), ?_, ⟨_, _, heap_setBlock_same hb _, ?_, ?_⟩, key _⟩
    · simp [Instr.mapUpdate, run_underlying ht, MapKept.run_getObj_map hb, chk_nmS, key_nmS n w he, hp, MapKept.run_setObj_map _ hb, Result.andThen, setBlock]
    · rw [h2]
      simp [he]
    · refine stamped_push hs fun x hx e => ?_
      have hm : (x.key, x.val) ∈ es.toList.map fun e => (e.key, e.val) := List.mem_map.2 ⟨x, hx, rfl⟩
      rw [he] at hm
      obtain ⟨p, hp1, hp2⟩ := List.mem_map.1 hm
      injection hp2 with hp2 _
      exact h1 p hp1 (nm_injS (hp2.trans e))
  | some q =>
    obtain ⟨j, u⟩ := q
    obtain ⟨k, hj, h1, h2⟩ := posM_some v hp
    rw [Nat.zero_add] at hj
    subst hj
    have hk : j < es.size := by
      rw [hlen]
      exact (List.getElem?_eq_some_iff.1 h1).1
    have hg : es[j]? = some es[j] := Array.getElem?_eq_getElem hk
    have hkey : es[j].key = skV n := by
      have e1 : (es.toList.map fun e => (e.key, e.val))[j]? = some (es[j].key, es[j].val) := by simp [hg]
      rw [he, List.getElem?_map, h1] at e1
      simp only [Option.map_some, Option.some.injEq, Prod.mk.injEq] at e1
      exact e1.1.symm
    refine ⟨setBlock w b (.map (es.modify j fun e => { e with key := skV n, val := v }) c), ?_, ⟨_, _, heap_setBlock_same hb _, ?_, ?_⟩, key _⟩
    · have hst : (Instr.keyThatStays (skV n) (skV n)).run Tryz.prog w = .ok (skV n) w := by simp [Instr.keyThatStays, same_nmS]
      simp [Instr.mapUpdate, run_underlying ht, MapKept.run_getObj_map hb, chk_nmS, key_nmS n w he, hp, hg, hkey, hst, MapKept.run_setObj_map _ hb, Result.andThen, setBlock]
    · rw [h2]
      apply List.ext_getElem?
      intro i
      have e1 : (es.toList.map fun e => (e.key, e.val))[i]? = (ents.map fun p => (skV p.1, p.2))[i]? := by rw [he]
      simp only [List.getElem?_map, Array.getElem?_toList, Array.getElem?_modify, List.getElem?_set] at e1 ⊢
      by_cases hij : j = i
      · subst hij
        rw [hg]
        simp [← hlen, hk]
      · simp only [if_neg hij]
        exact e1
    · exact stamped_modify hs _ _ (fun _ _ => rfl) fun e _ hej => by
        rw [hg] at hej
        cases hej
        exact hkey.symm
theorem map_okS {w : World} {b : Nat} {ents : List (Bs × Value)} (h : MapAtS w b ents) (n : Bs) {t E : TypeId} (ht : Tryz.prog.underlying t = some (.map 22 E)) {z : Value} (hz : (zeroValue E).run Tryz.prog w = .ok z w) :
    (Instr.lookup t (.map (some b)) (skV n) true).run Tryz.prog w = .ok (.tuple #[(lookM n ents).getD z, .bool (lookM n ents).isSome]) w := by
  obtain ⟨es, c, hb, he, hs⟩ := h
  rw [← posM_look n ents 0]
  cases hp : posM n ents 0 with
  | none => simp [Instr.lookup, run_underlying ht, MapKept.run_getObj_map hb, chk_nmS, key_nmS n w he, hp, hz, Result.andThen]
  | some q => simp [Instr.lookup, run_underlying ht, MapKept.run_getObj_map hb, chk_nmS, key_nmS n w he, hp, hz, Result.andThen]
theorem wpList_look_nmS (w : World) {ops : Array Oper} {rest : List Oper} {o : Oper} {a : Go.Act} {Q : Exit → Go.Act → World → Prop} (hg : o.guard = none) (m x : Operand) (t : TypeId) (hop : o.op = Op.lookup t m x false) {E : TypeId}
    (ht : Tryz.prog.underlying t = some (.map 22 E)) {z : Value} (hz : (zeroValue E).run Tryz.prog w = .ok z w) (b : Nat) (ents : List (Bs × Value)) (hm : a.eval m = .map (some b)) (h : MapAtS w b ents) (n : Bs) (hx : a.eval x = skV n)
    (hK : wpList Tryz.prog ops Q rest (a.put o.dst ((lookM n ents).getD z)) w) : wpList Tryz.prog ops Q (o :: rest) a w := by
  refine wpList_plain hg fun K' hK' => ?_
  have hrun := map_lookS h n ht hz
  unfold Oper.wp
  simp [execOp, hop, hm, hx, hrun, Result.andThen]
  exact hK' _ _ hK
theorem wpList_ok_nmS (w : World) {ops : Array Oper} {rest : List Oper} {o : Oper} {a : Go.Act} {Q : Exit → Go.Act → World → Prop} (hg : o.guard = none) (m x : Operand) (t : TypeId) (hop : o.op = Op.lookup t m x true) {E : TypeId}
    (ht : Tryz.prog.underlying t = some (.map 22 E)) {z : Value} (hz : (zeroValue E).run Tryz.prog w = .ok z w) (b : Nat) (ents : List (Bs × Value)) (hm : a.eval m = .map (some b)) (h : MapAtS w b ents) (n : Bs) (hx : a.eval x = skV n)
    (hK : wpList Tryz.prog ops Q rest (a.put o.dst (.tuple #[(lookM n ents).getD z, .bool (lookM n ents).isSome])) w) : wpList Tryz.prog ops Q (o :: rest) a w := by
  refine wpList_plain hg fun K' hK' => ?_
  have hrun := map_okS h n ht hz
  unfold Oper.wp
  simp [execOp, hop, hm, hx, hrun, Result.andThen]
  exact hK' _ _ hK
theorem wpList_put_nmS (w : World) {ops : Array Oper} {rest : List Oper} {o : Oper} {a : Go.Act} {Q : Exit → Go.Act → World → Prop} (hg : o.guard = none) (m x v : Operand) (t : TypeId) (hop : o.op = Op.mapUpdate t m x v) {E : TypeId}
    (ht : Tryz.prog.underlying t = some (.map 22 E)) (b : Nat) (ents : List (Bs × Value)) (hm : a.eval m = .map (some b)) (h : MapAtS w b ents) (n : Bs) (hx : a.eval x = skV n) (u : Value) (hv : a.eval v = u)
    (hK : ∀ w', MapAtS w' b (putM n u ents) → w.grownBy w' (some b) → wpList Tryz.prog ops Q rest (a.put o.dst undef) w') : wpList Tryz.prog ops Q (o :: rest) a w := by
  refine wpList_plain hg fun K' hK' => ?_
  obtain ⟨w', hrun, h1, h2⟩ := map_putS h n u ht
  unfold Oper.wp
  simp [execOp, hop, hm, hx, hv, hrun, Result.andThen]
  exact hK' _ _ (hK w' h1 h2)
theorem wpList_ins_nmS (w : World) {ops : Array Oper} {rest : List Oper} {o : Oper} {a : Go.Act} {Q : Exit → Go.Act → World → Prop} (hg : o.guard = none) (m x v : Operand) (t : TypeId) (hop : o.op = Op.insert t m x v) {E : TypeId}
    (ht : Tryz.prog.underlying t = some (.map 22 E)) (b : Nat) (ents : List (Bs × Value)) (hm : a.eval m = .map (some b)) (h : MapAtS w b ents) (n : Bs) (hx : a.eval x = skV n) (u : Value) (hv : a.eval v = u)
    (hK : ∀ w', MapAtS w' b (putM n u ents) → w.grownBy w' (some b) → wpList Tryz.prog ops Q rest (a.put o.dst undef) w') : wpList Tryz.prog ops Q (o :: rest) a w := by
  refine wpList_plain hg fun K' hK' => ?_
  obtain ⟨w', hrun, h1, h2⟩ := map_putS h n u ht
  unfold Oper.wp
  simp [execOp, hop, hm, hx, hv, hrun, Result.andThen]
  exact hK' _ _ (hK w' h1 h2)
end Go.Proofs.YtamjllakfgphnaaGreatDoor
