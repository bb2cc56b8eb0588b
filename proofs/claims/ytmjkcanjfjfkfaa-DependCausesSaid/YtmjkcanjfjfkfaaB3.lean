/- Walks and plain facts of the earlier laws, packed: GV. -/
import Derived.Laws.BytesArg
import Derived.Laws.MakeOwn
import Derived.MapKept
import Derived.ChangeMaps5
import Derived.WideKeyRuns
import Derived.Maps.OwnOps
import Derived.Maps.AppendAt
import Derived.Test.YtmjkcanjfjfkfaaB2
namespace Go.Proofs.Ytmjkcanjfjfkfaa
open Go.RowKit
set_option linter.unusedSimpArgs false
set_option linter.unusedVariables false
end Go.Proofs.Ytmjkcanjfjfkfaa
namespace Go.Proofs.Ytmjkcanjfjfkfaa
open Go.RowKit
set_option linter.unusedSimpArgs false
set_option linter.unusedVariables false
def acC (a : Ac) (u : Value × Value) : List Value := [.int .i64 a.key.tick, .int .i64 a.key.cls, .int .i64 a.key.num, .string (bs a.key.lin), u.1, u.2]
theorem acC_len (a : Ac) (u : Value × Value) : (acC a u).length = 6 := rfl
def NAc (w : World) (u : Value × Value) (a : Ac) : Prop := RdCh w u.1 a.reads ∧ RdCh w u.2 a.writes
theorem NAc.keep {L : List TypeId} {w w' : World} (k : Kept L w w') (he : L.contains 87 = false) {u : Value × Value} {a : Ac} (h : NAc w u a) : NAc w' u a := ⟨RdP.keep h.1 k he, RdP.keep h.2 k he⟩
theorem NAc.next {w w' : World} (hb : Below w.heap.size w w') {u : Value × Value} {a : Ac} (h : NAc w u a) : NAc w' u a := ⟨RdP.next h.1 hb, RdP.next h.2 hb⟩
abbrev RdAc (w : World) (v : Value) (l : List Ac) : Prop := RowRd 59 acC NAc w v l
theorem RdAc.next {w w' : World} {v : Value} {l : List Ac} (h : RdAc w v l) (hb : Below w.heap.size w w') : RdAc w' v l := RowRd.next h hb fun _ _ => NAc.next hb
theorem RdAc.piece {w : World} {A : Option Addr} {n c : Nat} {l : List Ac} (h : RdAc w (.slice A n c) l) {k : Nat} (hk : k < l.length) : ∃ b o u1 u2, A = some ⟨b, o, none⟩ ∧ b < w.heap.size ∧ RdCh w u1 l[k].reads ∧ RdCh w u2 l[k].writes ∧
    w.cell? ⟨b, o + k * 6, none⟩ = some (.int .i64 l[k].key.tick) ∧ w.cell? ⟨b, o + k * 6 + 1, none⟩ = some (.int .i64 l[k].key.cls) ∧ w.cell? ⟨b, o + k * 6 + 2, none⟩ = some (.int .i64 l[k].key.num) ∧ w.cell? ⟨b, o + k * 6 + 3, none⟩ = some (.string (bs l[k].key.lin)) ∧ w.cell? ⟨b, o + k * 6 + 4, none⟩ = some u1 ∧ w.cell? ⟨b, o + k * 6 + 5, none⟩ = some u2 := by
  obtain ⟨b, o, c', u, hv, _, hb, hu, hcell⟩ := RowRd.at_ h acC_len (List.getElem?_eq_getElem hk)
  injection hv with hA _ _
  exact ⟨b, o, u.1, u.2, hA, hb, hu.1, hu.2, hcell 0 _ rfl, hcell 1 _ rfl, hcell 2 _ rfl, hcell 3 _ rfl, hcell 4 _ rfl, hcell 5 _ rfl⟩
end Go.Proofs.Ytmjkcanjfjfkfaa
namespace Go.Proofs.Ytmjkcanjfjfkfaa
open Go.RowKit
set_option linter.unusedSimpArgs false
set_option linter.unusedVariables false
theorem own_empty (w : World) (base e size : Nat) (hb : base ≤ w.heap.size) : (w.alloc (.cells #[] e)).ownsRow base e size (.slice (some ⟨w.heap.size, 0, none⟩) 0 0) 0 [] :=
  ⟨by simp, .inr ⟨w.heap.size, 0, #[], rfl, hb, heap_alloc_new w _, Nat.le_refl _, by unfold maxLen; omega, by simp, by simp⟩⟩
def CloP (e : TypeId) (s n : Nat) (xs : List Value) (w : World) (en : Ending) (w' : World) : Prop := ∃ v', en = .returned v' ∧ w'.ownsRow w.heap.size e s v' n xs ∧ Below w.heap.size w w'
theorem infoNm : (Try.prog.info? 41).map (fun i => (i.zero, i.size, i.bytes)) = some (some (.agg #[.int .i64 0, .string ⟨#[]⟩, .int .i64 0, .int .i64 0, .string ⟨#[]⟩]), 5, 56) := by kernel_rfl
set_option maxRecDepth 100000 in
theorem cloneNm {w : World} {v : Value} {n : Nat} {xs : List Value} (h : Rd 41 w v n xs) (hl : xs.length = n * 5) (h1 : ∀ u ∈ xs, u.oneCell' = true) (hn : n ≤ 100000) : Calls Try.prog 54 #[v] w (CloP 41 5 n xs w) := by
  obtain ⟨i0, hi, hz0, hz1, hz2⟩ := info_parts infoNm
  obtain ⟨A, c, rfl, hc⟩ := h.form
  have H := Lib.hid h
  have HL := Lib.hid hl
  have H1 := Lib.hid h1
  cases A with
  | none =>
    obtain ⟨rfl, hx⟩ : n = 0 ∧ xs = [] := by
      obtain ⟨A', c', hv, _, _, h0 | ⟨b, o, cs, fr, hA, _⟩⟩ := h
      · exact h0
      · injection hv with hv; rw [hA] at hv; cases hv
    subst hx
    clear h hl h1
    have he := fun w : World => Lib.run_eql_slice_nil (P := Try.prog) (w := w) 85
    go_enter Try.func54, Try.ntmps54
    go_wp2
    go_ret
    exact ⟨_, rfl, World.ownsRow_nil _ _ _ _, Below.refl _ _⟩
  | some ad =>
    have HE := Lib.hid (own_empty w w.heap.size 41 5 (Nat.le_refl _))
    have HR := Lib.hid (H.out.next ((Below.refl w.heap.size w).alloc (Nat.le_refl _) (.cells #[] 41)))
    clear h hl h1
    have he := Lib.run_eql_slice_nil (P := Try.prog) w 85 41 (some ad) n c 0 0 Try.underlying85
    simp only [Option.isNone] at he
    go_enter Try.func54, Try.ntmps54
    go_wp2_with (at_builtin; refine wpList_append_rd _ rfl _ _ _ rfl w.heap.size 41 i0 _ 5 56 Try.underlying85 hi hz0 hz1 hz2 rfl (by omega) _ 0 [] (by rfl) HE.out _ n xs (by rfl) HR.out HL.out H1.out (by unfold maxLen; omega) (by omega) (by simp) ?_; intro ao cap w2 hown2 hgrow2; simp only [Nat.zero_add, List.nil_append] at hown2; have HG := Lib.hid hgrow2; have HO := Lib.hid hown2; clear hown2 hgrow2)
    go_ret
    exact ⟨_, rfl, by simpa using HO.out, below_own ((Below.refl w.heap.size w).alloc (Nat.le_refl _) (.cells #[] 41)) HE.out HG.out (Nat.le_refl _) (by simp)⟩
end Go.Proofs.Ytmjkcanjfjfkfaa
namespace Go.Proofs.Ytmjkcanjfjfkfaa
open Go.RowKit Go.MapKept Go.ChangeMaps
set_option linter.unusedSimpArgs false
set_option linter.unusedVariables false
section
variable {κ ν : Type} [DecidableEq κ]
def posM (n : κ) : List (κ × ν) → Nat → Option (Nat × ν)
  | [], _ => none
  | (a, v) :: l, i => if a = n then some (i, v) else posM n l (i + 1)
def lookM (n : κ) : List (κ × ν) → Option ν
  | [] => none
  | (a, v) :: l => if a = n then some v else lookM n l
def putM (n : κ) (x : ν) : List (κ × ν) → List (κ × ν)
  | [] => [(n, x)]
  | (a, v) :: l => if a = n then (n, x) :: l else (a, v) :: putM n x l
theorem posM_look (n : κ) : ∀ (l : List (κ × ν)) (i : Nat), (posM n l i).map Prod.snd = lookM n l
  | [], _ => rfl
  | (a, v) :: l, i => by
    unfold posM lookM
    split
    · rfl
    · exact posM_look n l (i + 1)
theorem posM_none {n : κ} (x : ν) : ∀ {l : List (κ × ν)} {i : Nat}, posM n l i = none → (∀ p ∈ l, p.1 ≠ n) ∧ putM n x l = l ++ [(n, x)]
  | [], _, _ => ⟨by simp, rfl⟩
  | (a, v) :: l, i, h => by
    unfold posM at h
    split at h
    · cases h
    · rename_i ha
      obtain ⟨h1, h2⟩ := posM_none x h
      refine ⟨fun p hp => ?_, ?_⟩
      · rcases List.mem_cons.1 hp with rfl | hp
        · exact ha
        · exact h1 p hp
      · unfold putM
        rw [if_neg ha, h2]; rfl
theorem posM_some {n : κ} (x : ν) : ∀ {l : List (κ × ν)} {i j : Nat} {u : ν}, posM n l i = some (j, u) → ∃ k, j = i + k ∧ l[k]? = some (n, u) ∧ putM n x l = l.set k (n, x)
  | [], _, _, _, h => by simp [posM] at h
  | (a, v) :: l, i, j, u, h => by
    unfold posM at h
    split at h
    · rename_i ha
      subst ha
      injection h with h
      injection h with h1 h2
      subst h1 h2
      exact ⟨0, rfl, rfl, by simp [putM]⟩
    · rename_i ha
      obtain ⟨k, h1, h2, h3⟩ := posM_some x h
      exact ⟨k + 1, by omega, by simpa using h2, by unfold putM; rw [if_neg ha, h3]; rfl⟩
theorem look_put {n m : κ} {x : ν} : ∀ {l : List (κ × ν)}, lookM m (putM n x l) = if n = m then some x else lookM m l
  | [] => by simp [putM, lookM]
  | (a, v) :: l => by
    unfold putM
    by_cases ha : a = n
    · subst ha
      rw [if_pos rfl]
      by_cases hm : a = m <;> simp [lookM, hm]
    · rw [if_neg ha]
      by_cases hm : a = m
      · subst hm
        simp [lookM, Ne.symm ha]
      · simp only [lookM, if_neg hm]
        exact look_put
theorem look_mem {n : κ} {x : ν} : ∀ {l : List (κ × ν)}, lookM n l = some x → (n, x) ∈ l
  | [], h => by simp [lookM] at h
  | (a, v) :: l, h => by
    unfold lookM at h
    split at h
    · rename_i ha
      injection h with h
      subst ha h
      exact List.mem_cons_self ..
    · exact List.mem_cons_of_mem _ (look_mem h)
theorem mem_put {n : κ} {x : ν} {p : κ × ν} : ∀ {l : List (κ × ν)}, (l.Pairwise fun p q => p.1 ≠ q.1) → p ∈ putM n x l → p = (n, x) ∨ (p ∈ l ∧ p.1 ≠ n)
  | [], _, h => by simp [putM] at h; exact .inl h
  | (a, v) :: l, hp, h => by
    obtain ⟨hp1, hp2⟩ := List.pairwise_cons.1 hp
    unfold putM at h
    split at h
    · rename_i ha
      subst ha
      rcases List.mem_cons.1 h with h | h
      · exact .inl h
      · exact .inr ⟨List.mem_cons_of_mem _ h, fun e => hp1 p h e.symm⟩
    · rename_i ha
      rcases List.mem_cons.1 h with rfl | h
      · exact .inr ⟨List.mem_cons_self .., ha⟩
      · rcases mem_put hp2 h with h | ⟨h, h2⟩
        · exact .inl h
        · exact .inr ⟨List.mem_cons_of_mem _ h, h2⟩
theorem put_pair {n : κ} {x : ν} {R : ν → ν → Prop} : ∀ {l : List (κ × ν)}, (l.Pairwise fun p q => p.1 ≠ q.1 ∧ R p.2 q.2) → (∀ p ∈ l, p.1 ≠ n → R p.2 x ∧ R x p.2) → (putM n x l).Pairwise fun p q => p.1 ≠ q.1 ∧ R p.2 q.2
  | [], _, _ => by simp [putM]
  | (a, v) :: l, hp, h => by
    obtain ⟨hp1, hp2⟩ := List.pairwise_cons.1 hp
    have hpn : l.Pairwise fun p q => p.1 ≠ q.1 := hp2.imp fun h => h.1
    unfold putM
    split
    · rename_i ha
      subst ha
      refine List.pairwise_cons.2 ⟨fun q hq => ⟨(hp1 q hq).1, (h q (List.mem_cons_of_mem _ hq) (fun e => (hp1 q hq).1 e.symm)).2⟩, hp2⟩
    · rename_i ha
      refine List.pairwise_cons.2 ⟨fun q hq => ?_, put_pair hp2 fun p hp' hne => h p (List.mem_cons_of_mem _ hp') hne⟩
      rcases mem_put hpn hq with rfl | ⟨hq, _⟩
      · exact ⟨ha, (h (a, v) (List.mem_cons_self ..) ha).1⟩
      · exact hp1 q hq
end
def MapAt (w : World) (b : Nat) (ents : List (Nm × Value)) : Prop := ∃ es clock, w.heap[b]? = some (.map es clock) ∧ es.toList.map (fun e => (e.key, e.val)) = ents.map (fun p => (nmV p.1, p.2)) ∧ Stamped es clock
theorem MapAt.lt {w : World} {b : Nat} {ents : List (Nm × Value)} (h : MapAt w b ents) : b < w.heap.size := by
  obtain ⟨es, c, hb, _⟩ := h
  exact (Array.getElem?_eq_some_iff.1 hb).1
theorem MapAt.same {w w' : World} {b : Nat} {ents : List (Nm × Value)} (h : MapAt w b ents) (e : w'.heap[b]? = w.heap[b]?) : MapAt w' b ents := by
  obtain ⟨es, c, hb, h2⟩ := h
  exact ⟨es, c, e.trans hb, h2⟩
theorem MapAt.next {w w' : World} {b : Nat} {ents : List (Nm × Value)} (h : MapAt w b ents) (hb : Below w.heap.size w w') : MapAt w' b ents := h.same (hb.block b h.lt)
theorem MapAt.new (w : World) : MapAt (w.alloc (.map #[] 0)) w.heap.size [] := ⟨#[], 0, (MapKept.heap_alloc w _).1, rfl, stamped_empty 0⟩
theorem nm_inj {a b : Nm} (h : nmV a = nmV b) : a = b := by
  obtain ⟨k, o, n, i, t⟩ := a
  obtain ⟨k2, o2, n2, i2, t2⟩ := b
  simp only [nmV, nmA, Value.agg.injEq, Array.mk.injEq, List.cons.injEq, Value.int.injEq, Value.string.injEq, and_true, true_and] at h
  obtain ⟨h1, h2, h3, h4, h5⟩ := h
  rw [h1, bs_inj h2, h3, h4, bs_inj h5]
theorem chk_nm (em : Bool) (n : Nm) (w : World) : (Instr.checkKey em 10000 41 (nmV n)).run Try.prog w = .ok () w := by
  obtain ⟨k, o, n, i, t⟩ := n
  kernel_rfl
theorem eq_nm (a b : Nm) (w : World) : (Op.equal 41 (nmV a) (nmV b)).run Try.prog w = .ok (decide (b = a)) w := by
  obtain ⟨k, o, n, i, t⟩ := a
  obtain ⟨k2, o2, n2, i2, t2⟩ := b
  unfold nmV nmA
  show (Op.equalIn 10000 _ _ _).run Try.prog w = _
  rw [eqNm]
  simp [bs_tl, bool_dec, beq_dec, Bool.and_assoc, eq_comm]
theorem same_nm (a : Nm) : Instr.sameBits 10000 (nmV a) (nmV a) = true := by
  have hb : ∀ b : ByteArray, (b == b) = true := fun b => (bytes_beq b b).2 rfl
  unfold nmV nmA
  simp [Instr.sameBits, hb]
theorem find_nm (n : Nm) (w : World) : ∀ (es : List MapEntry) (ents : List (Nm × Value)) (i : Nat), es.map (fun e => (e.key, e.val)) = ents.map (fun p => (nmV p.1, p.2)) → (Instr.findAsking 41 (nmV n) es i).run Try.prog w = .ok (posM n ents i) w
  | [], [], i, _ => by simp [Instr.findAsking, posM]
  | [], p :: l, i, h => by simp at h
  | e :: es, [], i, h => by simp at h
  | e :: es, (a, v) :: l, i, h => by
    simp only [List.map_cons, List.cons.injEq, Prod.mk.injEq] at h
    obtain ⟨⟨h1, h2⟩, h3⟩ := h
    simp only [Instr.findAsking, Sem.run_bind, h1, eq_nm, Result.andThen_ok]
    unfold posM
    by_cases ha : a = n
    · simp [ha, h2]
    · simp only [ha, decide_false, Bool.false_eq_true, if_false]
      exact find_nm n w es l (i + 1) h3
theorem key_nm (n : Nm) (w : World) {es : List MapEntry} {ents : List (Nm × Value)} (h : es.map (fun e => (e.key, e.val)) = ents.map (fun p => (nmV p.1, p.2))) : (Instr.findKey 41 (nmV n) es).run Try.prog w = .ok (posM n ents 0) w := by
  exact (run_findKey_eq (P := Try.prog) (w := w) (by rw [Try.underlying41]) (nmV n) es).trans (find_nm n w es ents 0 h)
theorem map_look {w : World} {b : Nat} {ents : List (Nm × Value)} (h : MapAt w b ents) (n : Nm) {t E : TypeId} (ht : Try.prog.underlying t = some (.map 41 E)) {z : Value} (hz : (zeroValue E).run Try.prog w = .ok z w) :
    (Instr.lookup t (.map (some b)) (nmV n) false).run Try.prog w = .ok ((lookM n ents).getD z) w := by
  obtain ⟨es, c, hb, he, hs⟩ := h
  rw [← posM_look n ents 0]
  cases hp : posM n ents 0 with
  | none => simp [Instr.lookup, run_underlying ht, MapKept.run_getObj_map hb, chk_nm, key_nm n w he, hp, hz, Result.andThen]
  | some q => simp [Instr.lookup, run_underlying ht, MapKept.run_getObj_map hb, chk_nm, key_nm n w he, hp, hz, Result.andThen]
theorem map_put {w : World} {b : Nat} {ents : List (Nm × Value)} (h : MapAt w b ents) (n : Nm) (v : Value) {t E : TypeId} (ht : Try.prog.underlying t = some (.map 41 E)) :
    ∃ w', (Instr.mapUpdate t (.map (some b)) (nmV n) v).run Try.prog w = .ok () w' ∧ MapAt w' b (putM n v ents) ∧ w.grownBy w' (some b) := by
  obtain ⟨es, c, hb, he, hs⟩ := h
  have hlen : es.size = ents.length := by have := congrArg List.length he; simpa using this
  have key : ∀ o : Obj, (w.grownBy (setBlock w b o) (some b)) := fun o => ⟨rfl, rfl, rfl, by simp [setBlock], fun i _ hi => heap_setBlock_other hb _ (fun e1 => hi (by rw [e1]))⟩
  cases hp : posM n ents 0 with
  | none =>
    obtain ⟨h1, h2⟩ := posM_none v hp
    refine ⟨setBlock w b (.map (es.push { key := nmV n, val := v, born := c }) (c + 1)), ?_, ⟨_, _, heap_setBlock_same hb _, ?_, ?_⟩, key _⟩
    · simp [Instr.mapUpdate, run_underlying ht, MapKept.run_getObj_map hb, chk_nm, key_nm n w he, hp, MapKept.run_setObj_map _ hb, Result.andThen, setBlock]
    · rw [h2]
      simp [he]
    · refine stamped_push hs fun x hx e => ?_
      have hm : (x.key, x.val) ∈ es.toList.map fun e => (e.key, e.val) := List.mem_map.2 ⟨x, hx, rfl⟩
      rw [he] at hm
      obtain ⟨p, hp1, hp2⟩ := List.mem_map.1 hm
      injection hp2 with hp2 _
      exact h1 p hp1 (nm_inj (hp2.trans e))
  | some q =>
    obtain ⟨j, u⟩ := q
    obtain ⟨k, hj, h1, h2⟩ := posM_some v hp
    rw [Nat.zero_add] at hj
    subst hj
    have hk : j < es.size := by
      rw [hlen]
      exact (List.getElem?_eq_some_iff.1 h1).1
    have hg : es[j]? = some es[j] := Array.getElem?_eq_getElem hk
    have hkey : es[j].key = nmV n := by
      have e1 : (es.toList.map fun e => (e.key, e.val))[j]? = some (es[j].key, es[j].val) := by simp [hg]
      rw [he, List.getElem?_map, h1] at e1
      simp only [Option.map_some, Option.some.injEq, Prod.mk.injEq] at e1
      exact e1.1.symm
    refine ⟨setBlock w b (.map (es.modify j fun e => { e with key := nmV n, val := v }) c), ?_, ⟨_, _, heap_setBlock_same hb _, ?_, ?_⟩, key _⟩
    · have hst : (Instr.keyThatStays (nmV n) (nmV n)).run Try.prog w = .ok (nmV n) w := by simp [Instr.keyThatStays, same_nm]
      simp [Instr.mapUpdate, run_underlying ht, MapKept.run_getObj_map hb, chk_nm, key_nm n w he, hp, hg, hkey, hst, MapKept.run_setObj_map _ hb, Result.andThen, setBlock]
    · rw [h2]
      apply List.ext_getElem?
      intro i
      have e1 : (es.toList.map fun e => (e.key, e.val))[i]? = (ents.map fun p => (nmV p.1, p.2))[i]? := by rw [he]
      simp only [List.getElem?_map, Array.getElem?_toList, Array.getElem?_modify, List.getElem?_set] at e1 ⊢
      by_cases hij : j = i
      · subst hij
        rw [hg]
        simp [← hlen, hk]
      · simp only [if_neg hij]
        exact e1
    · exact stamped_modify hs _ _ (fun _ _ => rfl) fun e _ hej => by
        rw [hg] at hej
        cases hej
        exact hkey.symm
theorem find_born {es : Array MapEntry} (hn : (es.toList.map (·.born)).Nodup) {j : Nat} {e0 : MapEntry} (h : es[j]? = some e0) : es.findIdx? (fun e => (e.born : Int) == (e0.born : Int)) = some j := by
  obtain ⟨hj, hje⟩ := Array.getElem?_eq_some_iff.1 h
  rw [Array.findIdx?_eq_some_iff_getElem]
  refine ⟨hj, by simp [hje], fun i hi => ?_⟩
  have hil : i < es.size := by omega
  have hp := List.pairwise_iff_getElem.1 hn i j (by simpa using hil) (by simpa using hj) hi
  simp only [List.getElem_map, Array.getElem_toList, hje] at hp
  simp only [beq_iff_eq]
  omega
theorem grown_setBlock {w : World} {b : Nat} {es : Array MapEntry} {c : Nat} (hb : w.heap[b]? = some (.map es c)) (o : Obj) : w.grownBy (setBlock w b o) (some b) :=
  ⟨rfl, rfl, rfl, by simp [setBlock], fun i _ hi => heap_setBlock_other hb _ (fun e1 => hi (by rw [e1]))⟩
theorem map_entry {w : World} {b : Nat} {ents : List (Nm × Value)} (h : MapAt w b ents) (n : Nm) {t E : TypeId} (ht : Try.prog.underlying t = some (.map 41 E)) {z : Value} (hz : (zeroValue E).run Try.prog w = .ok z w) :
    ∃ (w' : World) (st : Nat), (Instr.mapEntry t (.map (some b)) (nmV n)).run Try.prog w = .ok (.tuple #[(lookM n ents).getD z, .int .i64 st]) w' ∧ w.grownBy w' (some b) ∧ (∃ es c, w'.heap[b]? = some (.map es c)) ∧
      ∀ (w2 : World) (x : Value), w2.heap[b]? = w'.heap[b]? → ∃ w3, (Instr.entryStore t (.map (some b)) (.int .i64 st) x).run Try.prog w2 = .ok () w3 ∧ MapAt w3 b (putM n x ents) ∧ w2.grownBy w3 (some b) := by
  obtain ⟨es, c, hb, he, hs⟩ := h
  have hlen : es.size = ents.length := by have := congrArg List.length he; simpa using this
  rw [← posM_look n ents 0]
  cases hp : posM n ents 0 with
  | none =>
    obtain ⟨h1, _⟩ := posM_none (.nilFunc : Value) hp
    have hs2 : Stamped (es.push { key := nmV n, val := z, born := c }) (c + 1) := stamped_push hs fun x hx e => by
      have hm : (x.key, x.val) ∈ es.toList.map fun e => (e.key, e.val) := List.mem_map.2 ⟨x, hx, rfl⟩
      rw [he] at hm
      obtain ⟨p, hp1, hp2⟩ := List.mem_map.1 hm
      injection hp2 with hp2 _
      exact h1 p hp1 (nm_inj (hp2.trans e))
    have hat : (es.push { key := nmV n, val := z, born := c })[es.size]? = some { key := nmV n, val := z, born := c } := by simp
    refine ⟨setBlock w b (.map (es.push { key := nmV n, val := z, born := c }) (c + 1)), c, ?_, grown_setBlock hb _, ⟨_, _, heap_setBlock_same hb _⟩, fun w2 x h2 => ?_⟩
    · simp [Instr.mapEntry, run_underlying ht, MapKept.run_getObj_map hb, chk_nm, key_nm n w he, hp, hz, MapKept.run_setObj_map _ hb, Result.andThen, setBlock, goInt]
    · rw [heap_setBlock_same hb] at h2
      have hfind := find_born hs2.2.1 hat
      refine ⟨setBlock w2 b (.map ((es.push { key := nmV n, val := z, born := c }).modify es.size fun e => { e with val := x }) (c + 1)), ?_, ⟨_, _, heap_setBlock_same h2 _, ?_, ?_⟩, grown_setBlock h2 _⟩
      · simp only at hfind
        simp [Instr.entryStore, MapKept.run_getObj_map h2, asInt, asIntOf, hfind, MapKept.run_setObj_map _ h2, Result.andThen, setBlock]
      · rw [(posM_none x hp).2]
        apply List.ext_getElem?
        intro i
        have e1 : (es.toList.map fun e => (e.key, e.val))[i]? = (ents.map fun p => (nmV p.1, p.2))[i]? := by rw [he]
        simp only [List.getElem?_map, Array.getElem?_toList, Array.getElem?_modify, List.getElem?_append, Array.getElem?_push, List.map_append] at e1 ⊢
        by_cases hij : es.size = i
        · subst hij
          simp [hlen]
        · rw [if_neg hij, if_neg (fun e => hij e.symm)]
          by_cases hlt : i < es.size
          · rw [if_pos (by rw [List.length_map]; omega)]
            exact e1
          · rw [if_neg (by rw [List.length_map]; omega), Array.getElem?_eq_none (by omega), List.getElem?_eq_none (by simp; omega)]
            rfl
      · exact stamped_modify hs2 _ _ (fun _ _ => rfl) (fun _ _ _ => rfl)
  | some q =>
    obtain ⟨j, u⟩ := q
    obtain ⟨k, hj, h1, _⟩ := posM_some (.nilFunc : Value) hp
    rw [Nat.zero_add] at hj
    subst hj
    have hk : j < es.size := by
      rw [hlen]
      exact (List.getElem?_eq_some_iff.1 h1).1
    have hg : es[j]? = some es[j] := Array.getElem?_eq_getElem hk
    have hkv : es[j].key = nmV n ∧ es[j].val = u := by
      have e1 : (es.toList.map fun e => (e.key, e.val))[j]? = some (es[j].key, es[j].val) := by simp [hg]
      rw [he, List.getElem?_map, h1] at e1
      injection e1 with e1
      injection e1 with e1 e2
      exact ⟨e1.symm, e2.symm⟩
    obtain ⟨hkey, hval⟩ := hkv
    have hs2 : Stamped (es.modify j fun e => { e with key := nmV n }) c := stamped_modify hs _ _ (fun _ _ => rfl) fun e _ hej => by
      rw [hg] at hej
      cases hej
      exact hkey.symm
    have hat : (es.modify j fun e => { e with key := nmV n })[j]? = some { es[j] with key := nmV n } := by simp [Array.getElem?_modify, hg]
    refine ⟨setBlock w b (.map (es.modify j fun e => { e with key := nmV n }) c), es[j].born, ?_, grown_setBlock hb _, ⟨_, _, heap_setBlock_same hb _⟩, fun w2 x h2 => ?_⟩
    · have hst : (Instr.keyThatStays (nmV n) (nmV n)).run Try.prog w = .ok (nmV n) w := by simp [Instr.keyThatStays, same_nm]
      simp [Instr.mapEntry, run_underlying ht, MapKept.run_getObj_map hb, chk_nm, key_nm n w he, hp, hg, hkey, hst, MapKept.run_setObj_map _ hb, Result.andThen, setBlock, goInt]
    · rw [heap_setBlock_same hb] at h2
      have hfind := find_born hs2.2.1 hat
      refine ⟨setBlock w2 b (.map ((es.modify j fun e => { e with key := nmV n }).modify j fun e => { e with val := x }) c), ?_, ⟨_, _, heap_setBlock_same h2 _, ?_, ?_⟩, grown_setBlock h2 _⟩
      · simp only at hfind
        simp [Instr.entryStore, MapKept.run_getObj_map h2, asInt, asIntOf, hfind, MapKept.run_setObj_map _ h2, Result.andThen, setBlock]
      · obtain ⟨k2, hj2, _, h3⟩ := posM_some x hp
        rw [Nat.zero_add] at hj2
        subst hj2
        rw [h3]
        apply List.ext_getElem?
        intro i
        have e1 : (es.toList.map fun e => (e.key, e.val))[i]? = (ents.map fun p => (nmV p.1, p.2))[i]? := by rw [he]
        simp only [List.getElem?_map, Array.getElem?_toList, Array.getElem?_modify, List.getElem?_set] at e1 ⊢
        by_cases hij : j = i
        · subst hij
          rw [hg]
          simp [← hlen, hk]
        · simp only [if_neg hij]
          exact e1
      · exact stamped_modify hs2 _ _ (fun _ _ => rfl) (fun _ _ _ => rfl)
theorem wpList_look_nm (w : World) {ops : Array Oper} {rest : List Oper} {o : Oper} {a : Go.Act} {Q : Exit → Go.Act → World → Prop} (hg : o.guard = none) (m x : Operand) (t : TypeId) (hop : o.op = Op.lookup t m x false) {E : TypeId}
    (ht : Try.prog.underlying t = some (.map 41 E)) {z : Value} (hz : (zeroValue E).run Try.prog w = .ok z w) (b : Nat) (ents : List (Nm × Value)) (hm : a.eval m = .map (some b)) (h : MapAt w b ents) (n : Nm) (hx : a.eval x = nmV n)
    (hK : wpList Try.prog ops Q rest (a.put o.dst ((lookM n ents).getD z)) w) : wpList Try.prog ops Q (o :: rest) a w := by
  refine wpList_plain hg fun K' hK' => ?_
  have hrun := map_look h n ht hz
  unfold Oper.wp
  simp [execOp, hop, hm, hx, hrun, Result.andThen]
  exact hK' _ _ hK
theorem wpList_put_nm (w : World) {ops : Array Oper} {rest : List Oper} {o : Oper} {a : Go.Act} {Q : Exit → Go.Act → World → Prop} (hg : o.guard = none) (m x v : Operand) (t : TypeId) (hop : o.op = Op.mapUpdate t m x v) {E : TypeId}
    (ht : Try.prog.underlying t = some (.map 41 E)) (b : Nat) (ents : List (Nm × Value)) (hm : a.eval m = .map (some b)) (h : MapAt w b ents) (n : Nm) (hx : a.eval x = nmV n) (u : Value) (hv : a.eval v = u)
    (hK : ∀ w', MapAt w' b (putM n u ents) → w.grownBy w' (some b) → wpList Try.prog ops Q rest (a.put o.dst undef) w') : wpList Try.prog ops Q (o :: rest) a w := by
  refine wpList_plain hg fun K' hK' => ?_
  obtain ⟨w', hrun, h1, h2⟩ := map_put h n u ht
  unfold Oper.wp
  simp [execOp, hop, hm, hx, hv, hrun, Result.andThen]
  exact hK' _ _ (hK w' h1 h2)
end Go.Proofs.Ytmjkcanjfjfkfaa
namespace Go.Proofs.Ytmjkcanjfjfkfaa
open Go.RowKit Go.MapKept Go.ChangeMaps
set_option linter.unusedSimpArgs false
set_option linter.unusedVariables false
def AtOr (w : World) (v v' : Value) : Prop := v'.ownBlock = v.ownBlock ∨ v'.ownBlock = some w.heap.size
theorem run_append_w {P : Program} (w : World) (base : Nat) (t ty e : TypeId) (i : TypeInfo) (z : Value) (size bytes : Nat) (ht : P.underlying t = some (.slice e)) (hi : P.info? e = some i) (hz : i.zero = some z)
    (hsize : i.size = size) (hby : i.bytes = bytes) (hzs : z.cells.size = size) (hsz : 0 < size)
    (v : Value) (n : Nat) (xs : List Value) (hown : w.ownsRow base e size v n xs) (x : Value) (m : Nat) (news : List Value) (hr : Rd e w x m news) (hm : 0 < m) (hl : news.length = m * size) (h1 : ∀ u ∈ news, u.oneCell' = true)
    (h63 : n + m ≤ maxLen) (hbytes : (n + m) * bytes ≤ 140737488355328) (hbase : base ≤ w.heap.size) :
    ∃ v' w', (Builtin.append_ #[t, t] ty #[v, x]).run P w = .ok v' w' ∧ w'.ownsRow base e size v' (n + m) (xs ++ news) ∧ w.grownBy w' v.ownBlock ∧ AtOr w v v' := by
  obtain ⟨b, o, c, rfl, hmc, hcm, hb, hcell⟩ := Rd.at_ hr hm
  obtain ⟨v', w', h2, h3, h4, h5, h6⟩ := run_append_own_at (P := P) w base t ty e i z size bytes ht hi hz hsize hby hzs hsz v n xs hown ⟨b, o, none⟩ m c news hl (fun j u hj => by rw [add_off]; exact hcell j u hj) h1 h63 hbytes hbase
  exact ⟨v', w', h2, h3, h4, h6⟩
theorem wp_append_w {P : Program} (w : World) {o : Oper} {a : Go.Act} {K : Go.Act → World → Prop} {Q : Exit → Go.Act → World → Prop} (s x : Operand) (t : TypeId)
    (ho : o.op = .call { callee := .builtin .append, args := #[s, x], argTypes := #[t, t] })
    (base : Nat) (e : TypeId) (i : TypeInfo) (z : Value) (size bytes : Nat) (ht : P.underlying t = some (.slice e)) (hi : P.info? e = some i) (hz : i.zero = some z)
    (hsize : i.size = size) (hby : i.bytes = bytes) (hzs : z.cells.size = size) (hsz : 0 < size)
    (v : Value) (n : Nat) (xs : List Value) (hs : a.eval s = v) (hown : w.ownsRow base e size v n xs)
    (xv : Value) (m : Nat) (news : List Value) (hx : a.eval x = xv) (hr : Rd e w xv m news) (hm : 0 < m) (hl : news.length = m * size) (h1 : ∀ u ∈ news, u.oneCell' = true)
    (h63 : n + m ≤ maxLen) (hbytes : (n + m) * bytes ≤ 140737488355328) (hbase : base ≤ w.heap.size)
    (h : ∀ v' w', w'.ownsRow base e size v' (n + m) (xs ++ news) → w.grownBy w' v.ownBlock → AtOr w v v' → K (a.put o.dst v') w') : o.wp P a w K Q := by
  obtain ⟨v', w', hrun, h2, h3, h4⟩ := run_append_w (P := P) w base t o.type e i z size bytes ht hi hz hsize hby hzs hsz v n xs hown xv m news hr hm hl h1 h63 hbytes hbase
  unfold Oper.wp execOp
  simp only [ho, resolve, invoke, builtin, Sem.run_bind, Sem.run_pure, Result.andThen_ok, List.map_toArray, List.map_cons, List.map_nil, hs, hx, hrun]
  exact h v' w' h2 h3 h4
theorem wpList_append_w {P : Program} (w : World) {ops : Array Oper} {rest : List Oper} {o : Oper} {a : Go.Act} {Q : Exit → Go.Act → World → Prop} (hgd : o.guard = none) (s x : Operand) (t : TypeId)
    (ho : o.op = .call { callee := .builtin .append, args := #[s, x], argTypes := #[t, t] })
    (base : Nat) (e : TypeId) (i : TypeInfo) (z : Value) (size bytes : Nat) (ht : P.underlying t = some (.slice e)) (hi : P.info? e = some i) (hz : i.zero = some z)
    (hsize : i.size = size) (hby : i.bytes = bytes) (hzs : z.cells.size = size) (hsz : 0 < size)
    (v : Value) (n : Nat) (xs : List Value) (hs : a.eval s = v) (hown : w.ownsRow base e size v n xs)
    (xv : Value) (m : Nat) (news : List Value) (hx : a.eval x = xv) (hr : Rd e w xv m news) (hm : 0 < m) (hl : news.length = m * size) (h1 : ∀ u ∈ news, u.oneCell' = true)
    (h63 : n + m ≤ maxLen) (hbytes : (n + m) * bytes ≤ 140737488355328) (hbase : base ≤ w.heap.size)
    (h : ∀ v' w', w'.ownsRow base e size v' (n + m) (xs ++ news) → w.grownBy w' v.ownBlock → AtOr w v v' → wpList P ops Q rest (a.put o.dst v') w') : wpList P ops Q (o :: rest) a w :=
  wpList_plain hgd fun _ hK => wp_append_w w s x t ho base e i z size bytes ht hi hz hsize hby hzs hsz v n xs hs hown xv m news hx hr hm hl h1 h63 hbytes hbase fun v' w' h2 h3 h4 => hK _ _ (h v' w' h2 h3 h4)
theorem step_append_w {P : Program} (w : World) {ops : Array Oper} {o : Oper} {a : Go.Act} {K : Go.Act → World → Prop} {Q : Exit → Go.Act → World → Prop} {E : Prop} (hgd : o.guard = none) (s x : Operand) (t : TypeId)
    (ho : o.op = .call { callee := .builtin .append, args := #[s, x], argTypes := #[t, t] })
    (base : Nat) (e : TypeId) (i : TypeInfo) (z : Value) (size bytes : Nat) (ht : P.underlying t = some (.slice e)) (hi : P.info? e = some i) (hz : i.zero = some z)
    (hsize : i.size = size) (hby : i.bytes = bytes) (hzs : z.cells.size = size) (hsz : 0 < size)
    (v : Value) (n : Nat) (xs : List Value) (hs : a.eval s = v) (hown : w.ownsRow base e size v n xs)
    (xv : Value) (m : Nat) (news : List Value) (hx : a.eval x = xv) (hr : Rd e w xv m news) (hm : 0 < m) (hl : news.length = m * size) (h1 : ∀ u ∈ news, u.oneCell' = true)
    (h63 : n + m ≤ maxLen) (hbytes : (n + m) * bytes ≤ 140737488355328) (hbase : base ≤ w.heap.size)
    (h : ∀ v' w', w'.ownsRow base e size v' (n + m) (xs ++ news) → w.grownBy w' v.ownBlock → AtOr w v v' → K (a.put o.dst v') w') :
    if Region.wanted o (yielded ops a.tmps) = true then Oper.wp P o a w K Q else E := by
  have hw : Region.wanted o (yielded ops a.tmps) = true := by simp [Region.wanted, hgd]
  rw [if_pos hw]
  exact wp_append_w w s x t ho base e i z size bytes ht hi hz hsize hby hzs hsz v n xs hs hown xv m news hx hr hm hl h1 h63 hbytes hbase h
theorem step_look_nm (w : World) {ops : Array Oper} {o : Oper} {a : Go.Act} {K : Go.Act → World → Prop} {Q : Exit → Go.Act → World → Prop} {X : Prop} (hg : o.guard = none) (m x : Operand) (t : TypeId) (hop : o.op = Op.lookup t m x false) {E : TypeId}
    (ht : Try.prog.underlying t = some (.map 41 E)) {z : Value} (hz : (zeroValue E).run Try.prog w = .ok z w) (b : Nat) (ents : List (Nm × Value)) (hm : a.eval m = .map (some b)) (h : MapAt w b ents) (n : Nm) (hx : a.eval x = nmV n)
    (hK : K (a.put o.dst ((lookM n ents).getD z)) w) : if Region.wanted o (yielded ops a.tmps) = true then Oper.wp Try.prog o a w K Q else X := by
  have hw : Region.wanted o (yielded ops a.tmps) = true := by simp [Region.wanted, hg]
  rw [if_pos hw]
  have hrun := map_look h n ht hz
  unfold Oper.wp
  simp [execOp, hop, hm, hx, hrun, Result.andThen]
  exact hK
structure Outer (F : Nat → Prop) (w w' : World) : Prop where
  os : w'.os = w.os
  tape : w'.tape = w.tape
  output : w'.output = w.output
  size : w.heap.size ≤ w'.heap.size
  block : ∀ i, i < w.heap.size → ¬ F i → w'.heap[i]? = w.heap[i]?
def Grow (F : Nat → Prop) (a b : World) : Nat → Prop := fun i => F i ∨ (a.heap.size ≤ i ∧ i < b.heap.size)
theorem Outer.refl (F : Nat → Prop) (w : World) : Outer F w w := ⟨rfl, rfl, rfl, Nat.le_refl _, fun _ _ _ => rfl⟩
theorem Outer.trans {F : Nat → Prop} {a b c : World} (h : Outer F a b) (k : Outer (Grow F a b) b c) : Outer F a c :=
  ⟨k.os.trans h.os, k.tape.trans h.tape, k.output.trans h.output, Nat.le_trans h.size k.size, fun i hi hx => (k.block i (Nat.lt_of_lt_of_le hi h.size) (fun hg => by rcases hg with hg | hg; exact hx hg; omega)).trans (h.block i hi hx)⟩
theorem Outer.mono {F G : Nat → Prop} {a b : World} (h : Outer F a b) (hi : ∀ i, F i → G i) : Outer G a b := ⟨h.os, h.tape, h.output, h.size, fun i h1 h2 => h.block i h1 fun h3 => h2 (hi i h3)⟩
theorem Outer.below {F : Nat → Prop} {B : Nat} {w w' : World} (h : Outer F w w') (hb : B ≤ w.heap.size) (hF : ∀ i, F i → B ≤ i) : Below B w w' := ⟨h.os, h.tape, h.output, h.size, fun i hi => h.block i (by omega) (fun hf => by have := hF i hf; omega)⟩
theorem Outer.of_below {F : Nat → Prop} {w w' : World} (h : Below w.heap.size w w') : Outer F w w' := ⟨h.os, h.tape, h.output, h.size, fun i hi _ => h.block i hi⟩
theorem Outer.of_grown {F : Nat → Prop} {w w' : World} {row : Option Nat} (h : w.grownBy w' row) (hr : ∀ g, row = some g → F g) : Outer F w w' :=
  ⟨h.os, h.tape, h.output, h.size, fun i hi hx => h.block i hi (fun e => hx (hr i e.symm))⟩
theorem Grow.new {F : Nat → Prop} {a b : World} {i : Nat} (h : a.heap.size ≤ i) (h2 : i < b.heap.size) : Grow F a b i := .inr ⟨h, h2⟩
section
variable {α : Type} {f : α → List Value} {s : Nat} {e : TypeId}
theorem own_some {w : World} {base e s n : Nat} {v : Value} {xs : List Value} (h : w.ownsRow base e s v n xs) (hn : n ≠ 0) : ∃ g, v.ownBlock = some g ∧ g < w.heap.size := by
  rcases h.2 with ⟨_, h0⟩ | ⟨g, c, cur, hv, _, hh, _⟩
  · exact absurd h0 hn
  · exact ⟨g, by rw [hv]; rfl, (Array.getElem?_eq_some_iff.1 hh).1⟩
def OwnF (F : Nat → Prop) (e : TypeId) (s : Nat) (w : World) (v : Value) (n : Nat) (xs : List Value) : Prop := w.ownsRow 0 e s v n xs ∧ ∀ g, v.ownBlock = some g → F g
theorem OwnF.keep {F G : Nat → Prop} {w w' : World} {v : Value} {n : Nat} {xs : List Value} (h : OwnF F e s w v n xs) (hs : ∀ g cs, F g → w.heap[g]? = some (.cells cs e (0, 0)) → w'.heap[g]? = w.heap[g]?) (hG : ∀ i, i < w.heap.size → F i → G i) : OwnF G e s w' v n xs := by
  obtain ⟨⟨hl, h0 | ⟨g, cap, cur, hv, hg, hh, hr⟩⟩, h2⟩ := h
  · exact ⟨⟨hl, .inl h0⟩, fun g hg => by rw [h0.1] at hg; cases hg⟩
  · have hf := h2 g (by rw [hv]; rfl)
    refine ⟨⟨hl, .inr ⟨g, cap, cur, hv, hg, (hs g cur hf hh).trans hh, hr⟩⟩, fun g' hg' => ?_⟩
    rw [hv] at hg'
    injection hg' with hg'
    subst hg'
    exact hG _ (Array.getElem?_eq_some_iff.1 hh).1 hf
def MapRows (e : TypeId) (s : Nat) (f : α → List Value) (w : World) (F : Nat → Prop) (b : Nat) (D : Nm → List α) : Prop :=
  F b ∧ ∃ ents : List (Nm × Value), MapAt w b ents ∧ (ents.Pairwise fun p q => p.1 ≠ q.1 ∧ p.2.ownBlock ≠ q.2.ownBlock) ∧
    (∀ p ∈ ents, OwnF F e s w p.2 (D p.1).length ((D p.1).flatMap f) ∧ D p.1 ≠ []) ∧ ∀ n, D n ≠ [] → (lookM n ents).isSome = true
theorem MapRows.new (w : World) (F : Nat → Prop) (hb : F w.heap.size) : MapRows e s f (w.alloc (.map #[] 0)) F w.heap.size (fun _ => []) :=
  ⟨hb, [], MapAt.new w, List.Pairwise.nil, by simp, by simp⟩
theorem MapRows.keep {w w' : World} {F G : Nat → Prop} {b : Nat} {D : Nm → List α} (h : MapRows e s f w F b D) (hm : ∀ es c, F b → w.heap[b]? = some (.map es c) → w'.heap[b]? = w.heap[b]?)
    (hs : ∀ g cs, F g → w.heap[g]? = some (.cells cs e (0, 0)) → w'.heap[g]? = w.heap[g]?) (hG : ∀ i, i < w.heap.size → F i → G i) : MapRows e s f w' G b D := by
  obtain ⟨h1, ents, h3, h4, h5, h6⟩ := h
  have hmb : w'.heap[b]? = w.heap[b]? := by
    obtain ⟨es, c, hb, _⟩ := h3
    exact hm es c h1 hb
  exact ⟨hG _ h3.lt h1, ents, h3.same hmb, h4, fun p hp => ⟨(h5 p hp).1.keep hs hG, (h5 p hp).2⟩, h6⟩
theorem MapRows.next {w w' : World} {F : Nat → Prop} {b : Nat} {D : Nm → List α} (h : MapRows e s f w F b D) (hb : Below w.heap.size w w') : MapRows e s f w' F b D :=
  h.keep (fun es c _ hh => hb.block _ (Array.getElem?_eq_some_iff.1 hh).1) (fun g cs _ hh => hb.block _ (Array.getElem?_eq_some_iff.1 hh).1) fun _ _ h => h
theorem MapRows.data {w : World} {F : Nat → Prop} {b : Nat} {D D' : Nm → List α} (h : MapRows e s f w F b D) (hd : ∀ n, D n = D' n) : MapRows e s f w F b D' := by
  have : D = D' := funext hd
  rw [← this]; exact h
theorem pair_apart {l : List (Nm × Value)} (hl : l.Pairwise fun p q => p.1 ≠ q.1 ∧ p.2.ownBlock ≠ q.2.ownBlock) {p q : Nm × Value} (hp : p ∈ l) (hq : q ∈ l) (hpq : p.1 ≠ q.1) : p.2.ownBlock ≠ q.2.ownBlock := by
  induction l with
  | nil => cases hp
  | cons a l ih =>
    obtain ⟨ha, hl⟩ := List.pairwise_cons.1 hl
    rcases List.mem_cons.1 hp with h1 | hp <;> rcases List.mem_cons.1 hq with h2 | hq
    · exact absurd (by rw [h1, h2]) hpq
    · rw [h1]; exact (ha q hq).2
    · rw [h2]; exact fun e => (ha p hp).2 e.symm
    · exact ih hl hp hq
theorem MapRows.find {w : World} {F : Nat → Prop} {b : Nat} {D : Nm → List α} (h : MapRows e s f w F b D) (n : Nm) :
    ∃ ents, MapAt w b ents ∧ OwnF F e s w ((lookM n ents).getD (.slice none 0 0)) (D n).length ((D n).flatMap f) := by
  obtain ⟨h1, ents, h3, h4, h5, h6⟩ := h
  refine ⟨ents, h3, ?_⟩
  cases hl : lookM n ents with
  | some v => exact (h5 _ (look_mem hl)).1
  | none =>
    have : D n = [] := Classical.byContradiction fun hd => by
      have := h6 n hd
      rw [hl] at this
      cases this
    rw [this]
    exact ⟨World.ownsRow_nil _ _ _ _, fun g hg => by cases hg⟩
theorem own_not_map {w : World} {base e s n : Nat} {v : Value} {xs : List Value} {b : Nat} {es : Array MapEntry} {c : Nat} (h : w.ownsRow base e s v n xs) (hb : w.heap[b]? = some (.map es c)) : v.ownBlock ≠ some b := by
  intro e1
  obtain ⟨_, ⟨hv0, _⟩ | ⟨g, cap, cur, hv, _, hh, _⟩⟩ := h
  · rw [hv0] at e1; cases e1
  · rw [hv] at e1
    injection e1 with e1
    simp only at e1
    subst e1
    rw [hb] at hh
    cases hh
theorem own_same {w w' : World} {base e s n : Nat} {v : Value} {xs : List Value} (h : w.ownsRow base e s v n xs) (hs : ∀ g, v.ownBlock = some g → w'.heap[g]? = w.heap[g]?) : w'.ownsRow base e s v n xs := by
  obtain ⟨hl, h0 | ⟨g, cap, cur, hv, hg, hh, hr⟩⟩ := h
  · exact ⟨hl, .inl h0⟩
  · exact ⟨hl, .inr ⟨g, cap, cur, hv, hg, (hs g (by rw [hv]; rfl)).trans hh, hr⟩⟩
theorem MapRows.at_ {w : World} {F : Nat → Prop} {b : Nat} {D : Nm → List α} (h : MapRows e s f w F b D) (n : Nm) :
    ∃ ents v, MapAt w b ents ∧ v = (lookM n ents).getD (.slice none 0 0) ∧ OwnF F e s w v (D n).length ((D n).flatMap f) ∧
      ∀ (w1 w2 : World) (v' : Value) (x : α) (G : Nat → Prop), (∀ i, i < w.heap.size → i ≠ b → some i ≠ v.ownBlock → w1.heap[i]? = w.heap[i]?) → (∃ es c, w1.heap[b]? = some (.map es c)) → w1.ownsRow 0 e s v' ((D n).length + 1) ((D n).flatMap f ++ f x) → (v'.ownBlock = v.ownBlock ∨ ∃ g, v'.ownBlock = some g ∧ w.heap.size ≤ g) → MapAt w2 b (putM n v' ents) → w1.grownBy w2 (some b) →
        (∀ i, F i → G i) → (∀ i, w.heap.size ≤ i → i < w1.heap.size → G i) → MapRows e s f w2 G b (fun m => if m = n then D n ++ [x] else D m) := by
  have hfind := h.find n
  obtain ⟨h1, ents, h3, h4, h5, h6⟩ := h
  have hpn : ents.Pairwise fun p q => p.1 ≠ q.1 := h4.imp fun h => h.1
  have hown0 : OwnF F e s w ((lookM n ents).getD (.slice none 0 0)) (D n).length ((D n).flatMap f) := by
    cases hl : lookM n ents with
    | some v => exact (h5 _ (look_mem hl)).1
    | none =>
      have : D n = [] := Classical.byContradiction fun hd => by
        have := h6 n hd
        rw [hl] at this
        cases this
      rw [this]
      exact ⟨World.ownsRow_nil _ _ _ _, fun g hg => by cases hg⟩
  refine ⟨ents, _, h3, rfl, hown0, ?_⟩
  intro w1 w2 v' x G hg hbm hown hloc hmap hg2 hFG hnew
  have hbl : b < w.heap.size := h3.lt
  obtain ⟨gv, hgv, hgl⟩ := own_some hown (by omega)
  obtain ⟨es0, c0, hb0, _⟩ := id h3
  obtain ⟨es1, c1, hb1⟩ := hbm
  have hold : ∀ p ∈ ents, p.1 ≠ n → ∃ g, p.2.ownBlock = some g ∧ g < w.heap.size ∧ some g ≠ ((lookM n ents).getD (.slice none 0 0)).ownBlock := by
    intro p hp hne
    obtain ⟨k1, k2⟩ := h5 p hp
    obtain ⟨g, hgp, hgl⟩ := own_some k1.1 (by simpa using k2)
    refine ⟨g, hgp, hgl, fun e1 => ?_⟩
    cases hl : lookM n ents with
    | none => rw [hl] at e1; cases e1
    | some u =>
      rw [hl] at e1
      exact pair_apart h4 hp (look_mem hl) hne (hgp.trans e1)
  have hne' : ∀ p ∈ ents, p.1 ≠ n → p.2.ownBlock ≠ v'.ownBlock := by
    intro p hp hne e1
    obtain ⟨g, k1, k2, k3⟩ := hold p hp hne
    rcases hloc with h | ⟨g2, h, hge⟩
    · exact k3 (by rw [← k1, e1, h])
    · rw [k1, h] at e1
      injection e1 with e1
      omega
  have hkeep : ∀ {v : Value} {n2 : Nat} {xs : List Value}, w1.ownsRow 0 e s v n2 xs → w2.ownsRow 0 e s v n2 xs := fun ho => ho.kept hg2 (.inr (own_not_map ho hb1))
  have hGv : ∀ g, v'.ownBlock = some g → G g := by
    intro g hgg
    rcases hloc with h | ⟨g2, h, hge⟩
    · exact hFG _ (hown0.2 g (by rw [← h]; exact hgg))
    · rw [h] at hgg
      injection hgg with hgg
      subst hgg
      rw [hgv] at h
      injection h with h
      exact hnew _ hge (by omega)
  refine ⟨hFG _ h1, _, hmap, put_pair (R := fun u v => u.ownBlock ≠ v.ownBlock) h4 (fun p hp hne => ⟨hne' p hp hne, fun e => hne' p hp hne e.symm⟩), fun p hp => ?_, fun m hm => ?_⟩
  · rcases mem_put hpn hp with rfl | ⟨hp, hne⟩
    · simp only [if_pos]
      refine ⟨⟨hkeep ?_, hGv⟩, by simp⟩
      rw [List.length_append, List.flatMap_append]
      simpa using hown
    · simp only [if_neg hne]
      obtain ⟨k1, k2⟩ := h5 p hp
      obtain ⟨g, j1, j2, j3⟩ := hold p hp hne
      refine ⟨⟨hkeep (own_same k1.1 fun g' hg' => ?_), fun g hgg => hFG _ (k1.2 g hgg)⟩, k2⟩
      rw [j1] at hg'
      injection hg' with hg'
      subst hg'
      exact hg _ j2 (fun e => own_not_map k1.1 hb0 (by rw [j1, e])) j3
  · rw [look_put]
    by_cases hmn : n = m
    · rw [if_pos hmn]; rfl
    · rw [if_neg hmn]
      simp only [if_neg (fun e : m = n => hmn e.symm)] at hm
      exact h6 m hm
end
end Go.Proofs.Ytmjkcanjfjfkfaa
namespace Go.Proofs.Ytmjkcanjfjfkfaa
open Go.RowKit Go.MapKept Go.ChangeMaps
set_option linter.unusedSimpArgs false
set_option linter.unusedVariables false
def KpM (w w' : World) : Prop := ∀ (b : Nat) (es : Array MapEntry) (c : Nat), w.heap[b]? = some (Obj.map es c) → w'.heap[b]? = some (Obj.map es c)
theorem KpM.trans {a b c : World} (h : KpM a b) (k : KpM b c) : KpM a c := fun i es t h1 => k i es t (h i es t h1)
theorem KpM.of_below {w w' : World} (h : Below w.heap.size w w') : KpM w w' := fun b es c hb => (h.block b (Array.getElem?_eq_some_iff.1 hb).1).trans hb
theorem KpM.of_own {w w' : World} {base e s n : Nat} {v : Value} {xs : List Value} (ho : w.ownsRow base e s v n xs) (h : w.grownBy w' v.ownBlock) : KpM w w' :=
  fun b es c hb => (h.block b (Array.getElem?_eq_some_iff.1 hb).1 (fun e1 => own_not_map ho hb e1.symm)).trans hb
theorem KpM.of_blk {w w' : World} {g t : Nat} {cs : Array Value} (ho : Blk w g t cs) (h : w.grownBy w' (some g)) : KpM w w' :=
  fun b es c hb => (h.block b (Array.getElem?_eq_some_iff.1 hb).1 (fun e1 => by
    injection e1 with e1
    subst e1
    unfold Blk at ho
    rw [hb] at ho
    cases ho)).trans hb
theorem Kept.of_map {w w' : World} {b : Nat} {es : Array MapEntry} {c : Nat} (L : List TypeId) (hb : w.heap[b]? = some (.map es c)) (h : w.grownBy w' (some b)) : Kept L w w' :=
  ⟨h.size, fun i cs e fr h1 _ => (h.block i (Array.getElem?_eq_some_iff.1 h1).1 (fun e1 => by
    injection e1 with e1
    subst e1
    rw [hb] at h1
    cases h1)).trans h1⟩
structure Chg (w w' : World) (b : Nat) (r : Option Nat) : Prop where
  os : w'.os = w.os
  tape : w'.tape = w.tape
  output : w'.output = w.output
  size : w.heap.size ≤ w'.heap.size
  block : ∀ i, i < w.heap.size → i ≠ b → some i ≠ r → w'.heap[i]? = w.heap[i]?
theorem Chg.below {w a c : World} {b : Nat} {r : Option Nat} (h : Chg w a b r) (k : Below a.heap.size a c) : Chg w c b r :=
  ⟨k.os.trans h.os, k.tape.trans h.tape, k.output.trans h.output, Nat.le_trans h.size k.size, fun i hi h1 h2 => (k.block i (Nat.lt_of_lt_of_le hi h.size)).trans (h.block i hi h1 h2)⟩
theorem Chg.map_ {w a c : World} {b : Nat} {r : Option Nat} (h : Chg w a b r) (k : a.grownBy c (some b)) : Chg w c b r :=
  ⟨k.os.trans h.os, k.tape.trans h.tape, k.output.trans h.output, Nat.le_trans h.size k.size, fun i hi h1 h2 => (k.block i (Nat.lt_of_lt_of_le hi h.size) (fun e => h1 (by injection e))).trans (h.block i hi h1 h2)⟩
theorem Chg.row_ {w a c : World} {b : Nat} {r : Option Nat} (h : Chg w a b r) (k : a.grownBy c r) : Chg w c b r :=
  ⟨k.os.trans h.os, k.tape.trans h.tape, k.output.trans h.output, Nat.le_trans h.size k.size, fun i hi h1 h2 => (k.block i (Nat.lt_of_lt_of_le hi h.size) h2).trans (h.block i hi h1 h2)⟩
theorem Chg.refl (w : World) (b : Nat) (r : Option Nat) : Chg w w b r := ⟨rfl, rfl, rfl, Nat.le_refl _, fun _ _ _ _ => rfl⟩
theorem Chg.outer {F : Nat → Prop} {w w' : World} {b : Nat} {r : Option Nat} (h : Chg w w' b r) (hb : F b) (hr : ∀ g, r = some g → F g) : Outer F w w' :=
  ⟨h.os, h.tape, h.output, h.size, fun i hi hx => h.block i hi (fun e => hx (e ▸ hb)) (fun e => hx (hr i e.symm))⟩
def inC (i : Int) : List Value := [.int .i64 i]
theorem inC_len (i : Int) : (inC i).length = 1 := rfl
section
variable {w w' w0 : World} {F G : Nat → Prop} {g : Nat} {pb : Option Addr} {va vk : Value} {pl : Option Addr} {bw br : Nat} {s0 sl : St} {la : List Ac} {lk : List St} {Dw : Nm → List Ver} {Dr : Nm → List Int}
theorem MapRows.kept {α : Type} {f : α → List Value} {s : Nat} {e : TypeId} {L : List TypeId} {b : Nat} {D : Nm → List α} (h : MapRows e s f w F b D) (k : Kept L w w') (m : KpM w w') (he : L.contains e = false) (hG : ∀ i, F i → G i) : MapRows e s f w' G b D :=
  h.keep (fun es c _ hb => (m b es c hb).trans hb.symm) (fun g cs _ hb => (k.block g cs e (0, 0) hb he).trans hb.symm) fun i _ h => hG i h
end
end Go.Proofs.Ytmjkcanjfjfkfaa
namespace Go.Proofs.Ytmjkcanjfjfkfaa
open Go.RowKit Go.MapKept Go.ChangeMaps
set_option linter.unusedSimpArgs false
set_option linter.unusedVariables false
theorem own_cells_of {w : World} {base e s n : Nat} {v : Value} {xs : List Value} (h : w.ownsRow base e s v n xs) {g : Nat} (hg : v.ownBlock = some g) : ∃ cur, w.heap[g]? = some (.cells cur e (0, 0)) := by
  obtain ⟨_, ⟨hv0, _⟩ | ⟨g', cap, cur, hv, _, hh, _⟩⟩ := h
  · rw [hv0] at hg; cases hg
  · rw [hv] at hg
    injection hg with hg
    simp only at hg
    subst hg
    exact ⟨cur, hh⟩
theorem Chg.kept {w w2 : World} {b base e s n : Nat} {v : Value} {xs : List Value} {es : Array MapEntry} {c : Nat} (h : Chg w w2 b v.ownBlock) (hb : w.heap[b]? = some (.map es c)) (ho : w.ownsRow base e s v n xs) : Kept [e] w w2 :=
  ⟨h.size, fun i cs e' fr h1 h2 => (h.block i (Array.getElem?_eq_some_iff.1 h1).1 (fun e1 => by subst e1; rw [hb] at h1; cases h1) (fun e1 => by
    obtain ⟨cur, hc⟩ := own_cells_of ho e1.symm
    rw [hc] at h1
    injection h1 with h1
    injection h1 with _ h1 _
    subst h1
    simp at h2)).trans h1⟩
theorem step_entry_nm (w : World) {ops : Array Oper} {o : Oper} {a : Go.Act} {K : Go.Act → World → Prop} {Q : Exit → Go.Act → World → Prop} {X : Prop} (hg : o.guard = none) (m x : Operand) (t : TypeId) (hop : o.op = Op.mapEntry t m x) {E : TypeId}
    (ht : Try.prog.underlying t = some (.map 41 E)) {z : Value} (hz : (zeroValue E).run Try.prog w = .ok z w) (b : Nat) (ents : List (Nm × Value)) (hm : a.eval m = .map (some b)) (h : MapAt w b ents) (n : Nm) (hx : a.eval x = nmV n) (u : Value) (hu : (lookM n ents).getD z = u)
    (hK : ∀ (w' : World) (st : Nat), w.grownBy w' (some b) → (∃ es c, w'.heap[b]? = some (.map es c)) → (∀ (w2 : World) (y : Value), w2.heap[b]? = w'.heap[b]? → ∃ w3, (Instr.entryStore t (.map (some b)) (.int .i64 st) y).run Try.prog w2 = .ok () w3 ∧ MapAt w3 b (putM n y ents) ∧ w2.grownBy w3 (some b)) →
      K (a.put o.dst (.tuple #[u, .int .i64 st])) w') : if Region.wanted o (yielded ops a.tmps) = true then Oper.wp Try.prog o a w K Q else X := by
  have hw : Region.wanted o (yielded ops a.tmps) = true := by simp [Region.wanted, hg]
  rw [if_pos hw]
  obtain ⟨w', st, hrun, h1, h2, h3⟩ := map_entry h n ht hz
  subst hu
  unfold Oper.wp
  simp [execOp, hop, hm, hx, hrun, Result.andThen]
  exact hK w' st h1 h2 h3
section
variable {w w' w0 : World} {F G : Nat → Prop} {g : Nat} {pb : Option Addr} {va vk : Value} {pl : Option Addr} {bw br : Nat} {s0 sl : St} {la : List Ac} {lk : List St} {Dw : Nm → List Ver} {Dr : Nm → List Int}
end
end Go.Proofs.Ytmjkcanjfjfkfaa
